/-
  DERIVED. GIVEN WITH THE SEED: THE CARDS: each row of YtbbgelgjepjpgaaDoorRows.lean that lists a variable, with what it lists TIED to the program's text (the seventh form; the later family's looks); each row that meets fmt, with fmt's text TOLD by the authors' own Lean function (tested against real Go, not proved from fmt's source: count such statements apart). THE CARD IS WHAT COUNTS. Prove the row's statement (the work); the ties are given (YtbbgelgjepjpgaaDoorTie.lean); close each card by the builder's one call (the guide's Derived/Test/ToyasCard.lean, 'card_holds'). Laid BY PROGRAM, IN A SANDBOX (cutbox-door.mjs). By AI agents, Wed Nov 11 2026. No macro, syntax, notation, axiom, sorry.
-/
import Derived.Test.YtbbgelgjepjpgaaDoorRows
import GoSem.ClaimSeven
namespace Go.Proofs.YtbbgelgjepjpgaaDoor
namespace Rows

/-- THE TIED CARD OF 'pouncelaw03.MarkOf'. -/
def markOfCard : Claim7 := { stood := { row := markOfRow, standIns := [], harness := (true, "1742d900d1cee8bf29544e0cc66179e3f8fe1d707679d7c77375d8e184367403"), looks := false }, kinds := [], alts := [], laidByText := true, laidKinds := [.data], laidTests := true, laidLooks := .later }
def MarkOfCardSaid : Prop := Claim7.holds Tryd.pinned (.plain (OpenSpec.ofChange markOfSpec)) markOfCard

/-- THE TIED CARD OF 'pouncelaw03.MarkMakes'. -/
def markMakesCard : Claim7 := { stood := { row := markMakesRow, standIns := [], harness := (true, "1742d900d1cee8bf29544e0cc66179e3f8fe1d707679d7c77375d8e184367403"), looks := false }, kinds := [], alts := [], laidByText := true, laidKinds := [.data], laidTests := true, laidLooks := .later }
def MarkMakesCardSaid : Prop := Claim7.holds Tryd.pinned (.plain (OpenSpec.ofChange markMakesSpec)) markMakesCard

/-- THE TIED CARD OF 'pouncelaw03.MarkParted'. -/
def markPartedCard : Claim7 := { stood := { row := markPartedRow, standIns := [], harness := (true, "1742d900d1cee8bf29544e0cc66179e3f8fe1d707679d7c77375d8e184367403"), looks := false }, kinds := [], alts := [], laidByText := true, laidKinds := [.data], laidTests := true, laidLooks := .later }
def MarkPartedCardSaid : Prop := Claim7.holds Tryd.pinned (.plain (OpenSpec.ofChange markPartedSpec)) markPartedCard

/-- THE TIED CARD OF 'pouncelaw03.MarkLengths'. -/
def markLengthsCard : Claim7 := { stood := { row := markLengthsRow, standIns := [], harness := (true, "1742d900d1cee8bf29544e0cc66179e3f8fe1d707679d7c77375d8e184367403"), looks := false }, kinds := [], alts := [], laidByText := true, laidKinds := [.data], laidTests := true, laidLooks := .later }
def MarkLengthsCardSaid : Prop := Claim7.holds Tryd.pinned (.plain (OpenSpec.ofChange markLengthsSpec)) markLengthsCard

/-- THE TIED CARD OF 'pouncelaw03.MarkNil'. -/
def markNilCard : Claim7 := { stood := { row := markNilRow, standIns := [], harness := (true, "1742d900d1cee8bf29544e0cc66179e3f8fe1d707679d7c77375d8e184367403"), looks := false }, kinds := [], alts := [], laidByText := true, laidKinds := [.data], laidTests := true, laidLooks := .later }
def MarkNilCardSaid : Prop := Claim7.holds Tryd.pinned (.plain (OpenSpec.ofChange markNilSpec)) markNilCard

/-- THE TIED CARD OF 'pouncelaw03.MarkAdds'. -/
def markAddsCard : Claim7 := { stood := { row := markAddsRow, standIns := [], harness := (true, "1742d900d1cee8bf29544e0cc66179e3f8fe1d707679d7c77375d8e184367403"), looks := false }, kinds := [], alts := [], laidByText := true, laidKinds := [.data], laidTests := true, laidLooks := .later }
def MarkAddsCardSaid : Prop := Claim7.holds Tryd.pinned (.plain (OpenSpec.ofChange markAddsSpec)) markAddsCard

/-- THE SECOND FORM's CARD OF 'pouncelaw03.MarkOf'. -/
def markOfUptoCard : Claim7 := { stood := { row := markOfUptoRow, standIns := [], harness := (true, "1742d900d1cee8bf29544e0cc66179e3f8fe1d707679d7c77375d8e184367403"), looks := false }, kinds := [], alts := [], laidByText := true, laidKinds := [.data], laidTests := true, laidLooks := .later }
def MarkOfUptoCardSaid : Prop := Claim7.holds Tryd.pinned (.plain (OpenSpec.upto markOfSpec)) markOfUptoCard

/-- THE SECOND FORM's CARD OF 'pouncelaw03.MarkMakes'. -/
def markMakesUptoCard : Claim7 := { stood := { row := markMakesUptoRow, standIns := [], harness := (true, "1742d900d1cee8bf29544e0cc66179e3f8fe1d707679d7c77375d8e184367403"), looks := false }, kinds := [], alts := [], laidByText := true, laidKinds := [.data], laidTests := true, laidLooks := .later }
def MarkMakesUptoCardSaid : Prop := Claim7.holds Tryd.pinned (.plain (OpenSpec.upto markMakesSpec)) markMakesUptoCard

/-- THE SECOND FORM's CARD OF 'pouncelaw03.MarkParted'. -/
def markPartedUptoCard : Claim7 := { stood := { row := markPartedUptoRow, standIns := [], harness := (true, "1742d900d1cee8bf29544e0cc66179e3f8fe1d707679d7c77375d8e184367403"), looks := false }, kinds := [], alts := [], laidByText := true, laidKinds := [.data], laidTests := true, laidLooks := .later }
def MarkPartedUptoCardSaid : Prop := Claim7.holds Tryd.pinned (.plain (OpenSpec.upto markPartedSpec)) markPartedUptoCard

/-- THE SECOND FORM's CARD OF 'pouncelaw03.MarkLengths'. -/
def markLengthsUptoCard : Claim7 := { stood := { row := markLengthsUptoRow, standIns := [], harness := (true, "1742d900d1cee8bf29544e0cc66179e3f8fe1d707679d7c77375d8e184367403"), looks := false }, kinds := [], alts := [], laidByText := true, laidKinds := [.data], laidTests := true, laidLooks := .later }
def MarkLengthsUptoCardSaid : Prop := Claim7.holds Tryd.pinned (.plain (OpenSpec.upto markLengthsSpec)) markLengthsUptoCard

/-- THE SECOND FORM's CARD OF 'pouncelaw03.MarkNil'. -/
def markNilUptoCard : Claim7 := { stood := { row := markNilUptoRow, standIns := [], harness := (true, "1742d900d1cee8bf29544e0cc66179e3f8fe1d707679d7c77375d8e184367403"), looks := false }, kinds := [], alts := [], laidByText := true, laidKinds := [.data], laidTests := true, laidLooks := .later }
def MarkNilUptoCardSaid : Prop := Claim7.holds Tryd.pinned (.plain (OpenSpec.upto markNilSpec)) markNilUptoCard

/-- THE SECOND FORM's CARD OF 'pouncelaw03.MarkAdds'. -/
def markAddsUptoCard : Claim7 := { stood := { row := markAddsUptoRow, standIns := [], harness := (true, "1742d900d1cee8bf29544e0cc66179e3f8fe1d707679d7c77375d8e184367403"), looks := false }, kinds := [], alts := [], laidByText := true, laidKinds := [.data], laidTests := true, laidLooks := .later }
def MarkAddsUptoCardSaid : Prop := Claim7.holds Tryd.pinned (.plain (OpenSpec.upto markAddsSpec)) markAddsUptoCard
end Rows
end Go.Proofs.YtbbgelgjepjpgaaDoor
