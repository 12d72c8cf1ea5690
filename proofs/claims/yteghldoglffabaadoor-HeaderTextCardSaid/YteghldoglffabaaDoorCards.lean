/-
  DERIVED. GIVEN WITH THE SEED: THE CARDS: each row of YteghldoglffabaaDoorRows.lean that lists a variable, with what it lists TIED to the program's text (the seventh form; the later family's looks); each row that meets fmt, with fmt's text TOLD by the authors' own Lean function (tested against real Go, not proved from fmt's source: count such statements apart). THE CARD IS WHAT COUNTS. Prove the row's statement (the work); the ties are given (YteghldoglffabaaDoorTie.lean); close each card by the builder's one call (the guide's Derived/Test/ToyasCard.lean, 'card_holds'). Laid BY PROGRAM, IN A SANDBOX (cutbox-door.mjs). By AI agents, Wed Nov 11 2026. No macro, syntax, notation, axiom, sorry.
-/
import Derived.Test.YteghldoglffabaaDoorRows
import GoSem.ClaimSeven
namespace Go.Proofs.YteghldoglffabaaDoor
namespace Rows

/-- THE TIED CARD OF 'pouncelaw08.HeaderParses'. -/
def headerParsesCard : Claim7 := { stood := { row := headerParsesRow, standIns := [], harness := (true, "38cd9d97f92973b83efd412264c5ee49c83c297bb0a2227e85799ecd08ba6f99"), looks := false }, kinds := [], alts := [], laidByText := true, laidKinds := [.data, .pinned], laidTests := true, laidLooks := .later }
def HeaderParsesCardSaid : Prop := Claim7.holds Tryd.pinned (.plain (OpenSpec.ofChange headerParsesSpec)) headerParsesCard

/-- THE TIED CARD OF 'pouncelaw08.HeaderFinds'. -/
def headerFindsCard : Claim7 := { stood := { row := headerFindsRow, standIns := [], harness := (true, "38cd9d97f92973b83efd412264c5ee49c83c297bb0a2227e85799ecd08ba6f99"), looks := false }, kinds := [], alts := [], laidByText := true, laidKinds := [.data, .pinned], laidTests := true, laidLooks := .later }
def HeaderFindsCardSaid : Prop := Claim7.holds Tryd.pinned (.plain (OpenSpec.ofChange headerFindsSpec)) headerFindsCard

/-- THE TIED CARD OF 'pouncelaw08.HeaderBack'. -/
def headerBackCard : Claim7 := { stood := { row := headerBackRow, standIns := [], harness := (true, "38cd9d97f92973b83efd412264c5ee49c83c297bb0a2227e85799ecd08ba6f99"), looks := false }, kinds := [], alts := [], laidByText := true, laidKinds := [.data, .pinned], laidTests := true, laidLooks := .later }
def HeaderBackCardSaid : Prop := Claim7.holds Tryd.pinned (.plain (OpenSpec.ofChange headerBackSpec)) headerBackCard

/-- THE TIED CARD OF 'pouncelaw08.HeaderJoins'. -/
def headerJoinsCard : Claim7 := { stood := { row := headerJoinsRow, standIns := [], harness := (true, "38cd9d97f92973b83efd412264c5ee49c83c297bb0a2227e85799ecd08ba6f99"), looks := false }, kinds := [], alts := [], laidByText := true, laidKinds := [.data, .pinned], laidTests := true, laidLooks := .later }
def HeaderJoinsCardSaid : Prop := Claim7.holds Tryd.pinned (.plain (OpenSpec.ofChange headerJoinsSpec)) headerJoinsCard

/-- THE TIED CARD OF 'pouncelaw08.HeaderOnce'. -/
def headerOnceCard : Claim7 := { stood := { row := headerOnceRow, standIns := [], harness := (true, "38cd9d97f92973b83efd412264c5ee49c83c297bb0a2227e85799ecd08ba6f99"), looks := false }, kinds := [], alts := [], laidByText := true, laidKinds := [.data, .pinned], laidTests := true, laidLooks := .later }
def HeaderOnceCardSaid : Prop := Claim7.holds Tryd.pinned (.plain (OpenSpec.ofChange headerOnceSpec)) headerOnceCard

/-- THE TIED CARD OF 'pouncelaw08.HeaderText'. -/
def headerTextCard : Claim7 := { stood := { row := headerTextRow, standIns := [], harness := (true, "38cd9d97f92973b83efd412264c5ee49c83c297bb0a2227e85799ecd08ba6f99"), looks := false }, kinds := [], alts := [], laidByText := true, laidKinds := [.data, .pinned], laidTests := true, laidLooks := .later }
def HeaderTextCardSaid : Prop := Claim7.holds Tryd.pinned (.plain (OpenSpec.ofChange headerTextSpec)) headerTextCard

/-- THE SECOND FORM's CARD OF 'pouncelaw08.HeaderParses'. -/
def headerParsesUptoCard : Claim7 := { stood := { row := headerParsesUptoRow, standIns := [], harness := (true, "38cd9d97f92973b83efd412264c5ee49c83c297bb0a2227e85799ecd08ba6f99"), looks := false }, kinds := [], alts := [], laidByText := true, laidKinds := [.data, .pinned], laidTests := true, laidLooks := .later }
def HeaderParsesUptoCardSaid : Prop := Claim7.holds Tryd.pinned (.plain (OpenSpec.upto headerParsesSpec)) headerParsesUptoCard

/-- THE SECOND FORM's CARD OF 'pouncelaw08.HeaderFinds'. -/
def headerFindsUptoCard : Claim7 := { stood := { row := headerFindsUptoRow, standIns := [], harness := (true, "38cd9d97f92973b83efd412264c5ee49c83c297bb0a2227e85799ecd08ba6f99"), looks := false }, kinds := [], alts := [], laidByText := true, laidKinds := [.data, .pinned], laidTests := true, laidLooks := .later }
def HeaderFindsUptoCardSaid : Prop := Claim7.holds Tryd.pinned (.plain (OpenSpec.upto headerFindsSpec)) headerFindsUptoCard

/-- THE SECOND FORM's CARD OF 'pouncelaw08.HeaderBack'. -/
def headerBackUptoCard : Claim7 := { stood := { row := headerBackUptoRow, standIns := [], harness := (true, "38cd9d97f92973b83efd412264c5ee49c83c297bb0a2227e85799ecd08ba6f99"), looks := false }, kinds := [], alts := [], laidByText := true, laidKinds := [.data, .pinned], laidTests := true, laidLooks := .later }
def HeaderBackUptoCardSaid : Prop := Claim7.holds Tryd.pinned (.plain (OpenSpec.upto headerBackSpec)) headerBackUptoCard

/-- THE SECOND FORM's CARD OF 'pouncelaw08.HeaderJoins'. -/
def headerJoinsUptoCard : Claim7 := { stood := { row := headerJoinsUptoRow, standIns := [], harness := (true, "38cd9d97f92973b83efd412264c5ee49c83c297bb0a2227e85799ecd08ba6f99"), looks := false }, kinds := [], alts := [], laidByText := true, laidKinds := [.data, .pinned], laidTests := true, laidLooks := .later }
def HeaderJoinsUptoCardSaid : Prop := Claim7.holds Tryd.pinned (.plain (OpenSpec.upto headerJoinsSpec)) headerJoinsUptoCard

/-- THE SECOND FORM's CARD OF 'pouncelaw08.HeaderOnce'. -/
def headerOnceUptoCard : Claim7 := { stood := { row := headerOnceUptoRow, standIns := [], harness := (true, "38cd9d97f92973b83efd412264c5ee49c83c297bb0a2227e85799ecd08ba6f99"), looks := false }, kinds := [], alts := [], laidByText := true, laidKinds := [.data, .pinned], laidTests := true, laidLooks := .later }
def HeaderOnceUptoCardSaid : Prop := Claim7.holds Tryd.pinned (.plain (OpenSpec.upto headerOnceSpec)) headerOnceUptoCard

/-- THE SECOND FORM's CARD OF 'pouncelaw08.HeaderText'. -/
def headerTextUptoCard : Claim7 := { stood := { row := headerTextUptoRow, standIns := [], harness := (true, "38cd9d97f92973b83efd412264c5ee49c83c297bb0a2227e85799ecd08ba6f99"), looks := false }, kinds := [], alts := [], laidByText := true, laidKinds := [.data, .pinned], laidTests := true, laidLooks := .later }
def HeaderTextUptoCardSaid : Prop := Claim7.holds Tryd.pinned (.plain (OpenSpec.upto headerTextSpec)) headerTextUptoCard
end Rows
end Go.Proofs.YteghldoglffabaaDoor
