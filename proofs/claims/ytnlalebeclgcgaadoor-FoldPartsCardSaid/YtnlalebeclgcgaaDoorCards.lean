/-
  DERIVED. GIVEN WITH THE SEED: THE CARDS: each row of YtnlalebeclgcgaaDoorRows.lean that lists a variable, with what it lists TIED to the program's text (the seventh form; the later family's looks); each row that meets fmt, with fmt's text TOLD by the authors' own Lean function (tested against real Go, not proved from fmt's source: count such statements apart). THE CARD IS WHAT COUNTS. Prove the row's statement (the work); the ties are given (YtnlalebeclgcgaaDoorTie.lean); close each card by the builder's one call (the guide's Derived/Test/ToyasCard.lean, 'card_holds'). Laid BY PROGRAM, IN A SANDBOX (cutbox-door.mjs). By AI agents, Wed Nov 11 2026. No macro, syntax, notation, axiom, sorry.
-/
import Derived.Test.YtnlalebeclgcgaaDoorRows
import GoSem.ClaimSeven
namespace Go.Proofs.YtnlalebeclgcgaaDoor
namespace Rows

/-- THE TIED CARD OF 'pouncelaw02.FoldTexts'. -/
def foldTextsCard : Claim7 := { stood := { row := foldTextsRow, standIns := [], harness := (true, "67460c5bb68261565d2f1d451a7e1ce0d2bbf0522d0eedb918930ad7e778c69e"), looks := false }, kinds := [], alts := [], laidByText := true, laidKinds := [.data, .pinned], laidTests := true, laidLooks := .later }
def FoldTextsCardSaid : Prop := Claim7.holds Tryd.pinned (.plain (OpenSpec.ofChange foldTextsSpec)) foldTextsCard

/-- THE TIED CARD OF 'pouncelaw02.FoldTwice'. -/
def foldTwiceCard : Claim7 := { stood := { row := foldTwiceRow, standIns := [], harness := (true, "67460c5bb68261565d2f1d451a7e1ce0d2bbf0522d0eedb918930ad7e778c69e"), looks := false }, kinds := [], alts := [], laidByText := true, laidKinds := [.data, .pinned], laidTests := true, laidLooks := .later }
def FoldTwiceCardSaid : Prop := Claim7.holds Tryd.pinned (.plain (OpenSpec.ofChange foldTwiceSpec)) foldTwiceCard

/-- THE TIED CARD OF 'pouncelaw02.FoldWords'. -/
def foldWordsCard : Claim7 := { stood := { row := foldWordsRow, standIns := [], harness := (true, "67460c5bb68261565d2f1d451a7e1ce0d2bbf0522d0eedb918930ad7e778c69e"), looks := false }, kinds := [], alts := [], laidByText := true, laidKinds := [.data, .pinned], laidTests := true, laidLooks := .later }
def FoldWordsCardSaid : Prop := Claim7.holds Tryd.pinned (.plain (OpenSpec.ofChange foldWordsSpec)) foldWordsCard

/-- THE TIED CARD OF 'pouncelaw02.FoldParts'. -/
def foldPartsCard : Claim7 := { stood := { row := foldPartsRow, standIns := [], harness := (true, "67460c5bb68261565d2f1d451a7e1ce0d2bbf0522d0eedb918930ad7e778c69e"), looks := false }, kinds := [], alts := [], laidByText := true, laidKinds := [.data, .pinned], laidTests := true, laidLooks := .later }
def FoldPartsCardSaid : Prop := Claim7.holds Tryd.pinned (.plain (OpenSpec.ofChange foldPartsSpec)) foldPartsCard

/-- THE TIED CARD OF 'pouncelaw02.FoldAlike'. -/
def foldAlikeCard : Claim7 := { stood := { row := foldAlikeRow, standIns := [], harness := (true, "67460c5bb68261565d2f1d451a7e1ce0d2bbf0522d0eedb918930ad7e778c69e"), looks := false }, kinds := [], alts := [], laidByText := true, laidKinds := [.data, .pinned], laidTests := true, laidLooks := .later }
def FoldAlikeCardSaid : Prop := Claim7.holds Tryd.pinned (.plain (OpenSpec.ofChange foldAlikeSpec)) foldAlikeCard

/-- THE SECOND FORM's CARD OF 'pouncelaw02.FoldTexts'. -/
def foldTextsUptoCard : Claim7 := { stood := { row := foldTextsUptoRow, standIns := [], harness := (true, "67460c5bb68261565d2f1d451a7e1ce0d2bbf0522d0eedb918930ad7e778c69e"), looks := false }, kinds := [], alts := [], laidByText := true, laidKinds := [.data, .pinned], laidTests := true, laidLooks := .later }
def FoldTextsUptoCardSaid : Prop := Claim7.holds Tryd.pinned (.plain (OpenSpec.upto foldTextsSpec)) foldTextsUptoCard

/-- THE SECOND FORM's CARD OF 'pouncelaw02.FoldTwice'. -/
def foldTwiceUptoCard : Claim7 := { stood := { row := foldTwiceUptoRow, standIns := [], harness := (true, "67460c5bb68261565d2f1d451a7e1ce0d2bbf0522d0eedb918930ad7e778c69e"), looks := false }, kinds := [], alts := [], laidByText := true, laidKinds := [.data, .pinned], laidTests := true, laidLooks := .later }
def FoldTwiceUptoCardSaid : Prop := Claim7.holds Tryd.pinned (.plain (OpenSpec.upto foldTwiceSpec)) foldTwiceUptoCard

/-- THE SECOND FORM's CARD OF 'pouncelaw02.FoldWords'. -/
def foldWordsUptoCard : Claim7 := { stood := { row := foldWordsUptoRow, standIns := [], harness := (true, "67460c5bb68261565d2f1d451a7e1ce0d2bbf0522d0eedb918930ad7e778c69e"), looks := false }, kinds := [], alts := [], laidByText := true, laidKinds := [.data, .pinned], laidTests := true, laidLooks := .later }
def FoldWordsUptoCardSaid : Prop := Claim7.holds Tryd.pinned (.plain (OpenSpec.upto foldWordsSpec)) foldWordsUptoCard

/-- THE SECOND FORM's CARD OF 'pouncelaw02.FoldParts'. -/
def foldPartsUptoCard : Claim7 := { stood := { row := foldPartsUptoRow, standIns := [], harness := (true, "67460c5bb68261565d2f1d451a7e1ce0d2bbf0522d0eedb918930ad7e778c69e"), looks := false }, kinds := [], alts := [], laidByText := true, laidKinds := [.data, .pinned], laidTests := true, laidLooks := .later }
def FoldPartsUptoCardSaid : Prop := Claim7.holds Tryd.pinned (.plain (OpenSpec.upto foldPartsSpec)) foldPartsUptoCard

/-- THE SECOND FORM's CARD OF 'pouncelaw02.FoldAlike'. -/
def foldAlikeUptoCard : Claim7 := { stood := { row := foldAlikeUptoRow, standIns := [], harness := (true, "67460c5bb68261565d2f1d451a7e1ce0d2bbf0522d0eedb918930ad7e778c69e"), looks := false }, kinds := [], alts := [], laidByText := true, laidKinds := [.data, .pinned], laidTests := true, laidLooks := .later }
def FoldAlikeUptoCardSaid : Prop := Claim7.holds Tryd.pinned (.plain (OpenSpec.upto foldAlikeSpec)) foldAlikeUptoCard
end Rows
end Go.Proofs.YtnlalebeclgcgaaDoor
