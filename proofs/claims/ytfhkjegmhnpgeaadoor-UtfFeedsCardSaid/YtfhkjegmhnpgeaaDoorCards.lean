/-
  DERIVED. GIVEN WITH THE SEED: THE CARDS: each row of YtfhkjegmhnpgeaaDoorRows.lean that lists a variable, with what it lists TIED to the program's text (the seventh form; the later family's looks); each row that meets fmt, with fmt's text TOLD by the authors' own Lean function (tested against real Go, not proved from fmt's source: count such statements apart). THE CARD IS WHAT COUNTS. Prove the row's statement (the work); the ties are given (YtfhkjegmhnpgeaaDoorTie.lean); close each card by the builder's one call (the guide's Derived/Test/ToyasCard.lean, 'card_holds'). Laid BY PROGRAM, IN A SANDBOX (cutbox-door.mjs). By AI agents, Wed Nov 11 2026. No macro, syntax, notation, axiom, sorry.
-/
import Derived.Test.YtfhkjegmhnpgeaaDoorRows
import GoSem.ClaimSeven
namespace Go.Proofs.YtfhkjegmhnpgeaaDoor
namespace Rows

/-- THE TIED CARD OF 'pouncelaw01.UtfDecodes'. -/
def utfDecodesCard : Claim7 := { stood := { row := utfDecodesRow, standIns := [], harness := (true, "59d3e079210d559c1aec89f01196cb089987555f14c5898b5c0d1d4e9db30341"), looks := false }, kinds := [], alts := [], laidByText := true, laidKinds := [.data, .pinned], laidTests := true, laidLooks := .later }
def UtfDecodesCardSaid : Prop := Claim7.holds Tryd.pinned (.plain (OpenSpec.ofChange utfDecodesSpec)) utfDecodesCard

/-- THE TIED CARD OF 'pouncelaw01.UtfTexts'. -/
def utfTextsCard : Claim7 := { stood := { row := utfTextsRow, standIns := [], harness := (true, "59d3e079210d559c1aec89f01196cb089987555f14c5898b5c0d1d4e9db30341"), looks := false }, kinds := [], alts := [], laidByText := true, laidKinds := [.data, .pinned], laidTests := true, laidLooks := .later }
def UtfTextsCardSaid : Prop := Claim7.holds Tryd.pinned (.plain (OpenSpec.ofChange utfTextsSpec)) utfTextsCard

/-- THE TIED CARD OF 'pouncelaw01.UtfBack'. -/
def utfBackCard : Claim7 := { stood := { row := utfBackRow, standIns := [], harness := (true, "59d3e079210d559c1aec89f01196cb089987555f14c5898b5c0d1d4e9db30341"), looks := false }, kinds := [], alts := [], laidByText := true, laidKinds := [.data, .pinned], laidTests := true, laidLooks := .later }
def UtfBackCardSaid : Prop := Claim7.holds Tryd.pinned (.plain (OpenSpec.ofChange utfBackSpec)) utfBackCard

/-- THE TIED CARD OF 'pouncelaw01.UtfJoined'. -/
def utfJoinedCard : Claim7 := { stood := { row := utfJoinedRow, standIns := [], harness := (true, "59d3e079210d559c1aec89f01196cb089987555f14c5898b5c0d1d4e9db30341"), looks := false }, kinds := [], alts := [], laidByText := true, laidKinds := [.data, .pinned], laidTests := true, laidLooks := .later }
def UtfJoinedCardSaid : Prop := Claim7.holds Tryd.pinned (.plain (OpenSpec.ofChange utfJoinedSpec)) utfJoinedCard

/-- THE TIED CARD OF 'pouncelaw01.UtfSizes'. -/
def utfSizesCard : Claim7 := { stood := { row := utfSizesRow, standIns := [], harness := (true, "59d3e079210d559c1aec89f01196cb089987555f14c5898b5c0d1d4e9db30341"), looks := false }, kinds := [], alts := [], laidByText := true, laidKinds := [.data, .pinned], laidTests := true, laidLooks := .later }
def UtfSizesCardSaid : Prop := Claim7.holds Tryd.pinned (.plain (OpenSpec.ofChange utfSizesSpec)) utfSizesCard

/-- THE TIED CARD OF 'pouncelaw01.UtfNil'. -/
def utfNilCard : Claim7 := { stood := { row := utfNilRow, standIns := [], harness := (true, "59d3e079210d559c1aec89f01196cb089987555f14c5898b5c0d1d4e9db30341"), looks := false }, kinds := [], alts := [], laidByText := true, laidKinds := [.data, .pinned], laidTests := true, laidLooks := .later }
def UtfNilCardSaid : Prop := Claim7.holds Tryd.pinned (.plain (OpenSpec.ofChange utfNilSpec)) utfNilCard

/-- THE TIED CARD OF 'pouncelaw01.UtfFeeds'. -/
def utfFeedsCard : Claim7 := { stood := { row := utfFeedsRow, standIns := [], harness := (true, "59d3e079210d559c1aec89f01196cb089987555f14c5898b5c0d1d4e9db30341"), looks := false }, kinds := [], alts := [], laidByText := true, laidKinds := [.data, .pinned], laidTests := true, laidLooks := .later }
def UtfFeedsCardSaid : Prop := Claim7.holds Tryd.pinned (.plain (OpenSpec.ofChange utfFeedsSpec)) utfFeedsCard

/-- THE SECOND FORM's CARD OF 'pouncelaw01.UtfDecodes'. -/
def utfDecodesUptoCard : Claim7 := { stood := { row := utfDecodesUptoRow, standIns := [], harness := (true, "59d3e079210d559c1aec89f01196cb089987555f14c5898b5c0d1d4e9db30341"), looks := false }, kinds := [], alts := [], laidByText := true, laidKinds := [.data, .pinned], laidTests := true, laidLooks := .later }
def UtfDecodesUptoCardSaid : Prop := Claim7.holds Tryd.pinned (.plain (OpenSpec.upto utfDecodesSpec)) utfDecodesUptoCard

/-- THE SECOND FORM's CARD OF 'pouncelaw01.UtfTexts'. -/
def utfTextsUptoCard : Claim7 := { stood := { row := utfTextsUptoRow, standIns := [], harness := (true, "59d3e079210d559c1aec89f01196cb089987555f14c5898b5c0d1d4e9db30341"), looks := false }, kinds := [], alts := [], laidByText := true, laidKinds := [.data, .pinned], laidTests := true, laidLooks := .later }
def UtfTextsUptoCardSaid : Prop := Claim7.holds Tryd.pinned (.plain (OpenSpec.upto utfTextsSpec)) utfTextsUptoCard

/-- THE SECOND FORM's CARD OF 'pouncelaw01.UtfBack'. -/
def utfBackUptoCard : Claim7 := { stood := { row := utfBackUptoRow, standIns := [], harness := (true, "59d3e079210d559c1aec89f01196cb089987555f14c5898b5c0d1d4e9db30341"), looks := false }, kinds := [], alts := [], laidByText := true, laidKinds := [.data, .pinned], laidTests := true, laidLooks := .later }
def UtfBackUptoCardSaid : Prop := Claim7.holds Tryd.pinned (.plain (OpenSpec.upto utfBackSpec)) utfBackUptoCard

/-- THE SECOND FORM's CARD OF 'pouncelaw01.UtfJoined'. -/
def utfJoinedUptoCard : Claim7 := { stood := { row := utfJoinedUptoRow, standIns := [], harness := (true, "59d3e079210d559c1aec89f01196cb089987555f14c5898b5c0d1d4e9db30341"), looks := false }, kinds := [], alts := [], laidByText := true, laidKinds := [.data, .pinned], laidTests := true, laidLooks := .later }
def UtfJoinedUptoCardSaid : Prop := Claim7.holds Tryd.pinned (.plain (OpenSpec.upto utfJoinedSpec)) utfJoinedUptoCard

/-- THE SECOND FORM's CARD OF 'pouncelaw01.UtfSizes'. -/
def utfSizesUptoCard : Claim7 := { stood := { row := utfSizesUptoRow, standIns := [], harness := (true, "59d3e079210d559c1aec89f01196cb089987555f14c5898b5c0d1d4e9db30341"), looks := false }, kinds := [], alts := [], laidByText := true, laidKinds := [.data, .pinned], laidTests := true, laidLooks := .later }
def UtfSizesUptoCardSaid : Prop := Claim7.holds Tryd.pinned (.plain (OpenSpec.upto utfSizesSpec)) utfSizesUptoCard

/-- THE SECOND FORM's CARD OF 'pouncelaw01.UtfNil'. -/
def utfNilUptoCard : Claim7 := { stood := { row := utfNilUptoRow, standIns := [], harness := (true, "59d3e079210d559c1aec89f01196cb089987555f14c5898b5c0d1d4e9db30341"), looks := false }, kinds := [], alts := [], laidByText := true, laidKinds := [.data, .pinned], laidTests := true, laidLooks := .later }
def UtfNilUptoCardSaid : Prop := Claim7.holds Tryd.pinned (.plain (OpenSpec.upto utfNilSpec)) utfNilUptoCard

/-- THE SECOND FORM's CARD OF 'pouncelaw01.UtfFeeds'. -/
def utfFeedsUptoCard : Claim7 := { stood := { row := utfFeedsUptoRow, standIns := [], harness := (true, "59d3e079210d559c1aec89f01196cb089987555f14c5898b5c0d1d4e9db30341"), looks := false }, kinds := [], alts := [], laidByText := true, laidKinds := [.data, .pinned], laidTests := true, laidLooks := .later }
def UtfFeedsUptoCardSaid : Prop := Claim7.holds Tryd.pinned (.plain (OpenSpec.upto utfFeedsSpec)) utfFeedsUptoCard
end Rows
end Go.Proofs.YtfhkjegmhnpgeaaDoor
