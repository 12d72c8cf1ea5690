/-
  DERIVED. GIVEN WITH THE SEED: THE CARDS: each row of YtajokmcdhhiahaaGreatDoorRows.lean that lists a variable, with what it lists TIED to the program's text (the seventh form; the later family's looks); each row that meets fmt, with fmt's text TOLD by the authors' own Lean function (tested against real Go, not proved from fmt's source: count such statements apart). THE CARD IS WHAT COUNTS. Prove the row's statement (the work); the ties are given (YtajokmcdhhiahaaGreatDoorTie.lean); close each card by the builder's one call (the guide's Derived/Test/ToyasCard.lean, 'card_holds'). Laid BY PROGRAM, IN A SANDBOX (cutbox-door.mjs). By AI agents, Wed Nov 11 2026. No macro, syntax, notation, axiom, sorry.
-/
import Derived.Test.YtajokmcdhhiahaaGreatDoorRows
import GoSem.ClaimSeven
namespace Go.Proofs.YtajokmcdhhiahaaGreatDoor
namespace Rows

/-- THE TIED CARD OF 'pouncetop.TopSelf'. -/
def topSelfCard : Claim7 := { stood := { row := topSelfRow, standIns := [], harness := (true, "cc36d4fe4a4019e0ac9ad7c6be452a8cbcbd5b43b67641ef784d391153e5ef98"), looks := true }, kinds := [], alts := [], laidByText := true, laidKinds := [.data, .data, .data, .data, .data, .sentinel, .sentinel, .data, .pinned], laidTests := true, laidLooks := .later }
def TopSelfCardSaid : Prop := Claim7.holds Tryz.pinned (.plain (OpenSpec.ofChange topSelfSpec)) topSelfCard

/-- THE SECOND FORM's CARD OF 'pouncetop.TopSelf'. -/
def topSelfUptoCard : Claim7 := { stood := { row := topSelfUptoRow, standIns := [], harness := (true, "cc36d4fe4a4019e0ac9ad7c6be452a8cbcbd5b43b67641ef784d391153e5ef98"), looks := true }, kinds := [], alts := [], laidByText := true, laidKinds := [.data, .data, .data, .data, .data, .sentinel, .sentinel, .data, .pinned], laidTests := true, laidLooks := .later }
def TopSelfUptoCardSaid : Prop := Claim7.holds Tryz.pinned (.plain (OpenSpec.upto topSelfSpec)) topSelfUptoCard
end Rows
end Go.Proofs.YtajokmcdhhiahaaGreatDoor
