/-
  DERIVED. GIVEN WITH THE SEED: THE CARDS: each row of YtbhnfnbnngclmaaGreatDoorRows.lean that lists a variable, with what it lists TIED to the program's text (the seventh form; the later family's looks); each row that meets fmt, with fmt's text TOLD by the authors' own Lean function (tested against real Go, not proved from fmt's source: count such statements apart). THE CARD IS WHAT COUNTS. Prove the row's statement (the work); the ties are given (YtbhnfnbnngclmaaGreatDoorTie.lean); close each card by the builder's one call (the guide's Derived/Test/ToyasCard.lean, 'card_holds'). Laid BY PROGRAM, IN A SANDBOX (cutbox-door.mjs). By AI agents, Wed Nov 11 2026. No macro, syntax, notation, axiom, sorry.
-/
import Derived.Test.YtbhnfnbnngclmaaGreatDoorRows
import GoSem.ClaimSeven
namespace Go.Proofs.YtbhnfnbnngclmaaGreatDoor
namespace Rows

/-- THE TIED CARD OF 'pouncetop.TopEscape'. -/
def topEscapeCard : Claim7 := { stood := { row := topEscapeRow, standIns := [], harness := (true, "d9bfef989f0b36d0e1632dcb7d05cf10f6a9ed8dda73fff2f2bd190b7a3d76db"), looks := true }, kinds := [], alts := [], laidByText := true, laidKinds := [.data, .data, .data, .data, .sentinel, .sentinel, .widerDeep, .pinned], laidTests := true, laidLooks := .later }
def TopEscapeCardSaid : Prop := Claim7.holds Tryz.pinned (.plain (OpenSpec.ofChange topEscapeSpec)) topEscapeCard

/-- THE SECOND FORM's CARD OF 'pouncetop.TopEscape'. -/
def topEscapeUptoCard : Claim7 := { stood := { row := topEscapeUptoRow, standIns := [], harness := (true, "d9bfef989f0b36d0e1632dcb7d05cf10f6a9ed8dda73fff2f2bd190b7a3d76db"), looks := true }, kinds := [], alts := [], laidByText := true, laidKinds := [.data, .data, .data, .data, .sentinel, .sentinel, .widerDeep, .pinned], laidTests := true, laidLooks := .later }
def TopEscapeUptoCardSaid : Prop := Claim7.holds Tryz.pinned (.plain (OpenSpec.upto topEscapeSpec)) topEscapeUptoCard
end Rows
end Go.Proofs.YtbhnfnbnngclmaaGreatDoor
