/-
  No cell of these rows narrows 'for every input' (looked for: loops, veiled, ifaces, maps, wideKeys, modest, calm, conditions, laid).
  DERIVED. THE GIVEN ROWS OF THIS SEAT. 6 by the template 'for every input the law returns true; each argument reads behind the call as it read before'; 0 by the template 'total and deterministic' (their statements: YtigjmelngddbjaaTotals.lean).
  GIVEN WITH THE SEED: the statements are not yours to turn. If you find one false, say at which input.
  Laid BY PROGRAM, IN A SANDBOX (cutbox-rows.mjs): the forced cells as the released guide's own fill.sh prints them over the translation 49b6acb6e9857d7a… (all of the seat's roots in one cut). By AI agents, Wed Nov 11 2026. No macro, syntax, notation, axiom, sorry.
-/
import Derived.Test.YtigjmelngddbjaaChecked
import GoSem.Claim
import GoSem.ClaimJoined
import GoSem.ClaimMapViews
import Derived.JoinedTies
import Derived.KernelRfl
namespace Go.Proofs.Ytigjmelngddbjaa
/- THE CELL 'sum', in the pinned program and in every row, IS THE sha256 OF THE DUMP (.gsa) THAT YtigjmelngddbjaaProg.lean LOADS. Nothing in Lean hashes anything: it is a label: what it is worth is what the hold of that sum in a sandbox is worth. -/
noncomputable def Try.pinned : Pinned := { name := "ytigjmelngddbjaa", sum := "49b6acb6e9857d7a6c91aaa829b849c0a958eb75e581a3a0d575161249351ebc", checked := Try.checked }
namespace Rows
def none {H : Type} : Left H := { results := [], args := [] }

/-- 'pouncelaw04.BaseEncodes': WHATEVER THE INPUT: true; the input reads as it did. -/
def baseEncodesSpec : ChangeSpec := { name := "baseEncodes", fn := fun _ => fun
  | [d] => { results := [.lit (.bool true)], args := [d] }
  | _ => none }
def baseEncodesRow : OpenClaim := { program := "ytigjmelngddbjaa", sum := "49b6acb6e9857d7a6c91aaa829b849c0a958eb75e581a3a0d575161249351ebc", func := "pounce/pouncelaw04.BaseEncodes", spec := "baseEncodes", inPlace := ["internal/bytealg.IndexByteString", "internal/abi.NoEscape"], apart := false }
def BaseEncodesSaid : Prop := baseEncodesRow.holds Try.pinned (OpenSpec.ofChange baseEncodesSpec)

/-- ITS FALSE NEIGHBOUR: 'it returns false'. Refute it at one input. -/
def baseEncodesWrong : ChangeSpec := { name := "baseEncodes", fn := fun _ => fun
  | [d] => { results := [.lit (.bool false)], args := [d] }
  | _ => none }
def BaseEncodesWrongFalsely : Prop := baseEncodesRow.holds Try.pinned (OpenSpec.ofChange baseEncodesWrong)

/-- 'pouncelaw04.BaseDecodes': WHATEVER THE INPUT: true; the input reads as it did. -/
def baseDecodesSpec : ChangeSpec := { name := "baseDecodes", fn := fun _ => fun
  | [d] => { results := [.lit (.bool true)], args := [d] }
  | _ => none }
def baseDecodesRow : OpenClaim := { program := "ytigjmelngddbjaa", sum := "49b6acb6e9857d7a6c91aaa829b849c0a958eb75e581a3a0d575161249351ebc", func := "pounce/pouncelaw04.BaseDecodes", spec := "baseDecodes", inPlace := ["internal/bytealg.IndexByteString", "internal/abi.NoEscape"], apart := false }
def BaseDecodesSaid : Prop := baseDecodesRow.holds Try.pinned (OpenSpec.ofChange baseDecodesSpec)

/-- ITS FALSE NEIGHBOUR: 'it returns false'. Refute it at one input. -/
def baseDecodesWrong : ChangeSpec := { name := "baseDecodes", fn := fun _ => fun
  | [d] => { results := [.lit (.bool false)], args := [d] }
  | _ => none }
def BaseDecodesWrongFalsely : Prop := baseDecodesRow.holds Try.pinned (OpenSpec.ofChange baseDecodesWrong)

/-- 'pouncelaw04.BaseBack': WHATEVER THE INPUT: true; the input reads as it did. -/
def baseBackSpec : ChangeSpec := { name := "baseBack", fn := fun _ => fun
  | [d] => { results := [.lit (.bool true)], args := [d] }
  | _ => none }
def baseBackRow : OpenClaim := { program := "ytigjmelngddbjaa", sum := "49b6acb6e9857d7a6c91aaa829b849c0a958eb75e581a3a0d575161249351ebc", func := "pounce/pouncelaw04.BaseBack", spec := "baseBack", inPlace := ["internal/abi.NoEscape", "internal/bytealg.IndexByteString"], apart := false }
def BaseBackSaid : Prop := baseBackRow.holds Try.pinned (OpenSpec.ofChange baseBackSpec)

/-- ITS FALSE NEIGHBOUR: 'it returns false'. Refute it at one input. -/
def baseBackWrong : ChangeSpec := { name := "baseBack", fn := fun _ => fun
  | [d] => { results := [.lit (.bool false)], args := [d] }
  | _ => none }
def BaseBackWrongFalsely : Prop := baseBackRow.holds Try.pinned (OpenSpec.ofChange baseBackWrong)

/-- 'pouncelaw04.BaseAgain': WHATEVER THE INPUT: true; the input reads as it did. -/
def baseAgainSpec : ChangeSpec := { name := "baseAgain", fn := fun _ => fun
  | [d] => { results := [.lit (.bool true)], args := [d] }
  | _ => none }
def baseAgainRow : OpenClaim := { program := "ytigjmelngddbjaa", sum := "49b6acb6e9857d7a6c91aaa829b849c0a958eb75e581a3a0d575161249351ebc", func := "pounce/pouncelaw04.BaseAgain", spec := "baseAgain", inPlace := ["internal/bytealg.IndexByteString", "internal/abi.NoEscape"], apart := false }
def BaseAgainSaid : Prop := baseAgainRow.holds Try.pinned (OpenSpec.ofChange baseAgainSpec)

/-- ITS FALSE NEIGHBOUR: 'it returns false'. Refute it at one input. -/
def baseAgainWrong : ChangeSpec := { name := "baseAgain", fn := fun _ => fun
  | [d] => { results := [.lit (.bool false)], args := [d] }
  | _ => none }
def BaseAgainWrongFalsely : Prop := baseAgainRow.holds Try.pinned (OpenSpec.ofChange baseAgainWrong)

/-- 'pouncelaw04.BaseThirds': WHATEVER THE INPUT: true; the input reads as it did. -/
def baseThirdsSpec : ChangeSpec := { name := "baseThirds", fn := fun _ => fun
  | [d1, d2] => { results := [.lit (.bool true)], args := [d1, d2] }
  | _ => none }
def baseThirdsRow : OpenClaim := { program := "ytigjmelngddbjaa", sum := "49b6acb6e9857d7a6c91aaa829b849c0a958eb75e581a3a0d575161249351ebc", func := "pounce/pouncelaw04.BaseThirds", spec := "baseThirds", inPlace := ["internal/bytealg.IndexByteString", "internal/abi.NoEscape"], apart := false }
def BaseThirdsSaid : Prop := baseThirdsRow.holds Try.pinned (OpenSpec.ofChange baseThirdsSpec)

/-- ITS FALSE NEIGHBOUR: 'it returns false'. Refute it at one input. -/
def baseThirdsWrong : ChangeSpec := { name := "baseThirds", fn := fun _ => fun
  | [d1, d2] => { results := [.lit (.bool false)], args := [d1, d2] }
  | _ => none }
def BaseThirdsWrongFalsely : Prop := baseThirdsRow.holds Try.pinned (OpenSpec.ofChange baseThirdsWrong)

/-- 'pouncelaw04.BaseLengths': WHATEVER THE INPUT: true; the input reads as it did. -/
def baseLengthsSpec : ChangeSpec := { name := "baseLengths", fn := fun _ => fun
  | [d] => { results := [.lit (.bool true)], args := [d] }
  | _ => none }
def baseLengthsRow : OpenClaim := { program := "ytigjmelngddbjaa", sum := "49b6acb6e9857d7a6c91aaa829b849c0a958eb75e581a3a0d575161249351ebc", func := "pounce/pouncelaw04.BaseLengths", spec := "baseLengths", inPlace := ["internal/abi.NoEscape", "internal/bytealg.IndexByteString"], apart := false }
def BaseLengthsSaid : Prop := baseLengthsRow.holds Try.pinned (OpenSpec.ofChange baseLengthsSpec)

/-- ITS FALSE NEIGHBOUR: 'it returns false'. Refute it at one input. -/
def baseLengthsWrong : ChangeSpec := { name := "baseLengths", fn := fun _ => fun
  | [d] => { results := [.lit (.bool false)], args := [d] }
  | _ => none }
def BaseLengthsWrongFalsely : Prop := baseLengthsRow.holds Try.pinned (OpenSpec.ofChange baseLengthsWrong)

/- THE SECOND FORM. 'bulk': how many values and letters a reading holds, each counted each time it is reached (what is shared counts as often as it is met; a slice's spare places count too). A statement '..UptoSaid' is the law's where the arguments, and the package variables that the reading takes, are together of bulk at most 1048576: NARROWER than '..Said'. Prove '..Said' where nothing that the law and all that it calls make is longer than what came in: it says more and counts as full. Else prove '..UptoSaid'. A law counts once. -/
mutual
def uptoBulk {H : Type} : DataW H → Nat
  | .lit (.string bytes) => bytes.length + 1
  | .lit _ => 1
  | .nil => 1
  | .ptr d => uptoBulk d + 1
  | .slice elems spare => uptoBulkAll elems + uptoBulkAll spare + 1
  | .agg parts => uptoBulkAll parts + 1
  | .iface _ d => uptoBulk d + 1
  | .map entries => uptoBulkEntries entries + 1
  | .held _ => 1
def uptoBulkAll {H : Type} : List (DataW H) → Nat
  | [] => 0
  | d :: r => uptoBulk d + uptoBulkAll r
def uptoBulkEntries {H : Type} : List (Lit × DataW H) → Nat
  | [] => 0
  | x :: r => uptoBulkEntry x + uptoBulkEntries r
def uptoBulkEntry {H : Type} : Lit × DataW H → Nat
  | (.string bytes, d) => bytes.length + uptoBulk d + 1
  | (_, d) => uptoBulk d + 1
 end
def uptoSmall : (H : Type) → List (DataW H) → Bool := fun _ ds => decide (uptoBulkAll ds ≤ 1048576)
def OpenSpec.upto (s : _root_.Go.ChangeSpec) : _root_.Go.OpenSpec := { _root_.Go.OpenSpec.ofChange s with cond := some uptoSmall }

/-- 'pouncelaw04.BaseEncodes', WHERE WHAT IT READS IS OF BULK AT MOST 1048576: true; the input reads as it did. -/
def baseEncodesUptoRow : OpenClaim := { program := "ytigjmelngddbjaa", sum := "49b6acb6e9857d7a6c91aaa829b849c0a958eb75e581a3a0d575161249351ebc", func := "pounce/pouncelaw04.BaseEncodes", spec := "baseEncodes", inPlace := ["internal/bytealg.IndexByteString", "internal/abi.NoEscape"], apart := false, narrowed := true }
def BaseEncodesUptoSaid : Prop := baseEncodesUptoRow.holds Try.pinned (OpenSpec.upto baseEncodesSpec)

/-- 'pouncelaw04.BaseDecodes', WHERE WHAT IT READS IS OF BULK AT MOST 1048576: true; the input reads as it did. -/
def baseDecodesUptoRow : OpenClaim := { program := "ytigjmelngddbjaa", sum := "49b6acb6e9857d7a6c91aaa829b849c0a958eb75e581a3a0d575161249351ebc", func := "pounce/pouncelaw04.BaseDecodes", spec := "baseDecodes", inPlace := ["internal/bytealg.IndexByteString", "internal/abi.NoEscape"], apart := false, narrowed := true }
def BaseDecodesUptoSaid : Prop := baseDecodesUptoRow.holds Try.pinned (OpenSpec.upto baseDecodesSpec)

/-- 'pouncelaw04.BaseBack', WHERE WHAT IT READS IS OF BULK AT MOST 1048576: true; the input reads as it did. -/
def baseBackUptoRow : OpenClaim := { program := "ytigjmelngddbjaa", sum := "49b6acb6e9857d7a6c91aaa829b849c0a958eb75e581a3a0d575161249351ebc", func := "pounce/pouncelaw04.BaseBack", spec := "baseBack", inPlace := ["internal/abi.NoEscape", "internal/bytealg.IndexByteString"], apart := false, narrowed := true }
def BaseBackUptoSaid : Prop := baseBackUptoRow.holds Try.pinned (OpenSpec.upto baseBackSpec)

/-- 'pouncelaw04.BaseAgain', WHERE WHAT IT READS IS OF BULK AT MOST 1048576: true; the input reads as it did. -/
def baseAgainUptoRow : OpenClaim := { program := "ytigjmelngddbjaa", sum := "49b6acb6e9857d7a6c91aaa829b849c0a958eb75e581a3a0d575161249351ebc", func := "pounce/pouncelaw04.BaseAgain", spec := "baseAgain", inPlace := ["internal/bytealg.IndexByteString", "internal/abi.NoEscape"], apart := false, narrowed := true }
def BaseAgainUptoSaid : Prop := baseAgainUptoRow.holds Try.pinned (OpenSpec.upto baseAgainSpec)

/-- 'pouncelaw04.BaseThirds', WHERE WHAT IT READS IS OF BULK AT MOST 1048576: true; the input reads as it did. -/
def baseThirdsUptoRow : OpenClaim := { program := "ytigjmelngddbjaa", sum := "49b6acb6e9857d7a6c91aaa829b849c0a958eb75e581a3a0d575161249351ebc", func := "pounce/pouncelaw04.BaseThirds", spec := "baseThirds", inPlace := ["internal/bytealg.IndexByteString", "internal/abi.NoEscape"], apart := false, narrowed := true }
def BaseThirdsUptoSaid : Prop := baseThirdsUptoRow.holds Try.pinned (OpenSpec.upto baseThirdsSpec)

/-- 'pouncelaw04.BaseLengths', WHERE WHAT IT READS IS OF BULK AT MOST 1048576: true; the input reads as it did. -/
def baseLengthsUptoRow : OpenClaim := { program := "ytigjmelngddbjaa", sum := "49b6acb6e9857d7a6c91aaa829b849c0a958eb75e581a3a0d575161249351ebc", func := "pounce/pouncelaw04.BaseLengths", spec := "baseLengths", inPlace := ["internal/abi.NoEscape", "internal/bytealg.IndexByteString"], apart := false, narrowed := true }
def BaseLengthsUptoSaid : Prop := baseLengthsUptoRow.holds Try.pinned (OpenSpec.upto baseLengthsSpec)

end Rows
end Go.Proofs.Ytigjmelngddbjaa
