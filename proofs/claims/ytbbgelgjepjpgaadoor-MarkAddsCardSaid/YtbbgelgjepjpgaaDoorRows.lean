/-
  NARROWER THAN 'FOR EVERY INPUT', by the rows' own cells (each row's printed sentence says how): MarkOf: laid · MarkMakes: laid · MarkParted: laid · MarkLengths: laid · MarkNil: laid · MarkAdds: laid.
  DERIVED. THE GIVEN ROWS OF THIS SEAT. 6 by the template 'for every input the law returns true; each argument reads behind the call as it read before'; 0 by the template 'total and deterministic' (their statements: YtbbgelgjepjpgaaDoorTotals.lean).
  GIVEN WITH THE SEED: the statements are not yours to turn. If you find one false, say at which input.
  Laid BY PROGRAM, IN A SANDBOX (cutbox-rows.mjs): the forced cells as the released guide's own fill.sh prints them over the translation cd32d85464783ec1… (all of the seat's roots in one cut). By AI agents, Wed Nov 11 2026. No macro, syntax, notation, axiom, sorry.
-/
import Derived.Test.YtbbgelgjepjpgaaDoorChecked
import GoSem.Claim
import GoSem.ClaimJoined
import GoSem.ClaimMapViews
import Derived.JoinedTies
import Derived.KernelRfl
namespace Go.Proofs.YtbbgelgjepjpgaaDoor
/- THE CELL 'sum', in the pinned program and in every row, IS THE sha256 OF THE DUMP (.gsa) THAT YtbbgelgjepjpgaaDoorProg.lean LOADS. Nothing in Lean hashes anything: it is a label: what it is worth is what the hold of that sum in a sandbox is worth. -/
noncomputable def Tryd.pinned : Pinned := { name := "ytbbgelgjepjpgaadoor", sum := "cd32d85464783ec117e970d9058084cb72c4ddf95cc1eafcc1f082cb2dc4018d", checked := Tryd.checked }
namespace Rows
def none {H : Type} : Left H := { results := [], args := [] }

/- WHAT THE LISTED PACKAGE-LEVEL VARIABLES READ AS WHEN THE CALL BEGINS. Each datum BY PROGRAM (the guide's laid-datum.mjs) off the statement by which the dump's own 'gosem.cut.vars' lays the variable. In a bare row this is a premise. The card (YtbbgelgjepjpgaaDoorCards.lean) ties it to the program's text. -/
def laid_pounce_mark_steps {H : Type} : DataW H := .agg [.lit (.int .u64 257), .lit (.int .u64 65539)]

/-- 'pouncelaw03.MarkOf': WHATEVER THE INPUT: true; the input reads as it did. -/
def markOfSpec : ChangeSpec := { name := "markOf", fn := fun _ => fun
  | [d] => { results := [.lit (.bool true)], args := [d] }
  | _ => none }
def markOfRow : OpenClaim := { program := "ytbbgelgjepjpgaadoor", sum := "cd32d85464783ec117e970d9058084cb72c4ddf95cc1eafcc1f082cb2dc4018d", func := "pounce/pouncelaw03.MarkOf", spec := "markOf", named := ["pounce/mark.steps"], apart := false, laid := [("pounce/mark.steps", laid_pounce_mark_steps)] }
def MarkOfSaid : Prop := markOfRow.holds Tryd.pinned (OpenSpec.ofChange markOfSpec)

/-- ITS FALSE NEIGHBOUR: 'it returns false'. Refute it at one input. -/
def markOfWrong : ChangeSpec := { name := "markOf", fn := fun _ => fun
  | [d] => { results := [.lit (.bool false)], args := [d] }
  | _ => none }
def MarkOfWrongFalsely : Prop := markOfRow.holds Tryd.pinned (OpenSpec.ofChange markOfWrong)

/-- 'pouncelaw03.MarkMakes': WHATEVER THE INPUT: true; the input reads as it did. -/
def markMakesSpec : ChangeSpec := { name := "markMakes", fn := fun _ => fun
  | [d] => { results := [.lit (.bool true)], args := [d] }
  | _ => none }
def markMakesRow : OpenClaim := { program := "ytbbgelgjepjpgaadoor", sum := "cd32d85464783ec117e970d9058084cb72c4ddf95cc1eafcc1f082cb2dc4018d", func := "pounce/pouncelaw03.MarkMakes", spec := "markMakes", named := ["pounce/mark.steps"], apart := false, laid := [("pounce/mark.steps", laid_pounce_mark_steps)] }
def MarkMakesSaid : Prop := markMakesRow.holds Tryd.pinned (OpenSpec.ofChange markMakesSpec)

/-- ITS FALSE NEIGHBOUR: 'it returns false'. Refute it at one input. -/
def markMakesWrong : ChangeSpec := { name := "markMakes", fn := fun _ => fun
  | [d] => { results := [.lit (.bool false)], args := [d] }
  | _ => none }
def MarkMakesWrongFalsely : Prop := markMakesRow.holds Tryd.pinned (OpenSpec.ofChange markMakesWrong)

/-- 'pouncelaw03.MarkParted': WHATEVER THE INPUT: true; the input reads as it did. -/
def markPartedSpec : ChangeSpec := { name := "markParted", fn := fun _ => fun
  | [d1, d2, d3] => { results := [.lit (.bool true)], args := [d1, d2, d3] }
  | _ => none }
def markPartedRow : OpenClaim := { program := "ytbbgelgjepjpgaadoor", sum := "cd32d85464783ec117e970d9058084cb72c4ddf95cc1eafcc1f082cb2dc4018d", func := "pounce/pouncelaw03.MarkParted", spec := "markParted", named := ["pounce/mark.steps"], apart := false, laid := [("pounce/mark.steps", laid_pounce_mark_steps)] }
def MarkPartedSaid : Prop := markPartedRow.holds Tryd.pinned (OpenSpec.ofChange markPartedSpec)

/-- ITS FALSE NEIGHBOUR: 'it returns false'. Refute it at one input. -/
def markPartedWrong : ChangeSpec := { name := "markParted", fn := fun _ => fun
  | [d1, d2, d3] => { results := [.lit (.bool false)], args := [d1, d2, d3] }
  | _ => none }
def MarkPartedWrongFalsely : Prop := markPartedRow.holds Tryd.pinned (OpenSpec.ofChange markPartedWrong)

/-- 'pouncelaw03.MarkLengths': WHATEVER THE INPUT: true; the input reads as it did. -/
def markLengthsSpec : ChangeSpec := { name := "markLengths", fn := fun _ => fun
  | [d1, d2] => { results := [.lit (.bool true)], args := [d1, d2] }
  | _ => none }
def markLengthsRow : OpenClaim := { program := "ytbbgelgjepjpgaadoor", sum := "cd32d85464783ec117e970d9058084cb72c4ddf95cc1eafcc1f082cb2dc4018d", func := "pounce/pouncelaw03.MarkLengths", spec := "markLengths", named := ["pounce/mark.steps"], apart := false, laid := [("pounce/mark.steps", laid_pounce_mark_steps)] }
def MarkLengthsSaid : Prop := markLengthsRow.holds Tryd.pinned (OpenSpec.ofChange markLengthsSpec)

/-- ITS FALSE NEIGHBOUR: 'it returns false'. Refute it at one input. -/
def markLengthsWrong : ChangeSpec := { name := "markLengths", fn := fun _ => fun
  | [d1, d2] => { results := [.lit (.bool false)], args := [d1, d2] }
  | _ => none }
def MarkLengthsWrongFalsely : Prop := markLengthsRow.holds Tryd.pinned (OpenSpec.ofChange markLengthsWrong)

/-- 'pouncelaw03.MarkNil': WHATEVER THE INPUT: true; the input reads as it did. -/
def markNilSpec : ChangeSpec := { name := "markNil", fn := fun _ => fun
  | [d] => { results := [.lit (.bool true)], args := [d] }
  | _ => none }
def markNilRow : OpenClaim := { program := "ytbbgelgjepjpgaadoor", sum := "cd32d85464783ec117e970d9058084cb72c4ddf95cc1eafcc1f082cb2dc4018d", func := "pounce/pouncelaw03.MarkNil", spec := "markNil", named := ["pounce/mark.steps"], apart := false, laid := [("pounce/mark.steps", laid_pounce_mark_steps)] }
def MarkNilSaid : Prop := markNilRow.holds Tryd.pinned (OpenSpec.ofChange markNilSpec)

/-- ITS FALSE NEIGHBOUR: 'it returns false'. Refute it at one input. -/
def markNilWrong : ChangeSpec := { name := "markNil", fn := fun _ => fun
  | [d] => { results := [.lit (.bool false)], args := [d] }
  | _ => none }
def MarkNilWrongFalsely : Prop := markNilRow.holds Tryd.pinned (OpenSpec.ofChange markNilWrong)

/-- 'pouncelaw03.MarkAdds': WHATEVER THE INPUT: true; the input reads as it did. -/
def markAddsSpec : ChangeSpec := { name := "markAdds", fn := fun _ => fun
  | [d1, d2] => { results := [.lit (.bool true)], args := [d1, d2] }
  | _ => none }
def markAddsRow : OpenClaim := { program := "ytbbgelgjepjpgaadoor", sum := "cd32d85464783ec117e970d9058084cb72c4ddf95cc1eafcc1f082cb2dc4018d", func := "pounce/pouncelaw03.MarkAdds", spec := "markAdds", named := ["pounce/mark.steps"], apart := false, laid := [("pounce/mark.steps", laid_pounce_mark_steps)] }
def MarkAddsSaid : Prop := markAddsRow.holds Tryd.pinned (OpenSpec.ofChange markAddsSpec)

/-- ITS FALSE NEIGHBOUR: 'it returns false'. Refute it at one input. -/
def markAddsWrong : ChangeSpec := { name := "markAdds", fn := fun _ => fun
  | [d1, d2] => { results := [.lit (.bool false)], args := [d1, d2] }
  | _ => none }
def MarkAddsWrongFalsely : Prop := markAddsRow.holds Tryd.pinned (OpenSpec.ofChange markAddsWrong)

/- THE SECOND FORM. 'bulk': how many values and letters a reading holds, each counted each time it is reached (what is shared counts as often as it is met; a slice's spare places count too). A statement '..UptoSaid' is the law's where the arguments, and the package variables that the reading takes, are together of bulk at most 1048576: NARROWER than '..Said'. Prove '..Said' where nothing that the law and all that it calls make is longer than what came in: it says more and counts as full. Else prove '..UptoSaid'. A law counts once. -/
mutual
def uptoBulk {H : Type} : DataW H → Nat
  | .lit (.string bytes) => bytes.length + 1
  | .lit _ => 1
  | .nil => 1
  | .ptr d => uptoBulk d + 1
  | .slice elems spare => uptoBulkAll elems + uptoBulkAll spare + 1
  | .agg parts => uptoBulkAll parts + 1
  | .iface _ d => uptoBulk d + 1
  | .map entries => uptoBulkEntries entries + 1
  | .held _ => 1
def uptoBulkAll {H : Type} : List (DataW H) → Nat
  | [] => 0
  | d :: r => uptoBulk d + uptoBulkAll r
def uptoBulkEntries {H : Type} : List (Lit × DataW H) → Nat
  | [] => 0
  | x :: r => uptoBulkEntry x + uptoBulkEntries r
def uptoBulkEntry {H : Type} : Lit × DataW H → Nat
  | (.string bytes, d) => bytes.length + uptoBulk d + 1
  | (_, d) => uptoBulk d + 1
 end
def uptoSmall : (H : Type) → List (DataW H) → Bool := fun _ ds => decide (uptoBulkAll ds ≤ 1048576)
def OpenSpec.upto (s : _root_.Go.ChangeSpec) : _root_.Go.OpenSpec := { _root_.Go.OpenSpec.ofChange s with cond := some uptoSmall }

/-- 'pouncelaw03.MarkOf', WHERE WHAT IT READS IS OF BULK AT MOST 1048576: true; the input reads as it did. -/
def markOfUptoRow : OpenClaim := { program := "ytbbgelgjepjpgaadoor", sum := "cd32d85464783ec117e970d9058084cb72c4ddf95cc1eafcc1f082cb2dc4018d", func := "pounce/pouncelaw03.MarkOf", spec := "markOf", named := ["pounce/mark.steps"], apart := false, laid := [("pounce/mark.steps", laid_pounce_mark_steps)], narrowed := true }
def MarkOfUptoSaid : Prop := markOfUptoRow.holds Tryd.pinned (OpenSpec.upto markOfSpec)

/-- 'pouncelaw03.MarkMakes', WHERE WHAT IT READS IS OF BULK AT MOST 1048576: true; the input reads as it did. -/
def markMakesUptoRow : OpenClaim := { program := "ytbbgelgjepjpgaadoor", sum := "cd32d85464783ec117e970d9058084cb72c4ddf95cc1eafcc1f082cb2dc4018d", func := "pounce/pouncelaw03.MarkMakes", spec := "markMakes", named := ["pounce/mark.steps"], apart := false, laid := [("pounce/mark.steps", laid_pounce_mark_steps)], narrowed := true }
def MarkMakesUptoSaid : Prop := markMakesUptoRow.holds Tryd.pinned (OpenSpec.upto markMakesSpec)

/-- 'pouncelaw03.MarkParted', WHERE WHAT IT READS IS OF BULK AT MOST 1048576: true; the input reads as it did. -/
def markPartedUptoRow : OpenClaim := { program := "ytbbgelgjepjpgaadoor", sum := "cd32d85464783ec117e970d9058084cb72c4ddf95cc1eafcc1f082cb2dc4018d", func := "pounce/pouncelaw03.MarkParted", spec := "markParted", named := ["pounce/mark.steps"], apart := false, laid := [("pounce/mark.steps", laid_pounce_mark_steps)], narrowed := true }
def MarkPartedUptoSaid : Prop := markPartedUptoRow.holds Tryd.pinned (OpenSpec.upto markPartedSpec)

/-- 'pouncelaw03.MarkLengths', WHERE WHAT IT READS IS OF BULK AT MOST 1048576: true; the input reads as it did. -/
def markLengthsUptoRow : OpenClaim := { program := "ytbbgelgjepjpgaadoor", sum := "cd32d85464783ec117e970d9058084cb72c4ddf95cc1eafcc1f082cb2dc4018d", func := "pounce/pouncelaw03.MarkLengths", spec := "markLengths", named := ["pounce/mark.steps"], apart := false, laid := [("pounce/mark.steps", laid_pounce_mark_steps)], narrowed := true }
def MarkLengthsUptoSaid : Prop := markLengthsUptoRow.holds Tryd.pinned (OpenSpec.upto markLengthsSpec)

/-- 'pouncelaw03.MarkNil', WHERE WHAT IT READS IS OF BULK AT MOST 1048576: true; the input reads as it did. -/
def markNilUptoRow : OpenClaim := { program := "ytbbgelgjepjpgaadoor", sum := "cd32d85464783ec117e970d9058084cb72c4ddf95cc1eafcc1f082cb2dc4018d", func := "pounce/pouncelaw03.MarkNil", spec := "markNil", named := ["pounce/mark.steps"], apart := false, laid := [("pounce/mark.steps", laid_pounce_mark_steps)], narrowed := true }
def MarkNilUptoSaid : Prop := markNilUptoRow.holds Tryd.pinned (OpenSpec.upto markNilSpec)

/-- 'pouncelaw03.MarkAdds', WHERE WHAT IT READS IS OF BULK AT MOST 1048576: true; the input reads as it did. -/
def markAddsUptoRow : OpenClaim := { program := "ytbbgelgjepjpgaadoor", sum := "cd32d85464783ec117e970d9058084cb72c4ddf95cc1eafcc1f082cb2dc4018d", func := "pounce/pouncelaw03.MarkAdds", spec := "markAdds", named := ["pounce/mark.steps"], apart := false, laid := [("pounce/mark.steps", laid_pounce_mark_steps)], narrowed := true }
def MarkAddsUptoSaid : Prop := markAddsUptoRow.holds Tryd.pinned (OpenSpec.upto markAddsSpec)

end Rows
end Go.Proofs.YtbbgelgjepjpgaaDoor
