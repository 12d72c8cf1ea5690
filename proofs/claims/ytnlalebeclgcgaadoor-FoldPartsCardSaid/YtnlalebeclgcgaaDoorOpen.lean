/- From a row to the walks: a byte that came in; a world in which the two tables of the library's utf8 are laid. -/
import Derived.Test.YtnlalebeclgcgaaDoorJ
import Derived.Test.YtnlalebeclgcgaaDoorClose
import Derived.Lib.LaidU8T
import Derived.Lib.LaidTab
import Derived.Deep.DeepHandedRow
namespace Go.Proofs.YtnlalebeclgcgaaDoor.Cl
open Go Go.ChangeShapes Go.WideShapes Go.ChangeAt Go.RowKit

theorem u8_in {n : Int} (h : (Lit.int .u8 n).wf = true) : ∃ c : UInt8, n = c.toNat := by
  simp only [Lit.wf, Bool.and_eq_true, decide_eq_true_eq, show IntKind.u8.min = 0 from rfl, show IntKind.u8.max = 255 from rfl] at h
  refine ⟨UInt8.ofNat n.toNat, ?_⟩
  rw [UInt8.toNat_ofNat']
  omega
/-- A world in which the tables are laid. -/
noncomputable def laidWorld (os : Os) : World :=
  let w0 := World.holding Tryd.prog os ⟨#[], #[], []⟩
  let put (h : Array Obj) (g : Nat) (cs : Array Value) : Array Obj := h.modify g fun
    | .cells _ t frozen => .cells cs t frozen
    | o => o
  let h1 := put w0.heap 1 (Lib.firstTab.map fun z => Value.int .u8 z).toArray
  let h2 := put h1 2 ((List.range 16).flatMap fun i => [Value.int .u8 (Lib.accLo i), Value.int .u8 (Lib.accHi i)]).toArray
  { w0 with heap := h2 }
theorem named0 : Tryd.prog.globalNamed "unicode/utf8.first" = some 1 := by kernel_rfl
theorem named1 : Tryd.prog.globalNamed "unicode/utf8.acceptRanges" = some 2 := by kernel_rfl
end Go.Proofs.YtnlalebeclgcgaaDoor.Cl
