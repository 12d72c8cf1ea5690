import Derived.Test.YtbbgelgjepjpgaaDoorChecked
import Derived.Test.YtbbgelgjepjpgaaDoorPlain
import Derived.WalkKit
import Derived.BigQuiet
import Derived.Deep.QuietTactic
namespace Go.Proofs.YtbbgelgjepjpgaaDoor
open Go.RowKit

theorem new_any (w : World) : Calls Tryd.prog 16 #[] w fun e w' => e = .returned (.pointer (some ⟨w.heap.size, 0, none⟩)) ∧ w.alloc (.cells #[.int .u64 7, .int .u64 11, .int .i64 0] 44) = w' := by
  go_enter Tryd.func16, Tryd.ntmps16
  go_wp2
  go_ret
  exact ⟨rfl, rfl⟩

theorem count_nil (w : World) : Calls Tryd.prog 18 #[.pointer none] w fun e w' => e = .returned (.int .i64 0) ∧ w = w' := by
  go_enter Tryd.func18, Tryd.ntmps18
  go_wp2
  go_ret
  exact ⟨rfl, rfl⟩
theorem count_any (w : World) (b : Nat) (n : Int) (h2 : w.cell? ⟨b, 2, none⟩ = some (.int .i64 n)) : Calls Tryd.prog 18 #[.pointer (some ⟨b, 0, none⟩)] w fun e w' => e = .returned (.int .i64 n) ∧ w = w' := by
  go_enter Tryd.func18, Tryd.ntmps18
  go_wp2
  go_ret
  exact ⟨rfl, rfl⟩
theorem add_nil (w : World) (s : ByteArray) : Calls Tryd.prog 19 #[.pointer none, .string s] w fun e w' => e = .returned (.int .i64 3) ∧ w = w' := by
  go_enter Tryd.func19, Tryd.ntmps19
  go_wp2
  go_ret
  exact ⟨rfl, rfl⟩
theorem mark_nil (w : World) : Calls Tryd.prog 17 #[.pointer none] w fun e w' => e = .returned (.string ⟨#[]⟩) ∧ w = w' := by
  go_enter Tryd.func17, Tryd.ntmps17
  go_wp2
  go_ret
  exact ⟨rfl, rfl⟩
end Go.Proofs.YtbbgelgjepjpgaaDoor
