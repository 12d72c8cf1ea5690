/- An attribute's place, where there is none, or one that is meant. -/
import Derived.Test.YtbhnfnbnngclmaaGreatDoorEL
namespace Go.Proofs.YtbhnfnbnngclmaaGreatDoor
open Go.RowKit
set_option maxRecDepth 100000

theorem index_nil (fv : Value) (w : World) : Calls Tryz.prog 27 #[.slice none 0 0, fv] w fun e w' => e = .returned (.int .i64 (-1)) ∧ w' = w := by
  go_enter Tryz.func27, Tryz.ntmps27
  go_wp2_with fail
  go_loopg [8] 0 (fun gk v wr => v = .int .i64 0 ∧ wr = w)
  case atStart => exact ⟨rfl, rfl⟩
  case round =>
    obtain ⟨rfl, hw⟩ := hrel
    obtain rfl : wr = w := hw
    go_wp2_with fail
    go_ret
    exact ⟨rfl, rfl⟩
theorem contains_nil (fv : Value) (w : World) : Calls Tryz.prog 69 #[.slice none 0 0, fv] w fun e w' => e = .returned (.bool false) ∧ w' = w := by
  have c := index_nil fv w
  have C := Lib.hid c
  clear c
  go_enter Tryz.func69, Tryz.ntmps69
  go_wp2_with fail
  with_reducible refine C.out.mono ?_
  rintro e w1 ⟨rfl, hw⟩
  obtain rfl : w = w1 := hw.symm
  go_wp2_with fail
  go_ret
  exact ⟨rfl, rfl⟩
theorem index_one (g off cap : Nat) (v0 v1 : Value) (gf : Nat) (lb : Array Value) (w : World) (hcf : ∀ args w, (callFunc gf args).run Tryz.prog w = .ok (.enter gf args) w) (h0 : w.cell? ⟨g, off, none⟩ = some v0) (h1 : w.cell? ⟨g, off + 1, none⟩ = some v1)
    (hf : Calls Tryz.prog gf (#[.agg #[v0, v1]] ++ lb) w fun e w' => e = .returned (.bool true) ∧ Below w.heap.size w w') :
    Calls Tryz.prog 27 #[.slice (some ⟨g, off, none⟩) 1 cap, .func (.func gf) #[] lb] w fun e w' => e = .returned (.int .i64 0) ∧ Below w.heap.size w w' := by
  have HF := Lib.hid hf
  clear hf
  go_enter Tryz.func27, Tryz.ntmps27
  go_wp2_with fail
  go_loopg [8] 0 (fun gk v wr => v = .int .i64 0 ∧ wr = w)
  case atStart => exact ⟨rfl, rfl⟩
  case round =>
    obtain ⟨rfl, hw⟩ := hrel
    obtain rfl : w = wr := hw.symm
    go_wp2_with fail
    with_reducible refine HF.out.mono ?_
    rintro e w1 ⟨rfl, hb⟩
    go_wp2_with fail
    go_ret
    exact ⟨rfl, hb⟩
end Go.Proofs.YtbhnfnbnngclmaaGreatDoor
