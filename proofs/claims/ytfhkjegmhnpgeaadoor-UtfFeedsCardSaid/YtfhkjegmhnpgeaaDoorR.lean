import Derived.Test.YtfhkjegmhnpgeaaDoorQ
import Derived.Test.YtfhkjegmhnpgeaaDoorPlainFull
namespace Go.Proofs.YtfhkjegmhnpgeaaDoor
open Go.RowKit

theorem Row.cellB {w : World} {b off n : Nat} {l : List UInt8} (h : BytesIn w (some ⟨b, off, none⟩) n l) (k : Nat) (hk : k < n) : w.cell? ⟨b, off + k, none⟩ = some (.int .u8 (l.getD k 0).toNat) := by
  obtain ⟨b', off', e, _, hc⟩ := h.2 (by omega)
  injection e with e; injection e with e1 e2; subst e1; subst e2
  have hl := h.1
  exact hc k _ (by simp [Lib.byteCells, List.getD_eq_getElem?_getD, List.getElem?_eq_getElem (show k < l.length by omega)])
set_option maxHeartbeats 2000000 in
set_option maxRecDepth 100000 in
set_option maxHeartbeats 2000000 in
theorem full_walk (b off n c x0 x sz lo hi b1 b2 : Nat) (w : World) (hx0 : x0 < 256) (h0 : w.cell? ⟨b, off, none⟩ = some (.int .u8 x0)) (h1 : 1 < n → w.cell? ⟨b, off + 1, none⟩ = some (.int .u8 b1)) (h2 : 2 < n → w.cell? ⟨b, off + 2, none⟩ = some (.int .u8 b2))
    (hf : w.cell? ⟨0, x0, none⟩ = some (.int .u8 x)) (hlo : w.cell? ⟨1, x / 16 * 2, none⟩ = some (.int .u8 lo)) (hhi : w.cell? ⟨1, x / 16 * 2 + 1, none⟩ = some (.int .u8 hi))(hx256 : (x : Int) < 256) (hx16 : x / 16 < 16) (hlo2 : lo < 256) (hhi2 : hi < 256) (hb1 : b1 < 256) (hb2 : b2 < 256)
    (hand : bits BinOp.and IntKind.u8 (x : Int) 7 = (sz : Int)) (hsz : sz ≤ 4) (hn1 : 1 ≤ n) (hn3 : n ≤ 3) (hblk : b < w.heap.size) :
    Calls Tryd.prog 32 #[.slice (some ⟨b, off, none⟩) n c] w fun e w' => e = .returned (.bool (decide (sz ≤ n ∨ (1 < n ∧ (b1 < lo ∨ hi < b1)) ∨ (2 < n ∧ (b2 < 128 ∨ 191 < b2))))) ∧ Below w.heap.size w w' := by
  have hn0 : ((n : Int) == 0) = false := by rw [beq_eq_false_iff_ne]; omega
  have hxi : (x0 : Int) < 256 := by omega
  by_cases hs : sz ≤ n
  · rw [show decide (sz ≤ n ∨ (1 < n ∧ (b1 < lo ∨ hi < b1)) ∨ (2 < n ∧ (b2 < 128 ∨ 191 < b2))) = true by simp [hs]]
    have hge : (sz : Int) ≤ (n : Int) := by omega
    clear h1 h2 hs
    go_enter Tryd.func32, Tryd.ntmps32
    go_wp2
    go_ret
    exact ⟨rfl, Below.refl _ _⟩
  · have hge : (n : Int) < (sz : Int) := by omega
    by_cases hn : n = 1
    · rw [show decide (sz ≤ n ∨ (1 < n ∧ (b1 < lo ∨ hi < b1)) ∨ (2 < n ∧ (b2 < 128 ∨ 191 < b2))) = false by simp; omega]
      subst hn
      clear h1 h2
      go_enter Tryd.func32, Tryd.ntmps32
      go_wp2_with fail
      go_quiet (fail)
      go_wp2_with fail
      go_ret
      exact ⟨rfl, ⟨rfl, rfl, rfl, by simp, fun j hj => Below.heap_alloc _ _ _ hj⟩⟩
    · have hb1c := h1 (by omega)
      have hn2 : (1 : Int) < (n : Int) := by omega
      clear h1
      by_cases q1 : b1 < lo
      · rw [show decide (sz ≤ n ∨ (1 < n ∧ (b1 < lo ∨ hi < b1)) ∨ (2 < n ∧ (b2 < 128 ∨ 191 < b2))) = true by simp; omega]
        have q1i : decide ((b1 : Int) < (lo : Int)) = true := by simp; omega
        clear h2 hn hs
        go_enter Tryd.func32, Tryd.ntmps32
        go_wp2_with fail
        go_quiet (fail)
        go_wp2_with fail
        go_ret
        exact ⟨rfl, ⟨rfl, rfl, rfl, by simp, fun j hj => Below.heap_alloc _ _ _ hj⟩⟩
      by_cases q2 : hi < b1
      · rw [show decide (sz ≤ n ∨ (1 < n ∧ (b1 < lo ∨ hi < b1)) ∨ (2 < n ∧ (b2 < 128 ∨ 191 < b2))) = true by simp; omega]
        have q1i : decide ((b1 : Int) < (lo : Int)) = false := by simp; omega
        have q2i : decide ((hi : Int) < (b1 : Int)) = true := by simp; omega
        clear h2 hn hs
        go_enter Tryd.func32, Tryd.ntmps32
        go_wp2_with fail
        go_quiet (fail)
        go_wp2_with fail
        go_ret
        exact ⟨rfl, ⟨rfl, rfl, rfl, by simp, fun j hj => Below.heap_alloc _ _ _ hj⟩⟩
      have q1i : decide ((b1 : Int) < (lo : Int)) = false := by simp; omega
      have q2i : decide ((hi : Int) < (b1 : Int)) = false := by simp; omega
      by_cases hn3' : n = 2
      · rw [show decide (sz ≤ n ∨ (1 < n ∧ (b1 < lo ∨ hi < b1)) ∨ (2 < n ∧ (b2 < 128 ∨ 191 < b2))) = false by simp; omega]
        have hn2' : ¬ (2 : Int) < (n : Int) := by omega
        clear h2 hn hs hn3'
        go_enter Tryd.func32, Tryd.ntmps32
        go_wp2_with fail
        go_quiet (fail)
        go_wp2_with fail
        go_ret
        exact ⟨rfl, ⟨rfl, rfl, rfl, by simp, fun j hj => Below.heap_alloc _ _ _ hj⟩⟩
      have hb2c := h2 (by omega)
      have hn2' : (2 : Int) < (n : Int) := by omega
      clear h2
      by_cases q3 : b2 < 128
      · rw [show decide (sz ≤ n ∨ (1 < n ∧ (b1 < lo ∨ hi < b1)) ∨ (2 < n ∧ (b2 < 128 ∨ 191 < b2))) = true by simp; omega]
        have q3i : (b2 : Int) < 128 := by omega
        clear hn hs hn3'
        go_enter Tryd.func32, Tryd.ntmps32
        go_wp2_with fail
        go_quiet (fail)
        go_wp2_with fail
        go_ret
        exact ⟨rfl, ⟨rfl, rfl, rfl, by simp, fun j hj => Below.heap_alloc _ _ _ hj⟩⟩
      by_cases q4 : 191 < b2
      · rw [show decide (sz ≤ n ∨ (1 < n ∧ (b1 < lo ∨ hi < b1)) ∨ (2 < n ∧ (b2 < 128 ∨ 191 < b2))) = true by simp; omega]
        have q3i : ¬ (b2 : Int) < 128 := by omega
        have q4i : (191 : Int) < (b2 : Int) := by omega
        clear hn hs hn3'
        go_enter Tryd.func32, Tryd.ntmps32
        go_wp2_with fail
        go_quiet (fail)
        go_wp2_with fail
        go_ret
        exact ⟨rfl, ⟨rfl, rfl, rfl, by simp, fun j hj => Below.heap_alloc _ _ _ hj⟩⟩
      · rw [show decide (sz ≤ n ∨ (1 < n ∧ (b1 < lo ∨ hi < b1)) ∨ (2 < n ∧ (b2 < 128 ∨ 191 < b2))) = false by simp; omega]
        have q3i : ¬ (b2 : Int) < 128 := by omega
        have q4i : ¬ (191 : Int) < (b2 : Int) := by omega
        clear hn hs hn3'
        go_enter Tryd.func32, Tryd.ntmps32
        go_wp2_with fail
        go_quiet (fail)
        go_wp2_with fail
        go_ret
        exact ⟨rfl, ⟨rfl, rfl, rfl, by simp, fun j hj => Below.heap_alloc _ _ _ hj⟩⟩
end Go.Proofs.YtfhkjegmhnpgeaaDoor
