import Derived.Test.YtfhkjegmhnpgeaaDoorR
namespace Go.Proofs.YtfhkjegmhnpgeaaDoor
open Go.RowKit

theorem firstT_mem (b : Nat) : Lib.firstT b ∈ [240, 241, 2, 19, 3, 35, 52, 4, 68] := by
  unfold Lib.firstT
  repeat' split
  all_goals simp
theorem and7 (x : Nat) (h : x ∈ [240, 241, 2, 19, 3, 35, 52, 4, 68]) : bits BinOp.and IntKind.u8 (x : Int) 7 = ((x % 8 : Nat) : Int) := by
  simp only [List.mem_cons, List.not_mem_nil, or_false] at h
  rcases h with rfl | rfl | rfl | rfl | rfl | rfl | rfl | rfl | rfl <;> decide +kernel
theorem first_small (x : Nat) (h : x ∈ [240, 241, 2, 19, 3, 35, 52, 4, 68]) : x < 256 ∧ x / 16 < 16 ∧ x % 8 ≤ 4 ∧ Lib.accLo (x / 16) < 256 ∧ Lib.accHi (x / 16) < 256 := by
  simp only [List.mem_cons, List.not_mem_nil, or_false] at h
  rcases h with rfl | rfl | rfl | rfl | rfl | rfl | rfl | rfl | rfl <;> decide
instance (l : List UInt8) : Decidable (Ut.FullL l) := by unfold Ut.FullL Ut.Full; exact inferInstance
/-- FullRune: at one to three bytes. -/
theorem full_any (b off n c : Nat) (l : List UInt8) (w : World) (hT : T w) (hb : BytesIn w (some ⟨b, off, none⟩) n l) (h1 : 1 ≤ n) (h3 : n ≤ 3) :
    Calls Tryd.prog 32 #[.slice (some ⟨b, off, none⟩) n c] w fun e w' => e = .returned (.bool (decide (Ut.FullL l))) ∧ Below w.heap.size w w' := by
  have hl := hb.1
  have hblk : b < w.heap.size := by
    obtain ⟨b', off', e, h, _⟩ := hb.2 (by omega)
    injection e with e; injection e with e1 e2; subst e1; exact h
  have hm := firstT_mem (l.getD 0 0).toNat
  obtain ⟨k1, k2, k3, k4, k5⟩ := first_small _ hm
  have h0 := Row.cellB hb 0 (by omega)
  rw [Nat.add_zero] at h0
  have hacc := hT.2 (Lib.firstT (l.getD 0 0).toNat / 16) k2
  rw [Nat.mul_comm] at hacc
  have := full_walk b off n c (l.getD 0 0).toNat (Lib.firstT (l.getD 0 0).toNat) (Lib.firstT (l.getD 0 0).toNat % 8) (Lib.accLo (Lib.firstT (l.getD 0 0).toNat / 16)) (Lib.accHi (Lib.firstT (l.getD 0 0).toNat / 16)) (l.getD 1 0).toNat (l.getD 2 0).toNat w
    (UInt8.toNat_lt _) h0 (fun h => Row.cellB hb 1 h) (fun h => Row.cellB hb 2 h) (hT.1 _ (UInt8.toNat_lt _)) hacc.1 hacc.2 (by omega) k2 k4 k5 (UInt8.toNat_lt _) (UInt8.toNat_lt _) (and7 _ hm) k3 h1 h3 hblk
  refine this.mono fun e w' ⟨he, hb⟩ => ⟨he.trans (ret_bool ?_), hb⟩
  rw [Bool.eq_iff_iff, decide_eq_true_eq, decide_eq_true_eq]
  unfold Ut.FullL Ut.Full
  rw [hl]
theorem start_any (c : UInt8) (w : World) : Calls Tryd.prog 31 #[.int .u8 c.toNat] w fun e w' => e = .returned (.bool (!Ut.co c)) ∧ w' = w := by
  have hc := c.toNat_lt
  have h := Tryd.utf8_RuneStart c.toNat w (by omega) (by omega)
  have he : Lib.runeStart (c.toNat : Int) = !Ut.co c := by
    unfold Lib.runeStart Ut.co
    rw [Bool.eq_iff_iff]
    simp
    omega
  rw [he] at h; exact h
end Go.Proofs.YtfhkjegmhnpgeaaDoor
