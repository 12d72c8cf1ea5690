/- Blank, Same; left, is. -/
import Derived.Test.YtbhnfnbnngclmaaGreatDoorEE
namespace Go.Proofs.YtbhnfnbnngclmaaGreatDoor
open Go.RowKit
set_option maxRecDepth 100000

/-- Blank. -/
theorem blank_any (c : UInt8) (w : World) : Calls Tryz.prog 52 #[.int .u8 c.toNat] w fun e w' => e = .returned (.bool (Fo.bl c)) ∧ w' = w := by
  have hc := c.toNat_lt
  have C := Lib.hid (has_any c.toNat w (by omega))
  rw [Fo.blR_of] at C
  have hm : (c.toNat : Int) % 4294967296 = c.toNat := Int.emod_eq_of_lt (by omega) (by omega)
  have hc1 : (c.toNat : Int) < 256 := by omega
  have hc2 : (0 : Int) ≤ (c.toNat : Int) := by omega
  clear hc
  go_enter Tryz.func52, Tryz.ntmps52
  go_wp2_with fail
  with_reducible refine C.out.mono ?_
  rintro e w1 ⟨rfl, rfl⟩
  go_wp2
  go_ret
  exact ⟨rfl, rfl⟩
/-- Same. -/
theorem same_any (s t : ByteArray) (w : World) (hs : s.size ≤ 10000000) (ht : t.size ≤ 10000000) : Calls Tryz.prog 56 #[.string s, .string t] w fun e w' => e = .returned (.bool (decide (Fo.lower s.data.toList = Fo.lower t.data.toList))) ∧ Below w.heap.size w w' := by
  obtain ⟨A, hA⟩ : ∃ A : ByteArray, A = ⟨(Fo.lower s.data.toList).toArray⟩ := ⟨_, rfl⟩
  obtain ⟨B, hB⟩ : ∃ B : ByteArray, B = ⟨(Fo.lower t.data.toList).toArray⟩ := ⟨_, rfl⟩
  have cs := Lib.hid (fun w' => lower_any s w' hs)
  have ct := Lib.hid (fun w' => lower_any t w' ht)
  rw [← hA] at cs
  rw [← hB] at ct
  have he : (A.toList == B.toList) = decide (Fo.lower s.data.toList = Fo.lower t.data.toList) := by
    rw [Lib.toList_data, Lib.toList_data, hA, hB, Bool.eq_iff_iff]
    simp
  have HE := Lib.hid he; clear he hA hB
  go_enter Tryz.func56, Tryz.ntmps56
  go_wp2_with fail
  with_reducible refine (cs.out w).mono ?_
  rintro e w1 ⟨rfl, hb1⟩
  go_wp2_with fail
  with_reducible refine (ct.out w1).mono ?_
  rintro e w2 ⟨rfl, hb2⟩
  go_wp2
  go_ret
  exact ⟨ret_bool HE.out, nx hb1 hb2⟩


theorem left_any (c : Nat) (s : ByteArray) (a : Nat) (vo vf : Value) (w : World) (ha : a ≤ s.size) (hc : Cur w c s a vo vf) :
    Calls Tryz.prog 32 #[.pointer (some ⟨c, 0, none⟩)] w fun e w' => e = .returned (.string (s.extract a s.size)) ∧ Below w.heap.size w w' := by
  have c0 := hc.c0
  have c1 := hc.c1
  have i1 : (a : Int) ≤ (s.size : Int) := by omega
  clear hc
  go_enter Tryz.func32, Tryz.ntmps32
  go_wp2_with fail
  go_quiet (fail)
  go_wp2_with fail
  go_ret
  exact ⟨rfl, below_drewN' _ _⟩
/-- Does what is left begin with a text? -/
def isB (s : ByteArray) (a : Nat) (t : ByteArray) : Bool := decide (t.size ≤ (s.extract a s.size).size) && decide (Fo.lower ((s.extract a s.size).extract 0 t.size).data.toList = Fo.lower t.data.toList)
theorem is_any (c : Nat) (s : ByteArray) (a : Nat) (vo vf : Value) (t : ByteArray) (w : World) (hs : s.size ≤ 1000000) (ht : t.size ≤ 1000) (ha : a ≤ s.size) (hc : Cur w c s a vo vf) :
    Calls Tryz.prog 35 #[.pointer (some ⟨c, 0, none⟩), .string t] w fun e w' => e = .returned (.bool (isB s a t)) ∧ Below w.heap.size w w' := by
  have cl := left_any c s a vo vf w ha hc
  have hr : isB s a t = (decide (t.size ≤ (s.extract a s.size).size) && decide (Fo.lower ((s.extract a s.size).extract 0 t.size).data.toList = Fo.lower t.data.toList)) := rfl
  obtain ⟨r, hr'⟩ : ∃ r, r = isB s a t := ⟨_, rfl⟩
  rw [← hr'] at hr
  rw [← hr']
  obtain ⟨R, hR⟩ : ∃ R, R = s.extract a s.size := ⟨_, rfl⟩
  rw [← hR] at cl hr
  have hRs : R.size ≤ 1000000 := by rw [hR]; exact Nat.le_trans (extract_le _ _ _) hs
  have cs := fun w' => same_any (R.extract 0 t.size) t w' (by have := extract_le R 0 t.size; omega) (by omega)
  obtain ⟨b, hb⟩ : ∃ b, b = decide (Fo.lower (R.extract 0 t.size).data.toList = Fo.lower t.data.toList) := ⟨_, rfl⟩
  rw [← hb] at cs hr
  have CL := Lib.hid cl
  have CS := Lib.hid cs
  have HR := Lib.hid hr
  clear cl cs hr hr' hR hb hc
  go_enter Tryz.func35, Tryz.ntmps35
  go_wp2_with fail
  with_reducible refine CL.out.mono ?_
  rintro e w1 ⟨rfl, hb1⟩
  by_cases hle : t.size ≤ R.size
  · have i1 : (t.size : Int) ≤ (R.size : Int) := by omega
    have i2 : decide ((t.size : Int) ≤ (R.size : Int)) = true := by simpa using hle
    have HF : Hid (r = b) := by show _ = _; rw [HR.out]; simp [hle]
    go_wp2_with fail
    with_reducible refine (CS.out w1).mono ?_
    rintro e w2 ⟨rfl, hb2⟩
    go_wp2_with fail
    go_ret
    exact ⟨ret_bool HF.out.symm, nx hb1 hb2⟩
  · have i2 : decide ((t.size : Int) ≤ (R.size : Int)) = false := by simpa using hle
    have HF : Hid (r = false) := by show _ = _; rw [HR.out]; simp [hle]
    go_wp2_with fail
    go_ret
    exact ⟨ret_bool HF.out.symm, hb1⟩
end Go.Proofs.YtbhnfnbnngclmaaGreatDoor
