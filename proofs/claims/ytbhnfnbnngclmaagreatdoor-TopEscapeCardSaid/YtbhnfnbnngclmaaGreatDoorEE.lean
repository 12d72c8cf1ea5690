/- take. -/
import Derived.Test.YtbhnfnbnngclmaaGreatDoorED
namespace Go.Proofs.YtbhnfnbnngclmaaGreatDoor
open Go.RowKit Go.Sort Go.BigFrame
set_option maxRecDepth 100000

/-- A function of a byte, and what it says. -/
def Says (g : Nat) (p : UInt8 → Bool) : Prop := ∀ (c : UInt8) (w : World), Calls Tryz.prog g #[.int .u8 c.toNat] w fun e w' => e = .returned (.bool (p c)) ∧ Below w.heap.size w w'
/-- How far bytes are so, from a place on. -/
def far (p : UInt8 → Bool) (s : ByteArray) (a : Nat) : Nat := a + ((s.data.toList.drop a).takeWhile p).length
theorem far_step (p : UInt8 → Bool) (s : ByteArray) (b : Nat) (h : b < s.size) : far p s b = if p s[b] then far p s (b + 1) else b := by
  unfold far
  rw [List.drop_eq_getElem_cons (by rw [size_len]; exact h)]
  have e : s.data.toList[b]'(by rw [size_len]; exact h) = s[b] := rfl
  rw [e, List.takeWhile_cons]
  split
  · simp only [List.length_cons]; omega
  · rfl
theorem far_end (p : UInt8 → Bool) (s : ByteArray) (b : Nat) (h : s.size ≤ b) : far p s b = b := by
  unfold far
  rw [List.drop_eq_nil_of_le (by rw [size_len]; exact h)]
  rfl
set_option maxHeartbeats 4000000 in
theorem take_any (g : Nat) (p : UInt8 → Bool) (hp : Says g p) (hcf : ∀ args w, (callFunc g args).run Tryz.prog w = .ok (.enter g args) w) (c : Nat) (s : ByteArray) (a : Nat) (vo vf : Value) (w : World) (hs : s.size ≤ 1000000) (ha : a ≤ s.size) (hc : Cur w c s a vo vf) :
    Calls Tryz.prog 20 #[.pointer (some ⟨c, 0, none⟩), .func (.func g) #[] #[]] w fun e w' => e = .returned (.string (s.extract a (far p s a))) ∧ Cur w' c s (far p s a) vo vf ∧ Keep [c] w w' := by
  have HP := Lib.hid hp
  have HC := Lib.hid hc
  have c0 := hc.c0
  have c1 := hc.c1
  clear hp hc
  obtain ⟨A, hA⟩ : ∃ A, A = far p s a := ⟨_, rfl⟩
  rw [← hA]
  have HA := Lib.hid hA
  clear hA
  go_enter Tryz.func20, Tryz.ntmps20
  go_wp2_with fail
  clear c0 c1
  go_loopg [] (s.size - a) (fun gk wr => ∃ b : Nat, Hid (a ≤ b) ∧ b + gk = s.size ∧ Hid (far p s b = A) ∧ Hid (Cur wr c s b vo vf) ∧ Hid (Keep [c] w wr))
  case atStart => exact ⟨a, Nat.le_refl _, by omega, HA.out.symm, HC.out, Keep.refl _ _⟩
  case round =>
    obtain ⟨b, HAB, hb, HF, HCR, HK⟩ := hrel
    have HB := Lib.hid hb
    clear hb
    have c0 := HCR.out.c0
    have c1 := HCR.out.c1
    have z0 := cell_regrown c0
    have z1 := cell_regrown c1
    by_cases hlt : b < s.size
    · have hfs := far_step p s b hlt
      obtain ⟨x, hx⟩ : ∃ x, x = s[b]'hlt := ⟨_, rfl⟩
      obtain ⟨q, hq⟩ : ∃ q, q = p x := ⟨_, rfl⟩
      have hg := fun d os => Calls.regrown_of (HP.out x (grow (redrawn wr d) os))
      rw [← hq, hx] at hg
      rw [← hx, ← hq] at hfs
      have HFS := Lib.hid hfs
      clear hx hq hfs
      have hdl : decide ((b : Int) < (s.size : Int)) = true := by simpa using hlt
      go_wp2_with fail
      refine wp_region_quiet_below (by kernel_rfl) (by kernel_rfl) ?_
      repeat (go_big_quiet_step (exact hg _ _))
      refine wpQuiet_nil ?_
      intro w5 hw'
      obtain ⟨⟨dq, osq⟩, hw''⟩ := hw'
      have hb5 : Below wr.heap.size wr w5 := by rw [hw'']; exact below_regrown wr dq osq
      have hcur := HCR.out.below hb5
      have HCU := Lib.hid hcur
      have HKB : Hid (Keep [c] w w5) := HK.out.trans (Keep.of_below hb5)
      have d0 := hcur.c0
      have d1 := hcur.c1
      have fz := hcur.fz 1
      clear hw'' hg z0 z1 c0 c1 hb5 hcur
      cases q
      · go_wp2_with fail
        have i1 : (a : Int) ≤ (b : Int) := by have := HAB.out; omega
        have i2 : (b : Int) ≤ (s.size : Int) := by have := HB.out; omega
        have HFB : Hid (b = A) := by have h := HFS.out; rw [HF.out] at h; exact h.symm
        go_quiet (fail)
        go_wp2_with fail
        go_ret
        have hbn := HFB.out
        subst hbn
        exact ⟨rfl, HCU.out.below (below_drewN' _ _), HKB.out.trans (Keep.of_below (below_drewN' _ _))⟩
      · go_wp2_with fail
        have hmv := HCU.out.move (b + 1)
        obtain ⟨m1, m2⟩ := hmv
        have ew : (w5.setCell ⟨c, 1, none⟩ (.int .i64 ((b + 1 : Nat) : Int))) = w5.setCell ⟨c, 1, none⟩ (.int .i64 ((b : Int) + 1)) := rfl
        rw [ew] at m1 m2
        have HM1 := Lib.hid m1
        have HM2 := Lib.hid m2
        clear m1 m2 ew
        go_roundg (gk - 1)
        case measure => have := HB.out; omega
        case rel =>
          have := HB.out
          exact ⟨b + 1, Nat.le_succ_of_le HAB.out, by omega, by have h := HFS.out; rw [if_pos trivial] at h; exact h.symm.trans HF.out, HM1.out, HKB.out.trans HM2.out⟩
    · have hdl : decide ((b : Int) < (s.size : Int)) = false := by simpa using hlt
      go_wp2_with fail
      refine wp_region_quiet_below (by kernel_rfl) (by kernel_rfl) ?_
      repeat (go_big_quiet_step (fail))
      refine wpQuiet_nil ?_
      intro w5 hw'
      obtain ⟨⟨dq, osq⟩, hw''⟩ := hw'
      have hb5 : Below wr.heap.size wr w5 := by rw [hw'']; exact below_regrown wr dq osq
      have hcur := HCR.out.below hb5
      have HCU := Lib.hid hcur
      have HKB : Hid (Keep [c] w w5) := HK.out.trans (Keep.of_below hb5)
      have d0 := hcur.c0
      have d1 := hcur.c1
      clear hw'' z0 z1 c0 c1 hb5 hcur
      go_wp2_with fail
      have i1 : (a : Int) ≤ (b : Int) := by have := HAB.out; omega
      have i2 : (b : Int) ≤ (s.size : Int) := by have := HB.out; omega
      have HFB : Hid (b = A) := by have h := far_end p s b (by omega); exact h.symm.trans HF.out
      go_quiet (fail)
      go_wp2_with fail
      go_ret
      have hbn := HFB.out
      subst hbn
      exact ⟨rfl, HCU.out.below (below_drewN' _ _), HKB.out.trans (Keep.of_below (below_drewN' _ _))⟩
end Go.Proofs.YtbhnfnbnngclmaaGreatDoor
