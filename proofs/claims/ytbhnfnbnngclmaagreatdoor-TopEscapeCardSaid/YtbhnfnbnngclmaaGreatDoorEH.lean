/- The questions that are asked of a byte. -/
import Derived.Test.YtbhnfnbnngclmaaGreatDoorEG
namespace Go.Proofs.YtbhnfnbnngclmaaGreatDoor
open Go.RowKit
set_option maxRecDepth 100000

theorem ne_true {c d : UInt8} {n : Nat} (hd : d.toNat = n) (h : c ≠ d) : (((c.toNat : Nat) : Int) != (n : Int)) = true := by
  have : c.toNat ≠ n := fun e => h (UInt8.toNat_inj.1 (e.trans hd.symm))
  simp; omega
theorem eq_false {c d : UInt8} {n : Nat} (hd : d.toNat = n) (h : c ≠ d) : (((c.toNat : Nat) : Int) == (n : Int)) = false := by
  have : c.toNat ≠ n := fun e => h (UInt8.toNat_inj.1 (e.trans hd.symm))
  simp; omega
theorem says_lt : Says 21 (fun c => c != 60) := by
  intro c w
  by_cases h : c = 60
  · subst h
    go_enter Tryz.func21, Tryz.ntmps21
    go_wp2_with fail
    go_ret
    exact ⟨rfl, Below.refl _ _⟩
  · have h1 : (((c.toNat : Nat) : Int) != 60) = true := ne_true (n := 60) rfl h
    have HR : Hid ((c != 60) = true) := by show _ = _; simpa using h
    clear h
    go_enter Tryz.func21, Tryz.ntmps21
    go_wp2_with fail
    go_ret
    exact ⟨ret_bool HR.out.symm, Below.refl _ _⟩
theorem says_blank : Says 52 Fo.bl := fun c w => (blank_any c w).mono fun _ _ h => ⟨h.1, by rw [h.2]; exact Below.refl _ _⟩
theorem says_name : Says 51 (fun c => !Fo.bl c && c != 47 && c != 62) := by
  intro c w
  have cb := blank_any c w
  obtain ⟨q, hq⟩ : ∃ q, q = Fo.bl c := ⟨_, rfl⟩
  obtain ⟨r, hr⟩ : ∃ r, r = (!Fo.bl c && c != 47 && c != 62) := ⟨_, rfl⟩
  rw [← hq] at cb
  show Calls _ _ _ _ fun e w' => e = .returned (.bool (!Fo.bl c && c != 47 && c != 62)) ∧ _
  rw [← hr]
  rw [← hq] at hr
  have CB := Lib.hid cb
  have HR := Lib.hid hr
  clear cb hq hr
  cases q
  · by_cases h : c = 47
    · have HF : Hid (r = false) := by show _ = _; rw [HR.out, h]; rfl
      have h1 : (((c.toNat : Nat) : Int) != 47) = false := by rw [h]; rfl
      clear h
      go_enter Tryz.func51, Tryz.ntmps51
      go_wp2_with fail
      with_reducible refine CB.out.mono ?_
      rintro e w1 ⟨rfl, rfl⟩
      go_wp2_with fail
      go_ret
      exact ⟨ret_bool HF.out.symm, Below.refl _ _⟩
    · have h1 : (((c.toNat : Nat) : Int) != 47) = true := ne_true (n := 47) rfl h
      have HF : Hid (r = (c != 62)) := by show _ = _; rw [HR.out]; simp [h]
      clear h
      by_cases h : c = 62
      · have h2 : (((c.toNat : Nat) : Int) != 62) = false := by rw [h]; rfl
        have HG : Hid (r = false) := by show _ = _; rw [HF.out, h]; rfl
        clear h
        go_enter Tryz.func51, Tryz.ntmps51
        go_wp2_with fail
        with_reducible refine CB.out.mono ?_
        rintro e w1 ⟨rfl, rfl⟩
        go_wp2_with fail
        go_ret
        exact ⟨ret_bool HG.out.symm, Below.refl _ _⟩
      · have h2 : (((c.toNat : Nat) : Int) != 62) = true := ne_true (n := 62) rfl h
        have HG : Hid (r = true) := by show _ = _; rw [HF.out]; simpa using h
        clear h
        go_enter Tryz.func51, Tryz.ntmps51
        go_wp2_with fail
        with_reducible refine CB.out.mono ?_
        rintro e w1 ⟨rfl, rfl⟩
        go_wp2_with fail
        go_ret
        exact ⟨ret_bool HG.out.symm, Below.refl _ _⟩
  · have HF : Hid (r = false) := by show _ = _; rw [HR.out]; rfl
    go_enter Tryz.func51, Tryz.ntmps51
    go_wp2_with fail
    with_reducible refine CB.out.mono ?_
    rintro e w1 ⟨rfl, rfl⟩
    go_wp2_with fail
    go_ret
    exact ⟨ret_bool HF.out.symm, Below.refl _ _⟩
theorem says_attr : Says 68 (fun c => !Fo.bl c && !(c == 47 || c == 62 || c == 61)) := by
  intro c w
  have cb := blank_any c w
  have ci := Tryz.strings_IndexByte ⟨#[47, 62, 61]⟩ c.toNat w
  obtain ⟨q, hq⟩ : ∃ q, q = Fo.bl c := ⟨_, rfl⟩
  obtain ⟨r, hr⟩ : ∃ r, r = (!Fo.bl c && !(c == 47 || c == 62 || c == 61)) := ⟨_, rfl⟩
  have hi : (Lib.indexByte (⟨#[47, 62, 61]⟩ : ByteArray).data.toList ((c.toNat : Nat) : Int).toNat.toUInt8 < 0) ↔ (c == 47 || c == 62 || c == 61) = false := by
    rw [show ((c.toNat : Nat) : Int).toNat.toUInt8 = c by rw [Int.toNat_natCast]; exact UInt8.ofNat_toNat]
    constructor
    · intro h
      by_cases hm : c ∈ [(47 : UInt8), 62, 61]
      · exfalso
        simp only [List.mem_cons, List.not_mem_nil, or_false] at hm
        rcases hm with rfl | rfl | rfl <;> revert h <;> decide
      · simp only [List.mem_cons, List.not_mem_nil, or_false, not_or] at hm
        simp [hm]
    · intro h
      rw [En.indexByte_no (by simp only [Bool.or_eq_false_iff, beq_eq_false_iff_ne] at h; simp [h])]
      decide
  obtain ⟨k, hk⟩ : ∃ k, k = Lib.indexByte (⟨#[47, 62, 61]⟩ : ByteArray).data.toList ((c.toNat : Nat) : Int).toNat.toUInt8 := ⟨_, rfl⟩
  rw [← hk] at ci hi
  rw [← hq] at cb
  show Calls _ _ _ _ fun e w' => e = .returned (.bool (!Fo.bl c && !(c == 47 || c == 62 || c == 61))) ∧ _
  rw [← hr]
  rw [← hq] at hr
  have CB := Lib.hid cb
  have CI := Lib.hid ci
  have HR := Lib.hid hr
  have HI := Lib.hid hi
  clear cb ci hq hr hi hk
  cases q
  · have HF : Hid (r = decide (k < 0)) := by
      show _ = _
      rw [HR.out, Bool.eq_iff_iff, decide_eq_true_eq, HI.out]
      simp
    go_enter Tryz.func68, Tryz.ntmps68
    go_wp2_with fail
    with_reducible refine CB.out.mono ?_
    rintro e w1 ⟨rfl, hw⟩
    obtain rfl : w = w1 := hw.symm
    go_wp2_with fail
    with_reducible refine CI.out.mono ?_
    rintro e w1 ⟨rfl, hw⟩
    obtain rfl : w = w1 := hw.symm
    go_wp2_with fail
    go_ret
    exact ⟨ret_bool HF.out.symm, Below.refl _ _⟩
  · have HF : Hid (r = false) := by show _ = _; rw [HR.out]; rfl
    go_enter Tryz.func68, Tryz.ntmps68
    go_wp2_with fail
    with_reducible refine CB.out.mono ?_
    rintro e w1 ⟨rfl, rfl⟩
    go_wp2_with fail
    go_ret
    exact ⟨ret_bool HF.out.symm, Below.refl _ _⟩
end Go.Proofs.YtbhnfnbnngclmaaGreatDoor
