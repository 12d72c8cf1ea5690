import Derived.Test.YtigjmelngddbjaaB
namespace Go.Proofs.Ytigjmelngddbjaa
open Go.RowKit

theorem dec_bad (l : List UInt8) (w : World) (hsz : l.length ≤ 1000000000) (h0 : l ≠ []) (hbad : Bs.bad l = true) :
    Calls Try.prog 12 #[.string ⟨l.toArray⟩] w (DecOut none w) := by
  have e0 : (l == []) = false := by rw [beq_eq_false_iff_ne]; exact h0
  have e1 : l.isEmpty = false := by cases l with | nil => exact absurd rfl h0 | cons => rfl
  clear h0
  cases hf : Bs.form l with
  | false =>
    have HF := Lib.hid hf; clear hf
    clear hbad
    go_enter Try.func12, Try.ntmps12
    go_wp2_with fail
    refine (head_any _ _ ?_).mono ?_
    · rw [← size_len]; exact Nat.le_trans (show _ ≤ 1000000000 from hsz) (by decide)
    rintro e w' ⟨rfl, rfl⟩
    go_wp2_with fail
    refine (form_any _ _ ?_).mono ?_
    · rw [← size_len]; exact hsz
    rw [HF.out]
    rintro e w' ⟨rfl, rfl⟩
    go_wp2
    go_ret2
    exact ⟨rfl, Below.refl _ _⟩
  | true =>
    by_cases h1 : (((Bs.hd l).length : Int) % 4 == 1) = true
    · have HF := Lib.hid hf; clear hf
      clear hbad
      go_enter Try.func12, Try.ntmps12
      go_wp2_with fail
      refine (head_any _ _ ?_).mono ?_
      · rw [← size_len]; exact Nat.le_trans (show _ ≤ 1000000000 from hsz) (by decide)
      rintro e w' ⟨rfl, rfl⟩
      go_wp2_with fail
      refine (form_any _ _ ?_).mono ?_
      · rw [← size_len]; exact hsz
      rw [HF.out]
      rintro e w' ⟨rfl, rfl⟩
      go_wp2
      go_ret2
      exact ⟨rfl, Below.refl _ _⟩
    · have h1' : (((Bs.hd l).length : Int) % 4 == 1) = false := by simpa using h1
      have h2 : (Bs.hd l == l) = false ∧ ((l.length : Int) % 4 != 0) = true := by
        unfold Bs.bad at hbad
        rw [hf, show ((Bs.hd l).length % 4 == 1) = false by rw [beq_eq_false_iff_ne] at h1' ⊢; omega] at hbad
        simp at hbad
        exact ⟨by rw [beq_eq_false_iff_ne]; exact hbad.1, by rw [bne_iff_ne]; have := hbad.2; omega⟩
      obtain ⟨g2, g3⟩ := h2
      have HF := Lib.hid hf; clear hf
      clear hbad h1
      go_enter Try.func12, Try.ntmps12
      go_wp2_with fail
      refine (head_any _ _ ?_).mono ?_
      · rw [← size_len]; exact Nat.le_trans (show _ ≤ 1000000000 from hsz) (by decide)
      rintro e w' ⟨rfl, rfl⟩
      go_wp2_with fail
      refine (form_any _ _ ?_).mono ?_
      · rw [← size_len]; exact hsz
      rw [HF.out]
      rintro e w' ⟨rfl, rfl⟩
      go_wp2
      go_ret2
      exact ⟨rfl, Below.refl _ _⟩

theorem dec_empty (w : World) : Calls Try.prog 12 #[.string ⟨#[]⟩] w (DecOut (some []) w) := by
  go_enter Try.func12, Try.ntmps12
  go_wp2_with fail
  refine (head_any _ _ (by decide)).mono ?_
  rintro e w' ⟨rfl, rfl⟩
  go_wp2
  go_ret2
  exact ⟨rfl, Below.refl _ _⟩

theorem dec_mk (l : List UInt8) (w : World) (hsz : l.length ≤ 1000000000) : Calls Try.prog 12 #[.string ⟨l.toArray⟩] w (DecOut (Bs.dec l) w) := by
  by_cases h0 : l = []
  · subst h0; exact dec_empty w
  cases hbad : Bs.bad l with
  | true =>
    have : Bs.dec l = none := by unfold Bs.dec; rw [if_neg h0, hbad]; rfl
    rw [this]
    exact dec_bad l w hsz h0 hbad
  | false =>
    obtain ⟨k, _, hk⟩ := Bs.hd_eq l
    have hlen := congrArg List.length hk
    rw [List.length_append] at hlen
    exact dec_loop ⟨(Bs.hd l).toArray⟩ l w (by rw [mk_size']; omega) (by simp) hsz h0 hbad
/-- Decode: a text is decoded, or refused. -/
theorem dec_any (s : ByteArray) (w : World) (hsz : s.size ≤ 1000000000) : Calls Try.prog 12 #[.string s] w (DecOut (Bs.dec s.data.toList) w) := by
  have h := dec_mk s.data.toList w (by rw [size_len]; exact hsz)
  rwa [mk_data'] at h
end Go.Proofs.Ytigjmelngddbjaa
