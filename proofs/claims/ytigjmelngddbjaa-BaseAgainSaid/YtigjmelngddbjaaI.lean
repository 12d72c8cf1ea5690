import Derived.Test.YtigjmelngddbjaaH
import Derived.Test.YtigjmelngddbjaaG
import Derived.Laws.DeepStrings4
namespace Go.Proofs.Ytigjmelngddbjaa
open Go.RowKit

theorem law_encodes_any (s : ByteArray) (w : World) (b : s.size ≤ 9223372036854775807) : Calls Try.prog 3 #[.string s] w (True1 w) := by
  by_cases h : 2000 < s.size
  · go_enter Try.func3, Try.ntmps3
    go_wp2
    go_ret
    exact ⟨rfl, Below.refl _ _⟩
  go_enter Try.func3, Try.ntmps3
  go_wp2_with fail
  refine (codes_any _).mono ?_
  rintro e w1 ⟨rfl, hb1⟩
  go_wp2_with fail
  refine (enc_any s _ (by omega)).mono ?_
  rintro e w2 ⟨rfl, hb2⟩
  go_wp2_with fail
  refine (ref_enc_any s _ (by omega)).mono ?_
  rintro e w3 ⟨rfl, hb3⟩
  go_wp2
  go_ret
  exact ⟨rfl, nx (nx hb1 hb2) hb3⟩

theorem enc_str (s : ByteArray) (w : World) (hs : s.size ≤ 1000000000) : ∃ t : ByteArray, t.data.toList = Bs.enc s.data.toList ∧ t.size = (s.size + 2) / 3 * 4 ∧ Calls Try.prog 10 #[.string s] w fun e w' => e = .returned (.string t) ∧ Below w.heap.size w w' := by
  refine ⟨⟨(Bs.enc s.data.toList).toArray⟩, by simp, ?_, enc_any s w hs⟩
  rw [mk_size', Bs.enc_length, size_len]

theorem isEmpty_size (s : ByteArray) : s.data.toList.isEmpty = decide (s.size = 0) := by
  rw [← size_len]; cases s.data.toList <;> simp

set_option maxHeartbeats 1000000 in
theorem law_back_any (s : ByteArray) (w : World) (b : s.size ≤ 9223372036854775807) : Calls Try.prog 5 #[.string s] w (True1 w) := by
  by_cases h : 2000 < s.size
  · go_enter Try.func5, Try.ntmps5
    go_wp2
    go_ret
    exact ⟨rfl, Below.refl _ _⟩
  obtain ⟨t, ht, htz, hc⟩ := enc_str s w (by omega)
  have hd : ∀ w, Calls Try.prog 12 #[.string t] w fun e w' => e = .returned (.tuple #[.string s, .bool true]) ∧ Below w.heap.size w w' := dec_at t s (by rw [ht]; exact Bs.dec_enc _) (by omega)
  have hf : ∀ w, Calls Try.prog 14 #[.string t] w fun e w' => e = .returned (.bool (!s.toList.isEmpty)) ∧ w = w' := form_at t _ (by
    rw [ht, Bs.form_enc, Lib.toList_data]) (by omega)
  have h4 : ((t.size : Int) % 4 == 0) = true := by rw [beq_iff_eq]; omega
  have HT := Lib.hid ht; clear ht
  have HTZ := Lib.hid htz; clear htz
  have HC := Lib.hid hc; clear hc
  have HD := Lib.hid hd; clear hd
  have HF := Lib.hid hf; clear hf
  go_enter Try.func5, Try.ntmps5
  go_wp2_with fail
  refine (HC.out).mono ?_
  rintro e w1 ⟨rfl, hb1⟩
  go_wp2_with fail
  refine (HD.out _).mono ?_
  rintro e w2 ⟨rfl, hb2⟩
  go_wp2_with fail
  refine (codes_any _).mono ?_
  rintro e w3 ⟨rfl, hb3⟩
  go_wp2_with fail
  refine (HF.out _).mono ?_
  rintro e w4 ⟨rfl, rfl⟩
  go_wp2
  go_ret
  exact ⟨rfl, nx (nx hb1 hb2) hb3⟩

theorem mod3 {n : Nat} : ((n : Int) % 3 != 0) = !(n % 3 == 0) := by
  cases h : (n % 3 == 0)
  · simp at h ⊢; omega
  · simp at h ⊢; omega

set_option maxHeartbeats 1000000 in
theorem law_thirds_any (a b : ByteArray) (w : World) (ha : a.size ≤ 9223372036854775807) (hb : b.size ≤ 9223372036854775807) : Calls Try.prog 7 #[.string a, .string b] w (True1 w) := by
  by_cases h1 : 2000 < a.size
  · go_enter Try.func7, Try.ntmps7
    go_wp2_with fail
    refine (codes_any _).mono ?_
    rintro e w1 ⟨rfl, hb1⟩
    go_wp2
    go_ret
    exact ⟨rfl, hb1⟩
  by_cases h2 : 2000 < b.size
  · go_enter Try.func7, Try.ntmps7
    go_wp2_with fail
    refine (codes_any _).mono ?_
    rintro e w1 ⟨rfl, hb1⟩
    go_wp2
    go_ret
    exact ⟨rfl, hb1⟩
  by_cases h3 : a.size % 3 = 0
  · have h3' : ((a.size : Int) % 3 != 0) = false := by rw [bne_eq_false_iff_eq]; omega
    obtain ⟨ta, e1, _, _⟩ := enc_str a w (by omega)
    obtain ⟨tb, e2, _, _⟩ := enc_str b w (by omega)
    have c : ∀ w, Calls Try.prog 10 #[.string (a ++ b)] w fun e w' => e = .returned (.string (ta ++ tb)) ∧ Below w.heap.size w w' :=
      enc_at (a ++ b) _ (by rw [cat_data, cat_data, Bs.enc_append _ _ (by rw [size_len]; exact h3), e1, e2]) (by rw [ByteArray.size_append]; omega)
    have ca : ∀ w, Calls Try.prog 10 #[.string a] w fun e w' => e = .returned (.string ta) ∧ Below w.heap.size w w' := enc_at a ta e1.symm (by omega)
    have cb : ∀ w, Calls Try.prog 10 #[.string b] w fun e w' => e = .returned (.string tb) ∧ Below w.heap.size w w' := enc_at b tb e2.symm (by omega)
    have C := Lib.hid c; clear c h3 e1 e2
    have CA := Lib.hid ca; clear ca
    have CB := Lib.hid cb; clear cb
    go_enter Try.func7, Try.ntmps7
    go_wp2_with fail
    refine (codes_any _).mono ?_
    rintro e w1 ⟨rfl, hb1⟩
    go_wp2_with fail
    refine (C.out _).mono ?_
    rintro e w2 ⟨rfl, hb2⟩
    go_wp2_with fail
    refine (CA.out _).mono ?_
    rintro e w3 ⟨rfl, hb3⟩
    go_wp2_with fail
    refine (CB.out _).mono ?_
    rintro e w4 ⟨rfl, hb4⟩
    go_wp2
    go_ret
    exact ⟨rfl, nx (nx (nx hb1 hb2) hb3) hb4⟩
  · have h3' : ((a.size : Int) % 3 != 0) = true := by rw [bne_iff_ne]; omega
    clear h3
    go_enter Try.func7, Try.ntmps7
    go_wp2_with fail
    refine (codes_any _).mono ?_
    rintro e w1 ⟨rfl, hb1⟩
    go_wp2
    go_ret
    exact ⟨rfl, hb1⟩
end Go.Proofs.Ytigjmelngddbjaa
