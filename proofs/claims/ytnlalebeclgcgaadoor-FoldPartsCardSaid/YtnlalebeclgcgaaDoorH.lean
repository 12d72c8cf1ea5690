import Derived.Test.YtnlalebeclgcgaaDoorG
namespace Go.Proofs.YtnlalebeclgcgaaDoor
open Go.RowKit

set_option maxRecDepth 100000 in
set_option maxHeartbeats 2000000 in
theorem law_alike_any (s t u : ByteArray) (w : World) (hs : s.size ≤ 9223372036854775807) (ht : t.size ≤ 9223372036854775807) (hu : u.size ≤ 9223372036854775807) : Calls Tryd.prog 7 #[.string s, .string t, .string u] w (True1 w) := by
  by_cases h1 : 5000 < s.size
  · go_enter Tryd.func7, Tryd.ntmps7
    go_wp2
    go_ret
    exact ⟨rfl, Below.refl _ _⟩
  by_cases h2 : 5000 < t.size
  · go_enter Tryd.func7, Tryd.ntmps7
    go_wp2
    go_ret
    exact ⟨rfl, Below.refl _ _⟩
  by_cases h3 : 5000 < u.size
  · go_enter Tryd.func7, Tryd.ntmps7
    go_wp2
    go_ret
    exact ⟨rfl, Below.refl _ _⟩
  have c1 := Lib.hid (fun w' => same_any s t w' (by omega) (by omega))
  have c2 := Lib.hid (fun w' => same_any t u w' (by omega) (by omega))
  have c3 := Lib.hid (fun w' => same_any t s w' (by omega) (by omega))
  have c4 := Lib.hid (fun w' => same_any s u w' (by omega) (by omega))
  have c5 := Lib.hid (fun w' => same_any s s w' (by omega) (by omega))
  rw [show decide (Fo.lower s.data.toList = Fo.lower s.data.toList) = true by simp] at c5
  rw [show decide (Fo.lower t.data.toList = Fo.lower s.data.toList) = decide (Fo.lower s.data.toList = Fo.lower t.data.toList) by simp [eq_comm]] at c3
  by_cases hx : Fo.lower s.data.toList = Fo.lower t.data.toList
  · have hlen : ((s.size : Int) == (t.size : Int)) = true := by
      have := congrArg List.length hx
      rw [Fo.lower_length, Fo.lower_length, size_len, size_len] at this
      rw [this]; simp
    rw [show decide (Fo.lower s.data.toList = Fo.lower t.data.toList) = true by simp [hx]] at c1 c3
    by_cases hy : Fo.lower t.data.toList = Fo.lower u.data.toList
    · rw [show decide (Fo.lower t.data.toList = Fo.lower u.data.toList) = true by simp [hy]] at c2
      rw [show decide (Fo.lower s.data.toList = Fo.lower u.data.toList) = true by simp [hx, hy]] at c4
      clear hx hy
      go_enter Tryd.func7, Tryd.ntmps7
      go_wp2_with fail
      refine (c1.out _).mono ?_
      rintro e w1 ⟨rfl, hb1⟩
      go_wp2_with fail
      refine (c2.out _).mono ?_
      rintro e w2 ⟨rfl, hb2⟩
      go_wp2_with fail
      refine (folds_any _).mono ?_
      rintro e w3 ⟨rfl, hb3⟩
      go_wp2_with fail
      refine (c3.out _).mono ?_
      rintro e w4 ⟨rfl, hb4⟩
      go_wp2_with fail
      refine (c4.out _).mono ?_
      rintro e w5 ⟨rfl, hb5⟩
      go_wp2_with fail
      refine (c5.out _).mono ?_
      rintro e w6 ⟨rfl, hb6⟩
      go_wp2
      go_ret
      exact ⟨rfl, nx (nx (nx (nx (nx hb1 hb2) hb3) hb4) hb5) hb6⟩
    · rw [show decide (Fo.lower t.data.toList = Fo.lower u.data.toList) = false by simp [hy]] at c2
      clear hx hy c4
      go_enter Tryd.func7, Tryd.ntmps7
      go_wp2_with fail
      refine (c1.out _).mono ?_
      rintro e w1 ⟨rfl, hb1⟩
      go_wp2_with fail
      refine (c2.out _).mono ?_
      rintro e w2 ⟨rfl, hb2⟩
      go_wp2_with fail
      refine (folds_any _).mono ?_
      rintro e w3 ⟨rfl, hb3⟩
      go_wp2_with fail
      refine (c3.out _).mono ?_
      rintro e w4 ⟨rfl, hb4⟩
      go_wp2_with fail
      refine (c5.out _).mono ?_
      rintro e w6 ⟨rfl, hb6⟩
      go_wp2
      go_ret
      exact ⟨rfl, nx (nx (nx (nx hb1 hb2) hb3) hb4) hb6⟩
  · rw [show decide (Fo.lower s.data.toList = Fo.lower t.data.toList) = false by simp [hx]] at c1 c3
    obtain ⟨y, hy⟩ : ∃ y, y = decide (Fo.lower t.data.toList = Fo.lower u.data.toList) := ⟨_, rfl⟩
    rw [← hy] at c2
    clear hx hy c4
    go_enter Tryd.func7, Tryd.ntmps7
    go_wp2_with fail
    refine (c1.out _).mono ?_
    rintro e w1 ⟨rfl, hb1⟩
    go_wp2_with fail
    refine (c2.out _).mono ?_
    rintro e w2 ⟨rfl, hb2⟩
    go_wp2_with fail
    refine (folds_any _).mono ?_
    rintro e w3 ⟨rfl, hb3⟩
    go_wp2_with fail
    refine (c3.out _).mono ?_
    rintro e w4 ⟨rfl, hb4⟩
    go_wp2_with fail
    refine (c5.out _).mono ?_
    rintro e w6 ⟨rfl, hb6⟩
    go_wp2
    go_ret
    exact ⟨rfl, nx (nx (nx (nx hb1 hb2) hb3) hb4) hb6⟩

set_option maxRecDepth 100000 in
set_option maxHeartbeats 2000000 in
theorem law_texts_any (s t : ByteArray) (c : UInt8) (w : World) (hs : s.size ≤ 9223372036854775807) (ht : t.size ≤ 9223372036854775807) : Calls Tryd.prog 3 #[.string s, .string t, .int .u8 c.toNat] w (True1 w) := by
  by_cases h1 : 5000 < s.size
  · go_enter Tryd.func3, Tryd.ntmps3
    go_wp2
    go_ret
    exact ⟨rfl, Below.refl _ _⟩
  by_cases h2 : 5000 < t.size
  · go_enter Tryd.func3, Tryd.ntmps3
    go_wp2
    go_ret
    exact ⟨rfl, Below.refl _ _⟩
  have c8 := Lib.hid (fun w' => lower_any s w' (by omega))
  have c9 := Lib.hid (fun w' => ref_lower_any s w' (by omega))
  have c9t := Lib.hid (fun w' => ref_lower_any t w' (by omega))
  have c10 := Lib.hid (fun w' => trim_any s w' (by omega))
  have c11 := Lib.hid (fun w' => ref_trim_any s w' (by omega))
  have c12 := Lib.hid (fun w' => same_any s t w' (by omega) (by omega))
  have c15 := Lib.hid (fun w' => words_any s w' (by omega))
  have c16 := Lib.hid (fun w' => ref_words_any s w' (by omega))
  have c17 := Lib.hid (fun w' => parts_any s c w' (by omega))
  have c18 := Lib.hid (fun w' => ref_parts_any s c w' (by omega))
  have c19 := Lib.hid (fun w' => blank_any c w')
  have c20 := Lib.hid (fun w' => ref_blank_any c w')
  have hw : (bs (Fo.words s.data.toList)).length ≤ 1000000 := by rw [bs_length]; have := Fo.words_length s.data.toList; rw [size_len] at this; omega
  have hp : (bs (Fo.parts c s.data.toList)).length ≤ 1000000 := by rw [bs_length, Fo.parts_length]; have := List.count_le_length (a := c) (l := s.data.toList); rw [size_len] at this; omega
  obtain ⟨D, hD⟩ : ∃ D : ByteArray, D = ⟨(Fo.lower s.data.toList).toArray⟩ := ⟨_, rfl⟩
  obtain ⟨E, hE⟩ : ∃ E : ByteArray, E = ⟨(Fo.lower t.data.toList).toArray⟩ := ⟨_, rfl⟩
  obtain ⟨T, hT⟩ : ∃ T : ByteArray, T = ⟨(Fo.trim s.data.toList).toArray⟩ := ⟨_, rfl⟩
  obtain ⟨W, hW⟩ : ∃ W, W = bs (Fo.words s.data.toList) := ⟨_, rfl⟩
  obtain ⟨P, hP⟩ : ∃ P, P = bs (Fo.parts c s.data.toList) := ⟨_, rfl⟩
  obtain ⟨X, hX⟩ : ∃ X, X = decide (Fo.lower s.data.toList = Fo.lower t.data.toList) := ⟨_, rfl⟩
  obtain ⟨b, hb⟩ : ∃ b, b = Fo.bl c := ⟨_, rfl⟩
  have hXe : (D.toList == E.toList) = X := by
    rw [Lib.toList_data, Lib.toList_data, hD, hE, hX, Bool.eq_iff_iff]
    simp
  rw [← hD] at c8 c9
  rw [← hE] at c9t
  rw [← hT] at c10 c11
  rw [← hX] at c12
  rw [← hW] at c15 c16 hw
  rw [← hP] at c17 c18 hp
  rw [← hb] at c19 c20
  have hqD : (D.toList == D.toList) = true := beq_self_eq_true _
  have hqT : (T.toList == T.toList) = true := beq_self_eq_true _
  have hqX : (X == X) = true := beq_self_eq_true _
  have hqb : (b == b) = true := beq_self_eq_true _
  clear hD hE hT hW hP hX hb
  go_enter Tryd.func3, Tryd.ntmps3
  go_wp2_with fail
  refine (c8.out _).mono ?_
  rintro e w1 ⟨rfl, hb1⟩
  go_wp2_with fail
  refine (c9.out _).mono ?_
  rintro e w2 ⟨rfl, hb2⟩
  go_wp2_with fail
  refine (c10.out _).mono ?_
  rintro e w3 ⟨rfl, hb3⟩
  go_wp2_with fail
  refine (c11.out _).mono ?_
  rintro e w4 ⟨rfl, rfl⟩
  go_wp2_with fail
  refine (c12.out _).mono ?_
  rintro e w5 ⟨rfl, hb5⟩
  go_wp2_with fail
  refine (c9.out _).mono ?_
  rintro e w6 ⟨rfl, hb6⟩
  go_wp2_with fail
  refine (c9t.out _).mono ?_
  rintro e w7 ⟨rfl, hb7⟩
  have B7 := Lib.hid (nx (nx (nx (nx (nx hb1 hb2) hb3) hb5) hb6) hb7)
  clear hb1 hb2 hb3 hb5 hb6 hb7
  go_wp2_with fail
  refine (folds_any _).mono ?_
  rintro e w8 ⟨rfl, hb8⟩
  go_wp2_with fail
  refine (c15.out _).mono ?_
  rintro e w9 ⟨A9, d9, rfl, _, _, r9, hb9⟩
  go_wp2_with fail
  refine (c16.out _).mono ?_
  rintro e w10 ⟨A10, d10, rfl, _, _, r10, hb10⟩
  go_wp2_with fail
  refine (texts_same A9 A10 _ d9 d10 W _ (r9.below hb10) r10 hw).mono ?_
  rintro e w11 ⟨rfl, hb11⟩
  have B11 := Lib.hid (nx (nx (nx (nx B7.out hb8) hb9) hb10) hb11)
  clear hb8 hb9 hb10 hb11 r9 r10
  go_wp2_with fail
  refine (c17.out _).mono ?_
  rintro e w12 ⟨A12, d12, rfl, _, _, r12, hb12⟩
  go_wp2_with fail
  refine (c18.out _).mono ?_
  rintro e w13 ⟨A13, d13, rfl, _, _, r13, hb13⟩
  go_wp2_with fail
  refine (texts_same A12 A13 _ d12 d13 P _ (r12.below hb13) r13 hp).mono ?_
  rintro e w14 ⟨rfl, hb14⟩
  have B14 := Lib.hid (nx (nx (nx B11.out hb12) hb13) hb14)
  clear hb12 hb13 hb14 r12 r13
  go_wp2_with fail
  refine (c19.out _).mono ?_
  rintro e w15 ⟨rfl, rfl⟩
  go_wp2_with fail
  refine (c20.out _).mono ?_
  rintro e w16 ⟨rfl, rfl⟩
  go_wp2
  go_ret
  exact ⟨rfl, B14.out⟩
end Go.Proofs.YtnlalebeclgcgaaDoor
