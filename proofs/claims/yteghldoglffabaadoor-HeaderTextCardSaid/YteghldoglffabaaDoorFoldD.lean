import Derived.Test.YteghldoglffabaaDoorFoldC
namespace Go.Proofs.YteghldoglffabaaDoor
open Go.RowKit

theorem trim_cut (l : List UInt8) (k t : Nat) (h : k ≤ t) (ht : t ≤ l.length) (h1 : ∀ (j : Nat) b, j < k → l[j]? = some b → Fo.bl b = true) (h2 : ∀ (j : Nat) b, t ≤ j → l[j]? = some b → Fo.bl b = true)
    (h3 : k < t → (∀ b, l[k]? = some b → Fo.bl b = false) ∧ ∀ b, l[t - 1]? = some b → Fo.bl b = false) : Fo.trim l = (l.take t).drop k := by
  unfold Fo.trim Lib.trimS
  rcases Nat.lt_or_ge k t with hkt | hkt
  · rw [Lib.trimRightS_take l Fo.cut t ht (fun j b hj hb => by rw [Fo.cut_bl]; exact h2 j b hj hb) (fun b _ hb => by rw [Fo.cut_bl]; exact (h3 hkt).2 b hb)]
    rw [Lib.trimLeftS_drop (l.take t) Fo.cut k (by rw [List.length_take]; omega) (fun j b hj hb => by
      rw [List.getElem?_take] at hb
      split at hb
      · rw [Fo.cut_bl]; exact h1 j b hj hb
      · cases hb) (fun b hb => by
      rw [List.getElem?_take, if_pos hkt] at hb
      rw [Fo.cut_bl]; exact (h3 hkt).1 b hb)]
  · obtain rfl : k = t := by omega
    rw [Lib.trimRightS_take l Fo.cut 0 (Nat.zero_le _) (fun j b _ hb => by
      rw [Fo.cut_bl]
      rcases Nat.lt_or_ge j k with h | h
      · exact h1 j b h hb
      · exact h2 j b h hb) (fun b h0 => absurd h0 (by omega))]
    rw [List.take_zero, List.drop_eq_nil_of_le (by rw [List.length_take]; omega)]
    rfl
theorem slice_data (s : ByteArray) (a b : Nat) : (s.extract a b).data.toList = (s.data.toList.take b).drop a := Fo.extract_piece s a b

set_option maxHeartbeats 1000000 in
/-- The reference's Trim. -/
theorem ref_trim_any (s : ByteArray) (w : World) (hs : s.size ≤ 10000000) : Calls Tryd.prog 41 #[.string s] w fun e w' => e = .returned (.string ⟨(Fo.trim s.data.toList).toArray⟩) ∧ w' = w := by
  go_enter Tryd.func41, Tryd.ntmps41
  go_wp2
  go_loopg [3] s.size (fun gk i wr => ∃ k : Nat, k + gk = s.size ∧ i = .int .i64 k ∧ Hid (∀ (j : Nat) b, j < k → s.data.toList[j]? = some b → Fo.bl b = true) ∧ wr = w)
  case atStart => exact ⟨0, by omega, rfl, (fun j b hj => absurd hj (by omega)), rfl⟩
  case round =>
    obtain ⟨k, hk, rfl, HA, hwr⟩ := hrel
    obtain ⟨w1, rfl⟩ : ∃ w1, w1 = wr := ⟨_, rfl⟩
    subst hwr
    have HK := Lib.hid hk; clear hk
    have hks : k ≤ s.size := by have := HK.out; omega
    by_cases hlt : k < s.size
    · cases hb : Fo.bl s[k] with
      | true =>
        have C := Lib.hid (ref_blank_any s[k])
        rw [hb] at C
        have HB := Lib.hid hb; clear hb
        go_wp2_with fail
        refine (C.out _).mono ?_
        rintro e w1 ⟨rfl, rfl⟩
        go_wp2
        go_roundg (gk - 1)
        case rel =>
          have := HK.out
          refine ⟨k + 1, by omega, by go_num, fun j b hj hjb => ?_, rfl⟩
          rcases Nat.lt_or_ge j k with h | h
          · exact HA.out j b h hjb
          · obtain rfl : j = k := by omega
            rw [byte_at s j hlt] at hjb
            injection hjb with hjb; rw [← hjb]; exact HB.out
        case measure => have := HK.out; omega
      | false =>
        have C := Lib.hid (ref_blank_any s[k])
        rw [hb] at C
        have HB := Lib.hid hb; clear hb
        go_wp2_with fail
        refine (C.out _).mono ?_
        rintro e w1 ⟨rfl, rfl⟩
        go_wp2
        have HE : Hid (k < s.size → ∀ b, s.data.toList[k]? = some b → Fo.bl b = false) := fun _ b hjb => by
          rw [byte_at s k hlt] at hjb; injection hjb with hjb; rw [← hjb]; exact HB.out
        go_loopg [4] (s.size - k) (fun gm v wr => ∃ t : Nat, t = k + gm ∧ v = .int .i64 t ∧ t ≤ s.size ∧ Hid (∀ (j : Nat) b, t ≤ j → s.data.toList[j]? = some b → Fo.bl b = true) ∧ wr = w1)
        case atStart => exact ⟨s.size, by omega, rfl, Nat.le_refl _, (fun j b hj hb => by have := (List.getElem?_eq_some_iff.1 hb).1; rw [size_len] at this; omega), rfl⟩
        case round =>
          obtain ⟨t, ht, rfl, hts, HB2, rfl⟩ := hrel
          have HT := Lib.hid ht; clear ht
          have hkt0 : k ≤ t := by have := HT.out; omega
          by_cases hkt : k < t
          · obtain ⟨m, rfl⟩ : ∃ m, t = m + 1 := ⟨t - 1, by omega⟩
            have hm : m < s.size := by omega
            have hme : ((m + 1 : Nat) : Int) - 1 = m := by omega
            have hgt : (k : Int) < ((m + 1 : Nat) : Int) := by omega
            cases hb2 : Fo.bl s[m] with
            | true =>
              have C2 := Lib.hid (ref_blank_any s[m])
              rw [hb2] at C2
              have HBM := Lib.hid hb2; clear hb2
              go_wp2_with fail
              refine (C2.out _).mono ?_
              rintro e w2 ⟨rfl, rfl⟩
              go_wp2
              go_roundg (gk - 1)
              case rel =>
                have := HT.out
                refine ⟨m, by omega, by go_num, by omega, fun j b hj hjb => ?_, rfl⟩
                rcases Nat.lt_or_ge m j with h | h
                · exact HB2.out j b (by omega) hjb
                · obtain rfl : j = m := by omega
                  rw [byte_at s j hm] at hjb
                  injection hjb with hjb; rw [← hjb]; exact HBM.out
              case measure => have := HT.out; omega
            | false =>
              have C2 := Lib.hid (ref_blank_any s[m])
              rw [hb2] at C2
              have hfin : Fo.trim s.data.toList = (s.data.toList.take (m + 1)).drop k := trim_cut _ k (m + 1) (by omega) (by rw [size_len]; exact hts) HA.out HB2.out
                (fun _ => ⟨fun b hb => HE.out (by omega) b hb, fun b hb => by rw [Nat.add_sub_cancel, byte_at s m hm] at hb; injection hb with hb; rw [← hb]; exact hb2⟩)
              have HF := Lib.hid hfin; clear hfin hb2
              go_wp2_with fail
              refine (C2.out _).mono ?_
              rintro e w2 ⟨rfl, rfl⟩
              go_wp2
              go_ret
              exact ⟨ret_str (by rw [HF.out, ← slice_data, mk_data']), rfl⟩
          · obtain rfl : t = k := by omega
            have hfin : Fo.trim s.data.toList = (s.data.toList.take t).drop t := trim_cut _ t t (Nat.le_refl _) (by rw [size_len]; exact hts) HA.out HB2.out (fun h => absurd h (by omega))
            have HF := Lib.hid hfin; clear hfin
            go_wp2
            go_ret
            exact ⟨ret_str (by rw [HF.out, List.drop_eq_nil_of_le (by rw [List.length_take]; omega)]; rfl), rfl⟩
    · have HE : Hid (k < s.size → ∀ b, s.data.toList[k]? = some b → Fo.bl b = false) := fun h => absurd h hlt
      go_wp2
      go_loopg [4] (s.size - k) (fun gm v wr => ∃ t : Nat, t = k + gm ∧ v = .int .i64 t ∧ t ≤ s.size ∧ Hid (∀ (j : Nat) b, t ≤ j → s.data.toList[j]? = some b → Fo.bl b = true) ∧ wr = w1)
      case atStart => exact ⟨s.size, by omega, rfl, Nat.le_refl _, (fun j b hj hb => by have := (List.getElem?_eq_some_iff.1 hb).1; rw [size_len] at this; omega), rfl⟩
      case round =>
        obtain ⟨t, ht, rfl, hts, HB2, rfl⟩ := hrel
        have HT := Lib.hid ht; clear ht
        have hkt0 : k ≤ t := by have := HT.out; omega
        by_cases hkt : k < t
        · exfalso; omega
        · obtain rfl : t = k := by omega
          have hfin : Fo.trim s.data.toList = (s.data.toList.take t).drop t := trim_cut _ t t (Nat.le_refl _) (by rw [size_len]; exact hts) HA.out HB2.out (fun h => absurd h (by omega))
          have HF := Lib.hid hfin; clear hfin
          go_wp2
          go_ret
          exact ⟨ret_str (by rw [HF.out, List.drop_eq_nil_of_le (by rw [List.length_take]; omega)]; rfl), rfl⟩
end Go.Proofs.YteghldoglffabaaDoor
