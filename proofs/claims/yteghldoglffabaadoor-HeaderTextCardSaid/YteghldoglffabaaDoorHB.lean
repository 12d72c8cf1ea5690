import Derived.Test.YteghldoglffabaaDoorHA
namespace Go.Proofs.YteghldoglffabaaDoor
open Go.RowKit

theorem wc_true (c : UInt8) (h : Hd.wc c = true) : ¬ (c.toNat : Int) < 33 ∧ ¬ (126 : Int) < (c.toNat : Int) ∧ ((c.toNat : Int) == 44) = false ∧ ((c.toNat : Int) == 59) = false := by
  rw [wc_int] at h
  simp only [Bool.and_eq_true, Bool.not_eq_true', decide_eq_true_eq] at h
  exact ⟨by omega, by omega, h.1.2, h.2⟩
theorem wc_false (c : UInt8) (h : Hd.wc c = false) : (c.toNat : Int) < 33 ∨ (¬ (c.toNat : Int) < 33 ∧ (126 : Int) < (c.toNat : Int)) ∨ (c.toNat : Int) = 44 ∨ (c.toNat : Int) = 59 := by
  rcases Int.lt_or_le (c.toNat : Int) 33 with h1 | h1
  · exact Or.inl h1
  · rcases Int.lt_or_le (126 : Int) (c.toNat : Int) with h2 | h2
    · exact Or.inr (Or.inl ⟨by omega, h2⟩)
    · right; right
      by_cases h3 : (c.toNat : Int) = 44
      · exact Or.inl h3
      · by_cases h4 : (c.toNat : Int) = 59
        · exact Or.inr h4
        · exfalso
          rw [wc_int] at h
          simp [h3, h4] at h
          omega
set_option maxHeartbeats 1000000 in
/-- The reference's Word. -/
theorem ref_word_any (s : ByteArray) (w : World) (hs : s.size ≤ 10000000) : Calls Tryd.prog 43 #[.string s] w fun e w' => e = .returned (.bool (Hd.word s.data.toList)) ∧ w' = w := by
  have hem := empty_iff s
  obtain ⟨b, hb⟩ : ∃ b, b = s.data.toList.isEmpty := ⟨_, rfl⟩
  rw [← hb] at hem
  obtain ⟨r, hr⟩ : ∃ r, r = Hd.word s.data.toList := ⟨_, rfl⟩
  rw [← hr]
  have HE := Lib.hid hb; clear hb
  have HR := Lib.hid hr; clear hr
  go_enter Tryd.func43, Tryd.ntmps43
  go_wp2
  go_loopg [3] s.size (fun gk v wr => ∃ k : Nat, k + gk = s.size ∧ v = .int .i64 k ∧ Hid ((s.data.toList.take k).all Hd.wc = true) ∧ wr = w)
  case atStart => exact ⟨0, by omega, rfl, rfl, rfl⟩
  case round =>
    obtain ⟨k, hk, rfl, HA, rfl⟩ := hrel
    have HK := Lib.hid hk; clear hk
    by_cases hlt : k < s.size
    · have hsn := all_snoc Hd.wc s k hlt
      cases hpc : Hd.wc s[k] with
      | true =>
        obtain ⟨n1, n2, n3, n4⟩ := wc_true s[k] hpc
        rw [hpc] at hsn
        have HS := Lib.hid hsn; clear hsn hpc
        go_wp2
        go_roundg (gk - 1)
        case rel => have := HK.out; exact ⟨k + 1, by omega, by go_num, by show _ = _; rw [HS.out, HA.out]; rfl, rfl⟩
        case measure => have := HK.out; omega
      | false =>
        have HN : Hid (r = false) := by
          show r = false
          rw [HR.out, Hd.word, all_not Hd.wc s k hlt hpc]; rfl
        have hcs := wc_false s[k] hpc
        clear hsn hpc
        rcases hcs with n1 | ⟨n1, n2⟩ | n3 | n3
        all_goals
          go_wp2
          go_ret
          exact ⟨ret_bool HN.out.symm, rfl⟩
    · obtain rfl : k = s.size := by have := HK.out; omega
      have hall := HA.out
      rw [take_all] at hall
      have HF : Hid (r = !b) := by
        show r = !b
        rw [HR.out, Hd.word, hall, HE.out]; rfl
      clear hall
      go_wp2
      go_ret
      exact ⟨ret_bool (by rw [HF.out]), rfl⟩

theorem nc_true (c : UInt8) (h : Hd.nc c = true) : (c.toNat : Int) = 45 ∨ (¬ (c.toNat : Int) < 97 ∧ ¬ (122 : Int) < (c.toNat : Int)) ∨ ((c.toNat : Int) < 97 ∧ ¬ (c.toNat : Int) < 48 ∧ ¬ (57 : Int) < (c.toNat : Int)) := by
  rw [nc_int] at h
  simp only [Bool.or_eq_true, Bool.and_eq_true, decide_eq_true_eq, beq_iff_eq] at h
  omega
theorem nc_false (c : UInt8) (h : Hd.nc c = false) : ((c.toNat : Int) != 45) = true ∧ (((c.toNat : Int) < 97 ∧ (c.toNat : Int) < 48) ∨ ((c.toNat : Int) < 97 ∧ ¬ (c.toNat : Int) < 48 ∧ (57 : Int) < (c.toNat : Int)) ∨ (¬ (c.toNat : Int) < 97 ∧ (122 : Int) < (c.toNat : Int) ∧ ¬ (c.toNat : Int) < 48 ∧ (57 : Int) < (c.toNat : Int))) := by
  rw [nc_int] at h
  simp only [Bool.or_eq_false_iff, Bool.and_eq_false_iff, decide_eq_false_iff_not, beq_eq_false_iff_ne] at h
  refine ⟨by simp; omega, by omega⟩
set_option maxHeartbeats 1000000 in
/-- The reference's Name. -/
theorem ref_name_any (s : ByteArray) (w : World) (hs : s.size ≤ 10000000) : Calls Tryd.prog 44 #[.string s] w fun e w' => e = .returned (.bool (Hd.name s.data.toList)) ∧ w' = w := by
  obtain ⟨r, hr⟩ : ∃ r, r = Hd.name s.data.toList := ⟨_, rfl⟩
  rw [← hr]
  have HR := Lib.hid hr; clear hr
  have hemp : s.data.toList.isEmpty = decide (s.size = 0) := by
    rw [← size_len]
    cases s.data.toList <;> simp
  have HEMP := Lib.hid hemp; clear hemp
  by_cases h0 : s.size < 1
  · have HN : Hid (r = false) := by show r = false; rw [HR.out, Hd.name, HEMP.out, decide_eq_true (show s.size = 0 by omega)]; simp
    have hi : (s.size : Int) < 1 := by omega
    clear h0
    go_enter Tryd.func44, Tryd.ntmps44
    go_wp2
    go_ret
    exact ⟨ret_bool HN.out.symm, rfl⟩
  by_cases h40 : 40 < s.size
  · have HN : Hid (r = false) := by show r = false; rw [HR.out, Hd.name, size_len, decide_eq_false (show ¬ s.size ≤ 40 by omega)]; rfl
    have hi : ¬ (s.size : Int) < 1 := by omega
    have hi2 : (40 : Int) < (s.size : Int) := by omega
    clear h0 h40
    go_enter Tryd.func44, Tryd.ntmps44
    go_wp2
    go_ret
    exact ⟨ret_bool HN.out.symm, rfl⟩
  have hi : ¬ (s.size : Int) < 1 := by omega
  have hi2 : ¬ (40 : Int) < (s.size : Int) := by omega
  have HRN : Hid (r = s.data.toList.all Hd.nc) := by
    show r = _
    rw [HR.out, Hd.name, size_len, HEMP.out, decide_eq_true (show s.size ≤ 40 by omega), decide_eq_false (show ¬ s.size = 0 by omega)]; simp
  clear h0 h40
  go_enter Tryd.func44, Tryd.ntmps44
  go_wp2
  go_loopg [3] s.size (fun gk v wr => ∃ k : Nat, k + gk = s.size ∧ v = .int .i64 k ∧ Hid ((s.data.toList.take k).all Hd.nc = true) ∧ wr = w)
  case atStart => exact ⟨0, by omega, rfl, rfl, rfl⟩
  case round =>
    obtain ⟨k, hk, rfl, HA, rfl⟩ := hrel
    have HK := Lib.hid hk; clear hk
    by_cases hlt : k < s.size
    · have hsn := all_snoc Hd.nc s k hlt
      cases hpc : Hd.nc s[k] with
      | true =>
        have hcs := nc_true s[k] hpc
        rw [hpc] at hsn
        have HS := Lib.hid hsn; clear hsn hpc
        rcases hcs with n1 | ⟨n1, n2⟩ | ⟨n1, n2, n3⟩
        all_goals
          go_wp2
          go_roundg (gk - 1)
          case rel => have := HK.out; exact ⟨k + 1, by omega, by go_num, by show _ = _; rw [HS.out, HA.out]; rfl, rfl⟩
          case measure => have := HK.out; omega
      | false =>
        have HN : Hid (r = false) := by show r = false; rw [HRN.out]; exact all_not Hd.nc s k hlt hpc
        obtain ⟨n0, hcs⟩ := nc_false s[k] hpc
        clear hsn hpc
        rcases hcs with ⟨n1, n2⟩ | ⟨n1, n2, n3⟩ | ⟨n1, n2, n3, n4⟩
        all_goals
          go_wp2
          go_ret
          exact ⟨ret_bool HN.out.symm, rfl⟩
    · obtain rfl : k = s.size := by have := HK.out; omega
      have hall := HA.out
      rw [take_all] at hall
      have HF : Hid (r = true) := by show r = true; rw [HRN.out]; exact hall
      clear hall
      go_wp2
      go_ret
      exact ⟨ret_bool HF.out.symm, rfl⟩
end Go.Proofs.YteghldoglffabaaDoor
