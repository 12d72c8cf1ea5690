/- The reference's Name. -/
import Derived.Test.YtpjakdekaolmeaaDoorRB
namespace Go.Proofs.YtpjakdekaolmeaaDoor
open Go.RowKit Go.Shelf

theorem one_byte (s : ByteArray) (k : Nat) (h : k < s.size) : (s.extract k (k + 1)).data.toList = [s[k]] := by
  rw [slice_data, take_snoc s k h, List.drop_append_of_le_length (by rw [List.length_take, size_len]; omega), List.drop_eq_nil_of_le (by rw [List.length_take, size_len]; omega)]; rfl
theorem sign_cases {x : Int} (h : (signs.any fun y => x == (y.toNat : Int)) = true) : x = 45 ∨ x = 35 ∨ x = 61 ∨ x = 95 ∨ x = 47 ∨ x = 64 ∨ x = 46 ∨ x = 37 := by
  simp [signs] at h
  omega
theorem sign_not {x : Int} (h : (signs.any fun y => x == (y.toNat : Int)) = false) : (x != 45) = true ∧ (x != 35) = true ∧ (x != 61) = true ∧ (x != 95) = true ∧ (x != 47) = true ∧ (x != 64) = true ∧ (x != 46) = true ∧ (x != 37) = true := by
  simp [signs] at h
  simp only [bne_iff_ne]
  omega
set_option maxHeartbeats 2000000 in
set_option maxRecDepth 100000 in
theorem ref_mname_any (s : ByteArray) (w : World) (hs : s.size ≤ 10000000) : Calls Tryd.prog 13 #[.string s] w fun e w' => e = .returned (.bool (mname s.data.toList)) ∧ Below w.heap.size w w' := by
  obtain ⟨r, hr⟩ : ∃ r, r = mname s.data.toList := ⟨_, rfl⟩
  rw [← hr]
  have hemp : s.data.toList.isEmpty = decide (s.size = 0) := by
    rw [← size_len]
    cases s.data.toList <;> simp
  have HR := Lib.hid hr
  have HEMP := Lib.hid hemp
  clear hr hemp
  by_cases h0 : s.size < 1
  · have HN : Hid (r = false) := by show r = false; rw [HR.out, mname, HEMP.out, decide_eq_true (show s.size = 0 by omega)]; simp
    have hi : (s.size : Int) < 1 := by omega
    clear h0
    go_enter Tryd.func13, Tryd.ntmps13
    go_wp2
    go_ret
    exact ⟨ret_bool HN.out.symm, Below.refl _ _⟩
  by_cases h40 : 40 < s.size
  · have HN : Hid (r = false) := by show r = false; rw [HR.out, mname, size_len, decide_eq_false (show ¬ s.size ≤ 40 by omega)]; rfl
    have hi : ¬ (s.size : Int) < 1 := by omega
    have hi2 : (40 : Int) < (s.size : Int) := by omega
    clear h0 h40
    go_enter Tryd.func13, Tryd.ntmps13
    go_wp2
    go_ret
    exact ⟨ret_bool HN.out.symm, Below.refl _ _⟩
  have hi : ¬ (s.size : Int) < 1 := by omega
  have hi2 : ¬ (40 : Int) < (s.size : Int) := by omega
  have HRN : Hid (r = s.data.toList.all mb) := by
    show r = _
    rw [HR.out, mname, size_len, HEMP.out, decide_eq_true (show s.size ≤ 40 by omega), decide_eq_false (show ¬ s.size = 0 by omega)]; simp
  clear h0 h40
  go_enter Tryd.func13, Tryd.ntmps13
  go_wp2
  go_loopg [3] s.size (fun gk v wr => ∃ k : Nat, k + gk = s.size ∧ v = .int .i64 k ∧ Hid ((s.data.toList.take k).all mb = true) ∧ Hid (Below w.heap.size w wr))
  case atStart => exact ⟨0, by omega, rfl, rfl, Below.refl _ _⟩
  case round =>
    obtain ⟨k, hk, rfl, HA, HB⟩ := hrel
    have HK := Lib.hid hk; clear hk
    by_cases hlt : k < s.size
    · have hsn := all_snoc mb s k hlt
      have hmi := mb_ref s[k]
      have hnot : mb s[k] = false → r = false := fun h => by rw [HRN.out]; exact all_not mb s k hlt h
      have hob := one_byte s k hlt
      have c27 := fun w' => ref_lower_any (s.extract k (k + 1)) w' (by rw [← size_len, hob]; simp)
      rw [hob] at c27
      obtain ⟨d, hd⟩ : ∃ d, d = Fo.lc s[k] := ⟨_, rfl⟩
      rw [show Fo.lower [s[k]] = [d] by rw [hd]; rfl] at c27
      rw [← hd] at hmi
      obtain ⟨B, hB⟩ : ∃ B : ByteArray, B = ⟨[d].toArray⟩ := ⟨_, rfl⟩
      rw [← hB] at c27
      have hBs : B.size = 1 := by rw [hB]; rfl
      have hB0 : 0 < B.size := by omega
      have hBd : B[0]'hB0 = d := by subst hB; rfl
      rw [← hBd] at hmi
      obtain ⟨x, hx⟩ : ∃ x : Int, x = ((B[0]'hB0).toNat : Int) := ⟨_, rfl⟩
      rw [← hx] at hmi
      have hxx : ((B[0]'hB0).toNat : Int) = x := hx.symm
      have C27 := Lib.hid c27
      have HSN := Lib.hid hsn
      have HMI := Lib.hid hmi
      have HNOT := Lib.hid hnot
      have good : mb s[k] = true → (s.data.toList.take (k + 1)).all mb = true := fun h => by rw [HSN.out, HA.out, h]; rfl
      have GOOD := Lib.hid good
      clear good hsn hmi hnot hob c27 hd hB hBd hx
      cases hsg : (signs.any fun y => x == (y.toNat : Int)) with
      | true =>
        have hcs := sign_cases hsg
        have HSG := Lib.hid hsg
        clear hsg
        rcases hcs with h | h | h | h | h | h | h | h
        all_goals
          have HX := Lib.hid h
          rw [h] at hxx
          clear h
          go_wp2_with fail
          with_reducible refine (C27.out _).mono ?_
          rintro e w1 ⟨rfl, hb1⟩
          go_wp2_with fail
          go_roundg (gk - 1)
          case measure => have := HK.out; omega
          case rel => have := HK.out; exact ⟨k + 1, by omega, by go_num, GOOD.out (by rw [HMI.out, HSG.out]; simp), nx HB.out hb1⟩
      | false =>
        obtain ⟨n1, n2, n3, n4, n5, n6, n7, n8⟩ := sign_not hsg
        have HSG := Lib.hid hsg
        clear hsg
        have key : (mb s[k] = true ∧ ((¬ x < 97 ∧ ¬ 122 < x) ∨ (x < 97 ∧ ¬ x < 48 ∧ ¬ 57 < x))) ∨ (mb s[k] = false ∧ ((x < 97 ∧ x < 48) ∨ (x < 97 ∧ ¬ x < 48 ∧ 57 < x) ∨ (¬ x < 97 ∧ 122 < x ∧ ¬ x < 48 ∧ 57 < x))) := by
          rw [HMI.out, HSG.out]
          by_cases h1 : 97 ≤ x ∧ x ≤ 122
          · exact .inl ⟨by simp [h1], .inl ⟨by omega, by omega⟩⟩
          · by_cases h2 : 48 ≤ x ∧ x ≤ 57
            · exact .inl ⟨by simp [h2], .inr ⟨by omega, by omega, by omega⟩⟩
            · refine .inr ⟨?_, by omega⟩
              rw [Bool.or_false, Bool.or_eq_false_iff]
              exact ⟨by simpa using fun h => by omega, by simpa using fun h => by omega⟩
        rcases key with ⟨hm, hc⟩ | ⟨hm, hc⟩
        · have HM := Lib.hid hm
          clear hm
          rcases hc with ⟨m1, m2⟩ | ⟨m1, m2, m3⟩
          all_goals
            go_wp2_with fail
            with_reducible refine (C27.out _).mono ?_
            rintro e w1 ⟨rfl, hb1⟩
            go_wp2_with fail
            go_roundg (gk - 1)
            case measure => have := HK.out; omega
            case rel => have := HK.out; exact ⟨k + 1, by omega, by go_num, GOOD.out HM.out, nx HB.out hb1⟩
        · have HF := Lib.hid (HNOT.out hm)
          clear hm
          rcases hc with ⟨m1, m2⟩ | ⟨m1, m2, m3⟩ | ⟨m1, m2, m3, m4⟩
          all_goals
            go_wp2_with fail
            with_reducible refine (C27.out _).mono ?_
            rintro e w1 ⟨rfl, hb1⟩
            go_wp2_with fail
            go_ret
            exact ⟨ret_bool HF.out.symm, nx HB.out hb1⟩
    · obtain rfl : k = s.size := by have := HK.out; omega
      have hall := HA.out
      rw [take_all] at hall
      have HF : Hid (r = true) := by show r = true; rw [HRN.out]; exact hall
      clear hall
      go_wp2
      go_ret
      exact ⟨ret_bool HF.out.symm, HB.out⟩
end Go.Proofs.YtpjakdekaolmeaaDoor
