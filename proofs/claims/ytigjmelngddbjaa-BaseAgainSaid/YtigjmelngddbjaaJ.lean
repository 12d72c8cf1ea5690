import Derived.Test.YtigjmelngddbjaaI
namespace Go.Proofs.Ytigjmelngddbjaa
open Go.RowKit

theorem one_form : ∀ d : Fin 64, Bs.form [Bs.sg d.val] = true := by decide +kernel

theorem enc_parts (s t : ByteArray) (ht : t.data.toList = Bs.enc s.data.toList) : ∃ m : Nat, m + (3 - s.size % 3) % 3 = t.size ∧
    (∀ k (h : k < t.size), k < m → ((t[k].toNat : Int) == 61) = false ∧ ∀ j : Nat, j = k + 1 → Bs.form (t.extract k j).data.toList = true) ∧ (∀ k (h : k < t.size), ¬ k < m → t[k] = 61) := by
  have he := Bs.enc_eq s.data.toList
  rw [← ht] at he
  have hl := congrArg List.length he
  rw [List.length_append, List.length_map, Bs.pd, List.length_replicate, size_len, size_len] at hl
  refine ⟨(Bs.dg s.data.toList).length, hl.symm, fun k h hk => ?_, fun k h hk => ?_⟩
  · have h1 : t.data.toList[k]? = some (Bs.sg (Bs.dg s.data.toList)[k]) := by
      rw [he, List.getElem?_append_left (by rw [List.length_map]; exact hk), List.getElem?_map, List.getElem?_eq_getElem hk]; rfl
    rw [byte_at t k h] at h1
    have h1 := Option.some.inj h1
    have hd := Bs.dg_lt s.data.toList _ (List.getElem_mem hk)
    refine ⟨?_, fun j hj => ?_⟩
    · rw [beq_eq_false_iff_ne]
      intro e
      have : t[k] = 61 := by apply UInt8.toNat_inj.1; simpa using (by omega : t[k].toNat = 61)
      rw [h1] at this
      exact Bs.sg_ne _ hd this
    · subst hj
      rw [Lib.extract_data, Nat.add_sub_cancel_left, drop_cons t k h, h1]
      exact one_form ⟨_, hd⟩
  · have h1 : t.data.toList[k]? = some 61 := by
      rw [he, List.getElem?_append_right (by rw [List.length_map]; omega), Bs.pd, List.getElem?_replicate, if_pos (by rw [List.length_map]; rw [size_len]; omega)]
    rw [byte_at t k h] at h1
    exact Option.some.inj h1

set_option maxHeartbeats 2000000 in
theorem law_lengths_any (s : ByteArray) (w : World) (b : s.size ≤ 9223372036854775807) : Calls Try.prog 8 #[.string s] w (True1 w) := by
  by_cases h : 2000 < s.size
  · go_enter Try.func8, Try.ntmps8
    go_wp2
    go_ret
    exact ⟨rfl, Below.refl _ _⟩
  obtain ⟨t, ht, htz, hc⟩ := enc_str s w (by omega)
  obtain ⟨m, hm, hA, hB⟩ := enc_parts s t ht
  have hq1 : ((t.size : Int) == ((s.size : Int) + 2) / 3 * 4) = true := by rw [beq_iff_eq]; omega
  have htm : t.size ≤ 2672 := by omega
  have HTZ := Lib.hid htz; clear htz
  have HC := Lib.hid hc; clear hc
  have HM := Lib.hid hm; clear hm
  have HA := Lib.hid hA; clear hA
  have HB := Lib.hid hB; clear hB
  have HT := Lib.hid ht; clear ht
  go_enter Try.func8, Try.ntmps8
  go_wp2_with fail
  refine (HC.out).mono ?_
  rintro e w1 ⟨rfl, hb1⟩
  go_wp2
  go_loopg [5, 4] t.size (fun gk i n wr => ∃ k : Nat, k + gk = t.size ∧ i = .int .i64 k ∧ n = .int .i64 (k - m : Nat) ∧ w1 = wr)
  case atStart => exact ⟨0, by omega, rfl, by simp, rfl⟩
  case round =>
    obtain ⟨k, hk, rfl, rfl, rfl⟩ := hrel
    have HK := Lib.hid hk; clear hk
    by_cases hlt : k < t.size
    · by_cases hkm : k < m
      · obtain ⟨e1, e2⟩ := HA.out k hlt hkm
        obtain ⟨z, hz⟩ : ∃ z, z = k - m := ⟨_, rfl⟩
        have hz0 : z = 0 := by omega
        rw [← hz, hz0]
        clear hz hz0 z
        have E2 := Lib.hid e2; clear e2
        go_wp2_with fail
        refine (form_at _ true (E2.out _ (by omega)) ?_ _).mono ?_
        · rw [ByteArray.size_extract]; omega
        rintro e w2 ⟨rfl, rfl⟩
        go_wp2
        go_roundg (gk - 1)
        case rel =>
          have hk := HK.out
          refine ⟨k + 1, by omega, by go_num, by rw [show k + 1 - m = 0 by omega]; rfl, rfl⟩
        case measure => have := HK.out; omega
      · have e1 := HB.out k hlt hkm
        have e2 : ((t[k].toNat : Int) == 61) = true := by rw [e1]; rfl
        clear e1
        have hkz : k - m ≤ 3000 := by omega
        obtain ⟨z, hz⟩ : ∃ z, z = k - m := ⟨_, rfl⟩
        rw [← hz] at hkz ⊢
        have HZ := Lib.hid hz; clear hz
        go_wp2
        go_roundg (gk - 1)
        case rel =>
          have hk := HK.out
          have hz := HZ.out
          refine ⟨k + 1, by omega, by go_num, ?_, rfl⟩
          rw [show k + 1 - m = z + 1 by omega]; go_num
        case measure => have := HK.out; omega
    · obtain rfl : k = t.size := by have := HK.out; omega
      have hz : t.size - m = (3 - s.size % 3) % 3 := by have := HM.out; omega
      rw [hz]
      obtain ⟨z, hz'⟩ : ∃ z, z = (3 - s.size % 3) % 3 := ⟨_, rfl⟩
      rw [← hz']
      have q2 : z ≤ 2 := by omega
      have q3 : (((s.size : Int) + z) % 3 == 0) = true := by rw [beq_iff_eq]; omega
      clear hz hz'
      go_wp2_with fail
      refine (codes_any _).mono ?_
      rintro e w2 ⟨rfl, hb2⟩
      go_wp2
      go_ret
      exact ⟨rfl, nx hb1 hb2⟩
end Go.Proofs.Ytigjmelngddbjaa
