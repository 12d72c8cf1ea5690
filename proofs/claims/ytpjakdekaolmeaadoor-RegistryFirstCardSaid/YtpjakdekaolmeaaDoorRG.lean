/- The reference's lets. -/
import Derived.Test.YtpjakdekaolmeaaDoorRF
namespace Go.Proofs.YtpjakdekaolmeaaDoor
open Go.RowKit Go.Shelf

theorem star_is (x : ByteArray) : (x.toList == [42]) = decide (x = starB) := by
  rw [Lib.toList_data, Bool.eq_iff_iff, beq_iff_eq, decide_eq_true_eq]
  exact ⟨fun h => ByteArray.ext (Array.toList_inj.1 h), fun h => by rw [h]; rfl⟩
theorem text_is (x y : ByteArray) : (x.toList == y.toList) = decide (x = y) := by
  by_cases h : x = y
  · rw [str_eq h]; simp [h]
  · rw [str_ne h]; simp [h]
theorem dup_is (l : List UInt8) : ((⟨l.toArray⟩ : ByteArray).toList == [39, 97, 108, 108, 111, 119, 45, 100, 117, 112, 108, 105, 99, 97, 116, 101, 115, 39]) = decide (l = dupB) := by
  rw [Lib.toList_data, Bool.eq_iff_iff, beq_iff_eq, decide_eq_true_eq]; rfl
theorem named_take (ws : List ByteArray) (n : ByteArray) (k : Nat) (h : k < ws.length) : namedM (ws.take (k + 1)) n = (namedM (ws.take k) n || (decide (ws[k] = starB) || decide (ws[k] = n))) := by
  unfold namedM
  rw [List.take_succ_eq_append_getElem h, List.any_append]; simp
theorem twice_take (ws : List ByteArray) (k : Nat) (h : k < ws.length) : twiceM (ws.take (k + 1)) = (twiceM (ws.take k) || decide (Fo.lower ws[k].data.toList = dupB)) := by
  unfold twiceM
  rw [List.take_succ_eq_append_getElem h, List.any_append]; simp
set_option maxHeartbeats 8000000 in
set_option maxRecDepth 100000 in
theorem ref_lets_any (dv : Value) (r : Bool) (ds : List (ByteArray × List ByteArray)) (A : Option Addr) (N c : Nat) (ms : List ByteArray) (n : ByteArray) (w : World) (hd : DirsV w dv ds) (hm : Mild ds) (ht : Texts w A N ms) (hn : N ≤ 10000000) :
    Calls Tryd.prog 30 #[.agg #[dv, .bool r], .slice A N c, .string n] w fun e w' => e = .returned (.bool (letsM ds ms n)) ∧ Below w.heap.size w w' := by
  obtain ⟨D, dc, rfl, -, -, -⟩ := id hd
  obtain ⟨K, hK⟩ : ∃ K, K = ds.length := ⟨_, rfl⟩
  rw [← hK] at hd ⊢
  have c41 := fun w' (hb : Below w.heap.size w w') => ref_find_any (.slice D K dc) r ds ⟨#[116, 114, 117, 115, 116, 101, 100, 45, 116, 121, 112, 101, 115]⟩ w' (hd.below hb) (by decide) hm.1 (fun d hd => (hm.2 d hd).2.1)
  rw [tt_low] at c41
  obtain ⟨R, hR⟩ : ∃ R, R = findB ds ttB := ⟨_, rfl⟩
  have hl : letsM ds ms n = letsR R ms n := by rw [hR]; rfl
  rw [← hR] at c41
  rw [hl]
  have hws : ∀ ws, R = some ws → ws.length ≤ 10000000 ∧ ∀ s ∈ ws, s.size ≤ 10000000 := fun ws h => findB_mild hm (by rw [← hR, h])
  have C41 := Lib.hid c41
  have HT := Lib.hid ht
  have HWS := Lib.hid hws
  clear c41 hR hl hws hd hm ht hK
  have HB2 := Lib.hid (below_alloc' w (.cells #[.slice D K dc, .bool r] 42))
  cases R with
  | none =>
    go_enter Tryd.func30, Tryd.ntmps30
    go_wp2_with fail
    with_reducible refine (C41.out _ HB2.out).mono ?_
    rintro e w1 ⟨v, rfl, hv, hb1⟩
    go_wp2_with fail
    go_ret
    exact ⟨rfl, nx HB2.out hb1⟩
  | some ws =>
    obtain ⟨hw1, hw2⟩ := HWS.out ws rfl
    have HW2 := Lib.hid hw2
    obtain ⟨RB, hRB⟩ : ∃ b, b = letsR (some ws) ms n := ⟨_, rfl⟩
    rw [← hRB]
    have HRB := Lib.hid hRB
    clear hw2 hRB
    go_enter Tryd.func30, Tryd.ntmps30
    go_wp2_with fail
    with_reducible refine (C41.out _ HB2.out).mono ?_
    rintro e w1 ⟨v, rfl, hv, hb1⟩
    obtain ⟨VA, vc, rfl, hvc, hvz, hvt⟩ := hv
    have hvt2 : Texts w1 VA ws.length ws := hvt
    rw [show ((some ws).getD []).length = ws.length from rfl]
    have HB1 := Lib.hid (nx HB2.out hb1)
    obtain ⟨M, hM⟩ : ∃ M, M = ws.length := ⟨_, rfl⟩
    rw [← hM] at hvt2 hw1 ⊢
    have HV := Lib.hid hvt2
    have HM := Lib.hid hM
    clear hvt hvt2 hM hb1 hvz hvc
    go_wp2_with fail
    go_loopg [9, 10, 11] M (fun gk a b i wr => ∃ k : Nat, k + gk = M ∧ i = .int .i64 k ∧ a = .bool (namedM (ws.take k) n) ∧ b = .bool (twiceM (ws.take k)) ∧ Hid (Below w1.heap.size w1 wr))
    case atStart => exact ⟨0, by omega, rfl, rfl, rfl, Below.refl _ _⟩
    case round =>
      obtain ⟨k, hk, rfl, rfl, rfl, HB⟩ := hrel
      have HK := Lib.hid hk; clear hk
      obtain ⟨NM, hNM⟩ : ∃ b, b = namedM (ws.take k) n := ⟨_, rfl⟩
      obtain ⟨TW, hTW⟩ : ∃ b, b = twiceM (ws.take k) := ⟨_, rfl⟩
      rw [← hNM, ← hTW]
      have HNM := Lib.hid hNM
      have HTW := Lib.hid hTW
      clear hNM hTW
      by_cases hlt : k < M
      · have hkl : k < ws.length := by rw [← HM.out]; exact hlt
        obtain ⟨b, off, rfl, hbl, hcc⟩ := (HV.out.below HB.out).row (by omega)
        have hck := hcc k hkl
        have hnt := named_take ws n k hkl
        have htt := twice_take ws k hkl
        have hxs := HW2.out _ (List.getElem_mem hkl)
        obtain ⟨x, hx⟩ : ∃ x, x = ws[k] := ⟨_, rfl⟩
        rw [← hx] at hck hnt htt hxs
        have c27 := fun w' => ref_lower_any x w' hxs
        obtain ⟨b1, hb1⟩ : ∃ b, b = decide (x = starB) := ⟨_, rfl⟩
        obtain ⟨b2, hb2⟩ : ∃ b, b = decide (x = n) := ⟨_, rfl⟩
        obtain ⟨b3, hb3⟩ : ∃ b, b = decide (Fo.lower x.data.toList = dupB) := ⟨_, rfl⟩
        have hq1 : (x.toList == [42]) = b1 := by rw [star_is, hb1]
        have hq2 : (x.toList == n.toList) = b2 := by rw [text_is, hb2]
        obtain ⟨Y, hY⟩ : ∃ Y : ByteArray, Y = ⟨(Fo.lower x.data.toList).toArray⟩ := ⟨_, rfl⟩
        have hq3 : (Y.toList == [39, 97, 108, 108, 111, 119, 45, 100, 117, 112, 108, 105, 99, 97, 116, 101, 115, 39]) = b3 := by rw [hY, dup_is, hb3]
        rw [← hY] at c27
        rw [← hb1, ← hb2, ← HNM.out] at hnt
        rw [← hb3, ← HTW.out] at htt
        have C27 := Lib.hid c27
        have HNT := Lib.hid hnt
        have HTT := Lib.hid htt
        have HJM : Hid (gk - 1 < gk) := by show _ < _; have := HK.out; omega
        have HK1 : Hid ((k + 1) + (gk - 1) = M) := by show _ = _; have := HK.out; omega
        clear c27 hnt htt hxs hx hcc hb1 hb2 hb3 hY
        have h8 : (NM = true) ∨ (NM = false ∧ b1 = true) ∨ (NM = false ∧ b1 = false) := by cases NM <;> cases b1 <;> simp
        rcases h8 with rfl | ⟨rfl, rfl⟩ | ⟨rfl, rfl⟩
        all_goals
          cases TW
          · go_wp2_with fail
            with_reducible refine (C27.out _).mono ?_
            rintro e w2 ⟨rfl, hb2'⟩
            go_wp2_with fail
            go_roundg (gk - 1)
            case measure => exact HJM.out
            case rel => exact ⟨k + 1, HK1.out, by go_num, by rw [HNT.out]; simp, by rw [HTT.out]; simp, nx HB.out hb2'⟩
          · go_wp2_with fail
            go_roundg (gk - 1)
            case measure => exact HJM.out
            case rel => exact ⟨k + 1, HK1.out, by go_num, by rw [HNT.out]; simp, by rw [HTT.out]; simp, HB.out⟩
      · have hkw : ws.length ≤ k := by have := HK.out; rw [← HM.out]; omega
        have hnm := HNM.out
        have htw := HTW.out
        rw [List.take_of_length_le hkw] at hnm htw
        have c15 := fun w' (hb : Below w.heap.size w w') => ref_find19_any A N c ms n w' (HT.out.below hb) hn
        obtain ⟨FM, hFM⟩ : ∃ x, x = findM ms n := ⟨_, rfl⟩
        rw [← hFM] at c15
        have hres : RB = (NM && (decide (FM < 0) || TW)) := by rw [HRB.out, hnm, hFM, htw]; rfl
        have HRES := Lib.hid hres
        have C15 := Lib.hid c15
        have HB03 := Lib.hid (nx HB1.out HB.out)
        clear hkw hnm htw c15 hFM hres
        cases NM
        · go_wp2_with fail
          go_ret
          exact ⟨ret_bool (by rw [HRES.out]; simp), HB03.out⟩
        · cases TW
          · by_cases hf : FM < 0
            · go_wp2_with fail
              with_reducible refine (C15.out _ HB03.out).mono ?_
              rintro e w3 ⟨rfl, rfl⟩
              go_wp2_with fail
              go_ret
              exact ⟨ret_bool (by rw [HRES.out]; simp [hf]), HB03.out⟩
            · go_wp2_with fail
              with_reducible refine (C15.out _ HB03.out).mono ?_
              rintro e w3 ⟨rfl, rfl⟩
              go_wp2_with fail
              go_ret
              exact ⟨ret_bool (by rw [HRES.out]; simp [hf]), HB03.out⟩
          · go_wp2_with fail
            go_ret
            exact ⟨ret_bool (by rw [HRES.out]; simp), HB03.out⟩
end Go.Proofs.YtpjakdekaolmeaaDoor
