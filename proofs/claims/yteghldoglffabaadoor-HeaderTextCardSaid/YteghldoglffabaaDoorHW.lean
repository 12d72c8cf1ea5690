/- The law HeaderFinds. -/
import Derived.Test.YteghldoglffabaaDoorHV
import Derived.Laws.OwnMore
namespace Go.Proofs.YteghldoglffabaaDoor
open Go.RowKit Go.Shelf

theorem findB_bound {ds : List (ByteArray × List ByteArray)} (n : List UInt8) (h : ∀ d ∈ ds, d.2.length ≤ 210) : ((findB ds n).getD []).length ≤ 210 := by
  unfold findB
  cases hf : ds.find? (fun d => d.1.data.toList == n) with
  | none => simp
  | some d => simpa using h d (List.mem_of_find?_eq_some hf)

theorem carry {w w' : World} {b : Nat} {vs : Array Value} {T : TypeId} {fr : Nat × Nat} (h : w.heap[b]? = some (.cells vs T fr)) (hb : Below w.heap.size w w') : w'.heap[b]? = some (.cells vs T fr) :=
  (hb.block b (Array.getElem?_eq_some_iff.1 h).1).trans h
set_option maxHeartbeats 4000000 in
set_option maxRecDepth 100000 in
theorem law_finds_any (dv : Value) (r : Bool) (ds : List (ByteArray × List ByteArray)) (s : ByteArray) (w : World) (hd : DirsV w dv ds) (hs : s.size ≤ 9223372036854775807) : Calls Tryd.prog 4 #[.agg #[dv, .bool r], .string s] w (True1 w) := by
  obtain ⟨A, c, rfl, -, -, -⟩ := id hd
  obtain ⟨N, hN⟩ : ∃ N, N = ds.length := ⟨_, rfl⟩
  have c13 := big_any _ _ _ (polsV_lit (r := r) hd (below_alloc' w (.cells #[.slice A N c, .bool r] 29)))
  obtain ⟨B, hB⟩ : ∃ B, B = bigP [(ds, r)] := ⟨_, rfl⟩
  rw [← hB, World.size_alloc] at c13
  rw [← hN] at c13
  have HN := Lib.hid hN
  have HD := Lib.hid hd
  have C13 := Lib.hid c13
  have HB := Lib.hid hB
  clear hd c13 hB
  go_enter Tryd.func4, Tryd.ntmps4
  rw [← hN]
  clear hN
  go_wp2_with fail
  with_reducible refine C13.out.mono ?_
  rintro e w1 ⟨rfl, hw1⟩
  have hbx1 : w1.heap[w.heap.size]? = some (.cells #[.slice A N c, .bool r] 29 (0, 0)) := by
    rw [hw1]
    exact (heap_alloc_old _ _ (by simp)).trans (heap_alloc_new w _)
  have hb1 : Below w.heap.size w w1 := by rw [hw1]; exact ((Below.refl _ w).alloc (Nat.le_refl _) _).alloc (by simp) _
  clear hw1
  have HB1 := Lib.hid hb1
  have HX1 := Lib.hid hbx1
  have hc0 := cell_row hbx1 0
  have hc1 := cell_row hbx1 1
  simp at hc0 hc1
  clear hb1 hbx1
  cases B
  case true =>
    go_wp2_with fail
    go_ret
    exact ⟨rfl, HB1.out⟩
  by_cases hs3 : 300 < s.size
  · go_wp2_with fail
    go_ret
    exact ⟨rfl, HB1.out⟩
  have hbig := HB.out.symm
  have hmild := big_mild hbig
  have hN20 : ds.length ≤ 20 := (big_not hbig).1
  have hwl : ∀ d ∈ ds, d.2.length ≤ 210 := fun d hd => ((big_not hbig).2 d hd).2.1
  have hwl2 : ∀ d ∈ ds, d.2.length ≤ 10000000 := fun d hd => by have := hwl d hd; omega
  have hd1 : DirsV w1 (.slice A N c) ds := by rw [HN.out]; exact HD.out.below HB1.out
  have c14 := ref_ownp_any _ r ds w1 hd1 (by omega) hwl2
  have HD1 := Lib.hid hd1
  have C14 := Lib.hid c14
  have HWL := Lib.hid hwl
  have HWL2 := Lib.hid hwl2
  have HMI := Lib.hid hmild
  clear hd1 c14 hwl hwl2 hmild hbig
  go_wp2_with fail
  with_reducible refine C14.out.mono ?_
  rintro e w2 ⟨ov, rfl, hdo, hb2⟩
  obtain ⟨OA, oc, rfl, -, -, -⟩ := id hdo
  have hbx2 := (hb2.block w.heap.size (Array.getElem?_eq_some_iff.1 HX1.out).1).trans HX1.out
  obtain ⟨W3, hW3⟩ : ∃ W3, W3 = w2.alloc (.cells #[.slice OA ds.length oc, .bool r] 29) := ⟨_, rfl⟩
  have hb23 : Below w2.heap.size w2 W3 := by rw [hW3]; exact below_alloc' w2 _
  have hpx3 := (hb23.block w.heap.size (Array.getElem?_eq_some_iff.1 hbx2).1).trans hbx2
  have hox3 : W3.heap[w2.heap.size]? = some (.cells #[.slice OA ds.length oc, .bool r] 29 (0, 0)) := by rw [hW3]; exact heap_alloc_new w2 _
  have hdo3 := hdo.below hb23
  have hd3 := (HD1.out.below hb2).below hb23
  have HB3 := Lib.hid (nx (nx HB1.out hb2) hb23)
  have HPX := Lib.hid hpx3
  have HOX := Lib.hid hox3
  have HDO := Lib.hid hdo3
  have HD3 := Lib.hid hd3
  have hp0 := cell_row hpx3 0
  have hp1 := cell_row hpx3 1
  have ho0 := cell_row hox3 0
  have ho1 := cell_row hox3 1
  simp at hp0 hp1 ho0 ho1
  have hoN : ds.length = N := HN.out.symm
  have HON := Lib.hid hoN
  clear hdo hb2 hbx2 hb23 hpx3 hox3 hdo3 hd3 hc0 hc1 hoN
  obtain ⟨M, hM⟩ : ∃ M, M = ds.length := ⟨_, rfl⟩
  rw [← hM] at ho0 hW3 HOX HDO ⊢
  have HM := Lib.hid hM
  clear hM
  have hq0 := hp0
  have hq1 := hp1
  rw [hW3] at hq0 hq1
  have HW3 := Lib.hid hW3
  clear hW3
  go_wp2_with fail
  rw [← HW3.out]
  clear hq0 hq1 HW3
  obtain ⟨R, hR⟩ : ∃ R, R = findB ds (Fo.lower s.data.toList) := ⟨_, rfl⟩
  have c15 := find_own _ r ds s W3 HD3.out (by omega) (by omega) HWL2.out
  have hrl := findB_bound (Fo.lower s.data.toList) HWL.out
  rw [← hR] at c15 hrl
  have HR := Lib.hid hR
  have C15 := Lib.hid c15
  clear c15 hR
  with_reducible refine C15.out.mono ?_
  rintro e w4 ⟨va, rfl, howna, hb4⟩
  have HB4 := Lib.hid hb4
  have HOW := Lib.hid howna
  have HPX4 := Lib.hid (carry HPX.out hb4)
  have HOX4 := Lib.hid (carry HOX.out hb4)
  have c16 := ref_find_any _ r ds s w4 (HDO.out.below hb4) (by omega) (by omega) HWL2.out
  rw [← HR.out] at c16
  obtain ⟨F, hF⟩ : ∃ F, F = R.isSome := ⟨_, rfl⟩
  obtain ⟨L, hL⟩ : ∃ L, L = R.getD [] := ⟨_, rfl⟩
  have hll : L.length ≤ 210 := by rw [hL]; exact hrl
  rw [← hL] at howna HOW
  have txa := TextsV.of_own howna
  obtain ⟨AA, ac, rfl, hac, haz⟩ := own_form howna
  have C16 := Lib.hid c16
  have HF := Lib.hid hF
  have HL := Lib.hid hL
  have TXA := Lib.hid txa
  rw [← hF]
  clear c16 hb4 howna hF hL txa hrl hp0 hp1 ho0 ho1 haz
  have hp0 := cell_row HPX4.out 0
  have hp1 := cell_row HPX4.out 1
  have ho0 := cell_row HOX4.out 0
  have ho1 := cell_row HOX4.out 1
  simp at hp0 hp1 ho0 ho1
  obtain ⟨K, hK⟩ : ∃ K, K = L.length := ⟨_, rfl⟩
  have HKK := Lib.hid hK
  rw [← hK] at HOW TXA hac hll ⊢
  clear hK
  go_wp2_with fail
  with_reducible refine C16.out.mono ?_
  rintro e w5 ⟨vb, rfl, txb, hb5⟩
  rw [← HF.out]
  rw [← HL.out] at txb
  obtain ⟨AB, bc, rfl, hbc, hbz, -⟩ := id txb
  rw [← HKK.out] at txb hbc ⊢
  have HB5 := Lib.hid (nx HB4.out hb5)
  have HPX5 := Lib.hid (carry HPX4.out hb5)
  have HOX5 := Lib.hid (carry HOX4.out hb5)
  have TXB := Lib.hid txb
  have HOW5 := Lib.hid (own_below HOW.out hb5)
  clear hp0 hp1 ho0 ho1 hb5 txb hbz
  have hp0 := cell_row HPX5.out 0
  have hp1 := cell_row HPX5.out 1
  simp at hp0 hp1
  have c17 := print_any _ r ds w5 (HD3.out.below HB5.out) HMI.out (by omega)
  obtain ⟨RB, hRB⟩ : ∃ RB, RB = rightB ds := ⟨_, rfl⟩
  obtain ⟨SP, hSP⟩ : ∃ SP : ByteArray, SP = if RB then ⟨(printB ds).toArray⟩ else ⟨#[]⟩ := ⟨_, rfl⟩
  rw [← hRB, ← hSP] at c17
  have C17 := Lib.hid c17
  have HRB := Lib.hid hRB
  have HSP := Lib.hid hSP
  clear c17 hRB hSP
  go_wp2_with fail
  with_reducible refine C17.out.mono ?_
  rintro e w6 ⟨rfl, hb6⟩
  have HB6 := Lib.hid (nx HB5.out hb6)
  have HPX6 := Lib.hid (carry HPX5.out hb6)
  have HOX6 := Lib.hid (carry HOX5.out hb6)
  have TXB6 := Lib.hid (TXB.out.below hb6)
  have HOW6 := Lib.hid (own_below HOW5.out hb6)
  clear hp0 hp1 hb6
  have ho0 := cell_row HOX6.out 0
  have ho1 := cell_row HOX6.out 1
  simp at ho0 ho1
  have c18 := ref_print_any _ r ds w6 (HDO.out.below HB6.out) HMI.out (by omega)
  rw [← HRB.out, ← HSP.out] at c18
  have C18 := Lib.hid c18
  clear c18
  go_wp2_with fail
  with_reducible refine C18.out.mono ?_
  rintro e w7 ⟨rfl, hb7⟩
  have HB7 := Lib.hid (nx HB6.out hb7)
  have HPX7 := Lib.hid (carry HPX6.out hb7)
  have HOX7 := Lib.hid (carry HOX6.out hb7)
  have HOW7 := Lib.hid (own_below HOW6.out hb7)
  have txb7 := TXB6.out.below hb7
  clear ho0 ho1 hb7
  obtain ⟨_, _, e1, _, _, tb7⟩ := txb7
  injection e1 with e1 e2 e3
  subst e1 e3
  have ta7 := Texts.of_own HOW7.out
  rw [← HKK.out] at tb7
  have c19 := texts_same AA AB K ac bc L w7 ta7 tb7 (by omega)
  have C19 := Lib.hid c19
  clear c19 ta7 tb7 e2
  have hFF : (F == F) = true := beq_self_eq_true _
  go_wp2_with fail
  with_reducible refine C19.out.mono ?_
  rintro e w8 ⟨rfl, hb8⟩
  have HB8 := Lib.hid (nx HB7.out hb8)
  have HPX8 := Lib.hid (carry HPX7.out hb8)
  have HOX8 := Lib.hid (carry HOX7.out hb8)
  have HOW8 := Lib.hid (own_below HOW7.out hb8)
  clear hb8
  go_wp2_with fail
  have HWN := Lib.hid HOW8.out
  go_loopg [15] K (fun gk i wr => ∃ (k : Nat) (xs : List Value), k + gk = K ∧ i = .int .i64 k ∧ Hid (wr.ownsRow W3.heap.size 9 1 (.slice AA K ac) K xs) ∧ Hid (Below W3.heap.size W3 wr))
  case atStart => exact ⟨0, _, by omega, rfl, HWN.out, HB8.out⟩
  case round =>
    obtain ⟨k, xs, hk, rfl, HOWR, HBR⟩ := hrel
    have HKR := Lib.hid hk; clear hk
    by_cases hlt : k < K
    · obtain ⟨g, cap, e⟩ : ∃ g cap, Value.slice AA K ac = .slice (some ⟨g, 0, none⟩) K cap := by
        rcases HOWR.out.2 with ⟨e, h0⟩ | ⟨g, cap, cur, e, _⟩
        · omega
        · exact ⟨g, cap, e⟩
      injection e with e _ e3
      subst e e3
      have hxl : xs.length = K := by have := HOWR.out.1; rw [this]; omega
      have hcell := HOWR.out.cellAt k (by omega)
      obtain ⟨old, hold⟩ : ∃ u, xs[k]? = some u := ⟨_, List.getElem?_eq_getElem (by omega)⟩
      rw [hold] at hcell
      have hfr := HOWR.out.frozenAt k
      have hst := HOWR.out.stored k (.string ⟨#[120]⟩)
      have hgb := (HOWR.out.lt g rfl).1
      have HST := Lib.hid hst
      clear hst hxl hold
      go_wp2_with fail
      go_roundg (gk - 1)
      case measure => have hk := HKR.out; omega
      case rel =>
        have hk := HKR.out
        exact ⟨k + 1, _, by omega, by go_num, HST.out.1, HBR.out.setCell (p := ⟨g, k, none⟩) hgb _⟩
    · have HPXR := Lib.hid (carry HPX.out HBR.out)
      have HOXR := Lib.hid (carry HOX.out HBR.out)
      have hSP : (SP.toList == SP.toList) = true := beq_self_eq_true _
      have hRR : (RB == RB) = true := beq_self_eq_true _
      go_wp2_with fail
      with_reducible refine (reads_any _).mono ?_
      rintro e w9 ⟨rfl, hb9⟩
      have HB9 := Lib.hid (nx HBR.out hb9)
      have hpx9 := carry HPXR.out hb9
      have hox9 := carry HOXR.out hb9
      have hp0 := cell_row hpx9 0
      have hp1 := cell_row hpx9 1
      have ho0 := cell_row hox9 0
      have ho1 := cell_row hox9 1
      simp at hp0 hp1 ho0 ho1
      have c20 := same_any _ _ r r ds ds w9 (HD3.out.below HB9.out) (HDO.out.below HB9.out) (by omega) (by omega) HWL2.out HWL2.out
      rw [show decide (r = r ∧ ds = ds) = true by simp] at c20
      have C20 := Lib.hid c20
      clear c20 hpx9 hox9 hb9
      go_wp2_with fail
      with_reducible refine C20.out.mono ?_
      rintro e w10 ⟨rfl, hb10⟩
      go_wp2_with fail
      go_ret
      exact ⟨rfl, nx (nx HB3.out HB9.out) hb10⟩
end Go.Proofs.YteghldoglffabaaDoor
