/- The law HeaderBack. -/
import Derived.Test.YteghldoglffabaaDoorHW
import Derived.Test.YteghldoglffabaaDoorHBound
namespace Go.Proofs.YteghldoglffabaaDoor
open Go.RowKit Go.Shelf

theorem parse_at (T : ByteArray) (r : Bool) (R : List (List (ByteArray × List ByteArray))) (h : parseB T.data.toList = R) (hs : T.size ≤ 10000000) (w : World) : Calls Tryd.prog 11 #[.string T, .bool r] w (OutPols r R w) := by
  have := parse_any T r w hs
  rwa [h] at this
theorem wide_one {ds : List (ByteArray × List ByteArray)} {r : Bool} (h : bigP [(ds, r)] = false) : Wide [(ds, r)] := by
  obtain ⟨h1, h2⟩ := big_not h
  refine ⟨by simp, fun p hp => ?_⟩
  obtain rfl := List.mem_singleton.1 hp
  exact ⟨by show ds.length ≤ _; omega, fun d hd => by have := (h2 d hd).2.1; omega⟩

set_option maxHeartbeats 4000000 in
set_option maxRecDepth 100000 in
theorem law_back_any (dv : Value) (r : Bool) (ds : List (ByteArray × List ByteArray)) (s : ByteArray) (w : World) (hd : DirsV w dv ds) (hs : s.size ≤ 9223372036854775807) : Calls Tryd.prog 5 #[.agg #[dv, .bool r], .string s] w (True1 w) := by
  obtain ⟨A, c, rfl, -, -, -⟩ := id hd
  obtain ⟨N, hN⟩ : ∃ N, N = ds.length := ⟨_, rfl⟩
  have c13 := big_any _ _ _ (polsV_lit (r := r) hd (below_alloc' w (.cells #[.slice A N c, .bool r] 29)))
  obtain ⟨B, hB⟩ : ∃ B, B = bigP [(ds, r)] := ⟨_, rfl⟩
  rw [← hB, World.size_alloc] at c13
  rw [← hN] at c13
  have HN := Lib.hid hN
  have HD := Lib.hid hd
  have C13 := Lib.hid c13
  have HB := Lib.hid hB
  clear hd c13 hB
  go_enter Tryd.func5, Tryd.ntmps5
  rw [← hN]
  clear hN
  go_wp2_with fail
  with_reducible refine C13.out.mono ?_
  rintro e w1 ⟨rfl, hw1⟩
  have hbx1 : w1.heap[w.heap.size]? = some (.cells #[.slice A N c, .bool r] 29 (0, 0)) := by
    rw [hw1]
    exact (heap_alloc_old _ _ (by simp)).trans (heap_alloc_new w _)
  have hb1 : Below w.heap.size w w1 := by rw [hw1]; exact ((Below.refl _ w).alloc (Nat.le_refl _) _).alloc (by simp) _
  clear hw1
  have HB1 := Lib.hid hb1
  have HX1 := Lib.hid hbx1
  have hc0 := cell_row hbx1 0
  have hc1 := cell_row hbx1 1
  simp at hc0 hc1
  clear hb1 hbx1
  cases B
  case true =>
    go_wp2_with fail
    go_ret
    exact ⟨rfl, HB1.out⟩
  by_cases hs3 : 6000 < s.size
  · go_wp2_with fail
    go_ret
    exact ⟨rfl, HB1.out⟩
  have hsl := size_len s
  have hbig := HB.out.symm
  have hmild := big_mild hbig
  have hlen := print_len hbig
  have hN20 : N ≤ 20 := by rw [HN.out]; exact (big_not hbig).1
  have c17 := print_any (.slice A N c) r ds w1 (by rw [HN.out]; exact HD.out.below HB1.out) hmild (by rw [← HN.out]; omega)
  obtain ⟨RB, hRB⟩ : ∃ RB, RB = rightB ds := ⟨_, rfl⟩
  obtain ⟨SP, hSP⟩ : ∃ SP : ByteArray, SP = if RB then ⟨(printB ds).toArray⟩ else ⟨#[]⟩ := ⟨_, rfl⟩
  rw [← hRB, ← hSP] at c17
  have hpp : RB = true → parseB SP.data.toList = [ds] ∧ SP.size ≤ 10000000 := fun h => by
    have h2 : SP = ⟨(printB ds).toArray⟩ := by rw [hSP, if_pos h]
    rw [h2]
    exact ⟨parse_print (by rw [← hRB, h]), by rw [mk_size']; exact hlen⟩
  obtain ⟨pss, hpss⟩ : ∃ p, p = parseB s.data.toList := ⟨_, rfl⟩
  have c11 := fun w' => parse_any s r w' (by omega)
  rw [← hpss] at c11
  have C11 := Lib.hid c11
  have HPL : Hid (pss.length ≤ 10) := by show _ ≤ _; rw [hpss]; exact parseB_length _
  have HRI : Hid (∀ ds ∈ pss, rightB ds = true) := by show ∀ ds ∈ pss, _; rw [hpss]; exact parseB_right _
  have HMI : Hid (∀ ds ∈ pss, Mild ds ∧ ds.length ≤ 10000) := by show ∀ ds ∈ pss, _; rw [hpss]; exact parse_mild _ (by omega)
  have HTB : Hid (∀ k, (texts (pss.take k)).length ≤ 42003) := by
    show ∀ k, _
    intro k
    have := texts_bound s.data.toList k
    rw [hpss]
    omega
  have HWP : Hid (Wide (pols r pss)) := by show Wide _; rw [hpss]; exact wide_parse _ (by omega) r
  have C17 := Lib.hid c17
  have HPP := Lib.hid hpp
  have HWO := Lib.hid (wide_one hbig)
  clear c17 hRB hSP hpp hmild hbig hlen c11 hpss hsl
  go_wp2_with fail
  with_reducible refine C17.out.mono ?_
  rintro e w2 ⟨rfl, hb2⟩
  have HB2 := Lib.hid (nx HB1.out hb2)
  have HX2 := Lib.hid (carry HX1.out hb2)
  clear hc0 hc1 hb2
  have hc0 := cell_row HX2.out 0
  have hc1 := cell_row HX2.out 1
  simp at hc0 hc1
  have hbl := (Array.getElem?_eq_some_iff.1 HX2.out).1
  go_wp2_with fail
  have HDN : Hid (DirsV w (.slice A N c) ds) := by show DirsV _ _ _; rw [HN.out]; exact HD.out
  cases RB
  case' false =>
    go_quiet (fail)
  case' true =>
    have HPA := Lib.hid (parse_at SP r [ds] (HPP.out rfl).1 (HPP.out rfl).2)
    go_region_held3 (fun w' => w'.cell? ⟨w.heap.size, 0, none⟩ = some (.slice A N c) ∧ w'.cell? ⟨w.heap.size, 1, none⟩ = some (.bool r))
      (first | exact ⟨(bcell' hb23 hbl).trans hc0, (bcell' hb23 hbl).trans hc1⟩ | exact ⟨(bcell' hb24 hbl).trans hc0, (bcell' hb24 hbl).trans hc1⟩ | go_keep)
      (first
        | (go_at_call 11; refine (HPA.out _).mono ?_; rintro e w3 ⟨v3, rfl, h3, hb3⟩; have hb23 : Below w2.heap.size w2 w3 := (by first | exact ⟨hb3.os, hb3.tape, hb3.output, hb3.size, hb3.block⟩ | exact (below_alloc' w2 (.cells #[.slice A N c, .bool r] 29)).trans ((⟨hb3.os, hb3.tape, hb3.output, hb3.size, hb3.block⟩ : Below (w2.alloc (.cells #[.slice A N c, .bool r] 29)).heap.size (w2.alloc (.cells #[.slice A N c, .bool r] 29)) w3).mono (by simp))))
        | (go_at_call 10; have hq := allp_same v3 _ [(ds, r)] w3 h3.toV ((polsV_lit (r := r) HDN.out HB2.out).below (⟨hb3.os, hb3.tape, hb3.output, hb3.size, hb3.block⟩ : Below (w2.alloc (.cells #[.slice A N c, .bool r] 29)).heap.size (w2.alloc (.cells #[.slice A N c, .bool r] 29)) w3)) HWO.out; (with_reducible refine hq.mono ?_); clear hq; rintro e w4 ⟨rfl, hb4⟩; have hb24 : Below w2.heap.size w2 w4 := nx hb23 hb4)
        | (go_at_call 10; have hq := allp_same v3 _ [(ds, r)] _ (h3.toV.below (below_alloc' w3 _)) (polsV_lit (r := r) HDN.out (HB2.out.trans (hb23.mono HB2.out.size))) HWO.out; (with_reducible refine hq.mono ?_); clear hq; rintro e w4 ⟨rfl, hb4⟩; have hb24 : Below w2.heap.size w2 w4 := hb23.trans (((below_alloc' w3 _).trans (hb4.mono (by simp))).mono hb23.size)))
    all_goals
      have hc0' := (bcell' hb24 hbl).trans hc0
      have hc1' := (bcell' hb24 hbl).trans hc1
  all_goals
    go_wp2_with fail
    refine (C11.out _).mono ?_
    rintro e w5 ⟨v5, rfl, h5, hb5⟩
    have hb25 : Below w2.heap.size w2 w5 := by first | exact nx hb24 hb5 | exact nx (below_drewN' _ _) hb5
    have HB5 := Lib.hid (nx HB2.out hb25)
    have hx5 := carry HX2.out hb25
    have hd0 := cell_row hx5 0
    have hd1 := cell_row hx5 1
    simp at hd0 hd1
    have hbl5 := (Array.getElem?_eq_some_iff.1 hx5).1
    have p5 : PolsV w5 v5 (pols r pss) := h5.toV
    obtain ⟨A5, k5, rfl, hk5, -, -⟩ := id p5
    obtain ⟨L, hL⟩ : ∃ L, L = pss.length := ⟨_, rfl⟩
    rw [show (pols r pss).length = L by unfold pols; rw [List.length_map, hL]] at p5 hk5 ⊢
    have HL := Lib.hid hL
    have P5 := Lib.hid p5
    have hL10 : L ≤ 10 := by rw [hL]; exact HPL.out
    clear h5 hb5 hb25 hx5 p5 hL
    go_wp2_with fail
    go_loopg [8, 9] L (fun gk tv i wr => ∃ (k : Nat) (t : ByteArray), k + gk = L ∧ i = .int .i64 k ∧ tv = .string t ∧ Hid (t.data.toList = texts (pss.take k)) ∧ Hid (Below w5.heap.size w5 wr))
    case atStart => exact ⟨0, ⟨#[]⟩, by omega, rfl, rfl, rfl, Below.refl _ _⟩
    case round =>
      obtain ⟨k, t, hk, rfl, rfl, HT, HBR⟩ := hrel
      have HK := Lib.hid hk; clear hk
      have hts : t.size ≤ 42003 := by rw [← size_len, HT.out]; exact HTB.out k
      by_cases hlt : k < L
      · have hkp : k < pss.length := by rw [← HL.out]; exact hlt
        obtain ⟨g, off, dv', rfl, q1, q2, q3⟩ := (P5.out.below HBR.out).at_ k (by unfold pols; rw [List.length_map]; exact hkp)
        have hpk : (pols r pss)[k]'(by unfold pols; rw [List.length_map]; exact hkp) = (pss[k], r) := by simp [pols]
        rw [hpk] at q2 q3
        have hmem : pss[k] ∈ pss := List.getElem_mem hkp
        have hri := HRI.out _ hmem
        have hmi := HMI.out _ hmem
        have htk : pss.take (k + 1) = pss.take k ++ [pss[k]] := List.take_succ_eq_append_getElem hkp
        have htb := HTB.out (k + 1)
        rw [htk, texts_snoc, List.length_append, List.length_append] at htb
        obtain ⟨es, hes⟩ : ∃ es, es = pss[k] := ⟨_, rfl⟩
        rw [← hes] at q3 hri hmi htk htb
        have c17 := print_any dv' r es wr q3 hmi.1 hmi.2
        obtain ⟨DA, dc, rfl, -, -, -⟩ := id q3
        rw [hri, if_pos rfl] at c17
        obtain ⟨Q, hQ⟩ : ∃ Q : ByteArray, Q = ⟨(printB es).toArray⟩ := ⟨_, rfl⟩
        rw [← hQ] at c17
        have hQd : Q.data.toList = printB es := by rw [hQ]
        have hQs : Q.size ≤ 42003 := by rw [← size_len, hQd]; omega
        obtain ⟨T1, hT1⟩ : ∃ T1, t ++ Q = T1 := ⟨_, rfl⟩
        have hT1s : T1.size = t.size + Q.size := by rw [← hT1, ByteArray.size_append]
        obtain ⟨T2, hT2⟩ : ∃ T2, T1 ++ (⟨#[44]⟩ : ByteArray) = T2 := ⟨_, rfl⟩
        have hl1 : (⟨#[44]⟩ : ByteArray).size = 1 := rfl
        have hno1 : ¬ 9223372036854775807 < t.size + Q.size := by omega
        have hno2 : ¬ 9223372036854775807 < T1.size + 1 := by omega
        obtain ⟨DN, hDN⟩ : ∃ n, n = es.length := ⟨_, rfl⟩
        rw [← hDN] at q1 c17
        have C17' := Lib.hid c17
        have HTK := Lib.hid htk
        have HQD := Lib.hid hQd
        have HT1 := Lib.hid hT1
        have HT2 := Lib.hid hT2
        clear c17 htk hQd hT1s hQ hes hmem hri hmi hpk htb q3 hDN
        go_wp2_with fail
        with_reducible refine C17'.out.mono ?_
        rintro e w6 ⟨rfl, hb6⟩
        go_wp2_with fail
        go_roundg (gk - 1)
        case measure => have hk := HK.out; omega
        case rel =>
          have hk := HK.out
          refine ⟨k + 1, T2, by omega, by go_num, rfl, ?_, nx HBR.out hb6⟩
          show _ = _
          rw [HTK.out, texts_snoc, ← HT2.out, cat_data, ← HT1.out, cat_data, HT.out, HQD.out]
      · have hk := HK.out
        have ht := HT.out
        rw [List.take_of_length_le (by rw [← HL.out]; omega)] at ht
        have hpt : parseB t.data.toList = pss := by rw [ht]; exact parse_texts pss HRI.out HPL.out
        have c11 := parse_at t r pss hpt (by omega)
        have CPT := Lib.hid c11
        have hp0 := (bcell' HBR.out hbl5).trans hd0
        have hp1 := (bcell' HBR.out hbl5).trans hd1
        have hblr : w.heap.size < wr.heap.size := Nat.lt_of_lt_of_le hbl5 HBR.out.size
        clear hk ht hpt c11
        go_wp2_with fail
        with_reducible refine (reads_any _).mono ?_
        rintro e w7 ⟨rfl, hb7⟩
        have hq0 := (bcell' hb7 hblr).trans hp0
        have hq1 := (bcell' hb7 hblr).trans hp1
        have HB7 := Lib.hid (nx HBR.out hb7)
        clear hb7 hp0 hp1
        go_wp2_with fail
        refine (CPT.out _).mono ?_
        rintro e w8 ⟨v8, rfl, h8, hb8⟩
        have c10 := allp_same v8 _ (pols r pss) w8 h8.toV (P5.out.below (nx HB7.out hb8)) HWP.out
        have C10 := Lib.hid c10
        clear c10
        go_wp2_with fail
        with_reducible refine C10.out.mono ?_
        rintro e w9 ⟨rfl, hb9⟩
        go_wp2_with fail
        go_ret
        exact ⟨rfl, nx (nx (nx HB5.out HB7.out) hb8) hb9⟩
end Go.Proofs.YteghldoglffabaaDoor
