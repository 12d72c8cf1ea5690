/- The law HeaderOnce. -/
import Derived.Test.YteghldoglffabaaDoorHX
namespace Go.Proofs.YteghldoglffabaaDoor
open Go.RowKit Go.Shelf

set_option maxHeartbeats 4000000 in
set_option maxRecDepth 100000 in
theorem law_once_any (s : ByteArray) (r : Bool) (w : World) (hs : s.size ≤ 9223372036854775807) : Calls Tryd.prog 7 #[.string s, .bool r] w (True1 w) := by
  by_cases h1 : 6000 < s.size
  · go_enter Tryd.func7, Tryd.ntmps7
    go_wp2
    go_ret
    exact ⟨rfl, Below.refl _ _⟩
  have hsl := size_len s
  obtain ⟨pss, hpss⟩ : ∃ p, p = parseB s.data.toList := ⟨_, rfl⟩
  have c11 := fun w' => parse_any s r w' (by omega)
  rw [← hpss] at c11
  have C11 := Lib.hid c11
  have HRI : Hid (∀ ds ∈ pss, rightB ds = true) := by show ∀ ds ∈ pss, _; rw [hpss]; exact parseB_right _
  have HMI : Hid (∀ ds ∈ pss, Mild ds ∧ ds.length ≤ 10000) := by show ∀ ds ∈ pss, _; rw [hpss]; exact parse_mild _ (by omega)
  have HPL : Hid (pss.length ≤ 10) := by show _ ≤ _; rw [hpss]; exact parseB_length _
  have hrr : (r != r) = false := by simp
  clear c11 hpss hsl
  go_enter Tryd.func7, Tryd.ntmps7
  go_wp2_with fail
  refine (C11.out _).mono ?_
  rintro e w1 ⟨v1, rfl, h1, hb1⟩
  have p1 : PolsV w1 v1 (pols r pss) := h1.toV
  obtain ⟨A, c, rfl, hc, -, -⟩ := id p1
  obtain ⟨L, hL⟩ : ∃ L, L = pss.length := ⟨_, rfl⟩
  rw [show (pols r pss).length = L by unfold pols; rw [List.length_map, hL]] at p1 hc ⊢
  have HL := Lib.hid hL
  have P1 := Lib.hid p1
  have HB1 := Lib.hid hb1
  have hL10 : L ≤ 10 := by rw [hL]; exact HPL.out
  clear h1 hb1 p1 hL
  go_wp2_with fail
  go_loopg [6] L (fun gk i wr => ∃ k : Nat, k + gk = L ∧ i = .int .i64 k ∧ Hid (Below w1.heap.size w1 wr))
  case atStart => exact ⟨0, by omega, rfl, Below.refl _ _⟩
  case round =>
    obtain ⟨i, hk, rfl, HBR⟩ := hrel
    obtain ⟨G, hG⟩ : ∃ G, G = gk := ⟨_, rfl⟩
    have HK := Lib.hid hk
    have HG := Lib.hid hG
    clear hk hG
    by_cases hlt : i < L
    · have hkp : i < pss.length := by rw [← HL.out]; exact hlt
      obtain ⟨g, off, dv, rfl, q1, q2, q3⟩ := P1.out.at_ i (by unfold pols; rw [List.length_map]; exact hkp)
      have hpk : (pols r pss)[i]'(by unfold pols; rw [List.length_map]; exact hkp) = (pss[i], r) := by simp [pols]
      rw [hpk] at q2 q3
      have hmem : pss[i] ∈ pss := List.getElem_mem hkp
      have hri := HRI.out _ hmem
      have hmi := HMI.out _ hmem
      obtain ⟨es, hes⟩ : ∃ es, es = pss[i] := ⟨_, rfl⟩
      rw [← hes] at q2 q3 hri hmi
      have hne := rightB_ne hri
      have hgo := rightB_go hri
      obtain ⟨N, hN⟩ : ∃ n, n = es.length := ⟨_, rfl⟩
      have hN0 : 0 < N := by rw [hN]; exact List.length_pos_iff.2 hne
      have hN1 : N ≤ 10000 := by rw [hN]; exact hmi.2
      have hN2 : ((N : Int) == 0) = false := by rw [beq_eq_false_iff_ne]; omega
      obtain ⟨DA, dc, rfl, -, -, -⟩ := id q3
      have hgl := World.block_lt_of_cell? w1 _ q1
      rw [← hN] at q1
      have r1 := (bcell' HBR.out hgl).trans q1
      have r2 := (bcell' HBR.out hgl).trans q2
      have HQ1 := Lib.hid q1
      have HQ2 := Lib.hid q2
      have HQ3 := Lib.hid q3
      have HN := Lib.hid hN
      have HGO := Lib.hid hgo
      have HMI2 := Lib.hid hmi.1
      clear hpk hmem hri hmi hes hne hgo q1 q2 q3 hN
      go_wp2_with fail
      go_loopg [7] N (fun gk i' wr => ∃ k : Nat, k + gk = N ∧ i' = .int .i64 k ∧ Hid (Below w1.heap.size w1 wr))
      case atStart => exact ⟨0, by omega, rfl, HBR.out⟩
      case round =>
        obtain ⟨k, hk, rfl, HBR2⟩ := hrel
        have HK2 := Lib.hid hk
        clear hk r1 r2
        have r1 := (bcell' HBR2.out hgl).trans HQ1.out
        have r2 := (bcell' HBR2.out hgl).trans HQ2.out
        by_cases hlk : k < N
        · have hkl : k < es.length := by rw [← HN.out]; exact hlk
          obtain ⟨g2, off2, rfl, s1, WA, wc, s2, s3, s4, s5⟩ := HQ3.out.at_ k hkl
          have hgl2 := World.block_lt_of_cell? w1 _ s1
          have hfs := findB_self es HGO.out k hkl
          have hok := rightGo_ok es [] HGO.out es[k] (List.getElem_mem hkl)
          have hmk := HMI2.out.2 _ (List.getElem_mem hkl)
          obtain ⟨nm, hnm⟩ : ∃ nm, nm = es[k].1 := ⟨_, rfl⟩
          obtain ⟨ws, hws⟩ : ∃ ws, ws = es[k].2 := ⟨_, rfl⟩
          obtain ⟨n1, n2, n3⟩ := name_plain hok.1
          rw [← hnm] at s1 hfs hmk n2
          rw [← hws] at s2 s3 s4 s5 hfs hmk
          have c15 := fun w' (hb : Below w1.heap.size w1 w') => find_any (.slice (some ⟨g2, off2, none⟩) N dc) r es nm w' (by rw [HN.out]; exact HQ3.out.below hb) hmk.1 (by rw [← HN.out]; omega) (fun d hd => (HMI2.out.2 d hd).2.1)
          rw [n2, hfs] at c15
          have c21 := fun w' => ref_lower_any nm w' hmk.1
          rw [n2, mk_data'] at c21
          obtain ⟨M, hM⟩ : ∃ M, M = ws.length := ⟨_, rfl⟩
          have hM2 : M ≤ 10000000 := by rw [hM]; exact hmk.2.1
          rw [← hM] at s2 s3 s4 s5
          have t1 := (bcell' HBR2.out hgl2).trans s1
          have t2 := (bcell' HBR2.out hgl2).trans s2
          have C15 := Lib.hid c15
          have C21 := Lib.hid c21
          have HM := Lib.hid hM
          have HS5 := Lib.hid s5
          have hl1 : g < wr.heap.size := Nat.lt_of_lt_of_le hgl HBR2.out.size
          have hl2 : g2 < wr.heap.size := Nat.lt_of_lt_of_le hgl2 HBR2.out.size
          have hnn : (nm.toList != nm.toList) = false := by simp
          clear c15 c21 hfs hok hnm hws n1 n2 n3 hmk s1 s2 s3 s4 s5 hM
          go_wp2_with fail
          go_region_held3 (fun w' => w'.cell? ⟨g, off + i * 2, none⟩ = some (.slice (some ⟨g2, off2, none⟩) N dc) ∧ w'.cell? ⟨g, off + i * 2 + 1, none⟩ = some (.bool r) ∧ w'.cell? ⟨g2, off2 + k * 2, none⟩ = some (.string nm))
            (first | exact ⟨(bcell' hb3' hl1).trans r1, (bcell' hb3' hl1).trans r2, (bcell' hb3' hl2).trans t1⟩ | go_keep)
            ((go_at_call 15; refine (C15.out _ (by first | exact HBR2.out | exact below_drewR HBR2.out)).mono ?_; rintro e w3 ⟨fv, rfl, htf, hb3⟩; have hb3' : Below wr.heap.size wr w3 := ⟨hb3.os, hb3.tape, hb3.output, hb3.size, hb3.block⟩))
          obtain ⟨FA, fc, rfl, hfc, hfz, hft⟩ := htf
          rw [show ((some ws).getD []).length = M from HM.out.symm] at hft hfc ⊢
          have u1 := (bcell' hb3' hl1).trans r1
          have u2 := (bcell' hb3' hl1).trans r2
          have u3 := (bcell' hb3' hl2).trans t1
          have u4 := (bcell' hb3' hl2).trans t2
          have hm1 : g < w3.heap.size := Nat.lt_of_lt_of_le hl1 hb3'.size
          have hm2 : g2 < w3.heap.size := Nat.lt_of_lt_of_le hl2 hb3'.size
          have HB3 := Lib.hid (nx HBR2.out hb3')
          have hft2 : Texts w3 FA M ws := hft
          have c19 := fun w' (hb : Below w3.heap.size w3 w') => texts_same FA WA M fc wc ws w' (hft2.below hb) (HS5.out.below (nx HB3.out hb)) hM2
          have C19 := Lib.hid c19
          clear c19 hft hft2 hfz hfc r1 r2 t1 t2 hb3 hb3'
          go_wp2_with fail
          go_region_held3 (fun w' => w'.cell? ⟨g, off + i * 2, none⟩ = some (.slice (some ⟨g2, off2, none⟩) N dc) ∧ w'.cell? ⟨g2, off2 + k * 2, none⟩ = some (.string nm) ∧ w'.cell? ⟨g2, off2 + k * 2 + 1, none⟩ = some (.slice WA M wc))
            (first | exact ⟨(bcell' hb35 hm1).trans u1, (bcell' hb35 hm2).trans u3, (bcell' hb35 hm2).trans u4⟩ | exact ⟨(bcell' hb34 hm1).trans u1, (bcell' hb34 hm2).trans u3, (bcell' hb34 hm2).trans u4⟩ | go_keep)
            (first
              | (go_at_call 19; refine (C19.out _ (by first | exact Below.refl _ _ | exact below_drewR (Below.refl _ _))).mono ?_; rintro e w4 ⟨rfl, hb4⟩; have hb34 : Below w3.heap.size w3 w4 := ⟨hb4.os, hb4.tape, hb4.output, hb4.size, hb4.block⟩)
              | (go_at_call 21; refine (C21.out _).mono ?_; rintro e w5 ⟨rfl, hb5⟩; have hb35 : Below w3.heap.size w3 w5 := nx hb34 hb5))
          all_goals
            go_wp2_with fail
            go_roundg (gk - 1)
            case measure => have hk := HK2.out; omega
            case rel => have hk := HK2.out; exact ⟨k + 1, by omega, by go_num, nx HB3.out hb35⟩
        · go_wp2_with fail
          go_roundg (G - 1)
          case measure => have hk := HK.out; have hg := HG.out; omega
          case rel => have hk := HK.out; have hg := HG.out; exact ⟨i + 1, by omega, by go_num, HBR2.out⟩
    · go_wp2_with fail
      with_reducible refine (reads_any _).mono ?_
      rintro e w9 ⟨rfl, hb9⟩
      go_wp2_with fail
      go_ret
      exact ⟨rfl, nx (nx HB1.out HBR.out) hb9⟩
end Go.Proofs.YteghldoglffabaaDoor
