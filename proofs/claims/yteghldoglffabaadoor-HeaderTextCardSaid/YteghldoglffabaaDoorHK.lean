/- The reference's Find, Same, All. -/
import Derived.Test.YteghldoglffabaaDoorHJ
import Derived.BigQuiet
import Derived.Deep.RegionHeld3
namespace Go.Proofs.YteghldoglffabaaDoor
open Go.RowKit Go.Shelf

theorem texts_quiet (A B : Option Addr) (n m c d : Nat) (p q : List ByteArray) (w : World) (b : Bool) (hb : b = decide (p = q)) (hp : Texts w A n p) (hq : Texts w B m q) (hn : n ≤ 10000000) (hm : m ≤ 10000000) (j : Nat) :
    Calls Tryd.prog 19 #[.slice A n c, .slice B m d] (w.drewN j) fun e w' => e = .returned (.bool b) ∧ ∃ n, w' = w.drewN n := by
  refine (texts_q A B n m c d p q (w.drewN j) (hp.below (below_drewN' w j)) (hq.below (below_drewN' w j)) hn hm).mono ?_
  rintro e w' ⟨rfl, k, rfl⟩
  exact ⟨by rw [hb], j + k, World.drewN_drewN ..⟩
theorem DirsV.at_ {w : World} {A : Option Addr} {n c : Nat} {ds : List (ByteArray × List ByteArray)} (h : DirsV w (.slice A n c) ds) (k : Nat) (hk : k < ds.length) :
    ∃ g off, A = some ⟨g, off, none⟩ ∧ w.cell? ⟨g, off + k * 2, none⟩ = some (.string ds[k].1) ∧ ∃ WA c, w.cell? ⟨g, off + k * 2 + 1, none⟩ = some (.slice WA ds[k].2.length c) ∧ (WA = none → ds[k].2.length = 0 ∧ c = 0) ∧ ds[k].2.length ≤ c ∧ Texts w WA ds[k].2.length ds[k].2 := by
  obtain ⟨A', c', e, _, _, h4⟩ := h
  injection e with e1 e2 e3
  subst e1
  obtain ⟨g, off, e, _, hc⟩ := h4 (by omega)
  obtain ⟨c1, wv, c2, WA, wc, rfl, hl, hz, ht⟩ := hc k hk
  exact ⟨g, off, e, c1, WA, wc, c2, fun e => ⟨by have := hz e; omega, hz e⟩, hl, ht⟩
theorem DirsV.len {w : World} {A : Option Addr} {n c : Nat} {ds : List (ByteArray × List ByteArray)} (h : DirsV w (.slice A n c) ds) : n = ds.length := by
  obtain ⟨_, _, e, _⟩ := h
  injection e with _ e _

set_option maxHeartbeats 4000000 in
set_option maxRecDepth 100000 in
/-- Same. -/
theorem same_any (v1 v2 : Value) (r1 r2 : Bool) (d1 d2 : List (ByteArray × List ByteArray)) (w : World) (h1 : DirsV w v1 d1) (h2 : DirsV w v2 d2) (hn1 : d1.length ≤ 10000000) (hn2 : d2.length ≤ 10000000)
    (hm1 : ∀ d ∈ d1, d.2.length ≤ 10000000) (hm2 : ∀ d ∈ d2, d.2.length ≤ 10000000) :
    Calls Tryd.prog 20 #[.agg #[v1, .bool r1], .agg #[v2, .bool r2]] w fun e w' => e = .returned (.bool (decide (r1 = r2 ∧ d1 = d2))) ∧ Below w.heap.size w w' := by
  obtain ⟨A1, c1, rfl, -, -, -⟩ := id h1
  obtain ⟨A2, c2, rfl, -, -, -⟩ := id h2
  obtain ⟨N1, hN1⟩ : ∃ N, N = d1.length := ⟨_, rfl⟩
  obtain ⟨N2, hN2⟩ : ∃ N, N = d2.length := ⟨_, rfl⟩
  rw [← hN1] at hn1
  rw [← hN2] at hn2
  have HN1 := Lib.hid hN1
  have HN2 := Lib.hid hN2
  have H1 := Lib.hid h1
  have H2 := Lib.hid h2
  have HM1 := Lib.hid hm1
  have HM2 := Lib.hid hm2
  clear h1 h2 hm1 hm2
  by_cases hr : r1 = r2
  · by_cases hN : N1 = N2
    · have hrb : (r1 == r2) = true := by rw [hr]; simp
      have hnb : ((N1 : Int) != (N2 : Int)) = false := by rw [hN]; simp
      have HR := Lib.hid hr
      have HNN := Lib.hid hN
      go_enter Tryd.func20, Tryd.ntmps20
      rw [← hN1, ← hN2]
      clear hN1 hN2 hr hN
      go_wp2_with fail
      obtain ⟨W0, hW0⟩ : ∃ W0, W0 = (w.alloc (.cells #[.slice A1 N1 c1, .bool r1] 29)).alloc (.cells #[.slice A2 N2 c2, .bool r2] 29) := ⟨_, rfl⟩
      have hb0 : Below w.heap.size w W0 := by rw [hW0]; exact ((Below.refl _ w).alloc (Nat.le_refl _) _).alloc (by simp) _
      have hp1 : W0.cell? ⟨w.heap.size, 0, none⟩ = some (.slice A1 N1 c1) := by
        rw [hW0]; exact cell_row ((heap_alloc_old _ _ (by simp)).trans (heap_alloc_new w (.cells #[.slice A1 N1 c1, .bool r1] 29))) 0
      have hp2 : W0.cell? ⟨w.heap.size + 1, 0, none⟩ = some (.slice A2 N2 c2) := by
        have := heap_alloc_new (w.alloc (.cells #[.slice A1 N1 c1, .bool r1] 29)) (.cells #[.slice A2 N2 c2, .bool r2] 29)
        rw [World.size_alloc] at this
        rw [hW0]; exact cell_row this 0
      rw [← hW0]
      clear hW0
      have HB0 := Lib.hid hb0; clear hb0
      go_loopg [5] N1 (fun gk i wr => ∃ k : Nat, k + gk = N1 ∧ i = .int .i64 k ∧ Hid (d1.take k = d2.take k) ∧ wr.cell? ⟨w.heap.size, 0, none⟩ = some (.slice A1 N1 c1) ∧ wr.cell? ⟨w.heap.size + 1, 0, none⟩ = some (.slice A2 N2 c2) ∧ Hid (Below w.heap.size w wr))
      case atStart => exact ⟨0, by omega, rfl, rfl, hp1, hp2, HB0⟩
      case round =>
        obtain ⟨k, hk, rfl, HA, hp1, hp2, HB⟩ := hrel
        have HK := Lib.hid hk; clear hk
        by_cases hlt : k < N1
        · have hk1 : k < d1.length := by rw [← HN1.out]; exact hlt
          have hk2 : k < d2.length := by rw [← HN2.out, ← HNN.out]; exact hlt
          have hlt2 : k < N2 := by rw [← HNN.out]; exact hlt
          obtain ⟨g1, o1, rfl, q1, WA1, wc1, q2, q3, q4, q5⟩ := (H1.out.below HB.out).at_ k hk1
          obtain ⟨g2, o2, rfl, p1, WA2, wc2, p2, p3, p4, p5⟩ := (H2.out.below HB.out).at_ k hk2
          have ht1 : d1.take (k + 1) = d1.take k ++ [d1[k]] := List.take_succ_eq_append_getElem hk1
          have ht2 : d2.take (k + 1) = d2.take k ++ [d2[k]] := List.take_succ_eq_append_getElem hk2
          have hl1 := HM1.out _ (List.getElem_mem hk1)
          have hl2 := HM2.out _ (List.getElem_mem hk2)
          have hne : d1[k] ≠ d2[k] → decide (r1 = r2 ∧ d1 = d2) = false := fun h => by
            rw [decide_eq_false_iff_not]
            rintro ⟨_, e⟩
            subst e; exact h rfl
          have hnx : d1[k] = d2[k] → d1.take (k + 1) = d2.take (k + 1) := fun h => by rw [ht1, ht2, HA.out, h]
          obtain ⟨x1, hx1⟩ : ∃ x, x = d1[k].1 := ⟨_, rfl⟩
          obtain ⟨x2, hx2⟩ : ∃ x, x = d2[k].1 := ⟨_, rfl⟩
          obtain ⟨y1, hy1⟩ : ∃ x, x = d1[k].2 := ⟨_, rfl⟩
          obtain ⟨y2, hy2⟩ : ∃ x, x = d2[k].2 := ⟨_, rfl⟩
          have e1 : d1[k] = (x1, y1) := by rw [hx1, hy1]
          have e2 : d2[k] = (x2, y2) := by rw [hx2, hy2]
          rw [e1, e2] at hne hnx
          rw [← hx1] at q1
          rw [← hx2] at p1
          rw [← hy1] at q2 q5 hl1
          rw [← hy2] at p2 p5 hl2
          obtain ⟨b, hb⟩ : ∃ b, b = decide (y1 = y2) := ⟨_, rfl⟩
          have cq := texts_quiet WA1 WA2 y1.length y2.length wc1 wc2 y1 y2 wr b hb q5 p5 hl1 hl2
          obtain ⟨M1, hM1⟩ : ∃ M, M = y1.length := ⟨_, rfl⟩
          obtain ⟨M2, hM2⟩ : ∃ M, M = y2.length := ⟨_, rfl⟩
          rw [← hM1] at q2 cq
          rw [← hM2] at p2 cq
          have HNE := Lib.hid hne
          have HNX := Lib.hid hnx
          have HBB := Lib.hid hb
          have CQ := Lib.hid cq
          clear hne hnx hb cq ht1 ht2 hx1 hx2 hy1 hy2 e1 e2 q3 q4 q5 p3 p4 p5 hl1 hl2 hM1 hM2
          by_cases hxy : x1 = x2
          · have hxb : (x1.toList == x2.toList) = true := by rw [hxy]; simp
            have HXY := Lib.hid hxy; clear hxy
            go_wp2_with fail
            go_quiet (first | (go_at_call 19; exact CQ.out _))
            cases b
            · go_wp2
              go_ret
              refine ⟨ret_bool (HNE.out ?_).symm, HB.out.trans ((below_drewN' _ _).mono HB.out.size)⟩
              intro e
              injection e with _ e
              have := HBB.out
              simp [e] at this
            · go_wp2
              go_roundg (gk - 1)
              case rel =>
                have hk := HK.out
                refine ⟨k + 1, by omega, by go_num, HNX.out ?_, by simpa using hp1, by simpa using hp2, HB.out.trans ((below_drewN' _ _).mono HB.out.size)⟩
                have := HBB.out
                simp at this
                rw [HXY.out, this]
              case measure => have hk := HK.out; omega
          · have hxb : (x1.toList == x2.toList) = false := by
              rw [beq_eq_false_iff_ne, Lib.toList_data, Lib.toList_data]
              exact fun e => hxy (ByteArray.ext (Array.toList_inj.1 e))
            have HXY := Lib.hid hxy; clear hxy
            go_wp2_with fail
            go_quiet (fail)
            go_wp2
            go_ret
            refine ⟨ret_bool (HNE.out ?_).symm, HB.out.trans ((below_drewN' _ _).mono HB.out.size)⟩
            intro e
            injection e with e _
            exact HXY.out e
        · go_wp2_with fail
          go_ret
          refine ⟨ret_bool ?_, HB.out⟩
          have hk := HK.out
          have h1 : d1.length ≤ k := by rw [← HN1.out]; omega
          have h2 : d2.length ≤ k := by rw [← HN2.out, ← HNN.out]; omega
          have ha := HA.out
          rw [List.take_of_length_le h1, List.take_of_length_le h2] at ha
          symm
          rw [decide_eq_true_eq]
          exact ⟨HR.out, ha⟩
    · have hrb : (r1 == r2) = true := by rw [hr]; simp
      have hnb : ((N1 : Int) != (N2 : Int)) = true := by rw [bne_iff_ne]; omega
      have hf : decide (r1 = r2 ∧ d1 = d2) = false := by
        rw [decide_eq_false_iff_not]
        rintro ⟨_, e⟩
        subst e; exact hN (by rw [hN1, hN2])
      have HF := Lib.hid hf
      go_enter Tryd.func20, Tryd.ntmps20
      rw [← hN1, ← hN2]
      clear hN1 hN2 hr hN hf
      go_wp2_with fail
      go_ret
      exact ⟨ret_bool HF.out.symm, ((Below.refl _ w).alloc (Nat.le_refl _) _).alloc (by simp) _⟩
  · have hrb : (r1 == r2) = false := by rw [beq_eq_false_iff_ne]; exact hr
    have hf : decide (r1 = r2 ∧ d1 = d2) = false := by
      rw [decide_eq_false_iff_not]
      rintro ⟨e, _⟩
      exact hr e
    have HF := Lib.hid hf
    go_enter Tryd.func20, Tryd.ntmps20
    rw [← hN1, ← hN2]
    clear hN1 hN2 hr hf
    go_wp2_with fail
    go_ret
    exact ⟨ret_bool HF.out.symm, ((Below.refl _ w).alloc (Nat.le_refl _) _).alloc (by simp) _⟩
/-- A policy's directives and whether it is a report. -/
abbrev PolB := List (ByteArray × List ByteArray) × Bool
/-- A value that is a slice of policies. -/
def PolsV (w : World) (v : Value) (ps : List PolB) : Prop := ∃ A c, v = .slice A ps.length c ∧ ps.length ≤ c ∧ (A = none → c = 0) ∧
  (0 < ps.length → ∃ g off, A = some ⟨g, off, none⟩ ∧ g < w.heap.size ∧ ∀ j (h : j < ps.length), ∃ dv, w.cell? ⟨g, off + j * 2, none⟩ = some dv ∧ w.cell? ⟨g, off + j * 2 + 1, none⟩ = some (.bool ps[j].2) ∧ DirsV w dv ps[j].1)
theorem PolsV.below {w w' : World} {v : Value} {ps : List PolB} (h : PolsV w v ps) (hb : Below w.heap.size w w') : PolsV w' v ps := by
  obtain ⟨A, c, h1, h2, h3, h4⟩ := h
  refine ⟨A, c, h1, h2, h3, fun hn => ?_⟩
  obtain ⟨g, off, e, hlt, hc⟩ := h4 hn
  refine ⟨g, off, e, Nat.lt_of_lt_of_le hlt hb.size, fun j hj => ?_⟩
  obtain ⟨dv, c1, c2, c3⟩ := hc j hj
  exact ⟨dv, (hb.cell hlt).trans c1, (hb.cell hlt).trans c2, c3.below hb⟩
theorem PolsR.toV {w : World} {v : Value} {r : Bool} {pss : List (List (ByteArray × List ByteArray))} (h : PolsR w v r pss) : PolsV w v (pss.map fun d => (d, r)) := by
  obtain ⟨A, c, h1, h2, h3, h4⟩ := h
  refine ⟨A, c, by rw [List.length_map]; exact h1, by rw [List.length_map]; exact h2, h3, fun hn => ?_⟩
  rw [List.length_map] at hn
  obtain ⟨g, off, e, hr, hc⟩ := h4 hn
  refine ⟨g, off, e, hr.lt, fun j hj => ?_⟩
  rw [List.length_map] at hj
  obtain ⟨dv, c1, c2, c3⟩ := hc j hj
  simp only [List.getElem_map]
  exact ⟨dv, c1, c2, c3.toV⟩
theorem PolsV.at_ {w : World} {A : Option Addr} {n c : Nat} {ps : List PolB} (h : PolsV w (.slice A n c) ps) (k : Nat) (hk : k < ps.length) :
    ∃ g off dv, A = some ⟨g, off, none⟩ ∧ w.cell? ⟨g, off + k * 2, none⟩ = some dv ∧ w.cell? ⟨g, off + k * 2 + 1, none⟩ = some (.bool ps[k].2) ∧ DirsV w dv ps[k].1 := by
  obtain ⟨A', c', e, _, _, h4⟩ := h
  injection e with e1 e2 e3
  subst e1
  obtain ⟨g, off, e, _, hc⟩ := h4 (by omega)
  obtain ⟨dv, c1, c2, c3⟩ := hc k hk
  exact ⟨g, off, dv, e, c1, c2, c3⟩
def Wide (ps : List PolB) : Prop := ps.length ≤ 10000000 ∧ ∀ p ∈ ps, p.1.length ≤ 10000000 ∧ ∀ d ∈ p.1, d.2.length ≤ 10000000

set_option maxHeartbeats 4000000 in
set_option maxRecDepth 100000 in
/-- All. -/
theorem allp_any (v1 v2 : Value) (p1 p2 : List PolB) (w : World) (h1 : PolsV w v1 p1) (h2 : PolsV w v2 p2) (hw1 : Wide p1) (hw2 : Wide p2) :
    Calls Tryd.prog 10 #[v1, v2] w fun e w' => e = .returned (.bool (decide (p1 = p2))) ∧ Below w.heap.size w w' := by
  obtain ⟨A1, c1, rfl, -, -, -⟩ := id h1
  obtain ⟨A2, c2, rfl, -, -, -⟩ := id h2
  obtain ⟨N1, hN1⟩ : ∃ N, N = p1.length := ⟨_, rfl⟩
  obtain ⟨N2, hN2⟩ : ∃ N, N = p2.length := ⟨_, rfl⟩
  have hn1 := hw1.1
  have hn2 := hw2.1
  rw [← hN1] at hn1
  rw [← hN2] at hn2
  have HN1 := Lib.hid hN1
  have HN2 := Lib.hid hN2
  have H1 := Lib.hid h1
  have H2 := Lib.hid h2
  have HW1 := Lib.hid hw1
  have HW2 := Lib.hid hw2
  clear h1 h2 hw1 hw2
  by_cases hN : N1 = N2
  · have hnb : ((N1 : Int) != (N2 : Int)) = false := by rw [hN]; simp
    have HNN := Lib.hid hN
    go_enter Tryd.func10, Tryd.ntmps10
    rw [← hN1, ← hN2]
    clear hN1 hN2 hN
    go_wp2_with fail
    go_loopg [5] N1 (fun gk i wr => ∃ k : Nat, k + gk = N1 ∧ i = .int .i64 k ∧ Hid (p1.take k = p2.take k) ∧ Hid (Below w.heap.size w wr))
    case atStart => exact ⟨0, by omega, rfl, rfl, Below.refl _ _⟩
    case round =>
      obtain ⟨k, hk, rfl, HA, HB⟩ := hrel
      have HK := Lib.hid hk; clear hk
      by_cases hlt : k < N1
      · have hk1 : k < p1.length := by rw [← HN1.out]; exact hlt
        have hk2 : k < p2.length := by rw [← HN2.out, ← HNN.out]; exact hlt
        have hlt2 : k < N2 := by rw [← HNN.out]; exact hlt
        obtain ⟨g1, o1, dv1, rfl, q1, q2, q3⟩ := (H1.out.below HB.out).at_ k hk1
        obtain ⟨g2, o2, dv2, rfl, s1, s2, s3⟩ := (H2.out.below HB.out).at_ k hk2
        have ht1 : p1.take (k + 1) = p1.take k ++ [p1[k]] := List.take_succ_eq_append_getElem hk1
        have ht2 : p2.take (k + 1) = p2.take k ++ [p2[k]] := List.take_succ_eq_append_getElem hk2
        have hl1 := HW1.out.2 _ (List.getElem_mem hk1)
        have hl2 := HW2.out.2 _ (List.getElem_mem hk2)
        have hne : p1[k] ≠ p2[k] → decide (p1 = p2) = false := fun h => by
          rw [decide_eq_false_iff_not]
          intro e
          subst e; exact h rfl
        have hnx : p1[k] = p2[k] → p1.take (k + 1) = p2.take (k + 1) := fun h => by rw [ht1, ht2, HA.out, h]
        obtain ⟨x1, hx1⟩ : ∃ x, x = p1[k].1 := ⟨_, rfl⟩
        obtain ⟨x2, hx2⟩ : ∃ x, x = p2[k].1 := ⟨_, rfl⟩
        obtain ⟨y1, hy1⟩ : ∃ x, x = p1[k].2 := ⟨_, rfl⟩
        obtain ⟨y2, hy2⟩ : ∃ x, x = p2[k].2 := ⟨_, rfl⟩
        have e1 : p1[k] = (x1, y1) := by rw [hx1, hy1]
        have e2 : p2[k] = (x2, y2) := by rw [hx2, hy2]
        rw [e1, e2] at hne hnx
        rw [← hx1] at q3 hl1
        rw [← hx2] at s3 hl2
        rw [← hy1] at q2
        rw [← hy2] at s2
        have c20 := fun w' (hb : Below wr.heap.size wr w') => same_any dv1 dv2 y1 y2 x1 x2 w' (q3.below hb) (s3.below hb) hl1.1 hl2.1 hl1.2 hl2.2
        obtain ⟨b, hb⟩ : ∃ b, b = decide (y1 = y2 ∧ x1 = x2) := ⟨_, rfl⟩
        rw [← hb] at c20
        obtain ⟨da1, dc1, rfl, -, -, -⟩ := id q3
        obtain ⟨da2, dc2, rfl, -, -, -⟩ := id s3
        have HNE := Lib.hid hne
        have HNX := Lib.hid hnx
        have HBB := Lib.hid hb
        have C20 := Lib.hid c20
        clear hne hnx hb c20 ht1 ht2 hx1 hx2 hy1 hy2 e1 e2 q3 s3 hl1 hl2
        go_wp2_with fail
        go_region_with (go_at_call 20; refine (C20.out _ (by first | exact Below.refl _ _ | exact ⟨rfl, rfl, rfl, Nat.le_refl _, fun _ _ => rfl⟩)).mono ?_; rintro e w3 ⟨rfl, hb3⟩)
        all_goals
          have hb4 : Below wr.heap.size wr w3 := ⟨hb3.os, hb3.tape, hb3.output, hb3.size, hb3.block⟩
          have hb5 := HB.out.trans (hb4.mono HB.out.size)
          have HB5 := Lib.hid hb5
          clear hb4 hb5 hb3
          cases b
          · go_wp2
            go_ret
            refine ⟨ret_bool (HNE.out ?_).symm, HB5.out⟩
            intro e
            injection e with e1 e2
            have := HBB.out
            simp [e1, e2] at this
          · go_wp2
            go_roundg (gk - 1)
            case rel =>
              have hk := HK.out
              refine ⟨k + 1, by omega, by go_num, HNX.out ?_, HB5.out⟩
              have := HBB.out
              simp at this
              rw [this.1, this.2]
            case measure => have hk := HK.out; omega
      · go_wp2_with fail
        go_ret
        refine ⟨ret_bool ?_, HB.out⟩
        have hk := HK.out
        have h1 : p1.length ≤ k := by rw [← HN1.out]; omega
        have h2 : p2.length ≤ k := by rw [← HN2.out, ← HNN.out]; omega
        have ha := HA.out
        rw [List.take_of_length_le h1, List.take_of_length_le h2] at ha
        symm
        rw [decide_eq_true_eq]
        exact ha
  · have hnb : ((N1 : Int) != (N2 : Int)) = true := by rw [bne_iff_ne]; omega
    have hf : decide (p1 = p2) = false := by
      rw [decide_eq_false_iff_not]
      intro e
      subst e; exact hN (by rw [hN1, hN2])
    have HF := Lib.hid hf
    go_enter Tryd.func10, Tryd.ntmps10
    rw [← hN1, ← hN2]
    clear hN1 hN2 hN hf
    go_wp2_with fail
    go_ret
    exact ⟨ret_bool HF.out.symm, Below.refl _ _⟩
end Go.Proofs.YteghldoglffabaaDoor
