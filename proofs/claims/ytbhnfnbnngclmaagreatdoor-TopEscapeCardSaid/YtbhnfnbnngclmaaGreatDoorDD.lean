/- Check. -/
import Derived.Test.YtbhnfnbnngclmaaGreatDoorDC
namespace Go.Proofs.YtbhnfnbnngclmaaGreatDoor
open Go.RowKit Go.Sort Go.BigFrame Go.Maps Go.WideMaps
set_option maxRecDepth 100000

set_option maxHeartbeats 4000000 in
theorem check_any (l : List Kd) (m : Nat) (v : Value) (w : World) (hd : Doc w v l m) (hg : Good l m) : Calls Tryz.prog 26 #[v] w fun e w' => e = .returned (.int .i64 0) ∧ Below w.heap.size w w' := by
  obtain ⟨g, cap, rfl, hcap, hn⟩ := hd
  obtain ⟨n, hnl⟩ : ∃ n, n = l.length := ⟨_, rfl⟩
  rw [← hnl] at hcap ⊢
  have hn1 : 1 ≤ n := by have := hg.m1; have := hg.ml; omega
  have hn2 : n ≤ 100 := by have := hg.len; omega
  have hb := below_alloc' w (.cells #[.slice (some ⟨g, 0, none⟩) n cap] 26)
  have hrow := heap_alloc_new w (.cells #[.slice (some ⟨g, 0, none⟩) n cap] 26)
  obtain ⟨W, hW⟩ : ∃ W, W = w.alloc (.cells #[.slice (some ⟨g, 0, none⟩) n cap] 26) := ⟨_, rfl⟩
  rw [← hW] at hb hrow
  have hlt' : w.heap.size < W.heap.size := by rw [hW]; simp
  have x0 := cell_row hrow 0
  simp at x0
  have hnW := hn.below hb
  obtain ⟨va0, vk0, _, _, h0⟩ := hnW.at_ 0 .root hg.root
  have y0 : W.cell? ⟨g, 0, none⟩ = some (.int .i64 1) := h0 0 _ rfl
  have y4 : W.cell? ⟨g, 4, none⟩ = some (.int .i64 (-1)) := (h0 4 _ rfl).trans (by unfold paOf; rw [if_pos (show 0 < m from hg.m1)]; rfl)
  have hmk := make_marks n hn2
  have hgl : g < W.heap.size := hnW.lt
  have i1 : decide ((300 : Int) < (n : Int)) = false := by simp; omega
  have i2 : ((n : Int) == 0) = false := by simp; omega
  have i3 : (0 : Int) < (n : Int) := by omega
  have HW := Lib.hid hW
  have HB := Lib.hid hb
  have HR := Lib.hid hrow
  have HN := Lib.hid hnW
  have HG := Lib.hid hg
  have HNL := Lib.hid hnl
  clear hW hb hrow hnW hg h0 hn hnl
  go_enter Tryz.func26, Tryz.ntmps26
  go_upto_region 1 with fail
  rw [← HW.out]
  go_wp2_with fail
  have hL : (W.alloc (.cells (bcells (List.replicate n false)) 4)).heap[W.heap.size]? = some (.cells (bcells (marks n m 0)) 4) := by rw [marks_zero]; exact heap_alloc_new W _
  have HL := Lib.hid hL
  clear hL hmk i1 i2 y0 y4
  go_loopg [47] n (fun gk v wr => ∃ i : Nat, i + gk = n ∧ v = .int .i64 i ∧ Hid (wr.heap[W.heap.size]? = some (.cells (bcells (marks n m i)) 4 (0, 0))) ∧ Hid (Below W.heap.size W wr))
  case atStart => exact ⟨0, by omega, rfl, HL.out, below_alloc' W _⟩
  case round =>
    obtain ⟨i, hi, rfl, HM, HBW⟩ := hrel
    by_cases hin : i < n
    · have i4 : decide ((i : Int) < (n : Int)) = true := by simpa using hin
      obtain ⟨x, hx⟩ : ∃ x, l[i]? = some x := ⟨_, List.getElem?_eq_getElem (by have := HNL.out; omega)⟩
      obtain ⟨va, vk, ha, hk, hra⟩ := (HN.out.below HBW.out).at_ i x hx
      obtain ⟨aA, an, ac, rfl⟩ := ha.form
      obtain ⟨kA, kn, kc, rfl⟩ := hk.form
      obtain ⟨r0, r1, r2, r3, r4, r5, r6, r7⟩ := range_facts hra
      obtain ⟨V, hV⟩ : ∃ V, V = wr.alloc (.cells (x.cells (.slice aA an ac) (paOf m i) (.slice kA kn kc)).toArray 37) := ⟨_, rfl⟩
      have hbV := below_alloc' wr (.cells (x.cells (.slice aA an ac) (paOf m i) (.slice kA kn kc)).toArray 37)
      have hrV := heap_alloc_new wr (.cells (x.cells (.slice aA an ac) (paOf m i) (.slice kA kn kc)).toArray 37)
      rw [← hV] at hbV hrV
      obtain ⟨v0, v1, v2, v3, v4, v5, v6, v7⟩ := row_facts hrV
      have cm := fun w' h => may_any x (HG.out.ok x (List.mem_of_getElem? hx)) (.slice aA an ac) (paOf m i) (.slice kA kn kc) w' h
      have ch := fun w' => holds_any x (.slice aA an ac) (paOf m i) (.slice kA kn kc) w'
      unfold Kd.cells at cm ch hV
      have haV := ha.below hbV
      have hkV := hk.below hbV
      have c0 := (HBW.out.cell (p := ⟨w.heap.size, 0, none⟩) hlt').trans x0
      have HBV := Lib.hid (HBW.out.trans (hbV.mono HBW.out.size))
      have hWV : W.heap.size ≤ wr.heap.size := HBW.out.size
      have hVs : wr.heap.size < V.heap.size := by rw [hV]; simp
      have hMV := (hbV.block W.heap.size (hlt HM.out)).trans HM.out
      have HMV := Lib.hid hMV
      have HA := Lib.hid haV
      have HX := Lib.hid hx
      have HCM := Lib.hid cm
      have HCH := Lib.hid ch
      have HV := Lib.hid hV
      have HKV := Lib.hid hkV
      clear hra ha hk hx hbV hrV cm ch haV hV hMV hkV
      go_upto_region 10 with fail
      rw [← HV.out]
      clear r0 r1 r2 r3 r4 r5 r6 r7 c0
      go_wp2_with fail
      with_reducible refine (HCM.out _ HA.out).mono ?_
      rintro e w1 ⟨rfl, hb1⟩
      have u0 := (hb1.cell (p := ⟨wr.heap.size, 0, none⟩) hVs).trans v0
      have u1 := (hb1.cell (p := ⟨wr.heap.size, 1, none⟩) hVs).trans v1
      have u2 := (hb1.cell (p := ⟨wr.heap.size, 2, none⟩) hVs).trans v2
      have u3 := (hb1.cell (p := ⟨wr.heap.size, 3, none⟩) hVs).trans v3
      have u4 := (hb1.cell (p := ⟨wr.heap.size, 4, none⟩) hVs).trans v4
      have u5 := (hb1.cell (p := ⟨wr.heap.size, 5, none⟩) hVs).trans v5
      have u6 := (hb1.cell (p := ⟨wr.heap.size, 6, none⟩) hVs).trans v6
      have u7 := (hb1.cell (p := ⟨wr.heap.size, 7, none⟩) hVs).trans v7
      have HB1 := Lib.hid hb1
      clear v0 v1 v2 v3 v4 v5 v6 v7 hb1
      have hk1 := HKV.out.below HB1.out
      cases hki : kidOf m i with
      | none =>
        rw [hki] at hk1
        obtain ⟨rfl, rfl, rfl⟩ : kA = none ∧ kn = 0 ∧ kc = 0 := by
          have h : Value.slice kA kn kc = .slice none 0 0 := hk1
          injection h with h1 h2 h3
          exact ⟨h1, h2, h3⟩
        have HKI := Lib.hid hki
        clear hk1 hki
        by_cases hi0 : i = 0
        · have i5 : decide (0 < i) = false := by simp; omega
          have HI0 := Lib.hid hi0
          clear hi0
          go_wp2_with fail
          refine wp_loop_rounds 1 ?_
          rw [rounds_succ]
          go_wp2_with fail
          go_roundg (gk - 1)
          case measure => omega
          case rel => exact ⟨i + 1, by omega, by go_num, by show _ = _; rw [marks_same n m i (kid_none HKI.out)]; exact (HB1.out.block W.heap.size (by omega)).trans HMV.out, HBV.out.trans (HB1.out.mono (by omega))⟩
        · have i5 : decide ((0 : Int) < (i : Int)) = true := by simp; omega
          have hnum := HG.out.ne i x HX.out (by omega)
          go_wp2_with fail
          refine wp_loop_rounds 1 ?_
          rw [rounds_succ]
          go_wp2_with fail
          go_roundg (gk - 1)
          case measure => omega
          case rel => exact ⟨i + 1, by omega, by go_num, by show _ = _; rw [marks_same n m i (kid_none HKI.out)]; exact (HB1.out.block W.heap.size (by omega)).trans HMV.out, HBV.out.trans (HB1.out.mono (by omega))⟩
      | some k =>
        rw [hki] at hk1
        obtain ⟨him, hk⟩ := kid_some hki
        obtain ⟨g2, cap2, cs2, fr2, he, hcap2, hg2, hc2⟩ := hk1
        injection he with h1 h2 h3
        subst h1 h2 h3
        have hho := HG.out.holds i x HX.out him
        rw [hho] at HCH
        have hmn : m ≤ n := by have := HNL.out; have := HG.out.ml; omega
        have hki1 : 1 ≤ k := by omega
        have hkn : k < n := by omega
        have hkz : k ≠ 0 := by omega
        have k1 : decide ((k : Int) < 1) = false := by simp; omega
        have k2 : decide (n ≤ k) = false := by simp; omega
        have HKK := Lib.hid hk
        have HIM := Lib.hid him
        have HC2 := Lib.hid hc2
        have HG2 := Lib.hid hg2
        have HMN := Lib.hid hmn
        clear hk him hc2 hg2 hmn hho hki
        have fin : ∀ w2, Below w1.heap.size w1 w2 → Hid (w2.cell? ⟨g2, 0, none⟩ = some (.int .i64 k) ∧ w2.cell? ⟨W.heap.size, k, none⟩ = some (.bool false) ∧ w2.cell? ⟨g, k * 8 + 4, none⟩ = some (.int .i64 i) ∧ w2.cell? ⟨w.heap.size, 0, none⟩ = some (.slice (some ⟨g, 0, none⟩) n cap) ∧ w2.cell? ⟨wr.heap.size, 5, none⟩ = some (.slice (some ⟨g2, 0, none⟩) 1 kc) ∧ w2.frozen? ⟨W.heap.size, k, none⟩ = false ∧ Below W.heap.size W w2 ∧ w2.heap[W.heap.size]? = some (.cells (bcells (marks n m i)) 4 (0, 0))) := by
          intro w2 hb2
          have h1V := HB1.out.size
          have h12 := hb2.size
          have hW1 : Below W.heap.size W w1 := HBV.out.trans (HB1.out.mono (by omega))
          have hW2 : Below W.heap.size W w2 := hW1.trans (hb2.mono hW1.size)
          have hM2 : w2.heap[W.heap.size]? = some (.cells (bcells (marks n m i)) 4 (0, 0)) := (hb2.block W.heap.size (by omega)).trans ((HB1.out.block W.heap.size (by omega)).trans HMV.out)
          refine ⟨(hb2.cell (p := ⟨g2, 0, none⟩) (hlt HG2.out)).trans ((cell_row HG2.out 0).trans HC2.out), ?_, ?_, (hW2.cell (p := ⟨w.heap.size, 0, none⟩) hlt').trans x0, (hb2.cell (p := ⟨wr.heap.size, 5, none⟩) (by show wr.heap.size < _; omega)).trans u5, ?_, hW2, hM2⟩
          · rw [cell_bits hM2 k (by rw [marks_len]; exact hkn), marks_at]
            have := HKK.out
            simp; omega
          · have h := (HN.out.below hW2).pa k (by rw [← HNL.out]; exact hkn)
            rw [h]
            unfold paOf
            have h1 := HKK.out
            have h2 := HIM.out
            rw [if_pos (by omega), h1]
            congr 2
            omega
          · simp [World.frozen?, hM2]
        have hki0 : k = i + 1 := HKK.out
        have FIN := Lib.hid fin
        clear fin hki0
        by_cases hi0 : i = 0
        · have i5 : decide (0 < i) = false := by simp; omega
          have HI0 := Lib.hid hi0
          clear hi0
          go_wp2_with fail
          with_reducible refine (HCH.out _).mono ?_
          rintro e w2 ⟨rfl, hb2⟩
          obtain ⟨p1, p2, p3, p4, p5, p6, p7, p8⟩ := (FIN.out w2 hb2).out
          have P7 := Lib.hid p7
          have P8 := Lib.hid p8
          clear u0 u1 u2 u3 u4 u5 u6 u7 p7 p8 hb2
          go_wp2_with fail
          refine wp_loop_rounds 2 ?_
          rw [rounds_succ]
          go_wp2_with fail
          rw [rounds_succ]
          go_wp2_with fail
          go_roundg (gk - 1)
          case measure => omega
          case rel => exact ⟨i + 1, by omega, by go_num, by have h := set_mark P8.out HIM.out HMN.out; rw [← HKK.out] at h; rw [← HKK.out]; exact h, P7.out.setCell (by show W.heap.size ≤ W.heap.size; exact Nat.le_refl _) _⟩
        · have i5 : decide (0 < i) = true := by simp; omega
          have hnum := HG.out.ne i x HX.out (by omega)
          go_wp2_with fail
          with_reducible refine (HCH.out _).mono ?_
          rintro e w2 ⟨rfl, hb2⟩
          obtain ⟨p1, p2, p3, p4, p5, p6, p7, p8⟩ := (FIN.out w2 hb2).out
          have P7 := Lib.hid p7
          have P8 := Lib.hid p8
          clear u0 u1 u2 u3 u4 u5 u6 u7 p7 p8 hb2
          go_wp2_with fail
          refine wp_loop_rounds 2 ?_
          rw [rounds_succ]
          go_wp2_with fail
          rw [rounds_succ]
          go_wp2_with fail
          go_roundg (gk - 1)
          case measure => omega
          case rel => exact ⟨i + 1, by omega, by go_num, by have h := set_mark P8.out HIM.out HMN.out; rw [← HKK.out] at h; rw [← HKK.out]; exact h, P7.out.setCell (by show W.heap.size ≤ W.heap.size; exact Nat.le_refl _) _⟩
    · have hie : i = n := by omega
      subst hie
      have c0 := (HBW.out.cell (p := ⟨w.heap.size, 0, none⟩) hlt').trans x0
      have i6 : decide ((i : Int) < (i : Int)) = false := by simp
      go_wp2_with fail
      obtain ⟨W1, hW1⟩ : ∃ W1, W1 = wr := ⟨_, rfl⟩
      rw [← hW1] at HM HBW ⊢
      clear c0 hi i6
      clear hW1
      go_loopg [115] i (fun gk v wr => ∃ j : Nat, j + gk = i ∧ v = .int .i64 j ∧ Hid (wr.heap[W.heap.size]? = some (.cells (bcells (marks i m i)) 4 (0, 0))) ∧ Hid (Below W.heap.size W wr))
      case atStart => exact ⟨0, by omega, rfl, HM.out, HBW.out⟩
      case round =>
        obtain ⟨j, hj, rfl, HM2, HBW2⟩ := hrel
        by_cases hjn : j < i
        · have j4 : decide ((j : Int) < (i : Int)) = true := by simpa using hjn
          obtain ⟨x, hx⟩ : ∃ x, l[j]? = some x := ⟨_, List.getElem?_eq_getElem (by have := HNL.out; omega)⟩
          obtain ⟨va, vk, ha, hk, hra⟩ := (HN.out.below HBW2.out).at_ j x hx
          obtain ⟨aA, an, ac, rfl⟩ := ha.form
          obtain ⟨kA, kn, kc, rfl⟩ := hk.form
          obtain ⟨r0, r1, r2, r3, r4, r5, r6, r7⟩ := range_facts hra
          have p2 : wr.cell? ⟨W.heap.size, j, none⟩ = some (.bool (decide (1 ≤ j ∧ j < m))) := by
            rw [cell_bits HM2.out j (by rw [marks_len]; exact hjn), marks_at]
            congr 3
            apply propext
            omega
          clear ha hk hx hra
          by_cases hjm : 1 ≤ j ∧ j < m
          · rw [decide_eq_true hjm] at p2
            obtain ⟨pa, hpa⟩ : ∃ pa, pa = paOf m j := ⟨_, rfl⟩
            rw [← hpa] at r4
            have hp1 : (pa == -1) = false := by rw [hpa]; unfold paOf; rw [if_pos hjm.2]; simp; omega
            have hp2 : (pa != -1) = true := by rw [bne, hp1]; rfl
            clear hpa hjm
            go_upto_region 23 with fail
            have f4 : (wr.alloc (.cells #[.int .i64 x.num, .string x.nm, .string x.dt, .slice aA an ac, .int .i64 pa, .slice kA kn kc, .bool x.pr, .bool false] 37)).cell? ⟨wr.heap.size, 4, none⟩ = some (.int .i64 pa) := cell_row (heap_alloc_new wr (.cells #[.int .i64 x.num, .string x.nm, .string x.dt, .slice aA an ac, .int .i64 pa, .slice kA kn kc, .bool x.pr, .bool false] 37)) 4
            have p3 := ((below_alloc' wr (.cells #[.int .i64 x.num, .string x.nm, .string x.dt, .slice aA an ac, .int .i64 pa, .slice kA kn kc, .bool x.pr, .bool false] 37)).cell (p := ⟨W.heap.size, j, none⟩) (hlt HM2.out)).trans p2
            have hbx0 := below_alloc' wr (.cells #[.int .i64 x.num, .string x.nm, .string x.dt, .slice aA an ac, .int .i64 pa, .slice kA kn kc, .bool x.pr, .bool false] 37)
            obtain ⟨V, hV⟩ : ∃ V, V = wr.alloc (.cells #[.int .i64 x.num, .string x.nm, .string x.dt, .slice aA an ac, .int .i64 pa, .slice kA kn kc, .bool x.pr, .bool false] 37) := ⟨_, rfl⟩
            rw [← hV] at f4 p3 hbx0 ⊢
            have HBX := Lib.hid hbx0
            have hjl : j < i := hjn
            clear hV hbx0 r0 r1 r2 r3 r4 r5 r6 r7 p2
            go_quiet (fail)
            go_wp2_with fail
            go_roundg (gk - 1)
            case measure => omega
            case rel =>
              have hbx := nx HBX.out (below_drewN' V nq)
              exact ⟨j + 1, by omega, by go_num, (hbx.block W.heap.size (hlt HM2.out)).trans HM2.out, HBW2.out.trans (hbx.mono HBW2.out.size)⟩
          · rw [decide_eq_false hjm] at p2
            have hpa : paOf m j = -1 := by unfold paOf; split <;> omega
            rw [hpa] at r4
            clear hjm hpa
            go_upto_region 23 with fail
            have f4 : (wr.alloc (.cells #[.int .i64 x.num, .string x.nm, .string x.dt, .slice aA an ac, .int .i64 (-1), .slice kA kn kc, .bool x.pr, .bool false] 37)).cell? ⟨wr.heap.size, 4, none⟩ = some (.int .i64 (-1)) := cell_row (heap_alloc_new wr (.cells #[.int .i64 x.num, .string x.nm, .string x.dt, .slice aA an ac, .int .i64 (-1), .slice kA kn kc, .bool x.pr, .bool false] 37)) 4
            have p3 := ((below_alloc' wr (.cells #[.int .i64 x.num, .string x.nm, .string x.dt, .slice aA an ac, .int .i64 (-1), .slice kA kn kc, .bool x.pr, .bool false] 37)).cell (p := ⟨W.heap.size, j, none⟩) (hlt HM2.out)).trans p2
            have hbx0 := below_alloc' wr (.cells #[.int .i64 x.num, .string x.nm, .string x.dt, .slice aA an ac, .int .i64 (-1), .slice kA kn kc, .bool x.pr, .bool false] 37)
            obtain ⟨V, hV⟩ : ∃ V, V = wr.alloc (.cells #[.int .i64 x.num, .string x.nm, .string x.dt, .slice aA an ac, .int .i64 (-1), .slice kA kn kc, .bool x.pr, .bool false] 37) := ⟨_, rfl⟩
            rw [← hV] at f4 p3 hbx0 ⊢
            have HBX := Lib.hid hbx0
            have hjl : j < i := hjn
            clear hV hbx0 r0 r1 r2 r3 r4 r5 r6 r7 p2
            go_quiet (fail)
            go_wp2_with fail
            go_roundg (gk - 1)
            case measure => omega
            case rel =>
              have hbx := nx HBX.out (below_drewN' V nq)
              exact ⟨j + 1, by omega, by go_num, (hbx.block W.heap.size (hlt HM2.out)).trans HM2.out, HBW2.out.trans (hbx.mono HBW2.out.size)⟩
        · have hje : j = i := by omega
          subst hje
          have c0 := (HBW2.out.cell (p := ⟨w.heap.size, 0, none⟩) hlt').trans x0
          have j6 : decide ((j : Int) < (j : Int)) = false := by simp
          go_wp2_with fail
          obtain ⟨W2, hW2⟩ : ∃ W2, W2 = wr := ⟨_, rfl⟩
          rw [← hW2] at HBW2 ⊢
          clear c0 hj j6 hW2
          go_loopg [132] j (fun gk v wr => ∃ i : Nat, i + gk = j ∧ v = .int .i64 i ∧ Hid (Below W.heap.size W wr))
          case atStart => exact ⟨0, by omega, rfl, HBW2.out⟩
          case round =>
            obtain ⟨i, hi, rfl, HBW3⟩ := hrel
            by_cases hin : i < j
            · have i4 : decide ((i : Int) < (j : Int)) = true := by simpa using hin
              obtain ⟨x, hx⟩ : ∃ x, l[i]? = some x := ⟨_, List.getElem?_eq_getElem (by have := HNL.out; omega)⟩
              obtain ⟨va, vk, ha, hk, hra⟩ := (HN.out.below HBW3.out).at_ i x hx
              obtain ⟨aA, an, ac, rfl⟩ := ha.form
              obtain ⟨kA, kn, kc, rfl⟩ := hk.form
              obtain ⟨pa, hpa⟩ : ∃ pa, pa = paOf m i := ⟨_, rfl⟩
              rw [← hpa] at hra
              obtain ⟨r0, r1, r2, r3, r4, r5, r6, r7⟩ := range_facts hra
              have HPA := Lib.hid hpa
              have c0 := (HBW3.out.cell (p := ⟨w.heap.size, 0, none⟩) hlt').trans x0
              clear ha hk hx hra hpa
              obtain ⟨W3, rfl⟩ : ∃ W3, W3 = wr := ⟨_, rfl⟩
              obtain ⟨g3, rfl⟩ : ∃ g3, g3 = gk := ⟨_, rfl⟩
              have hbx0 := below_alloc' W3 (.cells #[.int .i64 x.num, .string x.nm, .string x.dt, .slice aA an ac, .int .i64 pa, .slice kA kn kc, .bool x.pr, .bool false] 37)
              obtain ⟨V, hV⟩ : ∃ V, V = W3.alloc (.cells #[.int .i64 x.num, .string x.nm, .string x.dt, .slice aA an ac, .int .i64 pa, .slice kA kn kc, .bool x.pr, .bool false] 37) := ⟨_, rfl⟩
              rw [← hV] at hbx0
              have e0 := (hbx0.cell (p := ⟨w.heap.size, 0, none⟩) (Nat.lt_of_lt_of_le hlt' HBW3.out.size)).trans c0
              have HNV := Lib.hid ((HN.out.below HBW3.out).below hbx0)
              have HV := Lib.hid hV
              have HBX := Lib.hid hbx0
              obtain ⟨c, hc⟩ : ∃ c, c = if i < m then i else 0 := ⟨_, rfl⟩
              have hpc : pa = (c : Int) - 1 := by
                rw [HPA.out, hc]
                unfold paOf
                split <;> rfl
              have hcj : c < j := by rw [hc]; split <;> omega
              have hcm : c < m := by have := HG.out.m1; rw [hc]; split <;> omega
              have HPC := Lib.hid hpc
              clear hV hbx0 hc hpc
              go_upto_region 31 with fail
              rw [← HV.out]
              clear c0 r0 r1 r2 r3 r4 r5 r6 r7
              go_loopg [13, 14] c (fun gk s a wr => gk ≤ c ∧ s = .int .i64 ((c : Int) - (gk : Int)) ∧ a = .int .i64 ((gk : Int) - 1) ∧ wr = V)
              case atStart => exact ⟨Nat.le_refl _, by simp, by rw [HPC.out], rfl⟩
              case round =>
                obtain ⟨hgk, rfl, rfl, hwr⟩ := hrel
                obtain rfl : V = wr := hwr.symm
                by_cases hz : gk = 0
                · subst hz
                  go_wp2_with fail
                  go_roundg (g3 - 1)
                  case measure => omega
                  case rel => exact ⟨i + 1, by omega, by go_num, HBW3.out.trans (HBX.out.mono HBW3.out.size)⟩
                · obtain ⟨q, rfl⟩ : ∃ q, gk = q + 1 := ⟨gk - 1, by omega⟩
                  have eq1 : ((q + 1 : Nat) : Int) - 1 = (q : Int) := by omega
                  rw [eq1]
                  have d4 : V.cell? ⟨g, q * 8 + 4, none⟩ = some (.int .i64 ((q : Int) - 1)) := by
                    have h := HNV.out.pa q (by have := HNL.out; omega)
                    rw [h]
                    unfold paOf
                    rw [if_pos (by omega)]
                  have qj : q < j := by omega
                  have q1 : (0 : Int) ≤ (c : Int) - ((q + 1 : Nat) : Int) := by omega
                  have q2 : ((q : Int) == -1) = false := by simp
                  have q3 : ((q : Int) != -1) = true := by simp
                  have q4 : decide ((j : Int) < (c : Int) - ((q + 1 : Nat) : Int) + 1) = false := by simp; omega
                  clear eq1 hz
                  go_wp2_with fail
                  go_roundg q
                  case measure => omega
                  case rel => exact ⟨by omega, by congr 1; omega, rfl, rfl⟩
            · have hie : i = j := by omega
              subst hie
              have i6 : decide ((i : Int) < (i : Int)) = false := by simp
              go_wp2_with fail
              go_ret
              exact ⟨rfl, HB.out.trans (HBW3.out.mono HB.out.size)⟩
end Go.Proofs.YtbhnfnbnngclmaaGreatDoor
