/- The law RegistryMore. -/
import Derived.Test.YtpjakdekaolmeaaDoorRS
namespace Go.Proofs.YtpjakdekaolmeaaDoor
open Go.RowKit Go.Shelf

/-- A row of one policy. -/
theorem polsV_lit {w W : World} {dv : Value} {r : Bool} {ds : List DB} (hd : DirsV w dv ds) (hb : Below w.heap.size w W) :
    PolsV (W.alloc (.cells #[dv, .bool r] 42)) (.slice (some ⟨W.heap.size, 0, none⟩) 1 1) [(ds, r)] := by
  refine ⟨_, 1, rfl, Nat.le_refl _, (fun e => by cases e), fun _ => ⟨W.heap.size, 0, rfl, by simp, fun j hj => ?_⟩⟩
  obtain rfl : j = 0 := by simp at hj; exact hj
  have h := heap_alloc_new W (.cells #[dv, .bool r] 42)
  exact ⟨dv, cell_row h 0, cell_row h 1, (hd.below hb).below (below_alloc' W _)⟩
set_option maxHeartbeats 8000000 in
set_option maxRecDepth 100000 in
theorem law_more_any (pv : Value) (ps : List PolB) (dv : Value) (r : Bool) (ds : List DB) (A : Option Addr) (N c : Nat) (ms : List ByteArray) (n : ByteArray) (w : World) (hp : PolsV w pv ps) (hd : DirsV w dv ds) (ht : Texts w A N ms) :
    Calls Tryd.prog 6 #[pv, .agg #[dv, .bool r], .slice A N c, .string n] w (True1 w) := by
  obtain ⟨DA, dc, rfl, -, -, -⟩ := id hd
  obtain ⟨D, hD⟩ : ∃ D, D = ds.length := ⟨_, rfl⟩
  rw [← hD] at hd ⊢
  have HD := Lib.hid hD
  clear hD
  obtain ⟨W0, hW0⟩ : ∃ W, W = w.alloc (.cells #[.slice DA D dc, .bool r] 42) := ⟨_, rfl⟩
  have hb0 : Below w.heap.size w W0 := by rw [hW0]; exact below_alloc' w _
  have hx0 : W0.heap[w.heap.size]? = some (.cells #[.slice DA D dc, .bool r] 42 (0, 0)) := by rw [hW0]; exact heap_alloc_new w _
  have c9 := large_any pv ps A N c ms n W0 (hp.below hb0) (ht.below hb0)
  have c22 := big_any _ _ _ (polsV_lit (r := r) hd hb0)
  obtain ⟨LG, hLG⟩ : ∃ b, b = largeM ps ms n := ⟨_, rfl⟩
  obtain ⟨BG, hBG⟩ : ∃ b, b = bigP [(ds, r)] := ⟨_, rfl⟩
  rw [← hLG] at c9
  rw [← hBG] at c22
  have C9 := Lib.hid c9
  have C22 := Lib.hid c22
  have HW0 := Lib.hid hW0
  have HX0 := Lib.hid hx0
  have HB0 := Lib.hid hb0
  have h00 := cell_row hx0 0
  have h01 := cell_row hx0 1
  simp at h00 h01
  clear c9 c22 hW0 hx0 hb0
  cases LG
  case true =>
    clear hLG hp ht hBG
    go_enter Tryd.func6, Tryd.ntmps6
    go_wp2_with fail
    rw [← HW0.out]
    with_reducible refine C9.out.mono ?_
    rintro e w1 ⟨rfl, hw1⟩
    obtain rfl : W0 = w1 := hw1.symm
    go_wp2_with fail
    go_ret
    exact ⟨rfl, HB0.out⟩
  cases BG
  case true =>
    clear hLG hp ht hBG
    go_enter Tryd.func6, Tryd.ntmps6
    go_wp2_with fail
    rw [← HW0.out]
    with_reducible refine C9.out.mono ?_
    rintro e w1 ⟨rfl, hw1⟩
    obtain rfl : W0 = w1 := hw1.symm
    go_wp2_with fail
    with_reducible refine C22.out.mono ?_
    rintro e w1 ⟨rfl, hw1⟩
    subst hw1
    go_wp2_with fail
    go_ret
    exact ⟨rfl, nx HB0.out (below_alloc' W0 _)⟩
  obtain ⟨hm, hps, hl, hs⟩ := not_large hLG.symm
  have hb20 : bigPol ds = false := by
    have h := hBG.symm
    unfold bigP at h
    rw [Bool.or_eq_false_iff] at h
    simpa using h.2
  obtain ⟨hds, hdw⟩ := big_not hb20
  have hmd : Mild ds := ⟨by omega, fun d hd => ⟨by have := (hdw d hd).1; omega, by have := (hdw d hd).2.1; omega, fun s hs => by have := (hdw d hd).2.2 s hs; omega⟩⟩
  have hma : PMild (ps ++ [(ds, r)]) := ⟨by simp; omega, fun p hp => by
    rcases List.mem_append.1 hp with h | h
    · exact hm.2 p h
    · obtain rfl := List.mem_singleton.1 h
      exact hmd⟩
  have hln := ht.1
  rw [hln] at hl
  have c17 := fun w' (hb : Below w.heap.size w w') => allowed_any pv ps A N c ms n w' (hp.below hb) hm (ht.below hb) (by omega)
  have c17b := fun v w' (h : PolsV w' v (ps ++ [(ds, r)])) (hb : Below w.heap.size w w') => allowed_any v (ps ++ [(ds, r)]) A N c ms n w' h hma (ht.below hb) (by omega)
  have c23 := fun w' (hb : Below w.heap.size w w') => find_any (.slice DA D dc) r ds ⟨#[116, 114, 117, 115, 116, 101, 100, 45, 116, 121, 112, 101, 115]⟩ w' (hd.below hb) (by decide) (by omega) (fun d hd => by have := (hdw d hd).2.1; omega)
  rw [tt_low] at c23
  have hsn := blocks_snoc ms n (ds, r) ps 0
  have hba := blocks_length ms n ps 0
  have hbb := blocks_length ms n (ps ++ [(ds, r)]) 0
  have hlt : (findB ds ttB).isSome = false → letsM ds ms n = true := fun h => by
    unfold letsM
    cases hf : findB ds ttB with
    | none => rfl
    | some x => rw [hf] at h; cases h
  obtain ⟨F, hF⟩ : ∃ F, F = findB ds ttB := ⟨_, rfl⟩
  obtain ⟨bla, hA⟩ : ∃ b, b = blocksM 0 ms n ps := ⟨_, rfl⟩
  obtain ⟨blb, hB⟩ : ∃ b, b = blocksM 0 ms n (ps ++ [(ds, r)]) := ⟨_, rfl⟩
  obtain ⟨OA, hOA⟩ : ∃ b, b = okM bla := ⟨_, rfl⟩
  obtain ⟨OB, hOB⟩ : ∃ b, b = okM blb := ⟨_, rfl⟩
  obtain ⟨T, hT⟩ : ∃ b, b = F.isSome := ⟨_, rfl⟩
  rw [← hF] at c23 hlt
  unfold OutFind at c23
  rw [← hT] at c23 hlt
  rw [← hA] at c17 hsn hba
  rw [← hB] at c17b hsn hbb
  unfold OutVerdict at c17 c17b
  rw [← hOA] at c17
  rw [← hOB] at c17b
  have f1 : OB = true → OA = true := fun h => by
    rw [hOB, hsn, okM, List.all_append, Bool.and_eq_true] at h
    rw [hOA]; exact h.1
  have f2 : r = true → OA = OB := fun h => by
    rw [hOB, hsn, hOA, okM, okM, List.all_append]
    split <;> simp [h]
  have f3 : T = false → blb = bla := fun h => by
    rw [hsn, hlt h]; simp
  have f4 : bla.length ≤ blb.length := by rw [hsn]; simp
  have f5 : T = false → OA = OB := fun h => by rw [hOA, hOB, f3 h]
  have f6 : blb.length ≤ 100 := by simp at hbb; omega
  have f7 : bla.length ≤ 100 := by omega
  have HP := Lib.hid hp
  have HDV := Lib.hid hd
  have C17 := Lib.hid c17
  have C17B := Lib.hid c17b
  have C23 := Lib.hid c23
  have F1 := Lib.hid f1
  have F2 := Lib.hid f2
  have F3 := Lib.hid f3
  have F5 := Lib.hid f5
  obtain ⟨i0, hi0, hz0, hz1, hz2⟩ := info_parts pol_row
  have HI0 := Lib.hid hi0
  obtain ⟨L, hL⟩ : ∃ L, L = ps.length := ⟨_, rfl⟩
  have HL := Lib.hid hL
  have hL15 : L ≤ 15 := by omega
  clear hi0 hL hlt hsn hF hA hB hOA hOB hT f1 f2 f3 f5 hba hbb c17 c17b c23 hln hl hmd hma hdw hds hb20 hBG hLG hm hps hp hd ht
  go_enter Tryd.func6, Tryd.ntmps6
  go_wp2_with fail
  rw [← HW0.out]
  with_reducible refine C9.out.mono ?_
  rintro e w1 ⟨rfl, hw1⟩
  obtain rfl : W0 = w1 := hw1.symm
  go_wp2_with fail
  with_reducible refine C22.out.mono ?_
  rintro e w1 ⟨rfl, hw1⟩
  have hb1 : Below W0.heap.size W0 w1 := by rw [hw1]; exact below_alloc' W0 _
  have HB1 := Lib.hid (nx HB0.out hb1)
  have HX1 := Lib.hid (carry HX0.out hb1)
  clear hb1 hw1 h00 h01
  have h10 := cell_row HX1.out 0
  have h11 := cell_row HX1.out 1
  simp at h10 h11
  have hw01 : w.heap.size < w1.heap.size := (Array.getElem?_eq_some_iff.1 HX1.out).1
  go_wp2_with (first
    | (at_builtin; refine wpList_append_any_pols rfl (.tmp 23) (.tmp 24) rfl w1 w1 w1.heap.size _ pv 0 [] ps rfl rfl (World.ownsRow_nil _ _ _ _) (HP.out.below HB1.out) (Below.refl _ _) (Nat.le_refl _) (by rw [← HL.out]; omega) ?_; intro es v5 w5 hes hesd hown5' hb5; rw [Nat.zero_add, List.nil_append, ← HL.out] at hown5'; have HOW5 := Lib.hid hown5'; have HES := Lib.hid hes; have HESD := Lib.hid hesd; have HX5 := Lib.hid (carry HX1.out hb5); have h50 := cell_row HX5.out 0; have h51 := cell_row HX5.out 1; simp at h50 h51; clear hown5' hes hesd)
    | (at_builtin; refine wpList_append_own _ rfl (.tmp 26) (.tmp 28) 22 rfl w1.heap.size 42 i0 _ 2 32 Tryd.underlying22 HI0.out hz0 hz1 hz2 rfl (by decide) _ L (flatE es) rfl (HOW5.out.alloc _) ⟨w5.heap.size, 0, none⟩ 1 1 [.slice DA D dc, .bool r] rfl rfl (two_new _ _ _ _) (by simp [Value.oneCell']) (by unfold maxLen; omega) (by omega) (by have := hb5.size; simp; omega) ?_; intro v7 w7 hown7 hgrow _; have hb7 : Below w1.heap.size w1 w7 := ((hb5.trans ((below_alloc' w5 (.cells #[.slice DA D dc, .bool r] 42)).mono hb5.size))).grown hgrow (by have := hb5.size; simp; omega) (fun q hq => (HOW5.out.lt q hq).1)))
  have HX7 := Lib.hid (carry HX1.out hb7)
  have h70 := cell_row HX7.out 0
  have h71 := cell_row HX7.out 1
  simp at h70 h71
  have hpv7 : PolsV w7 v7 (ps ++ [(ds, r)]) := by
    have h := PolsV.of_ents (es := es ++ [(.slice DA D dc, ds, r)]) (by rw [flatE_snoc]; exact hown7) (fun e he => by
      rcases List.mem_append.1 he with h | h
      · exact (HESD.out e h).below hb7
      · obtain rfl := List.mem_singleton.1 h
        exact HDV.out.below (nx HB1.out hb7))
    rw [List.map_append, HES.out] at h
    exact h
  have HP7 := Lib.hid hpv7
  have HB7 := Lib.hid (nx HB1.out hb7)
  clear hpv7 hgrow hown7 hb7 hb5 h10 h11 h50 h51
  with_reducible refine (C17.out w7 HB7.out).mono ?_
  rintro e w8 ⟨bva, rfl, hva, hb8⟩
  obtain ⟨A1, c1, rfl, -, -⟩ := own_form hva
  have HX8 := Lib.hid (carry HX7.out hb8)
  have HVA := Lib.hid ((BreaksV.of_own hva).below (below_alloc' w8 (.cells #[.bool OA, .slice A1 bla.length c1] 32)))
  have HY8 := Lib.hid (heap_alloc_new w8 (.cells #[.bool OA, .slice A1 bla.length c1] 32))
  have HB8 := Lib.hid (nx hb8 (below_alloc' w8 (.cells #[.bool OA, .slice A1 bla.length c1] 32)))
  clear hva hb8 h70 h71
  go_wp2_with fail
  with_reducible refine (C17B.out v7 _ (HP7.out.below HB8.out) (nx HB7.out HB8.out)).mono ?_
  rintro e w9 ⟨bvb, rfl, hvb, hb9⟩
  obtain ⟨A2, c2, rfl, -, -⟩ := own_form hvb
  have hy9 := below_alloc' w9 (.cells #[.bool OB, .slice A2 blb.length c2] 32)
  have HX9 := Lib.hid (carry (carry (carry HX8.out (below_alloc' w8 _)) hb9) hy9)
  have HY9 := Lib.hid (carry (carry HY8.out hb9) hy9)
  have HZ9 := Lib.hid (heap_alloc_new w9 (.cells #[.bool OB, .slice A2 blb.length c2] 32))
  have HVA9 := Lib.hid ((HVA.out.below hb9).below hy9)
  have HVB9 := Lib.hid ((BreaksV.of_own hvb).below hy9)
  have HB9 := Lib.hid (nx (nx (nx HB7.out HB8.out) hb9) hy9)
  have h90 := cell_row HX9.out 0
  have h91 := cell_row HX9.out 1
  simp at h90 h91
  clear hvb hb9 hy9
  go_wp2_with fail
  with_reducible refine (C23.out _ HB9.out).mono ?_
  rintro e w10 ⟨fv, rfl, -, hb10⟩
  have HXA := Lib.hid (carry HX9.out hb10)
  have HYA := Lib.hid (carry HY9.out hb10)
  have HZA := Lib.hid (carry HZ9.out hb10)
  have HVAA := Lib.hid (HVA9.out.below hb10)
  have HVBA := Lib.hid (HVB9.out.below hb10)
  have HBA := Lib.hid (nx HB9.out hb10)
  clear hb10 h90 h91
  go_wp2_with fail
  with_reducible refine (registers_any w10).mono ?_
  rintro e w11 ⟨rfl, hb11⟩
  have hxb := carry HXA.out hb11
  have hyb := carry HYA.out hb11
  have hzb := carry HZA.out hb11
  have HVAB := Lib.hid (HVAA.out.below hb11)
  have HVBB := Lib.hid (HVBA.out.below hb11)
  have HBB := Lib.hid (nx HBA.out hb11)
  have x0 := cell_row hxb 0
  have x1 := cell_row hxb 1
  have y0 := cell_row hyb 0
  have y1 := cell_row hyb 1
  have z0 := cell_row hzb 0
  have z1 := cell_row hzb 1
  simp at x0 x1 y0 y1 z0 z1
  have HYB := Lib.hid hyb
  have HZB := Lib.hid hzb
  have HXB := Lib.hid hxb
  clear hb11 hxb hyb hzb
  have f4i : (bla.length : Int) ≤ blb.length := by omega
  cases T
  · obtain rfl : OA = OB := F5.out rfl
    obtain rfl : blb = bla := F3.out rfl
    cases OA <;> cases r
    all_goals
      go_wp2_with fail
      with_reducible refine (same_of _ _ _ blb w11 HVAB.out HVBB.out (by omega)).mono ?_
      rintro e w12 ⟨rfl, hb12⟩
      have x120 := (carry HXB.out hb12)
      have y120 := (carry HYB.out hb12)
      have z120 := (carry HZB.out hb12)
      have q0 := cell_row x120 0
      have q1 := cell_row x120 1
      have q2 := cell_row y120 0
      have q3 := cell_row y120 1
      have q4 := cell_row z120 0
      have q5 := cell_row z120 1
      simp at q0 q1 q2 q3 q4 q5
      have HBC := Lib.hid (nx HBB.out hb12)
      clear x120 y120 z120 hb12
      go_wp2_with fail
      go_ret
      exact ⟨rfl, HBC.out⟩
  · cases OB
    · cases OA
      · cases r
        all_goals
          go_wp2_with fail
          go_ret
          exact ⟨rfl, HBB.out⟩
      · cases r
        · go_wp2_with fail
          go_ret
          exact ⟨rfl, HBB.out⟩
        · exact absurd (F2.out rfl) (by decide)
    · obtain rfl : OA = true := F1.out rfl
      cases r
      all_goals
        go_wp2_with fail
        go_ret
        exact ⟨rfl, HBB.out⟩
end Go.Proofs.YtpjakdekaolmeaaDoor
