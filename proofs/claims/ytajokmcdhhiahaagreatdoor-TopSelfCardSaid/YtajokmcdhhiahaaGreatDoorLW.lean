/- The law. -/
import Derived.Test.YtajokmcdhhiahaaGreatDoorFN
namespace Go.Proofs.YtajokmcdhhiahaaGreatDoor
open Go.RowKit Go.Shelf Go.Sort Go.BigFrame
set_option maxRecDepth 100000

theorem ss_fetch (sc ho : ByteArray) (p : Int) (pa qu pb : ByteArray) (hu : URL.fits ⟨false, sc, ho, p, pa, qu⟩) (hv : URL.fits ⟨false, sc, ho, p, pb, ⟨#[]⟩⟩) (hcu : Ur.chk ⟨false, sc, ho, p, pa, qu⟩ = 0) (w : World) (hg : Gl w) : Calls Tryz.prog 7 #[.string ⟨#[115, 99, 114, 105, 112, 116, 45, 115, 114, 99, 32, 39, 115, 101, 108, 102, 39]⟩, fetchV sc ho p pa qu pb] w (Ret (Ur.chk ⟨false, sc, ho, p, pb, ⟨#[]⟩⟩ == 0) w) :=
  says_fetch ⟨#[115, 99, 114, 105, 112, 116, 45, 115, 114, 99, 32, 39, 115, 101, 108, 102, 39]⟩ (by decide) _ 1 (word 2) p3 (word_quo 2 (by decide)) (one_s _) (word_is 2 (by decide)) sc ho p pa qu pb hu hv hcu w hg
theorem ss_inline (t : ByteArray) (ht : t.size ≤ 1000000) (s0 : Bool) (s1 s2 : ByteArray) (s3 : Int) (s4 s5 : ByteArray) (w : World) (hg : Gl w) : Calls Tryz.prog 7 #[.string ⟨#[115, 99, 114, 105, 112, 116, 45, 115, 114, 99, 32, 39, 115, 101, 108, 102, 39]⟩, inlineV t s0 s1 s2 s3 s4 s5] w (Ret false w) :=
  says_inline ⟨#[115, 99, 114, 105, 112, 116, 45, 115, 114, 99, 32, 39, 115, 101, 108, 102, 39]⟩ (by decide) _ 1 (word 2) p3 (word_quo 2 (by decide)) (one_s _) 2 (by decide) (word_is 2 (by decide)) t ht s0 s1 s2 s3 s4 s5 w hg
theorem chk_or (u : URL) : Ur.chk u = 0 ∨ Ur.chk u = 50 := by unfold Ur.chk; split <;> simp

set_option maxHeartbeats 8000000 in
theorem law_any (q : Bool) (sc ho : ByteArray) (p : Int) (pa qu pb tx : ByteArray) (h5 : -9223372036854775808 ≤ p) (h6 : p ≤ 9223372036854775807) (w : World) (hg : Gl w) : Calls Tryz.prog 3 #[.agg #[.bool q, .string sc, .string ho, .int .i64 p, .string pa, .string qu], .string pb, .string tx] w (Ret true w) := by
  have hbA := below_alloc' w (.cells #[.bool q, .string sc, .string ho, .int .i64 p, .string pa, .string qu] 23)
  have hrow := heap_alloc_new w (.cells #[.bool q, .string sc, .string ho, .int .i64 p, .string pa, .string qu] 23)
  obtain ⟨W, hW⟩ : ∃ W, W = w.alloc (.cells #[.bool q, .string sc, .string ho, .int .i64 p, .string pa, .string qu] 23) := ⟨_, rfl⟩
  rw [← hW] at hbA hrow
  have c6 := fun w' (h : Gl w') => firm_any w' h
  have C6 := Lib.hid c6
  obtain ⟨b, hb⟩ : ∃ b, b = longS [sc, ho, pa, qu, pb, tx] := ⟨_, rfl⟩
  have c4 := fun A c w' (h : Texts w' A 6 [sc, ho, pa, qu, pb, tx]) => long_any A 6 c [sc, ho, pa, qu, pb, tx] w' h (by decide)
  rw [← hb] at c4
  have HW := Lib.hid hW
  have HB := Lib.hid hbA
  have HG := Lib.hid hg
  have HGW := Lib.hid (hg.below hbA)
  have HROW := Lib.hid hrow
  have HLB := Lib.hid hb
  have H5 := Lib.hid h5
  have H6 := Lib.hid h6
  have hsz : W.heap.size = w.heap.size + 1 := by rw [hW]; exact Array.size_push ..
  have hb2 := below_alloc' W (.cells #[.string sc, .string ho, .string pa, .string qu, .string pb, .string tx] 9)
  have hr2 := heap_alloc_new W (.cells #[.string sc, .string ho, .string pa, .string qu, .string pb, .string tx] 9)
  obtain ⟨X, hX⟩ : ∃ X, X = W.alloc (.cells #[.string sc, .string ho, .string pa, .string qu, .string pb, .string tx] 9) := ⟨_, rfl⟩
  rw [← hX] at hb2 hr2
  rw [hsz] at hr2
  have htx : Texts X (some ⟨w.heap.size + 1, 0, none⟩) 6 [sc, ho, pa, qu, pb, tx] := by
    refine ⟨rfl, fun _ => ⟨⟨w.heap.size + 1, 0, none⟩, rfl, ?_, ?_⟩⟩
    · exact (Array.getElem?_eq_some_iff.1 hr2).1
    · intro j hj
      rw [add_at, Nat.zero_add]
      have hx := cell_row hr2 j
      rw [hx]
      rcases (show j = 0 ∨ j = 1 ∨ j = 2 ∨ j = 3 ∨ j = 4 ∨ j = 5 by simp at hj; omega) with rfl | rfl | rfl | rfl | rfl | rfl <;> rfl
  have c4' := c4 (some ⟨w.heap.size + 1, 0, none⟩) 6 X htx
  have C4 := Lib.hid c4'
  have HX := Lib.hid hX
  have HBX := Lib.hid hb2
  have hrow2 := (hb2.block w.heap.size (by omega)).trans hrow
  have x0 := cell_row hrow2 0
  have x1 := cell_row hrow2 1
  have x2 := cell_row hrow2 2
  have x3 := cell_row hrow2 3
  have x4 := cell_row hrow2 4
  have x5 := cell_row hrow2 5
  simp only [List.getElem?_toArray, List.getElem?_cons_zero, List.getElem?_cons_succ] at x0 x1 x2 x3 x4 x5
  clear hrow2
  clear c4 c4' c6 hb hW hbA hg hrow h5 h6 hX hb2 hr2 hsz htx
  go_enter Tryz.func3, Tryz.ntmps3
  go_wp2_with fail
  rw [← HW.out, ← HX.out]
  with_reducible refine C4.out.mono ?_
  rintro e w1 ⟨rfl, rfl⟩
  cases b
  · have hsz := HLB.out
    unfold longS at hsz
    simp only [List.any_cons, List.any_nil, Bool.or_false] at hsz
    obtain ⟨s1, s2, s3, s4, s5, s6⟩ : sc.size ≤ 1500 ∧ ho.size ≤ 1500 ∧ pa.size ≤ 1500 ∧ qu.size ≤ 1500 ∧ pb.size ≤ 1500 ∧ tx.size ≤ 1500 := by
      have := hsz.symm
      simp only [Bool.or_eq_false_iff, decide_eq_false_iff_not, Nat.not_lt] at this
      exact this
    have hfu : URL.fits ⟨q, sc, ho, p, pa, qu⟩ := ⟨show sc.size ≤ _ by omega, show ho.size ≤ _ by omega, show pa.size ≤ _ by omega, show qu.size ≤ _ by omega, H5.out, H6.out⟩
    have c5 := check_any ⟨q, sc, ho, p, pa, qu⟩ hfu w1 (HGW.out.below HBX.out)
    have hco := chk_or ⟨q, sc, ho, p, pa, qu⟩
    obtain ⟨cu, hcu⟩ : ∃ c, c = Ur.chk ⟨q, sc, ho, p, pa, qu⟩ := ⟨_, rfl⟩
    rw [← hcu] at c5 hco
    have c5 : Calls Tryz.prog 5 #[.agg #[.bool q, .string sc, .string ho, .int .i64 p, .string pa, .string qu]] w1 fun e w' => e = .returned (.int .i64 cu) ∧ Below w1.heap.size w1 w' := c5
    have C5 := Lib.hid c5
    have HCU := Lib.hid hcu
    have HFU := Lib.hid hfu
    have S5 := Lib.hid s5
    have S6 := Lib.hid s6
    clear c5 hcu hfu s1 s2 s3 s4 s5 s6 hsz
    rcases hco with rfl | rfl
    · cases q
      · go_wp2_with fail
        with_reducible refine C5.out.mono ?_
        rintro e w2 ⟨rfl, hbw⟩
        have HB2 := Lib.hid (nx HBX.out hbw)
        have y0 := (hbw.cell (World.block_lt_of_cell? _ _ x0)).trans x0
        have y1 := (hbw.cell (World.block_lt_of_cell? _ _ x1)).trans x1
        have y2 := (hbw.cell (World.block_lt_of_cell? _ _ x2)).trans x2
        have y3 := (hbw.cell (World.block_lt_of_cell? _ _ x3)).trans x3
        have y4 := (hbw.cell (World.block_lt_of_cell? _ _ x4)).trans x4
        have y5 := (hbw.cell (World.block_lt_of_cell? _ _ x5)).trans x5
        clear x0 x1 x2 x3 x4 x5 hbw
        clear c5
        obtain ⟨V, hV⟩ : ∃ V, V = w2.alloc (.cells #[.bool false, .string sc, .string ho, .int .i64 p, .string pb, .string ⟨#[]⟩] 23) := ⟨_, rfl⟩
        obtain ⟨F, hF⟩ : ∃ F, F = V.alloc (.cells #[.int .i64 2, .string ⟨#[]⟩, .bool false, .string sc, .string ho, .int .i64 p, .string pb, .string ⟨#[]⟩, .bool false, .string ⟨#[]⟩, .bool true, .bool false, .string sc, .string ho, .int .i64 p, .string pa, .string qu] 30) := ⟨_, rfl⟩
        obtain ⟨I, hI⟩ : ∃ I, I = F.alloc (.cells #[.int .i64 1, .string tx, .bool false, .string ⟨#[]⟩, .string ⟨#[]⟩, .int .i64 0, .string ⟨#[]⟩, .string ⟨#[]⟩, .bool false, .string ⟨#[]⟩, .bool false, .bool false, .string sc, .string ho, .int .i64 p, .string pa, .string qu] 30) := ⟨_, rfl⟩
        have bV : Below w2.heap.size w2 V := by rw [hV]; exact below_alloc' _ _
        have bF : Below V.heap.size V F := by rw [hF]; exact below_alloc' _ _
        have bI : Below F.heap.size F I := by rw [hI]; exact below_alloc' _ _
        have rV : V.heap[w2.heap.size]? = some (.cells #[.bool false, .string sc, .string ho, .int .i64 p, .string pb, .string ⟨#[]⟩] 23) := by rw [hV]; exact heap_alloc_new _ _
        have rF : F.heap[V.heap.size]? = some (.cells #[.int .i64 2, .string ⟨#[]⟩, .bool false, .string sc, .string ho, .int .i64 p, .string pb, .string ⟨#[]⟩, .bool false, .string ⟨#[]⟩, .bool true, .bool false, .string sc, .string ho, .int .i64 p, .string pa, .string qu] 30) := by rw [hF]; exact heap_alloc_new _ _
        have rI : I.heap[F.heap.size]? = some (.cells #[.int .i64 1, .string tx, .bool false, .string ⟨#[]⟩, .string ⟨#[]⟩, .int .i64 0, .string ⟨#[]⟩, .string ⟨#[]⟩, .bool false, .string ⟨#[]⟩, .bool false, .bool false, .string sc, .string ho, .int .i64 p, .string pa, .string qu] 30) := by rw [hI]; exact heap_alloc_new _ _
        have rV1 := (bF.block w2.heap.size (Array.getElem?_eq_some_iff.1 rV).1).trans rV
        have rV2 := (bI.block w2.heap.size (Array.getElem?_eq_some_iff.1 rV1).1).trans rV1
        have rF1 := (bI.block V.heap.size (Array.getElem?_eq_some_iff.1 rF).1).trans rF
        have v0 := cell_row rV 0
        have v1 := cell_row rV 1
        have v2 := cell_row rV 2
        have v3 := cell_row rV 3
        have v4 := cell_row rV 4
        have v5 := cell_row rV 5
        simp only [List.getElem?_toArray, List.getElem?_cons_zero, List.getElem?_cons_succ] at v0 v1 v2 v3 v4 v5
        have yv0 := (bV.cell (World.block_lt_of_cell? _ _ y0)).trans y0
        have yv1 := (bV.cell (World.block_lt_of_cell? _ _ y1)).trans y1
        have yv2 := (bV.cell (World.block_lt_of_cell? _ _ y2)).trans y2
        have yv3 := (bV.cell (World.block_lt_of_cell? _ _ y3)).trans y3
        have yv4 := (bV.cell (World.block_lt_of_cell? _ _ y4)).trans y4
        have yv5 := (bV.cell (World.block_lt_of_cell? _ _ y5)).trans y5
        have yf0 := (bF.cell (World.block_lt_of_cell? _ _ yv0)).trans yv0
        have yf1 := (bF.cell (World.block_lt_of_cell? _ _ yv1)).trans yv1
        have yf2 := (bF.cell (World.block_lt_of_cell? _ _ yv2)).trans yv2
        have yf3 := (bF.cell (World.block_lt_of_cell? _ _ yv3)).trans yv3
        have yf4 := (bF.cell (World.block_lt_of_cell? _ _ yv4)).trans yv4
        have yf5 := (bF.cell (World.block_lt_of_cell? _ _ yv5)).trans yv5
        have vi0 := cell_row rV2 0
        have vi1 := cell_row rV2 1
        have vi2 := cell_row rV2 2
        have vi3 := cell_row rV2 3
        have vi4 := cell_row rV2 4
        have vi5 := cell_row rV2 5
        simp only [List.getElem?_toArray, List.getElem?_cons_zero, List.getElem?_cons_succ] at vi0 vi1 vi2 vi3 vi4 vi5
        have HV := Lib.hid hV
        have HFF := Lib.hid hF
        have HI := Lib.hid hI
        have RFI := Lib.hid rF1
        have RII := Lib.hid rI
        have HBI := Lib.hid (nx HB2.out (nx bV (nx bF bI)))
        clear hV hF hI bV bF bI rV rV1 rV2 rF rF1 rI
        go_upto_region 6 with fail
        rw [← HV.out]
        clear y0 y1 y2 y3 y4 y5
        go_upto_region 7 with fail
        rw [← HFF.out]
        clear yv0 yv1 yv2 yv3 yv4 yv5 v0 v1 v2 v3 v4 v5
        go_upto_region 8 with fail
        rw [← HI.out]
        clear yf0 yf1 yf2 yf3 yf4 yf5
        have hfv : URL.fits ⟨false, sc, ho, p, pb, ⟨#[]⟩⟩ := ⟨HFU.out.scheme, HFU.out.host, show pb.size ≤ _ by have := S5.out; omega, by show (0 : Nat) ≤ _; omega, H5.out, H6.out⟩
        have hgI := HGW.out.below HBI.out
        have cf := fun w' (hg' : Gl w') => ss_fetch sc ho p pa qu pb HFU.out hfv HCU.out.symm w' hg'
        have ci := fun w' (hg' : Gl w') => ss_inline tx (by have := S6.out; omega) false sc ho p pa qu w' hg'
        have ck := fun w' (hg' : Gl w') => check_any ⟨false, sc, ho, p, pb, ⟨#[]⟩⟩ hfv w' hg'
        have hcv := chk_or ⟨false, sc, ho, p, pb, ⟨#[]⟩⟩
        obtain ⟨cv, hcv'⟩ : ∃ c, c = Ur.chk ⟨false, sc, ho, p, pb, ⟨#[]⟩⟩ := ⟨_, rfl⟩
        rw [← hcv'] at cf ck hcv
        unfold fetchV at cf
        unfold inlineV at ci
        have ck' : ∀ w', Gl w' → Calls Tryz.prog 5 #[.agg #[.bool false, .string sc, .string ho, .int .i64 p, .string pb, .string ⟨#[]⟩]] w' fun e w'' => e = .returned (.int .i64 cv) ∧ Below w'.heap.size w' w'' := ck
        have CF := Lib.hid cf
        have CI := Lib.hid ci
        have CK := Lib.hid ck'
        have HGI := Lib.hid hgI
        have HCF : Hid (∀ w', (∃ p : Regrown, w' = grow (redrawn I p.d) p.os) → ∃ t fr, w'.heap[V.heap.size]? = some (.cells #[.int .i64 2, .string ⟨#[]⟩, .bool false, .string sc, .string ho, .int .i64 p, .string pb, .string ⟨#[]⟩, .bool false, .string ⟨#[]⟩, .bool true, .bool false, .string sc, .string ho, .int .i64 p, .string pa, .string qu] t fr)) := Lib.hid (by rintro w' ⟨p, rfl⟩; exact ⟨_, _, ((below_regrown I p.d p.os).block V.heap.size (Array.getElem?_eq_some_iff.1 RFI.out).1).trans RFI.out⟩)
        have HCI : Hid (∀ w', (∃ p : Regrown, w' = grow (redrawn I p.d) p.os) → ∃ t fr, w'.heap[F.heap.size]? = some (.cells #[.int .i64 1, .string tx, .bool false, .string ⟨#[]⟩, .string ⟨#[]⟩, .int .i64 0, .string ⟨#[]⟩, .string ⟨#[]⟩, .bool false, .string ⟨#[]⟩, .bool false, .bool false, .string sc, .string ho, .int .i64 p, .string pa, .string qu] t fr)) := Lib.hid (by rintro w' ⟨p, rfl⟩; exact ⟨_, _, ((below_regrown I p.d p.os).block F.heap.size (Array.getElem?_eq_some_iff.1 RII.out).1).trans RII.out⟩)
        obtain ⟨ud, t1, t2, t3⟩ := ty30
        have T1 := Lib.hid t1
        have T2 := Lib.hid t2
        have T3 := Lib.hid t3
        clear t1 t2 t3 hfv hgI cf ci ck ck' hcv'
        have z0 := cell_regrown vi0
        have z1 := cell_regrown vi1
        have z2 := cell_regrown vi2
        have z3 := cell_regrown vi3
        have z4 := cell_regrown vi4
        have z5 := cell_regrown vi5
        clear vi0 vi1 vi2 vi3 vi4 vi5
        have q6 := fun d os => Calls.regrown_of (C6.out (grow (redrawn I d) os) (HGI.out.below (below_regrown I d os)))
        have qi := fun d os => Calls.regrown_of (CI.out (grow (redrawn I d) os) (HGI.out.below (below_regrown I d os)))
        rcases hcv with rfl | rfl
        · have qf := fun d os => Calls.regrown_of (CF.out (grow (redrawn I d) os) (HGI.out.below (below_regrown I d os)))
          have qk := fun d os => Calls.regrown_of (CK.out (grow (redrawn I d) os) (HGI.out.below (below_regrown I d os)))
          rw [show ((0 : Int) == 0) = true from rfl] at qf
          refine wp_region_quiet_below (by kernel_rfl) (by kernel_rfl) ?_
          repeat (first | (go_big_quiet_want; refine quiet_load_row 30 _ rfl _ rfl _ HCF _ T2.out T1.out T3.out ?_; go_simp; go_big_quiet_on) | (go_big_quiet_want; refine quiet_load_row 30 _ rfl _ rfl _ HCI _ T2.out T1.out T3.out ?_; go_simp; go_big_quiet_on) | go_big_quiet_step ((first | (go_at_call 6; exact q6 _ _) | (go_at_call 5; exact qk _ _) | (go_at_call 7; exact qf _ _) | (go_at_call 7; exact qi _ _))))
          refine wpQuiet_nil ?_
          intro w5 hw'
          obtain ⟨⟨dq, osq⟩, hw''⟩ := hw'
          have hbq : Below I.heap.size I w5 := by rw [hw'']; exact below_regrown I dq osq
          clear hw'' q6 qi qf qk z0 z1 z2 z3 z4 z5
          go_wp2_with fail
          go_ret
          exact ⟨rfl, nx HB.out (nx HBI.out hbq)⟩
        · have qf := fun d os => Calls.regrown_of (CF.out (grow (redrawn I d) os) (HGI.out.below (below_regrown I d os)))
          have qk := fun d os => Calls.regrown_of (CK.out (grow (redrawn I d) os) (HGI.out.below (below_regrown I d os)))
          rw [show ((50 : Int) == 0) = false from rfl] at qf
          refine wp_region_quiet_below (by kernel_rfl) (by kernel_rfl) ?_
          repeat (first | (go_big_quiet_want; refine quiet_load_row 30 _ rfl _ rfl _ HCF _ T2.out T1.out T3.out ?_; go_simp; go_big_quiet_on) | (go_big_quiet_want; refine quiet_load_row 30 _ rfl _ rfl _ HCI _ T2.out T1.out T3.out ?_; go_simp; go_big_quiet_on) | go_big_quiet_step ((first | (go_at_call 6; exact q6 _ _) | (go_at_call 5; exact qk _ _) | (go_at_call 7; exact qf _ _) | (go_at_call 7; exact qi _ _))))
          refine wpQuiet_nil ?_
          intro w5 hw'
          obtain ⟨⟨dq, osq⟩, hw''⟩ := hw'
          have hbq : Below I.heap.size I w5 := by rw [hw'']; exact below_regrown I dq osq
          clear hw'' q6 qi qf qk z0 z1 z2 z3 z4 z5
          go_wp2_with fail
          go_ret
          exact ⟨rfl, nx HB.out (nx HBI.out hbq)⟩
      · go_wp2_with fail
        with_reducible refine C5.out.mono ?_
        rintro e w2 ⟨rfl, hbw⟩
        have HB2 := Lib.hid (nx HBX.out hbw)
        have y0 := (hbw.cell (World.block_lt_of_cell? _ _ x0)).trans x0
        have y1 := (hbw.cell (World.block_lt_of_cell? _ _ x1)).trans x1
        have y2 := (hbw.cell (World.block_lt_of_cell? _ _ x2)).trans x2
        have y3 := (hbw.cell (World.block_lt_of_cell? _ _ x3)).trans x3
        have y4 := (hbw.cell (World.block_lt_of_cell? _ _ x4)).trans x4
        have y5 := (hbw.cell (World.block_lt_of_cell? _ _ x5)).trans x5
        clear x0 x1 x2 x3 x4 x5 hbw
        go_wp2_with fail
        with_reducible refine (C6.out _ (HGW.out.below HB2.out)).mono ?_
        rintro e w3 ⟨rfl, hb3⟩
        go_wp2_with fail
        go_ret
        exact ⟨rfl, nx HB.out (nx HB2.out hb3)⟩
    · go_wp2_with fail
      with_reducible refine C5.out.mono ?_
      rintro e w2 ⟨rfl, hbw⟩
      have HB2 := Lib.hid (nx HBX.out hbw)
      go_wp2_with fail
      with_reducible refine (C6.out _ (HGW.out.below HB2.out)).mono ?_
      rintro e w3 ⟨rfl, hb3⟩
      go_wp2_with fail
      go_ret
      exact ⟨rfl, nx HB.out (nx HB2.out hb3)⟩
  · go_wp2_with fail
    with_reducible refine (C6.out _ (HGW.out.below HBX.out)).mono ?_
    rintro e w3 ⟨rfl, hb3⟩
    go_wp2_with fail
    go_ret
    exact ⟨rfl, nx HB.out (nx HBX.out hb3)⟩
end Go.Proofs.YtajokmcdhhiahaaGreatDoor
