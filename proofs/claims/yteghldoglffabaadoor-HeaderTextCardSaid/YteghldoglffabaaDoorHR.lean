/- The reference's Parse. -/
import Derived.Test.YteghldoglffabaaDoorHQ
namespace Go.Proofs.YteghldoglffabaaDoor
open Go.RowKit Go.Shelf

theorem filterMap_snoc_some {α β : Type} (f : α → Option β) (l : List α) (x : α) (y : β) (h : f x = some y) : (l ++ [x]).filterMap f = l.filterMap f ++ [y] := by simp [List.filterMap_append, h]
theorem filterMap_snoc_none {α β : Type} (f : α → Option β) (l : List α) (x : α) (h : f x = none) : (l ++ [x]).filterMap f = l.filterMap f := by simp [List.filterMap_append, h]
/-- The directives that have come from the parts. -/
def accB (Q : List (List UInt8)) : List (ByteArray × List ByteArray) := (Q.filterMap dirB).foldl addB []
theorem accB_snoc (Q : List (List UInt8)) (q : List UInt8) : accB (Q ++ [q]) = if (refDir q).2 = true ∧ (findB (accB Q) (Fo.lower (refDir q).1.1.data.toList)).isSome = false then accB Q ++ [(refDir q).1] else accB Q := by
  unfold accB
  have h := dirB_ref q
  cases hb : (refDir q).2 with
  | false =>
    rw [hb] at h
    rw [filterMap_snoc_none dirB Q q (by simpa using h), if_neg (by simp)]
  | true =>
    rw [hb] at h
    rw [filterMap_snoc_some dirB Q q (refDir q).1 (by simpa using h), List.foldl_append, List.foldl_cons, List.foldl_nil]
    generalize (Q.filterMap dirB).foldl addB [] = X
    unfold addB
    cases (findB X (Fo.lower (refDir q).1.1.data.toList)).isSome <;> rfl
theorem accB_parts (p : List UInt8) : accB (Fo.parts 59 p) = polB p := rfl
theorem refDir_words (p : List UInt8) : (refDir p).1.2.length ≤ 200 := by
  unfold refDir
  cases Fo.words p with
  | nil => simp [refDirW]
  | cons => exact restOf_length _
theorem refDir_name (p : List UInt8) : (refDir p).1.1.size ≤ p.length := by
  have h := words_le p
  unfold refDir
  cases hw : Fo.words p with
  | nil => exact Nat.zero_le _
  | cons x r =>
    show (⟨(Fo.lower x).toArray⟩ : ByteArray).size ≤ _
    rw [mk_size', Fo.lower_length]
    exact h x (by rw [hw]; exact List.mem_cons_self ..)
theorem accB_mem (Q : List (List UInt8)) : ∀ d ∈ accB Q, d.2.length ≤ 200 := fun d hd => by
  rcases addAll_mem _ [] d hd with h | h
  · cases h
  · obtain ⟨q, _, hq⟩ := List.mem_filterMap.1 h
    have := dirB_ref q
    rw [hq] at this
    split at this
    · injection this with this
      rw [this]; exact refDir_words q
    · cases this
theorem accB_length (Q : List (List UInt8)) : (accB Q).length ≤ Q.length := by
  have h := addAll_length (Q.filterMap dirB) []
  have h2 := List.length_filterMap_le dirB Q
  unfold accB
  simp at h
  omega
/-- The policies that have come. -/
def outB (P : List (List UInt8)) : List (List (ByteArray × List ByteArray)) := ((P.map polB).filter (fun ds => !ds.isEmpty)).take 10
theorem outB_snoc (P : List (List UInt8)) (p : List UInt8) : outB (P ++ [p]) = if (polB p).isEmpty = false ∧ (outB P).length < 10 then outB P ++ [polB p] else outB P := by
  unfold outB
  rw [List.map_append, List.filter_append]
  generalize (P.map polB).filter (fun ds => !ds.isEmpty) = X
  cases h : (polB p).isEmpty with
  | true => simp [h]
  | false =>
    rw [show ([p].map polB).filter (fun ds => !ds.isEmpty) = [polB p] by simp [h]]
    rcases Nat.lt_or_ge X.length 10 with h10 | h10
    · rw [if_pos ⟨rfl, by rw [List.length_take]; omega⟩, List.take_of_length_le (by simp; omega), List.take_of_length_le (by omega)]
    · rw [if_neg (by rw [List.length_take]; omega), List.take_append_of_le_length h10]

set_option maxHeartbeats 8000000 in
set_option maxRecDepth 100000 in
theorem ref_parse_any (s : ByteArray) (report : Bool) (w : World) (hs : s.size ≤ 9000000) : Calls Tryd.prog 12 #[.string s, .bool report] w (OutPols report (parseB s.data.toList) w) := by
  have c24 := fun w' => ref_parts_own s 44 w' (by omega)
  obtain ⟨P, hP⟩ : ∃ P, P = Fo.parts 44 s.data.toList := ⟨_, rfl⟩
  have hpb : parseB s.data.toList = outB P := by rw [hP]; rfl
  rw [hpb]
  rw [← hP] at c24
  have hPl : ∀ p ∈ P, p.length ≤ 9000000 := fun p hp => by
    have := parts_le 44 s.data.toList p (by rw [← hP]; exact hp)
    rw [size_len] at this
    omega
  have hPn : P.length ≤ 9000001 := by
    rw [hP, Fo.parts_length]
    have := List.count_le_length (a := (44 : UInt8)) (l := s.data.toList)
    rw [size_len] at this
    omega
  obtain ⟨i0, hi0, hz0, hz1, hz2⟩ := info_parts dir_row
  obtain ⟨i1, hi1, hy0, hy1, hy2⟩ := info_parts pol_row
  have HI0 := Lib.hid hi0
  have HI1 := Lib.hid hi1
  have C24 := Lib.hid c24
  have HPL := Lib.hid hPl
  clear hi0 hi1 c24 hPl hP hpb
  go_enter Tryd.func12, Tryd.ntmps12
  go_wp2_with fail
  refine (C24.out _).mono ?_
  rintro e w1 ⟨pv, rfl, hown1, hb1⟩
  have hpr := TextsR.of_own hown1
  obtain ⟨PA, Pc, rfl, hPc, hPz⟩ := own_form hown1
  rw [bs_length] at hpr hPc ⊢
  obtain ⟨N, hN⟩ : ∃ N, N = P.length := ⟨_, rfl⟩
  rw [← hN] at hpr hPc hPn ⊢
  have HN := Lib.hid hN
  have HPR := Lib.hid hpr
  have HB1 := Lib.hid hb1
  clear hown1 hN hpr hb1
  go_wp2_with fail
  go_loopg [5, 7] N (fun gk lv i wr => ∃ (k : Nat) (ps : List PE), k + gk = N ∧ i = .int .i64 k ∧ Hid (ps.map (fun p => p.2) = outB (P.take k)) ∧ wr.ownsRow w.heap.size 29 2 lv ps.length (flatP report ps) ∧ Hid (∀ p ∈ ps, DirsR wr p.1 p.2) ∧ Hid (KeepT 9 w1 wr) ∧ Hid (Below w.heap.size w wr))
  case atStart => exact ⟨0, [], by omega, rfl, rfl, World.ownsRow_nil _ _ _ _, (fun p hp => by cases hp), KeepT.refl _ _, HB1.out⟩
  case round =>
    obtain ⟨k, ps, hk, rfl, HPS, hown, HDR, HK9, HBW⟩ := hrel
    obtain ⟨W, rfl⟩ : ∃ W, W = wr := ⟨_, rfl⟩
    obtain ⟨G, hG⟩ : ∃ G, G = gk := ⟨_, rfl⟩
    have HG := Lib.hid hG
    clear hG
    have HK := Lib.hid hk; clear hk
    have HOWN := Lib.hid hown
    obtain ⟨LA, LC, rfl, hlc, hlz⟩ := own_form hown
    clear hown
    by_cases hlt : k < N
    · have hkP : k < P.length := by rw [← HN.out]; exact hlt
      have hpr := HPR.out.keep HK9.out
      obtain ⟨g, off, rfl, hcell⟩ := hpr.at_ k (by rw [bs_length]; exact hkP)
      obtain ⟨p, hp⟩ : ∃ p, p = P[k] := ⟨_, rfl⟩
      have hpb : (bs P)[k]'(by rw [bs_length]; exact hkP) = ⟨p.toArray⟩ := by simp [bs, hp]
      rw [hpb] at hcell
      have hpl : p.length ≤ 9000000 := HPL.out p (by rw [hp]; exact List.getElem_mem hkP)
      have htk : P.take (k + 1) = P.take k ++ [p] := by rw [List.take_succ_eq_append_getElem hkP, hp]
      obtain ⟨pb, hpbd⟩ : ∃ pb : ByteArray, pb = ⟨p.toArray⟩ := ⟨_, rfl⟩
      have c24 := fun w' => ref_parts_own pb 59 w' (by rw [hpbd, mk_size']; omega)
      rw [show pb.data.toList = p by rw [hpbd]] at c24
      rw [← hpbd] at hcell
      obtain ⟨Q, hQ⟩ : ∃ Q, Q = Fo.parts 59 p := ⟨_, rfl⟩
      rw [← hQ] at c24
      have hQl : ∀ q ∈ Q, q.length ≤ 9000000 := fun q hq => by
        have := parts_le 59 p q (by rw [← hQ]; exact hq)
        omega
      have hQn : Q.length ≤ 9000001 := by
        rw [hQ, Fo.parts_length]
        have := List.count_le_length (a := (59 : UInt8)) (l := p)
        omega
      have hpol : polB p = accB Q := by rw [hQ]; rfl
      have C24P := Lib.hid c24
      have HQL := Lib.hid hQl
      have HTK := Lib.hid htk
      have HPOL := Lib.hid hpol
      have hgl : g < W.heap.size := World.block_lt_of_cell? W _ hcell
      have hca : (W.alloc (.cells #[.slice none 0 0, .bool report] 29)).cell? ⟨g, off + k, none⟩ = some (.string pb) := (bcell' (below_alloc' W _) hgl).trans hcell
      clear c24 hQl htk hpol hpb hp hpbd hpr hQ
      go_wp2_with fail
      refine (C24P.out _).mono ?_
      rintro e w3 ⟨qv, rfl, hown3, hb3⟩
      have hqr := TextsR.of_own hown3
      obtain ⟨QA, Qc, rfl, hQc, hQz⟩ := own_form hown3
      rw [bs_length] at hqr hQc ⊢
      obtain ⟨M, hM⟩ : ∃ M, M = Q.length := ⟨_, rfl⟩
      rw [← hM] at hqr hQc hQn ⊢
      have hbx3 := (hb3.block W.heap.size (by simp)).trans (heap_alloc_new W (.cells #[.slice none 0 0, .bool report] 29))
      have hbw3 : Below W.heap.size W w3 := (below_alloc' W _).trans (hb3.mono (by simp))
      have HM := Lib.hid hM
      have HQR := Lib.hid hqr
      have HBX3 := Lib.hid hbx3
      have HBW3 := Lib.hid hbw3
      clear hown3 hM hqr hb3 hbx3 hbw3 hca hcell
      go_wp2_with fail
      go_loopg [10] M (fun gk i wr => ∃ (j : Nat) (dv : Value) (es : List Ent), j + gk = M ∧ i = .int .i64 j ∧ Hid (es.map dat = accB (Q.take j)) ∧ Hid (wr.ownsRow (W.heap.size + 1) 42 2 dv es.length (flatD es)) ∧ Hid (∀ x ∈ es, XIn x wr) ∧
        Hid (wr.heap[W.heap.size]? = some (.cells #[dv, .bool report] 29 (0, 0))) ∧ Hid (KeepT 9 w3 wr) ∧ Hid (Below W.heap.size W wr))
      case atStart => exact ⟨0, .slice none 0 0, [], by omega, rfl, rfl, World.ownsRow_nil _ _ _ _, (fun x hx => by cases hx), HBX3.out, KeepT.refl _ _, HBW3.out⟩
      case round =>
        obtain ⟨j, dv, es, hj, rfl, HES, HOW, HXI, HBX, HK3, HBI⟩ := hrel
        have HJ := Lib.hid hj; clear hj
        obtain ⟨DA, DC, rfl, hdc, hdz⟩ := own_form HOW.out
        have hd0 := cell_row HBX.out 0
        have hd1 := cell_row HBX.out 1
        have hdf := frozen_row HBX.out
        simp at hd0 hd1
        have hBlt : W.heap.size < wr.heap.size := World.block_lt_of_cell? wr _ hd0
        by_cases hlj : j < M
        · have hjQ : j < Q.length := by rw [← HM.out]; exact hlj
          obtain ⟨g2, off2, rfl, hcq⟩ := (HQR.out.keep HK3.out).at_ j (by rw [bs_length]; exact hjQ)
          obtain ⟨q, hq⟩ : ∃ q, q = Q[j] := ⟨_, rfl⟩
          have hqb : (bs Q)[j]'(by rw [bs_length]; exact hjQ) = ⟨q.toArray⟩ := by simp [bs, hq]
          rw [hqb] at hcq
          have hql : q.length ≤ 9000000 := HQL.out q (by rw [hq]; exact List.getElem_mem hjQ)
          have htq : Q.take (j + 1) = Q.take j ++ [q] := by rw [List.take_succ_eq_append_getElem hjQ, hq]
          obtain ⟨qb, hqbd⟩ : ∃ qb : ByteArray, qb = ⟨q.toArray⟩ := ⟨_, rfl⟩
          have c25 := fun w' => ref_directive_any qb w' (by rw [hqbd, mk_size']; omega)
          rw [show qb.data.toList = q by rw [hqbd]] at c25
          rw [← hqbd] at hcq
          have hsn := accB_snoc (Q.take j) q
          rw [← htq, ← HES.out] at hsn
          have hwl := refDir_words q
          have hnl := refDir_name q
          have hnl2 : (refDir q).1.1.size ≤ 9000000 := Nat.le_trans hnl hql
          have heb : ∀ d ∈ es.map dat, d.2.length ≤ 10000000 := fun d hd => by
            rw [HES.out] at hd
            exact Nat.le_trans (accB_mem _ d hd) (by omega)
          have hel : es.length ≤ 9000001 := by
            have h1 := congrArg List.length HES.out
            have h2 := accB_length (Q.take j)
            have h3 := List.length_take_le j Q
            rw [List.length_map] at h1
            omega
          obtain ⟨nm, hnm⟩ : ∃ nm, nm = (refDir q).1.1 := ⟨_, rfl⟩
          obtain ⟨ys, hys⟩ : ∃ ys, ys = (refDir q).1.2 := ⟨_, rfl⟩
          obtain ⟨b, hb⟩ : ∃ b, b = (refDir q).2 := ⟨_, rfl⟩
          have hrd : refDir q = ((nm, ys), b) := by rw [hnm, hys, hb]
          rw [← hnm] at hnl2
          rw [hrd] at c25 hsn hwl
          have c16 := fun w' (hd : DirsV w' (.slice DA es.length DC) (es.map dat)) => ref_find_any (.slice DA es.length DC) report (es.map dat) nm w' hd (by omega) (by rw [List.length_map]; omega) heb
          obtain ⟨F, hF⟩ : ∃ F, F = (findB (es.map dat) (Fo.lower nm.data.toList)).isSome := ⟨_, rfl⟩
          have hsn2 : accB (Q.take (j + 1)) = if b = true ∧ F = false then es.map dat ++ [(nm, ys)] else es.map dat := by rw [hF]; exact hsn
          have C25 := Lib.hid c25
          have C16 := Lib.hid c16
          have HSN := Lib.hid hsn2
          have HF := Lib.hid hF
          clear c25 c16 hsn hsn2 hF hrd hb hys hnm heb hqbd htq hqb hq hnl
          go_wp2_with fail
          refine (C25.out _).mono ?_
          rintro e w4 ⟨wv, rfl, htx4, hb4⟩
          obtain ⟨YA, YC, rfl, hyc, hyz, -⟩ := id htx4
          have hbx4 := (hb4.block W.heap.size hBlt).trans HBX.out
          have hm0 := cell_row hbx4 0
          have hm1 := cell_row hbx4 1
          simp at hm0 hm1
          have hBlt4 : W.heap.size < w4.heap.size := World.block_lt_of_cell? w4 _ hm0
          obtain ⟨K, hK⟩ : ∃ K, K = ys.length := ⟨_, rfl⟩
          have htx4' := htx4
          rw [← hK] at htx4 hyc ⊢
          have ha0 := (bcell' (below_alloc' w4 (.cells #[.string nm, .slice YA K YC] 42)) hBlt4).trans hm0
          have ha1 := (bcell' (below_alloc' w4 (.cells #[.string nm, .slice YA K YC] 42)) hBlt4).trans hm1
          have hdv5 : DirsV (w4.alloc (.cells #[.string nm, .slice YA K YC] 42)) (.slice DA es.length DC) (es.map dat) :=
            ((DirsR.of_own HOW.out HXI.out).keep ((KeepT.below hb4).trans (KeepT.grown (World.grownBy_alloc w4 _ none))) ((KeepT.below hb4).trans (KeepT.grown (World.grownBy_alloc w4 _ none)))).toV
          have c16 := C16.out _ hdv5
          have CF := Lib.hid c16
          have HKK := Lib.hid hK
          have HTX := Lib.hid htx4
          have HBX4 := Lib.hid hbx4
          have HB4 := Lib.hid hb4
          clear c16 htx4' hK htx4 hbx4 hb4 hdv5 hd0 hd1 hdf hcq
          go_wp2_with fail
          refine CF.out.mono ?_
          rintro e w6 ⟨fv, rfl, htf, hb6⟩
          rw [← HF.out]
          have hb46 : Below w4.heap.size w4 w6 := (below_alloc' w4 _).trans (hb6.mono (by simp))
          have hbd6 := (hb6.block w4.heap.size (by simp)).trans (heap_alloc_new w4 (.cells #[.string nm, .slice YA K YC] 42))
          have hbx6 := (hb46.block W.heap.size hBlt4).trans HBX4.out
          have he0 := cell_row hbd6 0
          have he1 := cell_row hbd6 1
          have hn0 := cell_row hbx6 0
          have hn1 := cell_row hbx6 1
          have hnf := frozen_row hbx6
          simp at he0 he1 hn0 hn1
          have hbr6 : Below wr.heap.size wr w6 := HB4.out.trans (hb46.mono HB4.out.size)
          have hown6 := own_below HOW.out hbr6
          have htx6 := HTX.out.keep (KeepT.below hb46)
          have hz6 : W.heap.size < w6.heap.size := World.block_lt_of_cell? w6 _ hn0
          have HBR6 := Lib.hid hbr6
          have HOWN6 := Lib.hid hown6
          have HTX6 := Lib.hid htx6
          have HBX6 := Lib.hid hbx6
          clear hb46 hbd6 hb6 htf hbr6 hown6 htx6 hbx6 hm0 hm1 ha0 ha1
          have stay : accB (Q.take (j + 1)) = es.map dat → ∃ (j1 : Nat) (dv : Value) (es : List Ent), j1 + (gk - 1) = M ∧ Value.int .i64 (j + 1) = .int .i64 j1 ∧ Hid (es.map dat = accB (Q.take j1)) ∧ Hid (w6.ownsRow (W.heap.size + 1) 42 2 dv es.length (flatD es)) ∧ Hid (∀ x ∈ es, XIn x w6) ∧
              Hid (w6.heap[W.heap.size]? = some (.cells #[dv, .bool report] 29 (0, 0))) ∧ Hid (KeepT 9 w3 w6) ∧ Hid (Below W.heap.size W w6) := fun h => by
            have hj := HJ.out
            exact ⟨j + 1, _, es, by omega, by go_num, h.symm, HOWN6.out, fun x hx => (HXI.out x hx).keep (KeepT.below HBR6.out), HBX6.out, HK3.out.trans (KeepT.below HBR6.out), HBI.out.trans (HBR6.out.mono HBI.out.size)⟩
          have STAY := Lib.hid stay
          clear stay
          have hjm : gk - 1 < gk := by have hj := HJ.out; omega
          have HJM := Lib.hid hjm
          clear hjm
          cases b
          · go_wp2_with fail
            go_roundg (gk - 1)
            case measure => exact HJM.out
            case rel => exact STAY.out (by rw [HSN.out]; simp)
          cases F
          · go_wp2_with (at_builtin; refine wpList_append_own _ rfl (.tmp 57) (.tmp 59) 27 rfl (W.heap.size + 1) 42 i0 _ 2 40 Tryd.underlying27 HI0.out hz0 hz1 hz2 rfl (by decide) _ es.length (flatD es) rfl (HOWN6.out.alloc _) ⟨w6.heap.size, 0, none⟩ 1 1 [.string nm, .slice YA K YC] rfl rfl (two_new _ _ _ _) (by simp [Value.oneCell']) (by unfold maxLen; omega) (by omega) (by simp; omega) ?_; intro v7 w7 hown7 hgrow _; obtain ⟨VA7, VC7, rfl, _, _⟩ := own_form hown7; have hb7 : Below (W.heap.size + 1) w6 w7 := ((Below.refl _ w6).alloc (by omega) (.cells #[.string nm, .slice YA K YC] 42)).grown hgrow (by simp; omega) (fun q hq => (HOWN6.out.lt q hq).1); have hbx7 := (hb7.block W.heap.size (by omega)).trans HBX6.out; have h70 := cell_row hbx7 0; have h71 := cell_row hbx7 1; have h7f := frozen_row hbx7; simp at h70 h71)
            go_wp2_with fail
            go_roundg (gk - 1)
            case measure => exact HJM.out
            case rel =>
              have hj := HJ.out
              have hb7' : Below W.heap.size w6 w7 := hb7.mono (Nat.le_succ _)
              have k67 : KeepT 9 w6 w7 := (KeepT.grown (World.grownBy_alloc w6 _ none)).trans (keep_append (HOWN6.out.alloc (.cells #[.string nm, .slice YA K YC] 42)) hgrow (by decide))
              have k78 : KeepT 9 w7 (w7.setCell ⟨W.heap.size, 0, none⟩ (.slice VA7 (es.length + 1) VC7)) := KeepT.grownBy (grownBy_setAt w7 _ _) (by
                rintro ⟨vs', fr', e⟩
                have e2 := hbx7.symm.trans e
                injection e2 with e2
                injection e2 with _ e2
                cases e2)
              refine ⟨j + 1, _, es ++ [((nm, .slice YA K YC, ys) : Ent)], by omega, by go_num, ?_, ?_, ?_, heap_setAt (k := 0) hbx7 _, (HK3.out.trans (KeepT.below HBR6.out)).trans (k67.trans k78), HBI.out.trans ((HBR6.out.mono HBI.out.size).trans (hb7'.setCell (p := ⟨W.heap.size, 0, none⟩) (Nat.le_refl _) _))⟩
              · show _ = _
                rw [HSN.out, List.map_append]
                simp [dat]
              · show World.ownsRow _ _ _ _ _ _ _
                rw [flatD, flat2_snoc, List.length_append]
                exact ownsRow_setCell_below hown7 (by simp) _
              · intro y hy
                rcases List.mem_append.1 hy with hy | hy
                · exact (HXI.out y hy).keep ((KeepT.below HBR6.out).trans (k67.trans k78))
                · obtain rfl := List.mem_singleton.1 hy
                  show TextsR _ (.slice YA K YC) ys
                  exact HTX6.out.keep (k67.trans k78)
          · go_wp2_with fail
            go_roundg (gk - 1)
            case measure => exact HJM.out
            case rel => exact STAY.out (by rw [HSN.out]; simp)
        · have hjM : Q.length ≤ j := by have := HJ.out; rw [← HM.out]; omega
          have hes := HES.out
          rw [List.take_of_length_le hjM, ← HPOL.out] at hes
          have hsn := outB_snoc (P.take k) p
          rw [← HTK.out, ← HPS.out, ← hes, List.length_map] at hsn
          have hemp : (es.map dat).isEmpty = decide (es.length = 0) := by cases es <;> simp
          rw [hemp] at hsn
          have hpl10 : ps.length ≤ 10 := by
            have h1 := congrArg List.length HPS.out
            have h2 : (outB (P.take k)).length ≤ 10 := by unfold outB; rw [List.length_take]; omega
            rw [List.length_map] at h1
            omega
          have hdirs := DirsR.of_own HOW.out HXI.out
          have hlown := own_below HOWN.out HBI.out
          have hwz := HBW.out.size
          have HSN := Lib.hid hsn
          have HDIRS := Lib.hid hdirs
          have HLOWN := Lib.hid hlown
          clear hes hjM hsn hemp hdirs hlown hdf
          by_cases h0 : 0 < es.length
          · by_cases h10 : ps.length < 10
            · go_wp2_with (at_builtin; refine wpList_append_own _ rfl (.tmp 71) (.tmp 73) 24 rfl w.heap.size 29 i1 _ 2 32 Tryd.underlying24 HI1.out hy0 hy1 hy2 rfl (by decide) _ ps.length (flatP report ps) rfl (HLOWN.out.alloc _) ⟨wr.heap.size, 0, none⟩ 1 1 [.slice DA es.length DC, .bool report] rfl rfl (two_new _ _ _ _) (by simp [Value.oneCell']) (by unfold maxLen; omega) (by omega) (by simp; omega) ?_; intro v8 w8 hown8 hgrow _)
              go_roundg (G - 1)
              case measure => have hk := HK.out; have hg := HG.out; omega
              case rel =>
                have hk := HK.out; have hg := HG.out
                have hl2 := HLOWN.out.alloc (.cells #[.slice DA es.length DC, .bool report] 29)
                have kt : ∀ T, T ≠ 29 → KeepT T wr w8 := fun T hT => (KeepT.grown (World.grownBy_alloc wr _ none)).trans (keep_append hl2 hgrow hT)
                have kw : ∀ T, T ≠ 29 → KeepT T W w8 := fun T hT => (KeepT.below HBI.out).trans (kt T hT)
                refine ⟨k + 1, ps ++ [(.slice DA es.length DC, es.map dat)], by omega, by go_num, ?_, ?_, ?_, HK9.out.trans (kw 9 (by decide)), ?_⟩
                · show _ = _
                  rw [HSN.out, if_pos ⟨decide_eq_false (by omega), h10⟩, List.map_append]; rfl
                · rw [flatP, flat2_snoc, List.length_append]
                  exact hown8
                · intro y hy
                  rcases List.mem_append.1 hy with hy | hy
                  · exact (HDR.out y hy).keep (kw 9 (by decide)) (kw 42 (by decide))
                  · obtain rfl := List.mem_singleton.1 hy
                    exact HDIRS.out.keep (kt 9 (by decide)) (kt 42 (by decide))
                · exact ((HBW.out.trans (HBI.out.mono HBW.out.size)).alloc (by omega) _).grown hgrow (by simp; omega) (fun q hq => (hl2.lt q hq).1)
            · go_wp2_with fail
              go_roundg (G - 1)
              case measure => have hk := HK.out; have hg := HG.out; omega
              case rel =>
                have hk := HK.out; have hg := HG.out
                refine ⟨k + 1, ps, by omega, by go_num, ?_, HLOWN.out, fun y hy => (HDR.out y hy).keep (KeepT.below HBI.out) (KeepT.below HBI.out), HK9.out.trans (KeepT.below HBI.out), HBW.out.trans (HBI.out.mono HBW.out.size)⟩
                show _ = _
                rw [HSN.out, if_neg (fun h => h10 h.2)]
          · go_wp2_with fail
            go_roundg (G - 1)
            case measure => have hk := HK.out; have hg := HG.out; omega
            case rel =>
              have hk := HK.out; have hg := HG.out
              refine ⟨k + 1, ps, by omega, by go_num, ?_, HLOWN.out, fun y hy => (HDR.out y hy).keep (KeepT.below HBI.out) (KeepT.below HBI.out), HK9.out.trans (KeepT.below HBI.out), HBW.out.trans (HBI.out.mono HBW.out.size)⟩
              show _ = _
              rw [HSN.out, if_neg (fun h => of_decide_eq_false h.1 (by omega))]
    · go_wp2_with fail
      go_ret
      have hk := HK.out
      have hps := HPS.out
      rw [List.take_of_length_le (by rw [← HN.out]; omega)] at hps
      refine ⟨_, rfl, ?_, HBW.out⟩
      have := PolsR.of_own HOWN.out HDR.out (Nat.le_refl _)
      rw [List.take_of_length_le (by simp), hps] at this
      exact this
end Go.Proofs.YteghldoglffabaaDoor
