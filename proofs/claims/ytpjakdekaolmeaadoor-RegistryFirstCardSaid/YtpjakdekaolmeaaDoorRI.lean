/- What policies say of a name: ref Allowed. -/
import Derived.Test.YtpjakdekaolmeaaDoorRH
namespace Go.Proofs.YtpjakdekaolmeaaDoor
open Go.RowKit Go.Shelf

set_option maxHeartbeats 4000000 in
set_option maxRecDepth 100000 in
theorem ref_allowed_any (pv : Value) (ps : List PolB) (A : Option Addr) (N c : Nat) (ms : List ByteArray) (n : ByteArray) (w : World) (hp : PolsV w pv ps) (hm : PMild ps) (ht : Texts w A N ms) (hn : N ≤ 10000000) :
    Calls Tryd.prog 18 #[pv, .slice A N c, .string n] w (OutVerdict (blocksM 0 ms n ps) w) := by
  obtain ⟨PA, pc, rfl, -, -, -⟩ := id hp
  obtain ⟨L, hL⟩ : ∃ L, L = ps.length := ⟨_, rfl⟩
  have hL1 : L ≤ 10000000 := by rw [hL]; exact hm.1
  obtain ⟨i0, hi0, hz0, hz1, hz2⟩ := info_parts break_row
  have HI0 := Lib.hid hi0
  rw [← hL] at hp ⊢
  have HL := Lib.hid hL
  have HP := Lib.hid hp
  have HM := Lib.hid hm
  have HT := Lib.hid ht
  clear hi0 hL hp hm ht
  go_enter Tryd.func18, Tryd.ntmps18
  go_wp2_with fail
  obtain ⟨W0, hW0⟩ : ∃ W0, W0 = (w.alloc (.cells #[.bool false, .slice none 0 0] 32)).alloc (.cells #[.bool true, .slice none 0 0] 32) := ⟨_, rfl⟩
  have hb0 : Below w.heap.size w W0 := by rw [hW0]; exact ((Below.refl _ w).alloc (Nat.le_refl _) _).alloc (by simp) _
  have hp1 : W0.heap[w.heap.size]? = some (.cells #[.bool false, .slice none 0 0] 32 (0, 0)) := by
    rw [hW0]; exact (heap_alloc_old _ _ (by simp)).trans (heap_alloc_new w _)
  have hp2 : W0.heap[w.heap.size + 1]? = some (.cells #[.bool true, .slice none 0 0] 32 (0, 0)) := by
    have := heap_alloc_new (w.alloc (.cells #[.bool false, .slice none 0 0] 32)) (.cells #[.bool true, .slice none 0 0] 32)
    rw [World.size_alloc] at this
    rw [hW0]; exact this
  rw [← hW0]
  clear hW0
  have HB0 := Lib.hid hb0
  have HP1 := Lib.hid hp1
  have HP2 := Lib.hid hp2
  clear hb0 hp1 hp2
  go_loopg [8] L (fun gk i wr => ∃ (k : Nat) (bl : List (Nat × Bool)) (bv : Value), k + gk = L ∧ i = .int .i64 k ∧ Hid (bl = blocksM 0 ms n (ps.take k)) ∧ Hid (wr.ownsRow (w.heap.size + 2) 56 3 bv bl.length (flatB bl)) ∧
    Hid (wr.heap[w.heap.size]? = some (.cells #[.bool false, .slice none 0 0] 32 (0, 0))) ∧ Hid (wr.heap[w.heap.size + 1]? = some (.cells #[.bool (okM bl), bv] 32 (0, 0))) ∧ Hid (Below w.heap.size w wr))
  case atStart => exact ⟨0, [], .slice none 0 0, by omega, rfl, rfl, World.ownsRow_nil _ _ _ _, HP1.out, HP2.out, HB0.out⟩
  case round =>
    obtain ⟨k, bl, bv, hk, rfl, HBL, HOW, HRES, HBOX, HB⟩ := hrel
    have HK := Lib.hid hk; clear hk
    obtain ⟨BA, BC, rfl, hbc, hbz⟩ := own_form HOW.out
    have hsz : w.heap.size + 2 ≤ wr.heap.size := (Array.getElem?_eq_some_iff.1 HBOX.out).1
    obtain ⟨OK, hOK⟩ : ∃ b, b = okM bl := ⟨_, rfl⟩
    rw [← hOK] at HBOX
    have HOK := Lib.hid hOK
    clear hOK
    by_cases hlt : k < L
    · have hkl : k < ps.length := by rw [← HL.out]; exact hlt
      obtain ⟨g, off, dv, hpa, q1, q2, q3⟩ := (HP.out.below HB.out).at_ k hkl
      have hg : g < w.heap.size := by
        obtain ⟨A', c', e, _, _, h4⟩ := HP.out
        obtain ⟨g', off', e', hg', _⟩ := h4 (by omega)
        injection e with e1
        rw [hpa, e'] at e1
        injection e1 with e1
        injection e1 with e1
        omega
      subst hpa
      have hmk := HM.out.2 _ (List.getElem_mem hkl)
      have htk : ps.take (k + 1) = ps.take k ++ [ps[k]] := List.take_succ_eq_append_getElem hkl
      have hsn := blocks_snoc ms n ps[k] (ps.take k) 0
      rw [← htk, ← HBL.out, Nat.zero_add, List.length_take, show min k ps.length = k by omega] at hsn
      have hblen : bl.length ≤ k := by
        have h1 := congrArg List.length HBL.out
        have h2 := blocks_length ms n (ps.take k) 0
        rw [List.length_take] at h2
        omega
      obtain ⟨p, hp⟩ : ∃ p, p = ps[k] := ⟨_, rfl⟩
      rw [← hp] at q2 q3 hmk hsn
      obtain ⟨DA, dc, rfl, -, -, -⟩ := id q3
      have c30 := fun w' (hb : Below wr.heap.size wr w') => ref_lets_any (.slice DA p.1.length dc) p.2 p.1 A N c ms n w' (q3.below hb) hmk (HT.out.below (HB.out.trans (hb.mono HB.out.size))) hn
      obtain ⟨LE, hLE⟩ : ∃ b, b = letsM p.1 ms n := ⟨_, rfl⟩
      obtain ⟨D, hD⟩ : ∃ D, D = p.1.length := ⟨_, rfl⟩
      obtain ⟨PR, hPR⟩ : ∃ b, b = p.2 := ⟨_, rfl⟩
      rw [← hD] at q1
      rw [← hPR] at q2
      rw [← hLE, ← hD, ← hPR] at c30
      rw [← hLE, ← hPR] at hsn
      have C30 := Lib.hid c30
      have HSN := Lib.hid hsn
      clear c30 hsn htk hmk hp hLE hD hPR q3
      go_wp2_with fail
      with_reducible refine (C30.out _ (Below.refl _ wr)).mono ?_
      rintro e w1 ⟨rfl, hb1⟩
      have hgw : g < wr.heap.size := by omega
      have hres1 := carry HRES.out hb1
      have hbox1 := carry HBOX.out hb1
      have hown1 := own_below HOW.out hb1
      have hq2 := (bcell' hb1 hgw).trans q2
      have h10 := cell_row hbox1 0
      have h11 := cell_row hbox1 1
      have h1f := frozen_row hbox1
      simp at h10 h11
      have HBW1 := Lib.hid hb1
      have HRES1 := Lib.hid hres1
      have HBOX1 := Lib.hid hbox1
      have HOW1 := Lib.hid hown1
      have HQ2 := Lib.hid hq2
      have hw1 : wr.heap.size ≤ w1.heap.size := hb1.size
      clear hb1 hres1 hbox1 hown1
      cases LE
      · cases OK
        all_goals
          have hda := (bcell' (below_alloc' w1 (.cells #[.int .i64 k, .string ttS, .bool PR] 56)) (b := w.heap.size + 1) (o := 1) (by omega)).trans h11
          go_wp2_with fail
          go_region_law (refine step_append_lies _ (by rfl) _ _ _ (by rfl) (w.heap.size + 2) 56 i0 _ 3 32 Tryd.underlying30 HI0.out hz0 hz1 hz2 rfl (by omega) _ bl.length (flatB bl) (by rfl) (HOW1.out.alloc _) ⟨w1.heap.size, 0, none⟩ 1 1 [.int .i64 k, .string ttS, .bool PR] (by rfl) (by rfl) (World.news_of_block (cs := #[.int .i64 k, .string ttS, .bool PR]) (t := 56) (fr := (0, 0)) (heap_alloc_new w1 _)) (by simp [Value.oneCell']) (by omega) (by unfold maxLen; omega) (by omega) (by simp; omega) (w1.heap.size + 1) (by simp) ?_; intro gg cap w7 hown7 hgrow hat hltg; have hb7 : Below (w.heap.size + 2) w1 w7 := (below_drewR ((Below.refl _ w1).alloc (by omega) (.cells #[.int .i64 k, .string ttS, .bool PR] 56))).grown hgrow (by simp; omega) (fun q hq => (HOW1.out.lt q hq).1); have hres7 := (hb7.block w.heap.size (by omega)).trans HRES1.out; have hbox7 := (hb7.block (w.heap.size + 1) (by omega)).trans HBOX1.out; have h70 := cell_row hbox7 0; have h71 := cell_row hbox7 1; have h7f := frozen_row hbox7; have hq7 := (bcell' (hb7.mono (by omega)) hg).trans HQ2.out; simp at h70 h71)
          all_goals
            have hq8 := (World.cell?_setCell_other w7 ⟨w.heap.size + 1, 1, none⟩ ⟨g, off + k * 2 + 1, none⟩ (.slice (some ⟨gg, 0, none⟩) (bl.length + 1) cap) (by intro e; injection e; omega)).trans hq7
            go_wp2_with fail
            go_roundg (gk - 1)
            case measure => have hk := HK.out; omega
            case rel =>
              have hk := HK.out
              have hb7' : Below w.heap.size w1 w7 := hb7.mono (by omega)
              have hx1 := heap_setAt (k := 1) hbox7 (.slice (some ⟨gg, 0, none⟩) (bl.length + 1) cap)
              have ne1 : w.heap.size ≠ w.heap.size + 1 := by omega
              refine ⟨k + 1, bl ++ [(k, PR)], .slice (some ⟨gg, 0, none⟩) (bl.length + 1) cap, by omega, by go_num, ?_, ?_, ?_, ?_, ?_⟩
              · show _ = _
                rw [HSN.out]; simp
              · show World.ownsRow _ _ _ _ _ _ _
                rw [flatB_snoc, List.length_append]
                exact ownsRow_setCell_below (ownsRow_setCell_below hown7 (a := ⟨w.heap.size + 1, 1, none⟩) (by simp) _) (a := ⟨w.heap.size + 1, 0, none⟩) (by simp) _
              · exact ((setAt_other _ ⟨w.heap.size + 1, 0, none⟩ _ ne1).trans (setAt_other _ ⟨w.heap.size + 1, 1, none⟩ _ ne1)).trans hres7
              · have hx2 := fun v => heap_setAt (k := 0) hx1 v
                have hok := HOK.out
                rw [okM_snoc, ← hok]
                exact hx2 _
              · exact HB.out.trans ((HBW1.out.mono HB.out.size).trans ((hb7'.setCell (p := ⟨w.heap.size + 1, 1, none⟩) (by simp) _).setCell (p := ⟨w.heap.size + 1, 0, none⟩) (by simp) _))
      · go_wp2_with fail
        go_roundg (gk - 1)
        case measure => have hk := HK.out; omega
        case rel =>
          have hk := HK.out
          refine ⟨k + 1, bl, _, by omega, by go_num, ?_, HOW1.out, HRES1.out, by rw [← HOK.out]; exact HBOX1.out, HB.out.trans (HBW1.out.mono HB.out.size)⟩
          show _ = _
          rw [HSN.out]; simp
    · have hke : k = L := by have := HK.out; omega
      have hr0 := cell_row HRES.out 0
      have hr1 := cell_row HRES.out 1
      have hrf := frozen_row HRES.out
      have hb0 := cell_row HBOX.out 0
      have hb1 := cell_row HBOX.out 1
      simp at hr0 hr1 hb0 hb1
      go_wp2_with fail
      have hx1 := heap_setAt (k := 0) HRES.out (.bool OK)
      have hx2 := heap_setAt (k := 1) hx1 (.slice BA bl.length BC)
      have hq0 := cell_row hx2 0
      have hq1 := cell_row hx2 1
      simp at hq0 hq1
      have hfin := own_le (ownsRow_setCell_below (ownsRow_setCell_below HOW.out (a := ⟨w.heap.size, 0, none⟩) (by simp) (.bool OK)) (a := ⟨w.heap.size, 1, none⟩) (by simp) (.slice BA bl.length BC)) (base' := w.heap.size) (by omega)
      have hbf := (HB.out.setCell (p := ⟨w.heap.size, 0, none⟩) (Nat.le_refl _) (.bool OK)).setCell (p := ⟨w.heap.size, 1, none⟩) (Nat.le_refl _) (.slice BA bl.length BC)
      have hbl := HBL.out
      rw [List.take_of_length_le (by rw [← HL.out]; omega)] at hbl
      rw [← hbl]
      refine bodyPost_ret (v := .agg #[.bool OK, .slice BA bl.length BC]) ?_ rfl ⟨_, by rw [HOK.out], hfin, hbf⟩
      simp [results, Tryd.results18, go_sem, hq0, hq1]
end Go.Proofs.YtpjakdekaolmeaaDoor
