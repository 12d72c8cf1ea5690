/- What policies say of a name: Allowed. -/
import Derived.Test.YtpjakdekaolmeaaDoorRG
namespace Go.Proofs.YtpjakdekaolmeaaDoor
open Go.RowKit Go.Shelf

abbrev ttS : ByteArray := ⟨#[116, 114, 117, 115, 116, 101, 100, 45, 116, 121, 112, 101, 115]⟩
theorem break_row : (Tryd.prog.info? 56).map (fun i => (i.zero, i.size, i.bytes)) = some (some (.agg #[.int .i64 0, .string ⟨#[]⟩, .bool false]), 3, 32) := by kernel_rfl
def flatB (bl : List (Nat × Bool)) : List Value := bl.flatMap fun b => [.int .i64 b.1, .string ttS, .bool b.2]
theorem flatB_length (bl : List (Nat × Bool)) : (flatB bl).length = bl.length * 3 := by
  induction bl with
  | nil => rfl
  | cons x r ih => simp only [flatB, List.flatMap_cons, List.length_append, List.length_cons, List.length_nil] at ih ⊢; omega
theorem flatB_at : ∀ (bl : List (Nat × Bool)) (j : Nat) (h : j < bl.length), (flatB bl)[j * 3]? = some (.int .i64 bl[j].1) ∧ (flatB bl)[j * 3 + 1]? = some (.string ttS) ∧ (flatB bl)[j * 3 + 2]? = some (.bool bl[j].2)
  | x :: r, 0, _ => ⟨rfl, rfl, rfl⟩
  | x :: r, j + 1, h => by
    have := flatB_at r j (by simpa using h)
    refine ⟨?_, ?_, ?_⟩
    · rw [show (j + 1) * 3 = j * 3 + 1 + 1 + 1 by omega]; simpa [flatB] using this.1
    · rw [show (j + 1) * 3 + 1 = j * 3 + 1 + 1 + 1 + 1 by omega]; simpa [flatB] using this.2.1
    · rw [show (j + 1) * 3 + 2 = j * 3 + 2 + 1 + 1 + 1 by omega]; simpa [flatB] using this.2.2
theorem flatB_snoc (bl : List (Nat × Bool)) (b : Nat × Bool) : flatB (bl ++ [b]) = flatB bl ++ [.int .i64 b.1, .string ttS, .bool b.2] := by simp [flatB]
/-- A value that is a slice of breaks of 'trusted-types'. -/
def BreaksV (w : World) (v : Value) (bl : List (Nat × Bool)) : Prop := ∃ A c, v = .slice A bl.length c ∧ bl.length ≤ c ∧ (A = none → c = 0) ∧
  (0 < bl.length → ∃ g off, A = some ⟨g, off, none⟩ ∧ g < w.heap.size ∧ ∀ j (h : j < bl.length), w.cell? ⟨g, off + j * 3, none⟩ = some (.int .i64 bl[j].1) ∧ w.cell? ⟨g, off + j * 3 + 1, none⟩ = some (.string ttS) ∧ w.cell? ⟨g, off + j * 3 + 2, none⟩ = some (.bool bl[j].2))
theorem BreaksV.below {w w' : World} {v : Value} {bl : List (Nat × Bool)} (h : BreaksV w v bl) (hb : Below w.heap.size w w') : BreaksV w' v bl := by
  obtain ⟨A, c, h1, h2, h3, h4⟩ := h
  refine ⟨A, c, h1, h2, h3, fun hn => ?_⟩
  obtain ⟨g, off, e, hlt, hc⟩ := h4 hn
  refine ⟨g, off, e, Nat.lt_of_lt_of_le hlt hb.size, fun j hj => ?_⟩
  obtain ⟨c1, c2, c3⟩ := hc j hj
  exact ⟨(bcell' hb hlt).trans c1, (bcell' hb hlt).trans c2, (bcell' hb hlt).trans c3⟩
theorem BreaksV.at_ {w : World} {A : Option Addr} {n c : Nat} {bl : List (Nat × Bool)} (h : BreaksV w (.slice A n c) bl) (k : Nat) (hk : k < bl.length) :
    ∃ g off, A = some ⟨g, off, none⟩ ∧ w.cell? ⟨g, off + k * 3, none⟩ = some (.int .i64 bl[k].1) ∧ w.cell? ⟨g, off + k * 3 + 1, none⟩ = some (.string ttS) ∧ w.cell? ⟨g, off + k * 3 + 2, none⟩ = some (.bool bl[k].2) := by
  obtain ⟨A', c', e, _, _, h4⟩ := h
  injection e with e1 e2 e3
  subst e1
  obtain ⟨g, off, e, _, hc⟩ := h4 (by omega)
  exact ⟨g, off, e, hc k hk⟩
theorem BreaksV.of_own {w : World} {base n : Nat} {v : Value} {bl : List (Nat × Bool)} (h : w.ownsRow base 56 3 v n (flatB bl)) : BreaksV w v bl := by
  have hl : bl.length = n := by have := h.1; rw [flatB_length] at this; omega
  subst hl
  obtain ⟨A, c, rfl, h1, h2⟩ := own_form h
  refine ⟨A, c, rfl, h1, h2, fun hn => ?_⟩
  rcases h.2 with ⟨_, h0⟩ | ⟨g, cap, cur, hv, _, hg, _⟩
  · omega
  · injection hv with hA
    subst hA
    refine ⟨g, 0, rfl, (Array.getElem?_eq_some_iff.1 hg).1, fun j hj => ?_⟩
    obtain ⟨f1, f2, f3⟩ := flatB_at bl j hj
    have c1 := h.cells (g := g) rfl _ _ f1
    have c2 := h.cells (g := g) rfl _ _ f2
    have c3 := h.cells (g := g) rfl _ _ f3
    rw [add_at] at c1 c2 c3
    exact ⟨c1, by rw [Nat.add_assoc]; exact c2, by rw [Nat.add_assoc]; exact c3⟩
/-- A verdict. -/
def OutVerdict (bl : List (Nat × Bool)) (w : World) (e : Ending) (w' : World) : Prop := ∃ bv, e = .returned (.agg #[.bool (okM bl), bv]) ∧ w'.ownsRow w.heap.size 56 3 bv bl.length (flatB bl) ∧ Below w.heap.size w w'
theorem own_le {w : World} {base base' size n : Nat} {e : TypeId} {v : Value} {xs : List Value} (h : w.ownsRow base e size v n xs) (hb : base' ≤ base) : w.ownsRow base' e size v n xs := by
  obtain ⟨h1, h2⟩ := h
  refine ⟨h1, ?_⟩
  rcases h2 with h2 | ⟨g, cap, cur, hv, hg, r⟩
  · exact .inl h2
  · exact .inr ⟨g, cap, cur, hv, Nat.le_trans hb hg, r⟩
theorem okM_snoc (bl : List (Nat × Bool)) (b : Nat × Bool) : okM (bl ++ [b]) = (okM bl && b.2) := by simp [okM]
theorem three_new (w : World) (x y z : Value) (t : TypeId) : ∀ (j : Nat) u, [x, y, z][j]? = some u → (w.alloc (.cells #[x, y, z] t)).cell? ((⟨w.heap.size, 0, none⟩ : Addr).add j) = some u := by
  intro j u h
  rw [add_at, Nat.zero_add, cell_of_row _ w.heap.size j #[x, y, z] t (0, 0) (heap_alloc_new w _)]
  simpa using h
def PMild (ps : List PolB) : Prop := ps.length ≤ 10000000 ∧ ∀ p ∈ ps, Mild p.1
theorem setAt_other (W : World) (a : Addr) (v : Value) {j : Nat} (h : j ≠ a.block) : (W.setCell a v).heap[j]? = W.heap[j]? := by
  unfold World.setCell
  rw [Array.getElem?_modify, if_neg (fun e => h e.symm)]
set_option maxHeartbeats 4000000 in
set_option maxRecDepth 100000 in
theorem allowed_any (pv : Value) (ps : List PolB) (A : Option Addr) (N c : Nat) (ms : List ByteArray) (n : ByteArray) (w : World) (hp : PolsV w pv ps) (hm : PMild ps) (ht : Texts w A N ms) (hn : N ≤ 10000000) :
    Calls Tryd.prog 17 #[pv, .slice A N c, .string n] w (OutVerdict (blocksM 0 ms n ps) w) := by
  obtain ⟨PA, pc, rfl, -, -, -⟩ := id hp
  obtain ⟨L, hL⟩ : ∃ L, L = ps.length := ⟨_, rfl⟩
  have hL1 : L ≤ 10000000 := by rw [hL]; exact hm.1
  obtain ⟨i0, hi0, hz0, hz1, hz2⟩ := info_parts break_row
  have HI0 := Lib.hid hi0
  rw [← hL] at hp ⊢
  have HL := Lib.hid hL
  have HP := Lib.hid hp
  have HM := Lib.hid hm
  have HT := Lib.hid ht
  clear hi0 hL hp hm ht
  go_enter Tryd.func17, Tryd.ntmps17
  go_wp2_with fail
  obtain ⟨W0, hW0⟩ : ∃ W0, W0 = (w.alloc (.cells #[.bool false, .slice none 0 0] 32)).alloc (.cells #[.bool true, .slice none 0 0] 32) := ⟨_, rfl⟩
  have hb0 : Below w.heap.size w W0 := by rw [hW0]; exact ((Below.refl _ w).alloc (Nat.le_refl _) _).alloc (by simp) _
  have hp1 : W0.heap[w.heap.size]? = some (.cells #[.bool false, .slice none 0 0] 32 (0, 0)) := by
    rw [hW0]; exact (heap_alloc_old _ _ (by simp)).trans (heap_alloc_new w _)
  have hp2 : W0.heap[w.heap.size + 1]? = some (.cells #[.bool true, .slice none 0 0] 32 (0, 0)) := by
    have := heap_alloc_new (w.alloc (.cells #[.bool false, .slice none 0 0] 32)) (.cells #[.bool true, .slice none 0 0] 32)
    rw [World.size_alloc] at this
    rw [hW0]; exact this
  rw [← hW0]
  clear hW0
  have HB0 := Lib.hid hb0
  have HP1 := Lib.hid hp1
  have HP2 := Lib.hid hp2
  clear hb0 hp1 hp2
  go_loopg [13] L (fun gk i wr => ∃ (k : Nat) (bl : List (Nat × Bool)) (bv : Value), k + gk = L ∧ i = .int .i64 k ∧ Hid (bl = blocksM 0 ms n (ps.take k)) ∧ Hid (wr.ownsRow (w.heap.size + 2) 56 3 bv bl.length (flatB bl)) ∧
    Hid (wr.heap[w.heap.size]? = some (.cells #[.bool false, .slice none 0 0] 32 (0, 0))) ∧ Hid (wr.heap[w.heap.size + 1]? = some (.cells #[.bool (okM bl), bv] 32 (0, 0))) ∧ Hid (Below w.heap.size w wr))
  case atStart => exact ⟨0, [], .slice none 0 0, by omega, rfl, rfl, World.ownsRow_nil _ _ _ _, HP1.out, HP2.out, HB0.out⟩
  case round =>
    obtain ⟨k, bl, bv, hk, rfl, HBL, HOW, HRES, HBOX, HB⟩ := hrel
    have HK := Lib.hid hk; clear hk
    obtain ⟨BA, BC, rfl, hbc, hbz⟩ := own_form HOW.out
    have hsz : w.heap.size + 2 ≤ wr.heap.size := (Array.getElem?_eq_some_iff.1 HBOX.out).1
    obtain ⟨OK, hOK⟩ : ∃ b, b = okM bl := ⟨_, rfl⟩
    rw [← hOK] at HBOX
    have HOK := Lib.hid hOK
    clear hOK
    by_cases hlt : k < L
    · have hkl : k < ps.length := by rw [← HL.out]; exact hlt
      obtain ⟨g, off, dv, rfl, q1, q2, q3⟩ := (HP.out.below HB.out).at_ k hkl
      have hmk := HM.out.2 _ (List.getElem_mem hkl)
      have htk : ps.take (k + 1) = ps.take k ++ [ps[k]] := List.take_succ_eq_append_getElem hkl
      have hsn := blocks_snoc ms n ps[k] (ps.take k) 0
      rw [← htk, ← HBL.out, Nat.zero_add, List.length_take, show min k ps.length = k by omega] at hsn
      have hblen : bl.length ≤ k := by
        have h1 := congrArg List.length HBL.out
        have h2 := blocks_length ms n (ps.take k) 0
        rw [List.length_take] at h2
        omega
      obtain ⟨p, hp⟩ : ∃ p, p = ps[k] := ⟨_, rfl⟩
      rw [← hp] at q2 q3 hmk hsn
      obtain ⟨DA, dc, rfl, -, -, -⟩ := id q3
      have c29 := fun w' (hb : Below wr.heap.size wr w') => lets_any (.slice DA p.1.length dc) p.2 p.1 A N c ms n w' (q3.below hb) hmk (HT.out.below (HB.out.trans (hb.mono HB.out.size))) hn
      obtain ⟨LE, hLE⟩ : ∃ b, b = letsM p.1 ms n := ⟨_, rfl⟩
      obtain ⟨D, hD⟩ : ∃ D, D = p.1.length := ⟨_, rfl⟩
      obtain ⟨PR, hPR⟩ : ∃ b, b = p.2 := ⟨_, rfl⟩
      rw [← hD] at q1
      rw [← hPR] at q2
      rw [← hLE, ← hD, ← hPR] at c29
      rw [← hLE, ← hPR] at hsn
      have C29 := Lib.hid c29
      have HSN := Lib.hid hsn
      clear c29 hsn htk hmk hp hLE hD hPR q3
      go_wp2_with fail
      with_reducible refine (C29.out _ (below_alloc' wr _)).mono ?_
      rintro e w1 ⟨rfl, hb1⟩
      have hbw1 : Below wr.heap.size wr w1 := (below_alloc' wr _).trans (hb1.mono (by simp))
      have hbp := (hb1.block wr.heap.size (by simp)).trans (heap_alloc_new wr (.cells #[.slice DA D dc, .bool PR] 42))
      have hres1 := carry HRES.out hbw1
      have hbox1 := carry HBOX.out hbw1
      have hown1 := own_below HOW.out hbw1
      have h10 := cell_row hbox1 0
      have h11 := cell_row hbox1 1
      have h1f := frozen_row hbox1
      have hp0 := cell_row hbp 0
      have hp1 := cell_row hbp 1
      simp at h10 h11 hp0 hp1
      have hw1 : wr.heap.size < w1.heap.size := (Array.getElem?_eq_some_iff.1 hbp).1
      have HBW1 := Lib.hid hbw1
      have HRES1 := Lib.hid hres1
      have HBOX1 := Lib.hid hbox1
      have HOW1 := Lib.hid hown1
      have HBP := Lib.hid hbp
      clear hb1 hbw1 hres1 hbox1 hown1 hbp
      have hbpa : (w1.alloc (.cells #[.int .i64 k, .string ttS, .bool PR] 56)).heap[wr.heap.size]? = some (.cells #[.slice DA D dc, .bool PR] 42 (0, 0)) := (heap_alloc_old _ _ hw1).trans HBP.out
      have HBPA := Lib.hid hbpa
      clear hbpa
      cases LE
      · cases OK
        all_goals
          go_wp2_with (at_builtin; refine wpList_append_own _ rfl (.tmp 24) (.tmp 29) 30 rfl (w.heap.size + 2) 56 i0 _ 3 32 Tryd.underlying30 HI0.out hz0 hz1 hz2 rfl (by decide) _ bl.length (flatB bl) rfl (HOW1.out.alloc _) ⟨w1.heap.size, 0, none⟩ 1 1 [.int .i64 k, .string ttS, .bool PR] rfl rfl (three_new _ _ _ _ _) (by simp [Value.oneCell']) (by unfold maxLen; omega) (by omega) (by simp; omega) ?_; intro v7 w7 hown7 hgrow _; obtain ⟨VA7, VC7, rfl, _, _⟩ := own_form hown7; have hb7 : Below (w.heap.size + 2) w1 w7 := ((Below.refl _ w1).alloc (by omega) (.cells #[.int .i64 k, .string ttS, .bool PR] 56)).grown hgrow (by simp; omega) (fun q hq => (HOW1.out.lt q hq).1); have hres7 := (hb7.block w.heap.size (by omega)).trans HRES1.out; have hbox7 := (hb7.block (w.heap.size + 1) (by omega)).trans HBOX1.out; have hbp7 := (keep_append (T' := 42) (HOW1.out.alloc (.cells #[.int .i64 k, .string ttS, .bool PR] 56)) hgrow (by decide) wr.heap.size ⟨_, _, HBPA.out⟩).trans HBPA.out; have hp71 := cell_row hbp7 1; have h70 := cell_row hbox7 0; have h71 := cell_row hbox7 1; have h7f := frozen_row hbox7; simp at h70 h71 hp71)
          go_wp2_with fail
          go_roundg (gk - 1)
          case measure => have hk := HK.out; omega
          case rel =>
            have hk := HK.out
            have hb7' : Below w.heap.size w1 w7 := hb7.mono (by omega)
            have hx1 := heap_setAt (k := 1) hbox7 (.slice VA7 (bl.length + 1) VC7)
            have ne1 : w.heap.size ≠ w.heap.size + 1 := by omega
            refine ⟨k + 1, bl ++ [(k, PR)], .slice VA7 (bl.length + 1) VC7, by omega, by go_num, ?_, ?_, ?_, ?_, ?_⟩
            · show _ = _
              rw [HSN.out]; simp
            · show World.ownsRow _ _ _ _ _ _ _
              rw [flatB_snoc, List.length_append]
              exact ownsRow_setCell_below (ownsRow_setCell_below hown7 (a := ⟨w.heap.size + 1, 1, none⟩) (by simp) _) (a := ⟨w.heap.size + 1, 0, none⟩) (by simp) _
            · exact ((setAt_other _ ⟨w.heap.size + 1, 0, none⟩ _ ne1).trans (setAt_other _ ⟨w.heap.size + 1, 1, none⟩ _ ne1)).trans hres7
            · have hx2 := fun v => heap_setAt (k := 0) hx1 v
              have hok := HOK.out
              rw [okM_snoc, ← hok]
              exact hx2 _
            · exact HB.out.trans ((HBW1.out.mono HB.out.size).trans ((hb7'.setCell (p := ⟨w.heap.size + 1, 1, none⟩) (by simp) _).setCell (p := ⟨w.heap.size + 1, 0, none⟩) (by simp) _))
      · go_wp2_with fail
        go_roundg (gk - 1)
        case measure => have hk := HK.out; omega
        case rel =>
          have hk := HK.out
          refine ⟨k + 1, bl, _, by omega, by go_num, ?_, HOW1.out, HRES1.out, by rw [← HOK.out]; exact HBOX1.out, HB.out.trans (HBW1.out.mono HB.out.size)⟩
          show _ = _
          rw [HSN.out]; simp
    · have hke : k = L := by have := HK.out; omega
      have hr0 := cell_row HRES.out 0
      have hr1 := cell_row HRES.out 1
      have hrf := frozen_row HRES.out
      have hb0 := cell_row HBOX.out 0
      have hb1 := cell_row HBOX.out 1
      simp at hr0 hr1 hb0 hb1
      go_wp2_with fail
      have hx1 := heap_setAt (k := 0) HRES.out (.bool OK)
      have hx2 := heap_setAt (k := 1) hx1 (.slice BA bl.length BC)
      have hq0 := cell_row hx2 0
      have hq1 := cell_row hx2 1
      simp at hq0 hq1
      have hfin := own_le (ownsRow_setCell_below (ownsRow_setCell_below HOW.out (a := ⟨w.heap.size, 0, none⟩) (by simp) (.bool OK)) (a := ⟨w.heap.size, 1, none⟩) (by simp) (.slice BA bl.length BC)) (base' := w.heap.size) (by omega)
      have hbf := (HB.out.setCell (p := ⟨w.heap.size, 0, none⟩) (Nat.le_refl _) (.bool OK)).setCell (p := ⟨w.heap.size, 1, none⟩) (Nat.le_refl _) (.slice BA bl.length BC)
      have hbl := HBL.out
      rw [List.take_of_length_le (by rw [← HL.out]; omega)] at hbl
      rw [← hbl]
      refine bodyPost_ret (v := .agg #[.bool OK, .slice BA bl.length BC]) ?_ rfl ⟨_, by rw [HOK.out], hfin, hbf⟩
      simp [results, Tryd.results17, go_sem, hq0, hq1]
end Go.Proofs.YtpjakdekaolmeaaDoor
