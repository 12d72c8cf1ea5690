/- The reference's directive. -/
import Derived.Test.YteghldoglffabaaDoorHP
namespace Go.Proofs.YteghldoglffabaaDoor
open Go.RowKit Go.Shelf

theorem below_drewR {B : Nat} {w w' : World} (h : Below B w w') : Below B w w'.drew := ⟨h.os, h.tape, h.output, h.size, h.block⟩
theorem Texts.row {w : World} {A : Option Addr} {n : Nat} {ss : List ByteArray} (h : Texts w A n ss) (hn : 0 < n) : ∃ b off, A = some ⟨b, off, none⟩ ∧ b < w.heap.size ∧ ∀ j (h : j < ss.length), w.cell? ⟨b, off + j, none⟩ = some (.string ss[j]) := by
  obtain ⟨ad, rfl, hlt, hc⟩ := h.2 hn
  obtain ⟨b, off, sp⟩ := ad
  have hsp := World.cell?_spot (hc 0 (by have := h.1; omega))
  simp [Addr.add] at hsp
  subst hsp
  exact ⟨b, off, rfl, hlt, fun j hj => by have := hc j hj; rwa [add_at] at this⟩
/-- A part's directive, whether it has a name. -/
def refDirW : List (List UInt8) → (ByteArray × List ByteArray) × Bool
  | [] => ((⟨#[]⟩, []), false)
  | w :: r => ((⟨(Fo.lower w).toArray⟩, restOf (bs (w :: r))), Hd.name (Fo.lower w))
def refDir (p : List UInt8) : (ByteArray × List ByteArray) × Bool := refDirW (Fo.words p)
theorem dirB_ref (p : List UInt8) : dirB p = if (refDir p).2 then some (refDir p).1 else none := by
  unfold dirB refDir
  cases Fo.words p <;> rfl
def OutDir (d : (ByteArray × List ByteArray) × Bool) (w : World) (e : Ending) (w' : World) : Prop := ∃ wv, e = .returned (.tuple #[.agg #[.string d.1.1, wv], .bool d.2]) ∧ TextsR w' wv d.1.2 ∧ Below w.heap.size w w'
set_option maxHeartbeats 4000000 in
set_option maxRecDepth 100000 in
theorem ref_directive_any (s : ByteArray) (w : World) (hs : s.size ≤ 10000000) : Calls Tryd.prog 25 #[.string s] w (OutDir (refDir s.data.toList) w) := by
  have c42 := fun w' => ref_words_any s w' hs
  obtain ⟨ws, hws⟩ : ∃ ws, ws = Fo.words s.data.toList := ⟨_, rfl⟩
  have hlen : ws.length ≤ 10000000 := by
    have := Fo.words_length s.data.toList
    rw [size_len] at this
    rw [hws]; omega
  have hsm : ∀ x ∈ bs ws, x.size ≤ 10000000 := fun x hx => by
    obtain ⟨y, hy, rfl⟩ := List.mem_map.1 hx
    rw [mk_size']
    rw [hws] at hy
    have := words_le s.data.toList y hy
    rw [size_len] at this
    omega
  have hrd : refDir s.data.toList = refDirW ws := by rw [hws]; rfl
  rw [← hws] at c42
  have C42 := Lib.hid c42
  have HSM := Lib.hid hsm
  clear c42 hsm hws
  rw [hrd]
  clear hrd
  rcases ws with _ | ⟨x0, rest⟩
  · have hz : (bs ([] : List (List UInt8))) = [] := rfl
    rw [hz] at C42
    clear hz
    go_enter Tryd.func25, Tryd.ntmps25
    go_wp2_with fail
    refine (C42.out _).mono ?_
    rintro e w1 ⟨A1, c1, rfl, h11, h12, h13, hb1⟩
    have hbx := (hb1.block w.heap.size (by simp)).trans (heap_alloc_new w (.cells #[.string ⟨#[]⟩, .slice none 0 0] 42))
    have hc0 := cell_row hbx 0
    have hc1 := cell_row hbx 1
    have hf := frozen_row hbx
    simp at hc0 hc1
    have hb : Below w.heap.size w w1 := (below_alloc' w _).trans (hb1.mono (by simp))
    have HB := Lib.hid hb
    clear hb1 hb
    go_wp2_with fail
    refine bodyPost_ret (v := .tuple #[.agg #[.string ⟨#[]⟩, .slice none 0 0], .bool false]) ?_ rfl ?_
    · simp [results, Tryd.results25, go_sem, hc0, hc1]
    · exact ⟨_, rfl, ⟨none, 0, rfl, Nat.le_refl _, fun _ => rfl, fun h => absurd h (by simp [refDirW])⟩, (HB.out.setCell (p := ⟨w.heap.size, 0, none⟩) (Nat.le_refl _) _).setCell (p := ⟨w.heap.size, 1, none⟩) (Nat.le_refl _) _⟩
  · obtain ⟨L, hL⟩ : ∃ L, L = (bs (x0 :: rest)).length := ⟨_, rfl⟩
    have hL1 : 1 ≤ L := by rw [hL, bs_length]; simp
    have hLb : L ≤ 10000000 := by rw [hL, bs_length]; exact hlen
    obtain ⟨x0b, hx0⟩ : ∃ x0b : ByteArray, x0b = ⟨x0.toArray⟩ := ⟨_, rfl⟩
    have hx0s : x0b.size ≤ 10000000 := by rw [hx0]; exact HSM.out _ (by simp [bs])
    have c21 := fun w' => ref_lower_any x0b w' hx0s
    obtain ⟨D, hD⟩ : ∃ D : ByteArray, D = ⟨(Fo.lower x0).toArray⟩ := ⟨_, rfl⟩
    rw [show x0b.data.toList = x0 by rw [hx0], ← hD] at c21
    have hDs : D.size ≤ 10000000 := by rw [hD, mk_size', Fo.lower_length]; rw [hx0, mk_size'] at hx0s; exact hx0s
    have c44 := fun w' => ref_name_any D w' hDs
    rw [show D.data.toList = Fo.lower x0 by rw [hD]] at c44
    have hgoal : refDirW (x0 :: rest) = ((D, restOf (bs (x0 :: rest))), Hd.name (Fo.lower x0)) := by rw [hD]; rfl
    rw [hgoal]
    obtain ⟨NB, hNB⟩ : ∃ b, b = Hd.name (Fo.lower x0) := ⟨_, rfl⟩
    rw [← hNB] at c44 ⊢
    obtain ⟨ss, hss⟩ : ∃ ss, ss = bs (x0 :: rest) := ⟨_, rfl⟩
    have hs0 : ss[0]? = some x0b := by rw [hss, hx0]; rfl
    rw [← hss] at C42 HSM hL ⊢
    have C21 := Lib.hid c21
    have C44 := Lib.hid c44
    have HL := Lib.hid hL
    have HS0 := Lib.hid hs0
    clear c21 c44 hD hNB hx0 hgoal hss hs0 hlen
    obtain ⟨i0, hi0, hz0, hz1, hz2⟩ := info_parts text_row
    have HI0 := Lib.hid hi0
    clear hi0
    go_enter Tryd.func25, Tryd.ntmps25
    go_wp2_with fail
    refine (C42.out _).mono ?_
    rintro e w1 ⟨A1, c1, rfl, h11, h12, h13, hb1⟩
    have hbx := (hb1.block w.heap.size (by simp)).trans (heap_alloc_new w (.cells #[.string ⟨#[]⟩, .slice none 0 0] 42))
    have hb : Below w.heap.size w w1 := (below_alloc' w _).trans (hb1.mono (by simp))
    have HB := Lib.hid hb
    have HBX := Lib.hid hbx
    rw [← hL] at h11 h13 ⊢
    obtain ⟨b, off, rfl, hblt, hcells⟩ := h13.row (by omega)
    have hcc : w1.cell? ⟨b, off, none⟩ = some (.string x0b) := by
      have := hcells 0 (by rw [← hL]; omega)
      rw [Nat.add_zero] at this
      rw [this]
      have h2 := HS0.out
      rw [List.getElem?_eq_getElem (by rw [← hL]; omega)] at h2
      injection h2 with h2
      rw [h2]
    have HCELLS := Lib.hid hcells
    clear hb1 hb hbx hcells h13 hL
    go_wp2_with fail
    refine (C21.out _).mono ?_
    rintro e w2 ⟨rfl, hb2⟩
    have HB12 := Lib.hid hb2
    have HBX2 := Lib.hid ((hb2.block w.heap.size (Array.getElem?_eq_some_iff.1 HBX.out).1).trans HBX.out)
    have hblt2 : b < w2.heap.size := Nat.lt_of_lt_of_le hblt hb2.size
    have HC2 := Lib.hid (fun j (h : j < ss.length) => (bcell' hb2 hblt).trans (HCELLS.out j h))
    clear hb2 hcc
    go_wp2_with fail
    obtain ⟨T, hT⟩ : ∃ T, T = min L 201 := ⟨_, rfl⟩
    have HT := Lib.hid hT
    clear hT
    go_loopg [6] (T - 1) (fun gk i wr => ∃ (k : Nat) (wv : Value) (m : Nat) (xs : List ByteArray), k + gk = T ∧ i = .int .i64 k ∧ 1 ≤ k ∧ m ≤ k ∧ Hid (xs = ((ss.tail.take (k - 1)).filter fun s => Hd.word s.data.toList)) ∧
      wr.ownsRow (w2.heap.size + 1) 9 1 wv m (xs.map Value.string) ∧ Hid (wr.heap[w2.heap.size]? = some (.cells #[.string D, wv] 42 (0, 0))) ∧ Hid (Below w2.heap.size w2 wr))
    case atStart => exact ⟨1, .slice none 0 0, 0, [], by have := HT.out; omega, rfl, by omega, by omega, rfl, World.ownsRow_nil _ _ _ _, heap_alloc_new w2 _, below_alloc' w2 _⟩
    case round =>
      obtain ⟨k, wv, m, xs, hk, rfl, hk1, hmk, HXS, hown, HBOX, HBW⟩ := hrel
      have HK := Lib.hid hk; clear hk
      have HOWN := Lib.hid hown
      obtain ⟨VA, VC, rfl, hvc, hvz⟩ := own_form hown
      have hsz : w2.heap.size + 1 ≤ wr.heap.size := (Array.getElem?_eq_some_iff.1 HBOX.out).1
      have hd0 := cell_row HBOX.out 0
      have hd1 := cell_row HBOX.out 1
      have hdf := frozen_row HBOX.out
      simp at hd0 hd1
      clear hown
      by_cases hlt : k < T
      · have hkT := HT.out
        have hkL : k < L := by omega
        have hk2 : (k : Int) ≤ 200 := by omega
        clear hkT
        have hks : k < ss.length := by rw [← HL.out]; exact hkL
        have hc1 := (bcell' HBW.out hblt2).trans (HC2.out k hks)
        have hsx := HSM.out _ (List.getElem_mem hks)
        have htl : ss.tail.take k = ss.tail.take (k - 1) ++ [ss[k]] := by
          obtain ⟨k', rfl⟩ : ∃ k', k = k' + 1 := ⟨k - 1, by omega⟩
          rw [List.take_succ_eq_append_getElem (by simp; omega)]
          simp
        obtain ⟨x, hx⟩ : ∃ x, x = ss[k] := ⟨_, rfl⟩
        rw [← hx] at hc1 hsx htl
        have c43 := fun w' => ref_word_any x w' hsx
        obtain ⟨WB, hWB⟩ : ∃ b, b = Hd.word x.data.toList := ⟨_, rfl⟩
        rw [← hWB] at c43
        have HWB := Lib.hid hWB
        have C43 := Lib.hid c43
        have HTL := Lib.hid htl
        clear hWB c43 htl hx hsx
        go_wp2_with fail
        refine (C43.out _).mono ?_
        rintro e w3 ⟨rfl, hw3⟩
        obtain rfl : wr = w3 := hw3.symm
        clear hw3
        cases WB
        · go_wp2_with fail
          go_roundg (gk - 1)
          case measure => have hk := HK.out; omega
          case rel =>
            have hk := HK.out
            refine ⟨k + 1, _, m, xs, by omega, by go_num, by omega, by omega, ?_, HOWN.out, HBOX.out, HBW.out⟩
            show _ = _
            rw [Nat.add_sub_cancel, HTL.out, List.filter_append, ← HXS.out]
            simp [← HWB.out]
        · have hda := (bcell' (below_alloc' wr (.cells #[.string x] 9)) (b := w2.heap.size) (o := 1) (by omega)).trans hd1
          go_wp2_with fail
          go_region_law (refine step_append_lies _ (by rfl) _ _ _ (by rfl) (w2.heap.size + 1) 9 _ _ 1 16 Tryd.underlying32 HI0.out hz0 hz1 hz2 rfl (by omega) _ m (xs.map Value.string) (by rfl) (HOWN.out.alloc _) ⟨wr.heap.size, 0, none⟩ 1 1 [.string x] (by rfl) (by rfl) (World.news_of_block (cs := #[.string x]) (t := 9) (fr := (0, 0)) (heap_alloc_new wr _)) (by simp [Value.oneCell']) (by omega) (by unfold maxLen; omega) (by omega) (by simp; omega) (wr.heap.size + 1) (by simp) ?_; intro gg cap w5 hown5 hgrow hat hltg; have hb5 : Below (w2.heap.size + 1) wr w5 := (below_drewR ((Below.refl _ wr).alloc (by omega) (.cells #[.string x] 9))).grown hgrow (by simp; omega) (fun q hq => (HOWN.out.lt q hq).1); have hbx5 := (hb5.block w2.heap.size (by omega)).trans HBOX.out; have h50 := cell_row hbx5 0; have h51 := cell_row hbx5 1; have h5f := frozen_row hbx5; simp at h50 h51)
          all_goals
            go_wp2_with fail
            go_roundg (gk - 1)
            case measure => have hk := HK.out; omega
            case rel =>
              have hk := HK.out
              refine ⟨k + 1, _, m + 1, xs ++ [x], by omega, by go_num, by omega, by omega, ?_, ?_, heap_setAt (k := 1) hbx5 _, ?_⟩
              · show _ = _
                rw [Nat.add_sub_cancel, HTL.out, List.filter_append, ← HXS.out]
                simp [← HWB.out]
              · rw [List.map_append]
                exact ownsRow_setCell_below hown5 (by simp) _
              · have hb5' : Below w2.heap.size wr w5 := hb5.mono (Nat.le_succ _)
                exact HBW.out.trans (hb5'.setCell (p := ⟨w2.heap.size, 1, none⟩) (Nat.le_refl _) _)
      · have hkT := HT.out
        have hke : k = T := by have := HK.out; omega
        have HXF : Hid (xs = restOf ss) := by
          show xs = _
          rw [HXS.out]
          unfold restOf
          rcases Nat.lt_or_ge 200 (L - 1) with h | h
          · rw [show k - 1 = 200 by omega]
          · have h1 : ss.tail.take (k - 1) = ss.tail := List.take_of_length_le (by rw [List.length_tail, ← HL.out]; omega)
            have h2 : ss.tail.take 200 = ss.tail := List.take_of_length_le (by rw [List.length_tail, ← HL.out]; omega)
            rw [h1, h2]
        by_cases hkL : k < L
        case' pos => have hk2 : ¬ (k : Int) ≤ 200 := by omega
        all_goals
          have hresx := (HBW.out.block w.heap.size (Array.getElem?_eq_some_iff.1 HBX2.out).1).trans HBX2.out
          have hr0 := cell_row hresx 0
          have hr1 := cell_row hresx 1
          have hrf := frozen_row hresx
          simp at hr0 hr1
          have HRX := Lib.hid hresx
          clear hkT hke hresx
          go_wp2_with fail
          go_region_with (go_at_call 44; refine (C44.out _).mono ?_; rintro e w6 ⟨rfl, hw6⟩; subst hw6)
          all_goals
            go_wp2_with fail
            have hx1 := heap_setAt (k := 0) HRX.out (.string D)
            have hx2 := heap_setAt (k := 1) hx1 (.slice VA m VC)
            have hq0 := cell_row hx2 0
            have hq1 := cell_row hx2 1
            simp at hq0 hq1
            have hkeep : KeepT 9 wr ((wr.setCell ⟨w.heap.size, 0, none⟩ (.string D)).setCell ⟨w.heap.size, 1, none⟩ (.slice VA m VC)).drew := by
              have ks : ∀ (W : World) (b j : Nat) (v : Value) (vs : Array Value), W.heap[b]? = some (.cells vs 42 (0, 0)) → KeepT 9 W (W.setCell ⟨b, j, none⟩ v) := fun W b j v vs hb => KeepT.grownBy (grownBy_setAt W _ _) (by
                rintro ⟨vs', fr', e⟩
                have e2 := hb.symm.trans e
                injection e2 with e2
                injection e2 with _ e2
                cases e2)
              exact ((ks wr _ 0 _ _ HRX.out).trans (ks _ _ 1 _ _ hx1)).trans (fun _ _ => rfl)
            have htx := (TextsR.of_own HOWN.out).keep hkeep
            rw [HXF.out] at htx
            have hbf := below_drewR (((HB.out.trans ((HB12.out.trans (HBW.out.mono HB12.out.size)).mono HB.out.size)).setCell (p := ⟨w.heap.size, 0, none⟩) (Nat.le_refl _) (.string D)).setCell (p := ⟨w.heap.size, 1, none⟩) (Nat.le_refl _) (.slice VA m VC))
            refine bodyPost_ret (v := .tuple #[.agg #[.string D, .slice VA m VC], .bool NB]) ?_ rfl ?_
            · simp [results, Tryd.results25, go_sem, Act.put, hq0, hq1]
            · exact ⟨_, rfl, htx, hbf⟩
end Go.Proofs.YteghldoglffabaaDoor
