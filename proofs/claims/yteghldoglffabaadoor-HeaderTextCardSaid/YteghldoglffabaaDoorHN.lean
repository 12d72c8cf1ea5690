/- The reference's Own. -/
import Derived.Test.YteghldoglffabaaDoorHM
import Derived.Deep.AppendLies
namespace Go.Proofs.YteghldoglffabaaDoor
open Go.RowKit Go.Shelf

theorem ref_own_row (A : Option Addr) (n c : Nat) (ss : List ByteArray) (w : World) (ht : Texts w A n ss) (hz : A = none → n = 0 ∧ c = 0) (hn : n ≤ 10000000) : Calls Tryd.prog 27 #[.slice A n c] w (OutRow ss w) := by
  have hl := ht.1
  go_enter Tryd.func27, Tryd.ntmps27
  go_wp2_with (at_builtin; refine wpList_append_any_texts rfl (.tmp 4) (.tmp 5) rfl _ w w.heap.size _ 0 [] ss A n c rfl rfl (World.ownsRow_nil _ _ _ _) ht hz (Below.refl _ _) (Nat.le_refl _) (by omega) ?_; intro v w1 hown hb1)
  go_ret
  rw [Nat.zero_add, List.nil_append] at hown
  subst hl
  exact ⟨_, rfl, hown, hb1⟩

theorem below_drew1 (w : World) : Below w.heap.size w w.drew := ⟨rfl, rfl, rfl, Nat.le_refl _, fun _ _ => rfl⟩
theorem setAt_other (W : World) (a : Addr) (v : Value) {j : Nat} (h : j ≠ a.block) : (W.setCell a v).heap[j]? = W.heap[j]? := by
  unfold World.setCell
  rw [Array.getElem?_modify, if_neg (fun e => h e.symm)]
/-- A policy in memory of its own: what comes out. -/
def OutPol (r : Bool) (ds : List (ByteArray × List ByteArray)) (w : World) (e : Ending) (w' : World) : Prop := ∃ dv, e = .returned (.agg #[dv, .bool r]) ∧ DirsV w' dv ds ∧ Below w.heap.size w w'
set_option maxHeartbeats 4000000 in
set_option maxRecDepth 100000 in
theorem ref_ownp_any (dv : Value) (r : Bool) (ds : List (ByteArray × List ByteArray)) (w : World) (hd : DirsV w dv ds) (hn : ds.length ≤ 10000000) (hw : ∀ d ∈ ds, d.2.length ≤ 10000000) :
    Calls Tryd.prog 14 #[.agg #[dv, .bool r]] w (OutPol r ds w) := by
  obtain ⟨A, c, rfl, -, -, -⟩ := id hd
  obtain ⟨N, hN⟩ : ∃ N, N = ds.length := ⟨_, rfl⟩
  rw [← hN] at hn
  have HN := Lib.hid hN
  have HD := Lib.hid hd
  have HW := Lib.hid hw
  obtain ⟨i0, hi0, hz0, hz1, hz2⟩ := info_parts dir_row
  have HI0 := Lib.hid hi0
  clear hd hw hi0
  go_enter Tryd.func14, Tryd.ntmps14
  rw [← hN]
  clear hN
  go_wp2_with fail
  obtain ⟨W0, hW0⟩ : ∃ W0, W0 = (w.alloc (.cells #[.slice A N c, .bool r] 29)).alloc (.cells #[.slice none 0 0, .bool false] 29) := ⟨_, rfl⟩
  have hb0 : Below w.heap.size w W0 := by rw [hW0]; exact ((Below.refl _ w).alloc (Nat.le_refl _) _).alloc (by simp) _
  have hz0s : W0.heap.size = w.heap.size + 2 := by rw [hW0]; simp
  have hp1 : W0.heap[w.heap.size]? = some (.cells #[.slice A N c, .bool r] 29 (0, 0)) := by
    rw [hW0]; exact (heap_alloc_old _ _ (by simp)).trans (heap_alloc_new w (.cells #[.slice A N c, .bool r] 29))
  have hp2 : W0.heap[w.heap.size + 1]? = some (.cells #[.slice none 0 0, .bool false] 29 (0, 0)) := by
    have := heap_alloc_new (w.alloc (.cells #[.slice A N c, .bool r] 29)) (.cells #[.slice none 0 0, .bool false] 29)
    rw [World.size_alloc] at this
    rw [hW0]; exact this
  rw [← hW0]
  clear hW0
  have HB0 := Lib.hid hb0
  have HP1 := Lib.hid hp1
  have HP2 := Lib.hid hp2
  clear hb0 hp1 hp2 hz0s
  go_loopg [3, 4] N (fun gk lv i wr => ∃ (k : Nat) (es : List Ent), k + gk = N ∧ i = .int .i64 k ∧ Hid (es.map dat = ds.take k) ∧ wr.ownsRow (w.heap.size + 2) 42 2 lv k (flatD es) ∧ Hid (∀ x ∈ es, XIn x wr) ∧
    Hid (wr.heap[w.heap.size]? = some (.cells #[.slice A N c, .bool r] 29 (0, 0))) ∧ Hid (wr.heap[w.heap.size + 1]? = some (.cells #[.slice none 0 0, .bool false] 29 (0, 0))) ∧ Hid (Below w.heap.size w wr))
  case atStart => exact ⟨0, [], by omega, rfl, rfl, World.ownsRow_nil _ _ _ _, (fun x h => by cases h), HP1.out, HP2.out, HB0.out⟩
  case round =>
    obtain ⟨k, es, hk, rfl, HES, hown, HX, HP1, HP2, HB⟩ := hrel
    have HK := Lib.hid hk; clear hk
    have hc0 := cell_row HP1.out 0
    simp at hc0
    by_cases hlt : k < N
    · have hkl : k < ds.length := by rw [← HN.out]; exact hlt
      obtain ⟨g, off, rfl, r1, WA, wc, r2, q3, q4, q5'⟩ := HD.out.at_ k hkl
      have hg0 : g < w.heap.size := World.block_lt_of_cell? w _ r1
      have q1 := (HB.out.cell (p := ⟨g, off + k * 2, none⟩) hg0).trans r1
      have q2 := (HB.out.cell (p := ⟨g, off + k * 2 + 1, none⟩) hg0).trans r2
      have q5 := q5'.below HB.out
      clear r1 r2 q5'
      have hl := HW.out _ (List.getElem_mem hkl)
      have ht1 : ds.take (k + 1) = ds.take k ++ [ds[k]] := List.take_succ_eq_append_getElem hkl
      obtain ⟨x, hx⟩ : ∃ x, x = ds[k].1 := ⟨_, rfl⟩
      obtain ⟨ys, hys⟩ : ∃ ys, ys = ds[k].2 := ⟨_, rfl⟩
      have hdk : ds[k] = (x, ys) := by rw [hx, hys]
      rw [hdk] at ht1
      rw [← hx] at q1
      rw [← hys] at q2 q3 q5 hl
      have c27 := fun w' (hb : Below wr.heap.size wr w') => ref_own_row WA ys.length wc ys w' (q5.below hb) q3 hl
      obtain ⟨M, hM⟩ : ∃ M, M = ys.length := ⟨_, rfl⟩
      rw [← hM] at c27 q2
      have C27 := Lib.hid c27
      have HT1 := Lib.hid ht1
      have HM := Lib.hid hM
      have HOWN := Lib.hid hown
      have hsz : w.heap.size + 2 ≤ wr.heap.size := by
        exact (Array.getElem?_eq_some_iff.1 HP2.out).1
      have hgl : g < wr.heap.size := World.block_lt_of_cell? wr _ q1
      have hbl : w.heap.size < wr.heap.size := World.block_lt_of_cell? wr _ hc0
      have hbl5 : w.heap.size < w.heap.size + 2 := by omega
      have hgl5 : g < w.heap.size + 2 := by omega
      clear c27 ht1 hx hys hdk q3 q5 hl hM hown q4
      go_wp2_with fail
      go_region_held3 (fun w' => w'.cell? ⟨w.heap.size, 0, none⟩ = some (.slice (some ⟨g, off, none⟩) N c) ∧ w'.cell? ⟨g, off + k * 2, none⟩ = some (.string x) ∧ w'.cell? ⟨g, off + k * 2 + 1, none⟩ = some (.slice WA M wc))
        (first | exact ⟨(hb5.cell hbl5).trans hc0, (hb5.cell hgl5).trans q1, (hb5.cell hgl5).trans q2⟩ | exact ⟨(hb2.cell hbl).trans hc0, (hb2.cell hgl).trans q1, (hb2.cell hgl).trans q2⟩ | go_keep)
        (first
          | (go_at_call 27; refine (C27.out _ (below_drew1 _)).mono ?_; rintro e w2 ⟨v2, rfl, hown2, hb2'⟩; rw [← HM.out] at hown2; have hb2 : Below wr.heap.size wr w2 := ⟨hb2'.os, hb2'.tape, hb2'.output, hb2'.size, hb2'.block⟩; obtain ⟨VA, VC, rfl, hvc, hvz⟩ := own_form hown2; have hown3 := own_below HOWN.out hb2; have hs2 := hb2.size)
          | (refine step_append_lies _ (by rfl) _ _ _ (by rfl) (w.heap.size + 2) 42 i0 _ 2 40 Tryd.underlying27 HI0.out hz0 hz1 hz2 rfl (by omega) _ k (flatD es) (by rfl) (hown3.alloc _) ⟨w2.heap.size, 0, none⟩ 1 1 [.string x, .slice VA M VC] (by rfl) (by rfl) (World.news_of_block (cs := #[.string x, .slice VA M VC]) (t := 42) (fr := (0, 0)) (heap_alloc_new w2 _)) (by simp [Value.oneCell']) (by omega) (by unfold maxLen; omega) (by omega) (by simp; omega) (w2.heap.size + 1) (by simp) ?_; intro gg cap w5 hown5 hgrow hat hltg; have hb5 : Below (w.heap.size + 2) wr w5 := ((hb2.mono (by omega)).alloc (by omega) (.cells #[.string x, .slice VA M VC] 42)).grown hgrow (by simp; omega) (fun q hq => (hown3.lt q hq).1)))
      go_wp2_with fail
      go_roundg (gk - 1)
      case measure => have hk := HK.out; omega
      case rel =>
        have hk := HK.out
        have kt : KeepT 9 wr w5 := ((KeepT.below hb2).trans (KeepT.grown (World.grownBy_alloc w2 _ none))).trans (keep_append (hown3.alloc (.cells #[.string x, .slice VA M VC] 42)) hgrow (by decide))
        have kw : KeepT 9 w2 w5 := (KeepT.grown (World.grownBy_alloc w2 _ none)).trans (keep_append (hown3.alloc (.cells #[.string x, .slice VA M VC] 42)) hgrow (by decide))
        refine ⟨k + 1, es ++ [((x, .slice VA M VC, ys) : Ent)], by omega, by go_num, ?_, ?_, ?_, ?_, ?_, ?_⟩
        · show _ = _
          rw [HT1.out, List.map_append, HES.out]; rfl
        · rw [flatD, flat2_snoc]; exact hown5
        · intro y hy
          rcases List.mem_append.1 hy with hy | hy
          · exact (HX.out y hy).keep kt
          · obtain rfl := List.mem_singleton.1 hy
            exact (TextsR.of_own hown2).keep kw
        · exact (hb5.block _ hbl5).trans HP1.out
        · exact (hb5.block _ (by omega)).trans HP2.out
        · exact HB.out.trans (hb5.mono (by omega))
    · have hk := HK.out
      obtain rfl : k = N := by omega
      have hkn : ds.length ≤ k := by rw [← HN.out]; exact Nat.le_refl _
      have hes := HES.out
      rw [List.take_of_length_le hkn] at hes
      have HES2 := Lib.hid hes
      obtain ⟨OA, OC, rfl, hoc, hoz⟩ := own_form hown
      have hc1 := cell_row HP1.out 1
      have hd0 := cell_row HP2.out 0
      have hd1 := cell_row HP2.out 1
      simp at hc1 hd0 hd1
      have hf1 := frozen_row HP1.out
      have hf2 := frozen_row HP2.out
      clear hes hkn
      go_wp2_with fail
      have ne1 : w.heap.size + 1 ≠ w.heap.size := by omega
      have hx1 := heap_setAt (k := 0) HP1.out (.slice OA k OC)
      have hx2 : (wr.setCell ⟨w.heap.size, 0, none⟩ (.slice OA k OC)).heap[w.heap.size + 1]? = _ := (setAt_other wr _ _ ne1).trans HP2.out
      have hx3 := heap_setAt (k := 0) hx2 (.slice OA k OC)
      have hx4 := heap_setAt (k := 1) hx3 (.bool r)
      have hr0 := cell_row hx4 0
      have hr1 := cell_row hx4 1
      simp at hr0 hr1
      have ks : ∀ (W : World) (b j : Nat) (v : Value) (T : TypeId) (vs : Array Value), T ≠ 29 → W.heap[b]? = some (.cells vs 29 (0, 0)) → KeepT T W (W.setCell ⟨b, j, none⟩ v) := fun W b j v T vs hT hb => KeepT.grownBy (grownBy_setAt W _ _) (by
        rintro ⟨vs', fr', e⟩
        have e2 := hb.symm.trans e
        injection e2 with e2
        injection e2 with _ e2
        exact hT e2.symm)
      have kt : ∀ T, T ≠ 29 → KeepT T wr (((wr.setCell ⟨w.heap.size, 0, none⟩ (.slice OA k OC)).setCell ⟨w.heap.size + 1, 0, none⟩ (.slice OA k OC)).setCell ⟨w.heap.size + 1, 1, none⟩ (.bool r)) := fun T hT => ((ks wr _ 0 _ T _ hT HP1.out).trans (ks _ _ 0 _ T _ hT hx2)).trans (ks _ _ 1 _ T _ hT hx3)
      have hfin := ((DirsR.of_own hown HX.out).keep (kt 9 (by decide)) (kt 42 (by decide))).toV
      rw [HES2.out] at hfin
      have hbf := ((HB.out.setCell (p := ⟨w.heap.size, 0, none⟩) (Nat.le_refl _) (.slice OA k OC)).setCell (p := ⟨w.heap.size + 1, 0, none⟩) (by simp) (.slice OA k OC)).setCell (p := ⟨w.heap.size + 1, 1, none⟩) (by simp) (.bool r)
      refine bodyPost_ret (v := .agg #[.slice OA k OC, .bool r]) ?_ rfl ?_
      · simp [results, Tryd.results14, go_sem, hr0, hr1]
      · exact ⟨_, rfl, hfin, hbf⟩
end Go.Proofs.YteghldoglffabaaDoor
