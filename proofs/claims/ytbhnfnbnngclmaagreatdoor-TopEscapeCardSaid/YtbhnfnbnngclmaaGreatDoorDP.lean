/- Attr. -/
import Derived.Test.YtbhnfnbnngclmaaGreatDoorDH
import Derived.Test.YtbhnfnbnngclmaaGreatDoorEM
namespace Go.Proofs.YtbhnfnbnngclmaaGreatDoor
open Go.RowKit Go.Sort Go.BigFrame Go.Maps Go.WideMaps
set_option maxRecDepth 100000

theorem place1_any (nm vl : ByteArray) (b : Nat) (w : World) (h : w.cell? ⟨b, 0, none⟩ = some (.string nm)) : Calls Tryz.prog 28 (#[.agg #[.string nm, .string vl]] ++ #[.pointer (some ⟨b, 0, none⟩)]) w fun e w' => e = .returned (.bool true) ∧ Below w.heap.size w w' := by
  have hbA := below_alloc' w (.cells #[.string nm, .string vl] 63)
  have hrA := heap_alloc_new w (.cells #[.string nm, .string vl] 63)
  have hc := (hbA.cell (p := ⟨b, 0, none⟩) (block_lt_of_cell h)).trans h
  obtain ⟨W, hW⟩ : ∃ W, W = w.alloc (.cells #[.string nm, .string vl] 63) := ⟨_, rfl⟩
  rw [← hW] at hbA hrA hc
  have x0 := cell_row hrA 0
  simp at x0
  have HW := Lib.hid hW
  have HB := Lib.hid hbA
  clear hW hbA hrA h
  go_enter Tryz.func28, Tryz.ntmps28
  go_upto_region 1 with fail
  rw [← HW.out]
  go_wp2_with fail
  go_ret
  exact ⟨by simp, HB.out⟩
theorem place_any (x : Kd) (p : ByteArray × ByteArray) (va vk : Value) (pa : Int) (w : World) (ha : Ats w va (some p)) (hvk : ∃ A n c, vk = .slice A n c) : Calls Tryz.prog 16 #[.agg (x.cells va pa vk).toArray, .string p.1] w fun e w' => e = .returned (.int .i64 0) ∧ Below w.heap.size w w' := by
  obtain ⟨kA, kn, kc, rfl⟩ := hvk
  obtain ⟨nm, vl⟩ := p
  obtain ⟨g, cap, cs, fr, rfl, hcap, hg, h0, h1⟩ := ha
  have hb1 := below_alloc' w (.cells (x.cells (.slice (some ⟨g, 0, none⟩) 1 cap) pa (.slice kA kn kc)).toArray 37)
  have hr1 := heap_alloc_new w (.cells (x.cells (.slice (some ⟨g, 0, none⟩) 1 cap) pa (.slice kA kn kc)).toArray 37)
  obtain ⟨W1, hW1⟩ : ∃ W1, W1 = w.alloc (.cells (x.cells (.slice (some ⟨g, 0, none⟩) 1 cap) pa (.slice kA kn kc)).toArray 37) := ⟨_, rfl⟩
  rw [← hW1] at hb1 hr1
  have hb2 := below_alloc' W1 (.cells #[.string nm] 9)
  have hr2 := heap_alloc_new W1 (.cells #[.string nm] 9)
  have hr1' := (hb2.block _ (hlt hr1)).trans hr1
  obtain ⟨W2, hW2⟩ : ∃ W2, W2 = W1.alloc (.cells #[.string nm] 9) := ⟨_, rfl⟩
  rw [← hW2] at hb2 hr2 hr1'
  obtain ⟨v0, v1, v2, v3, v4, v5, v6, v7⟩ := row_facts hr1'
  have hs : W1.heap.size = w.heap.size + 1 := by rw [hW1]; simp
  rw [hs] at hr2
  have hb := nx hb1 hb2
  have g0 : W2.cell? ⟨g, 0, none⟩ = some (.string nm) := (hb.cell (p := ⟨g, 0, none⟩) (hlt hg)).trans ((cell_row hg 0).trans h0)
  have g1 : W2.cell? ⟨g, 0 + 1, none⟩ = some (.string vl) := (hb.cell (p := ⟨g, 1, none⟩) (hlt hg)).trans ((cell_row hg 1).trans h1)
  have ci := index_one g 0 cap (.string nm) (.string vl) 28 #[.pointer (some ⟨w.heap.size + 1, 0, none⟩)] W2 (by intro args w'; rfl) g0 g1 (place1_any nm vl (w.heap.size + 1) W2 (cell_row hr2 0))
  unfold Kd.cells at hW1 ⊢
  have HW1 := Lib.hid hW1
  have HW2 := Lib.hid hW2
  have HB := Lib.hid hb
  have HCI := Lib.hid ci
  clear hW1 hW2 hb ci hb1 hr1 hb2 hr2 hr1' hs g0 g1 h0 h1 hg v0 v1 v2 v4 v5 v6 v7
  go_enter Tryz.func16, Tryz.ntmps16
  go_upto_region 1 with fail
  rw [← HW1.out, ← HW2.out]
  go_wp2_with fail
  with_reducible refine HCI.out.mono ?_
  rintro e w3 ⟨rfl, hb3⟩
  go_wp2_with fail
  go_ret
  exact ⟨rfl, nx HB.out hb3⟩
set_option maxHeartbeats 2000000 in
/-- Attr. -/
theorem attr_of (l : List Kd) (m i : Nat) (p : ByteArray × ByteArray) (v : Value) (w : World) (hd : Doc w v l m) (hg : Good l m) (hi : l[i]? = some (.el (some p))) :
    Calls Tryz.prog 7 #[v, .int .i64 i, .string p.1] w fun e w' => e = .returned (.tuple #[.string p.2, .bool true]) ∧ Below w.heap.size w w' := by
  have hil : i < l.length := (List.getElem?_eq_some_iff.1 hi).1
  have ct := fun w' h => there_any l m i v w' h hg hil
  obtain ⟨g, cap, rfl, hcap, hn⟩ := hd
  obtain ⟨nn, hnl⟩ : ∃ nn, nn = l.length := ⟨_, rfl⟩
  have hb0 := below_alloc' w (.cells #[.slice (some ⟨g, 0, none⟩) nn cap] 26)
  have hr0 := heap_alloc_new w (.cells #[.slice (some ⟨g, 0, none⟩) nn cap] 26)
  obtain ⟨W, hW⟩ : ∃ W, W = w.alloc (.cells #[.slice (some ⟨g, 0, none⟩) nn cap] 26) := ⟨_, rfl⟩
  rw [← hW] at hb0 hr0
  have hD : ∀ w', Below w.heap.size w w' → Doc w' (.agg #[.slice (some ⟨g, 0, none⟩) nn cap]) l m := fun w' hb => ⟨g, cap, by rw [hnl], hcap, hn.below hb⟩
  obtain ⟨va, vk, ha, hk, hra⟩ := hn.at_ i _ hi
  obtain ⟨kA, kn, kc, rfl⟩ := hk.form
  obtain ⟨ga, ca, cs, fr, rfl, hca, hga, h0, h1⟩ := ha
  obtain ⟨pa, hpa⟩ : ∃ pa, pa = paOf m i := ⟨_, rfl⟩
  rw [← hpa] at hra
  rw [← hnl] at ct hil ⊢
  have hgl := hn.lt
  have hgal := hlt hga
  have x0 := cell_row hr0 0
  simp at x0
  have i1 : (0 : Int) ≤ (i : Int) := by omega
  have i2 : (i : Int) < (nn : Int) := by omega
  have cpl := fun w' (hb : Below w.heap.size w w') => place_any (.el (some p)) p (.slice (some ⟨ga, 0, none⟩) 1 ca) (.slice kA kn kc) pa w' ⟨ga, ca, cs, fr, rfl, hca, (hb.block _ hgal).trans hga, h0, h1⟩ ⟨_, _, _, rfl⟩
  unfold Kd.cells at cpl
  simp only [Kd.num, Kd.nm, Kd.dt, Kd.pr] at cpl
  have hrr : ∀ w', Below w.heap.size w w' → Hid (w'.rangeAt g (i * 8) (Kd.cells (.el (some p)) (.slice (some ⟨ga, 0, none⟩) 1 ca) pa (.slice kA kn kc)) ∧ w'.cell? ⟨ga, 1, none⟩ = some (.string p.2)) := fun w' hb => ⟨fun j u hu => (hb.cell (p := ⟨g, i * 8 + j, none⟩) hgl).trans (hra j u hu), (hb.cell (p := ⟨ga, 1, none⟩) hgal).trans ((cell_row hga 1).trans h1)⟩
  have HW := Lib.hid hW
  have HB := Lib.hid hb0
  have HR := Lib.hid hr0
  have HD := Lib.hid hD
  have HC := Lib.hid ct
  have HPL := Lib.hid cpl
  have HRR := Lib.hid hrr
  clear hW hb0 hr0 hD ct hnl hi hg hn hcap cpl hrr hra hpa h0 h1 hga hk
  go_enter Tryz.func7, Tryz.ntmps7
  go_upto_region 1 with fail
  rw [← HW.out]
  go_wp2_with fail
  with_reducible refine (HC.out _ (HD.out _ HB.out)).mono ?_
  rintro e w1 ⟨rfl, hb1⟩
  have y0 := (hb1.cell (p := ⟨w.heap.size, 0, none⟩) (hlt HR.out)).trans x0
  have hB1 := nx HB.out hb1
  obtain ⟨hr1, hv1⟩ := (HRR.out _ hB1).out
  obtain ⟨r0, r1, r2, r3, r4, r5, r6, r7⟩ := range_facts hr1
  simp only [Kd.num, Kd.nm, Kd.dt, Kd.pr] at r0 r1 r2 r6
  have HB1 := Lib.hid hB1
  clear x0 hb1 hB1 hr1
  go_wp2_with fail
  with_reducible refine (HPL.out _ HB1.out).mono ?_
  rintro e w2 ⟨rfl, hb2⟩
  have z0 := (hb2.cell (p := ⟨w.heap.size, 0, none⟩) (by have := hlt HR.out; have h := HB1.out.size; exact block_lt_of_cell y0)).trans y0
  have hB2 := nx HB1.out hb2
  obtain ⟨hr2, hv2⟩ := (HRR.out _ hB2).out
  obtain ⟨s0, s1, s2, s3, s4, s5, s6, s7⟩ := range_facts hr2
  have HB2 := Lib.hid hB2
  clear hb2 hB2 hr2 r0 r1 r2 r3 r4 r5 r6 r7 s0 s1 s2 s4 s5 s6 s7 hv1 y0
  go_wp2_with fail
  go_ret2
  exact ⟨rfl, HB2.out⟩
end Go.Proofs.YtbhnfnbnngclmaaGreatDoor
