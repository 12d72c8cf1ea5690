/- copied. -/
import Derived.Test.YtbhnfnbnngclmaaGreatDoorDF
namespace Go.Proofs.YtbhnfnbnngclmaaGreatDoor
open Go.RowKit Go.Sort Go.BigFrame Go.Maps Go.WideMaps
set_option maxRecDepth 100000

/-- A block of a document's own turns: what else there is stays. -/
theorem Ats.keep {w w' : World} {v : Value} {o : Option (ByteArray × ByteArray)} (h : Ats w v o) {b : Nat} {cs : Array Value} {fr : Nat × Nat} (hk : Keep [b] w w') (hb : w.heap[b]? = some (.cells cs 26 fr)) : Ats w' v o := by
  cases o with
  | none => exact h
  | some p =>
    obtain ⟨g, cap, cur, fr, h1, h2, h3, h4⟩ := h
    refine ⟨g, cap, cur, fr, h1, h2, (hk.block g (hlt h3) ?_).trans h3, h4⟩
    intro hm
    obtain rfl := List.mem_singleton.1 hm
    rw [hb] at h3
    injection h3 with h3
    injection h3 with _ h3
    exact absurd h3 (by decide)
theorem Kid.keep {w w' : World} {v : Value} {o : Option Nat} (h : Kid w v o) {b : Nat} {cs : Array Value} {fr : Nat × Nat} (hk : Keep [b] w w') (hb : w.heap[b]? = some (.cells cs 26 fr)) : Kid w' v o := by
  cases o with
  | none => exact h
  | some p =>
    obtain ⟨g, cap, cur, fr, h1, h2, h3, h4⟩ := h
    refine ⟨g, cap, cur, fr, h1, h2, (hk.block g (hlt h3) ?_).trans h3, h4⟩
    intro hm
    obtain rfl := List.mem_singleton.1 hm
    rw [hb] at h3
    injection h3 with h3
    injection h3 with _ h3
    exact absurd h3 (by decide)
theorem OwnN.keep {w w' : World} {B g c : Nat} {l : List Kd} {m : Nat} (h : OwnN w B g c l m) {b : Nat} {cs : Array Value} {fr : Nat × Nat} (hk : Keep [b] w w') (hb : w.heap[b]? = some (.cells cs 26 fr)) : OwnN w' B g c l m := by
  obtain ⟨cur, h1, h2, h3, h4, h5, h6⟩ := h
  refine ⟨cur, (hk.block g (hlt h1) ?_).trans h1, h2, h3, h4, h5, fun i x hx => ?_⟩
  · intro hm
    obtain rfl := List.mem_singleton.1 hm
    rw [hb] at h1
    injection h1 with h1
    injection h1 with _ h1
    exact absurd h1 (by decide)
  · obtain ⟨va, vk, h7, h8, h9⟩ := h6 i x hx
    exact ⟨va, vk, h7.keep hk hb, h8.keep hk hb, h9⟩
theorem keep_set (w : World) (b k : Nat) (u : Value) : Keep [b] w (w.setCell ⟨b, k, none⟩ u) :=
  ⟨rfl, rfl, rfl, by simp [World.setCell], fun j _ hl => set_other (fun e => hl (by rw [e]; exact List.mem_singleton.2 rfl))⟩
theorem free_of {w : World} {b k : Nat} {cs : Array Value} {T : TypeId} (h : w.heap[b]? = some (.cells cs T (0, 0))) : w.frozen? ⟨b, k, none⟩ = false := by
  simp [World.frozen?, h]
theorem set_cell {w : World} {g k b o : Nat} {u : Value} (h : b ≠ g) : (w.setCell ⟨g, k, none⟩ u).cell? ⟨b, o, none⟩ = w.cell? ⟨b, o, none⟩ := World.cell?_of_block (set_other h)
theorem below_drew' (w : World) : Below w.heap.size w w.drew := ⟨rfl, rfl, rfl, Nat.le_refl _, fun _ _ => rfl⟩
theorem OwnN.at_ {w : World} {B g c : Nat} {l : List Kd} {m : Nat} (h : OwnN w B g c l m) (i : Nat) (x : Kd) (hx : l[i]? = some x) : ∃ va pa vk, w.cell? ⟨g, i * 8 + 3, none⟩ = some va ∧ w.cell? ⟨g, i * 8 + 4, none⟩ = some pa ∧ w.cell? ⟨g, i * 8 + 5, none⟩ = some vk := by
  obtain ⟨va, vk, _, _, hra⟩ := h.nodes.at_ i x hx
  exact ⟨_, _, _, hra 3 _ rfl, hra 4 _ rfl, hra 5 _ rfl⟩
/-- A document of the call's own. -/
def OutDoc (l : List Kd) (m : Nat) (w : World) (e : Ending) (w' : World) : Prop := ∃ g c, e = .returned (.agg #[.slice (some ⟨g, 0, none⟩) l.length c]) ∧ OwnN w' w.heap.size g c l m ∧ Below w.heap.size w w'
set_option maxHeartbeats 4000000 in
theorem copied_any (l : List Kd) (m : Nat) (v : Value) (w : World) (hd : Doc w v l m) (h0 : 0 < l.length) (hl : l.length ≤ 1000) : Calls Tryz.prog 112 #[v] w (OutDoc l m w) := by
  obtain ⟨g, cap, rfl, hcap, hn⟩ := hd
  obtain ⟨n, hnl⟩ : ∃ n, n = l.length := ⟨_, rfl⟩
  have hbW := below_alloc' w (.cells #[.slice (some ⟨g, 0, none⟩) n cap] 26)
  have hr0 := heap_alloc_new w (.cells #[.slice (some ⟨g, 0, none⟩) n cap] 26)
  obtain ⟨W, hW⟩ : ∃ W, W = w.alloc (.cells #[.slice (some ⟨g, 0, none⟩) n cap] 26) := ⟨_, rfl⟩
  rw [← hW] at hbW hr0
  have hWs : W.heap.size = w.heap.size + 1 := by rw [hW]; simp
  have hbV := below_alloc' W (.cells #[.slice none 0 0] 26)
  have hr1 := heap_alloc_new W (.cells #[.slice none 0 0] 26)
  obtain ⟨V, hV⟩ : ∃ V, V = W.alloc (.cells #[.slice none 0 0] 26) := ⟨_, rfl⟩
  rw [← hV] at hbV hr1
  rw [hWs] at hr1
  have hr0V := (hbV.block w.heap.size (by omega)).trans hr0
  have cn := fun w' h => clonenodes_any g cap l m w' h h0 hl
  rw [← hnl] at cn ⊢
  have x0 := cell_row hr0V 0
  simp at x0
  have HV := Lib.hid hV
  have HW := Lib.hid hW
  have HWS := Lib.hid hWs
  have HB := Lib.hid (nx hbW hbV)
  have HR0 := Lib.hid hr0V
  have HR1 := Lib.hid hr1
  have HN := Lib.hid ((hn.below hbW).below hbV)
  have HNL := Lib.hid hnl
  have HCN := Lib.hid cn
  have hVs : V.heap.size = w.heap.size + 2 := by rw [hV]; simp; omega
  have HVS := Lib.hid hVs
  have hn0 : 0 < n := by omega
  have hn1 : n ≤ 1000 := by omega
  clear hbW hr0 hbV hr1 hr0V cn hV hW hWs hn hnl hVs
  go_enter Tryz.func112, Tryz.ntmps112
  go_upto_region 1 with fail
  rw [← HW.out, ← HV.out]
  go_wp2_with fail
  with_reducible refine (HCN.out _ HN.out).mono ?_
  rintro e w1 ⟨g', c', he, ho, hb1⟩
  rw [← HNL.out] at he
  subst he
  have hR0 := (hb1.block w.heap.size (by have := HVS.out; omega)).trans HR0.out
  have hR1 := (hb1.block (w.heap.size + 1) (by have := HVS.out; omega)).trans HR1.out
  have a0 := cell_row hR0 0
  simp at a0
  have f0 := free_of (k := 0) hR0
  have hks := keep_set w1 w.heap.size 0 (.slice (some ⟨g', 0, none⟩) n c')
  have hset := set_same (k := 0) (u := .slice (some ⟨g', 0, none⟩) n c') hR0
  have hR1' := (hks.block (w.heap.size + 1) (hlt hR1) (by simp)).trans hR1
  have hO := ho.keep hks hR0
  have hB2 : Below w.heap.size w w1 := HB.out.trans (hb1.mono (by have := HVS.out; omega))
  have hB3 : Below w.heap.size w (w1.setCell ⟨w.heap.size, 0, none⟩ (.slice (some ⟨g', 0, none⟩) n c')) := hB2.setCell (by exact Nat.le_refl _) _
  have hgB : w.heap.size + 2 ≤ g' := by obtain ⟨_, _, h, _⟩ := hO; have := HVS.out; omega
  obtain ⟨w2, hw2⟩ : ∃ w2, w2 = w1.setCell ⟨w.heap.size, 0, none⟩ (.slice (some ⟨g', 0, none⟩) n c') := ⟨_, rfl⟩
  rw [← hw2] at hset hR1' hO hB3
  have y0 := cell_row hset 0
  simp at y0
  have HW2 := Lib.hid hw2
  have HS := Lib.hid hset
  have HS1 := Lib.hid hR1'
  have HO := Lib.hid hO
  have HB3 := Lib.hid hB3
  clear hw2 hset hR1' hO hB3 hB2 hks hb1 ho hR0 hR1 x0
  go_upto_region 2 with fail
  rw [← HW2.out]
  clear a0 f0
  go_wp2_with fail
  have hdummy : True := trivial
  go_loopg [12] n (fun gk v wr => ∃ i : Nat, i + gk = n ∧ v = .int .i64 i ∧ Hid (OwnN wr V.heap.size g' c' l m) ∧ Hid (wr.heap[w.heap.size]? = some (.cells #[.slice (some ⟨g', 0, none⟩) n c'] 26)) ∧ Hid (wr.heap[w.heap.size + 1]? = some (.cells #[.slice none 0 0] 26)) ∧ Hid (Below w.heap.size w wr))
  case atStart => exact ⟨0, by omega, rfl, HO.out, HS.out, HS1.out, HB3.out⟩
  case round =>
    obtain ⟨i, hi, rfl, HO1, HR, HRR, HBR⟩ := hrel
    clear y0
    have z0 := cell_row HR.out 0
    simp at z0
    by_cases hin : i < n
    · have i4 : decide ((i : Int) < (n : Int)) = true := by simpa using hin
      obtain ⟨x, hx⟩ : ∃ x, l[i]? = some x := ⟨_, List.getElem?_eq_getElem (by have := HNL.out; omega)⟩
      obtain ⟨va, vk, ha, hk, hra⟩ := HO1.out.nodes.at_ i x hx
      obtain ⟨aA, an, ac, rfl⟩ := ha.form
      obtain ⟨kA, kn, kc, rfl⟩ := hk.form
      obtain ⟨pa, hpa⟩ : ∃ pa, pa = paOf m i := ⟨_, rfl⟩
      rw [← hpa] at hra
      obtain ⟨r0, r1, r2, r3, r4, r5, r6, r7⟩ := range_facts hra
      clear hpa hra
      obtain ⟨X, hX⟩ : ∃ X, X = wr.alloc (.cells (x.cells (.slice aA an ac) pa (.slice kA kn kc)).toArray 37) := ⟨_, rfl⟩
      have hbX := below_alloc' wr (.cells (x.cells (.slice aA an ac) pa (.slice kA kn kc)).toArray 37)
      have hrX := heap_alloc_new wr (.cells (x.cells (.slice aA an ac) pa (.slice kA kn kc)).toArray 37)
      rw [← hX] at hbX hrX
      obtain ⟨v0, v1, v2, v3, v4, v5, v6, v7⟩ := row_facts hrX
      have hOX := HO1.out.below hbX
      have hRX := (hbX.block w.heap.size (hlt HR.out)).trans HR.out
      have hRRX := (hbX.block (w.heap.size + 1) (hlt HRR.out)).trans HRR.out
      have hBX : Below w.heap.size w X := HBR.out.trans (hbX.mono HBR.out.size)
      have e0 := cell_row hRX 0
      simp at e0
      unfold Kd.cells at hX
      have HX := Lib.hid hX
      have HOX := Lib.hid hOX
      have HRX := Lib.hid hRX
      have HRRX := Lib.hid hRRX
      have HBX := Lib.hid hBX
      have HXX := Lib.hid hx
      have HAX := Lib.hid (ha.below hbX)
      have HKX := Lib.hid (hk.below hbX)
      have HROW := Lib.hid hrX
      clear hX hbX hOX hRX hRRX hBX hx ha hk hrX
      have hgw : g' < wr.heap.size := HO1.out.lt
      have i1 : (0 : Int) ≤ (i : Int) := by omega
      have i2 : (i : Int) < (n : Int) := by omega
      go_upto_region 5 with fail
      rw [← HX.out]
      clear r0 r1 r2 r3 r4 r5 r6 r7 z0
      go_region_held3 (fun w' => w'.cell? ⟨w.heap.size, 0, none⟩ = some (.slice (some ⟨g', 0, none⟩) n c') ∧ w'.cell? ⟨wr.heap.size, 3, none⟩ = some (.slice aA an ac)) (first | exact ⟨e0, v3⟩ | exact ⟨e33, v33⟩ | exact ⟨(set_cell (by omega)).trans e33, (set_cell (by omega)).trans v33⟩)
        (first | (go_at_call 40; (with_reducible refine (cloneats_any _ _ _ (HAX.out.below (below_drew' X))).mono ?_); rintro e w3 ⟨bA, bn, bc, rfl, hats, hb3⟩; have hO3 := (HOX.out.below (below_drew' X)).below hb3; obtain ⟨q3, q4, q5, hq3, hq4, hq5⟩ := hO3.at_ i x HXX.out; have fq3 := hO3.free (i * 8 + 3); have HO3 := Lib.hid hO3; have HATS := Lib.hid hats; have e33 := ((nx (below_drew' X) hb3).cell (p := ⟨w.heap.size, 0, none⟩) (hlt HRX.out)).trans e0; have v33 := ((nx (below_drew' X) hb3).cell (p := ⟨wr.heap.size, 3, none⟩) (hlt HROW.out)).trans v3; have HB33 := Lib.hid (nx (below_drew' X) hb3); clear hO3 hats hb3))
      obtain ⟨w4, hw4⟩ : ∃ w4, w4 = w3.setCell ⟨g', i * 8 + 3, none⟩ (.slice bA bn bc) := ⟨_, rfl⟩
      rw [← hw4]
      have hb4 : Below w.heap.size w w4 := by rw [hw4]; exact (HBX.out.trans (HB33.out.mono HBX.out.size)).setCell (by show w.heap.size ≤ g'; omega) _
      have hs3 := HB33.out.size
      have hXs : w.heap.size + 1 < X.heap.size := hlt HRRX.out
      have hXr : wr.heap.size < X.heap.size := hlt HROW.out
      have hR4 : w4.heap[w.heap.size]? = some (.cells #[.slice (some ⟨g', 0, none⟩) n c'] 26) := by rw [hw4, set_other (by omega), HB33.out.block _ (by omega)]; exact HRX.out
      have hRR4 : w4.heap[w.heap.size + 1]? = some (.cells #[.slice none 0 0] 26) := by rw [hw4, set_other (by omega), HB33.out.block _ (by omega)]; exact HRRX.out
      have hrow4 : w4.cell? ⟨wr.heap.size, 5, none⟩ = some (.slice kA kn kc) := by rw [hw4, set_cell (by omega), HB33.out.cell (p := ⟨wr.heap.size, 5, none⟩) hXr]; exact v5
      have hO4 : OwnN w4 V.heap.size g' c' l m := by rw [hw4]; exact HO3.out.set3 i x HXX.out _ HATS.out
      have hK4 : Kid w4 (.slice kA kn kc) (kidOf m i) := by
        obtain ⟨cur, hcur, _⟩ := HO3.out
        rw [hw4]
        exact ((HKX.out).below HB33.out).set hcur
      have e4 := cell_row hR4 0
      simp at e4
      have hw4s : wr.heap.size < w4.heap.size := by rw [hw4]; show _ < (w3.setCell _ _).heap.size; simp [World.setCell]; omega
      have HB4 := Lib.hid hb4
      have HR4 := Lib.hid hR4
      have HRR4 := Lib.hid hRR4
      have HO4 := Lib.hid hO4
      have HK4 := Lib.hid hK4
      clear hw4 hb4 hR4 hRR4 hO4 hK4 e33 v33 hq3 hq4 hq5 fq3 HO3 HATS e0 v0 v1 v2 v3 v4 v5 v6 v7 hs3 HB33
      go_wp2_with fail
      go_region_held3 (fun w' => w'.cell? ⟨w.heap.size, 0, none⟩ = some (.slice (some ⟨g', 0, none⟩) n c') ∧ w'.cell? ⟨wr.heap.size, 5, none⟩ = some (.slice kA kn kc)) (first | exact ⟨e4, hrow4⟩ | exact ⟨e55, v55⟩ | exact ⟨(set_cell (by omega)).trans e55, (set_cell (by omega)).trans v55⟩)
        (first | (go_at_call 41; (with_reducible refine (clonekid_any _ _ _ (HK4.out.below (below_drew' w4))).mono ?_); rintro e w5 ⟨dA, dn, dc, rfl, hkid, hb5⟩; have hO5 := (HO4.out.below (below_drew' w4)).below hb5; obtain ⟨q3, q4, q5, hq3, hq4, hq5⟩ := hO5.at_ i x HXX.out; have fq5 := hO5.free (i * 8 + 5); have HO5 := Lib.hid hO5; have HKID := Lib.hid hkid; have e55 := ((nx (below_drew' w4) hb5).cell (p := ⟨w.heap.size, 0, none⟩) (hlt HR4.out)).trans e4; have v55 := ((nx (below_drew' w4) hb5).cell (p := ⟨wr.heap.size, 5, none⟩) hw4s).trans hrow4; have HB55 := Lib.hid (nx (below_drew' w4) hb5); clear hO5 hkid hb5))
      clear e55 v55 hq3 hq4 hq5 fq5 e4 hrow4
      go_wp2_with fail
      go_roundg (gk - 1)
      case measure => omega
      case rel =>
        have hs5 := HB55.out.size
        have hs4 := hlt HRR4.out
        refine ⟨i + 1, by omega, by go_num, HO5.out.set5 i x HXX.out _ HKID.out, ?_, ?_, (HB4.out.trans (HB55.out.mono HB4.out.size)).setCell (by show w.heap.size ≤ g'; omega) _⟩
        · show _ = _
          rw [set_other (by omega), HB55.out.block _ (by omega)]; exact HR4.out
        · show _ = _
          rw [set_other (by omega), HB55.out.block _ (by omega)]; exact HRR4.out
    · have hie : i = n := by omega
      subst hie
      have i6 : decide ((i : Int) < (i : Int)) = false := by simp
      have c1 := cell_row HRR.out 0
      simp at c1
      have f1 := free_of (k := 0) HRR.out
      go_wp2_with fail
      have hs := set_same (k := 0) (u := .slice (some ⟨g', 0, none⟩) i c') HRR.out
      have hk := keep_set wr (w.heap.size + 1) 0 (.slice (some ⟨g', 0, none⟩) i c')
      obtain ⟨w9, hw9⟩ : ∃ w9, w9 = wr.setCell ⟨w.heap.size + 1, 0, none⟩ (.slice (some ⟨g', 0, none⟩) i c') := ⟨_, rfl⟩
      rw [← hw9] at hs hk ⊢
      have c9 := cell_row hs 0
      simp at c9
      have hO9 : OwnN w9 V.heap.size g' c' l m := HO1.out.keep hk HRR.out
      have hb9 : Below w.heap.size w w9 := by rw [hw9]; exact HBR.out.setCell (by show w.heap.size ≤ w.heap.size + 1; omega) _
      have HO9 := Lib.hid hO9
      have HB9 := Lib.hid hb9
      clear hs hk hw9 hO9 hb9
      refine bodyPost_ret (v := .agg #[.slice (some ⟨g', 0, none⟩) i c']) (by simp [results, Tryz.results112, go_sem, c9]) rfl ⟨g', c', by rw [← HNL.out], ?_, HB9.out⟩
      obtain ⟨cur, h1, h2, h3⟩ := HO9.out
      exact ⟨cur, h1, by omega, h3⟩
end Go.Proofs.YtbhnfnbnngclmaaGreatDoor
