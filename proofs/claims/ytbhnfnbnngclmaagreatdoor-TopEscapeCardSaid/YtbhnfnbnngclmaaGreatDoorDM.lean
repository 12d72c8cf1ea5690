/- out, at a node that stands nowhere; a node that is put. -/
import Derived.Test.YtbhnfnbnngclmaaGreatDoorDI
namespace Go.Proofs.YtbhnfnbnngclmaaGreatDoor
open Go.RowKit Go.Sort Go.BigFrame Go.Maps Go.WideMaps
set_option maxRecDepth 100000

theorem set_eq {w : World} {g k : Nat} {u : Value} {cur : Array Value} {T : TypeId} {fr : Nat × Nat} (h : w.heap[g]? = some (.cells cur T fr)) (hk : cur[k]? = some u) : (w.setCell ⟨g, k, none⟩ u).heap[g]? = some (.cells cur T fr) := by
  rw [set_same h]
  congr 2
  apply Array.ext_getElem?
  intro j
  by_cases hj : j = k
  · subst hj
    rw [Array.getElem?_setIfInBounds_self_of_lt (Array.getElem?_eq_some_iff.1 hk).1, hk]
  · rw [Array.getElem?_setIfInBounds_ne (fun e => hj e.symm)]
theorem below_eq {B b k : Nat} {w w' : World} {u : Value} {cur : Array Value} {T : TypeId} {fr : Nat × Nat} (hb : Below B w w') (h : w'.heap[b]? = some (.cells cur T fr)) (hk : cur[k]? = some u) : Below B w (w'.setCell ⟨b, k, none⟩ u) := by
  refine ⟨hb.os, hb.tape, hb.output, by simp [World.setCell]; exact hb.size, fun j hj => ?_⟩
  by_cases hkb : j = b
  · subst hkb
    rw [set_eq h hk, ← hb.block j hj, h]
  · rw [set_other hkb]
    exact hb.block j hj
/-- out. -/
theorem out_any (B g c m : Nat) (l : List Kd) (w : World) (h : OwnN w B g c l m) (hl : l.length = m + 1) : Calls Tryz.prog 115 #[.agg #[.slice (some ⟨g, 0, none⟩) l.length c], .int .i64 m] w fun e w' => e = .returned (.tuple #[]) ∧ Below w.heap.size w w' := by
  obtain ⟨cur, h1, h2, h3, h4, h5, h6⟩ := h
  obtain ⟨_, _, _, _, h9⟩ := h6 m _ (List.getElem?_eq_getElem (show m < l.length by omega))
  have hpa : cur[m * 8 + 4]? = some (.int .i64 (-1)) := by
    have h := h9 4 _ rfl
    rw [h]
    unfold paOf
    rw [if_neg (by omega)]
  obtain ⟨nn, hnn⟩ : ∃ nn, nn = l.length := ⟨_, rfl⟩
  rw [← hnn] at hl h3 ⊢
  have p1 : (0 : Int) ≤ (m : Int) := by omega
  have p2 : (m : Int) < (nn : Int) := by omega
  have hb1 := below_alloc' w (.cells #[.slice (some ⟨g, 0, none⟩) nn c] 26)
  have hr1 := heap_alloc_new w (.cells #[.slice (some ⟨g, 0, none⟩) nn c] 26)
  have hb2 := below_alloc' (w.alloc (.cells #[.slice (some ⟨g, 0, none⟩) nn c] 26)) (.cells #[.int .i64 m] 3)
  have hr2 := heap_alloc_new (w.alloc (.cells #[.slice (some ⟨g, 0, none⟩) nn c] 26)) (.cells #[.int .i64 m] 3)
  have hr1' := (hb2.block _ (hlt hr1)).trans hr1
  rw [World.size_alloc] at hr2
  have hb3 := nx hb1 hb2
  have hg3 := (hb3.block g (hlt h1)).trans h1
  obtain ⟨W, hW⟩ : ∃ W, W = (w.alloc (.cells #[.slice (some ⟨g, 0, none⟩) nn c] 26)).alloc (.cells #[.int .i64 m] 3) := ⟨_, rfl⟩
  rw [← hW] at hr1' hr2 hb3 hg3
  have x0 := cell_row hr1' 0
  have x1 := cell_row hr2 0
  simp at x0 x1
  have x4 : W.cell? ⟨g, m * 8 + 4, none⟩ = some (.int .i64 (-1)) := (cell_row hg3 _).trans hpa
  have f4 := free_of (k := m * 8 + 4) hg3
  have HB := Lib.hid (below_eq hb3 hg3 hpa)
  have HW := Lib.hid hW
  clear hb1 hr1 hb2 hr2 hr1' hb3 hg3 hW hnn h1 h5 h6 h9 hpa hl
  go_enter Tryz.func115, Tryz.ntmps115
  go_upto_region 1 with fail
  rw [← HW.out]
  go_wp2_with fail
  go_end0
  exact ⟨rfl, HB.out⟩
/-- A node is put below the last one that stands. -/
theorem OwnN.attach {w w' : World} {B g c m p : Nat} {l : List Kd} {u : Value} {cur : Array Value} (h : OwnN w B g c l m) (hl : l.length = m + 1) (hp : m = p + 1) (hc : w.heap[g]? = some (.cells cur 37 (0, 0)))
    (hc' : w'.heap[g]? = some (.cells ((cur.setIfInBounds (m * 8 + 4) (.int .i64 p)).setIfInBounds (p * 8 + 5) u) 37 (0, 0))) (hk : ∀ k, k < w.heap.size → k ≠ g → w'.heap[k]? = w.heap[k]?) (hu : Kid w' u (some m)) : OwnN w' B g c l (m + 1) := by
  obtain ⟨cur', h1, h2, h3, h4, h5, h6⟩ := h
  rw [hc] at h1
  injection h1 with h1
  injection h1 with h1
  subst h1
  have ka : ∀ {v : Value} {o : Option (ByteArray × ByteArray)}, Ats w v o → Ats w' v o := by
    intro v o ha
    cases o with
    | none => exact ha
    | some q =>
      obtain ⟨b, cap, cs, fr, e1, e2, e3, e4⟩ := ha
      refine ⟨b, cap, cs, fr, e1, e2, (hk b (hlt e3) ?_).trans e3, e4⟩
      rintro rfl
      rw [hc] at e3
      injection e3 with e3
      injection e3 with _ e3
      exact absurd e3 (by decide)
  have kk : ∀ {v : Value} {o : Option Nat}, Kid w v o → Kid w' v o := by
    intro v o ha
    cases o with
    | none => exact ha
    | some q =>
      obtain ⟨b, cap, cs, fr, e1, e2, e3, e4⟩ := ha
      refine ⟨b, cap, cs, fr, e1, e2, (hk b (hlt e3) ?_).trans e3, e4⟩
      rintro rfl
      rw [hc] at e3
      injection e3 with e3
      injection e3 with _ e3
      exact absurd e3 (by decide)
  have hsz : m * 8 + 8 ≤ cur.size := by rw [h5]; omega
  refine ⟨_, hc', h2, h3, h4, by rw [Array.size_setIfInBounds, Array.size_setIfInBounds]; exact h5, fun i x hx => ?_⟩
  obtain ⟨va, vk, h7, h8, h9⟩ := h6 i x hx
  have hi : i < l.length := (List.getElem?_eq_some_iff.1 hx).1
  have out : ∀ (j : Nat) (v : Value), (x.cells va (paOf m i) vk)[j]? = some v → i * 8 + j ≠ m * 8 + 4 → i * 8 + j ≠ p * 8 + 5 → ((cur.setIfInBounds (m * 8 + 4) (.int .i64 p)).setIfInBounds (p * 8 + 5) u)[i * 8 + j]? = some v := by
    intro j v hv n1 n2
    rw [Array.getElem?_setIfInBounds_ne (by omega), Array.getElem?_setIfInBounds_ne (by omega)]
    exact h9 j v hv
  by_cases hip : i = p
  · subst hip
    have e1 : kidOf (m + 1) i = some m := by unfold kidOf; rw [if_pos (by omega), hp]
    have e2 : paOf (m + 1) i = paOf m i := by unfold paOf; rw [if_pos (by omega), if_pos (by omega)]
    refine ⟨va, u, ka h7, by rw [e1]; exact hu, fun j v hv => ?_⟩
    rw [e2] at hv
    have hj : j < 8 := (List.getElem?_eq_some_iff.1 hv).1
    by_cases hj5 : j = 5
    · subst hj5
      rw [Array.getElem?_setIfInBounds_self_of_lt (by rw [Array.size_setIfInBounds]; omega)]
      exact hv
    · refine out j v ?_ (by omega) (by omega)
      rw [← hv]
      rcases (show j = 0 ∨ j = 1 ∨ j = 2 ∨ j = 3 ∨ j = 4 ∨ j = 6 ∨ j = 7 by omega) with rfl | rfl | rfl | rfl | rfl | rfl | rfl <;> rfl
  · by_cases him : i = m
    · subst him
      have e1 : kidOf (i + 1) i = kidOf i i := by unfold kidOf; rw [if_neg (by omega), if_neg (by omega)]
      have e2 : paOf (i + 1) i = (p : Int) := by unfold paOf; rw [if_pos (by omega), hp]; omega
      refine ⟨va, vk, ka h7, by rw [e1]; exact kk h8, fun j v hv => ?_⟩
      rw [e2] at hv
      have hj : j < 8 := (List.getElem?_eq_some_iff.1 hv).1
      by_cases hj4 : j = 4
      · subst hj4
        rw [Array.getElem?_setIfInBounds_ne (by omega), Array.getElem?_setIfInBounds_self_of_lt (by omega)]
        exact hv
      · refine out j v ?_ (by omega) (by omega)
        rw [← hv]
        rcases (show j = 0 ∨ j = 1 ∨ j = 2 ∨ j = 3 ∨ j = 5 ∨ j = 6 ∨ j = 7 by omega) with rfl | rfl | rfl | rfl | rfl | rfl | rfl <;> rfl
    · have e1 : kidOf (m + 1) i = kidOf m i := by unfold kidOf; rw [if_pos (by omega), if_pos (by omega)]
      have e2 : paOf (m + 1) i = paOf m i := by unfold paOf; rw [if_pos (by omega), if_pos (by omega)]
      refine ⟨va, vk, ka h7, by rw [e1]; exact kk h8, fun j v hv => ?_⟩
      rw [e2] at hv
      have hj : j < 8 := (List.getElem?_eq_some_iff.1 hv).1
      exact out j v hv (by omega) (by omega)
theorem Good.attach {l : List Kd} {m p : Nat} {x : Kd} (h : Good l m) (hl : l.length = m + 1) (hp : m = p + 1) (hx : l[p]? = some x) (hxh : x.holds = true) : Good l (m + 1) where
  m1 := by omega
  ml := by omega
  len := h.len
  root := h.root
  ne := h.ne
  holds := by
    intro i y hy hi
    by_cases hip : i = p
    · subst hip
      rw [hx] at hy
      injection hy with hy
      rw [← hy]
      exact hxh
    · exact h.holds i y hy (by omega)
  ok := h.ok
end Go.Proofs.YtbhnfnbnngclmaaGreatDoor
