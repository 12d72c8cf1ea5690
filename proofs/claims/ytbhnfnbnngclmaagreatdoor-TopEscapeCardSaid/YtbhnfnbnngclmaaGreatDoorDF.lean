/- A document of the call's own. -/
import Derived.Test.YtbhnfnbnngclmaaGreatDoorDE
namespace Go.Proofs.YtbhnfnbnngclmaaGreatDoor
open Go.RowKit Go.Sort Go.BigFrame Go.Maps Go.WideMaps
set_option maxRecDepth 100000

/-- Nodes in a row of the call's own. -/
def OwnN (w : World) (B g c : Nat) (l : List Kd) (m : Nat) : Prop :=
  ∃ cur : Array Value, w.heap[g]? = some (.cells cur 37 (0, 0)) ∧ B ≤ g ∧ l.length ≤ c ∧ c ≤ maxLen ∧ cur.size = c * 8 ∧
    ∀ (i : Nat) (x : Kd), l[i]? = some x → ∃ va vk, Ats w va x.ats ∧ Kid w vk (kidOf m i) ∧ ∀ (j : Nat) (u : Value), (x.cells va (paOf m i) vk)[j]? = some u → cur[i * 8 + j]? = some u
theorem OwnN.nodes {w : World} {B g c : Nat} {l : List Kd} {m : Nat} (h : OwnN w B g c l m) : Nodes w g l m := by
  obtain ⟨cur, h1, _, _, _, _, h2⟩ := h
  exact ⟨cur, _, h1, h2⟩
theorem OwnN.doc {w : World} {B g c : Nat} {l : List Kd} {m : Nat} (h : OwnN w B g c l m) : Doc w (.agg #[.slice (some ⟨g, 0, none⟩) l.length c]) l m := by
  obtain ⟨cur, h1, h2, h3, h4, h5, h6⟩ := h
  exact ⟨g, c, rfl, h3, cur, _, h1, h6⟩
theorem OwnN.below {w w' : World} {B g c : Nat} {l : List Kd} {m : Nat} (h : OwnN w B g c l m) (hb : Below w.heap.size w w') : OwnN w' B g c l m := by
  obtain ⟨cur, h1, h2, h3, h4, h5, h6⟩ := h
  refine ⟨cur, (hb.block g (hlt h1)).trans h1, h2, h3, h4, h5, fun i x hx => ?_⟩
  obtain ⟨va, vk, h7, h8, h9⟩ := h6 i x hx
  exact ⟨va, vk, h7.below hb, h8.below hb, h9⟩
theorem OwnN.lt {w : World} {B g c : Nat} {l : List Kd} {m : Nat} (h : OwnN w B g c l m) : g < w.heap.size := h.nodes.lt
theorem OwnN.free {w : World} {B g c : Nat} {l : List Kd} {m : Nat} (h : OwnN w B g c l m) (k : Nat) : w.frozen? ⟨g, k, none⟩ = false := by
  obtain ⟨cur, h1, _⟩ := h
  simp [World.frozen?, h1]
theorem set_other {w : World} {g k b : Nat} {u : Value} (h : b ≠ g) : (w.setCell ⟨g, k, none⟩ u).heap[b]? = w.heap[b]? := by
  simp [World.setCell, Array.getElem?_modify, Ne.symm h]
theorem set_same {w : World} {g k : Nat} {u : Value} {cur : Array Value} {T : TypeId} {fr : Nat × Nat} (h : w.heap[g]? = some (.cells cur T fr)) : (w.setCell ⟨g, k, none⟩ u).heap[g]? = some (.cells (cur.setIfInBounds k u) T fr) := by
  simp only [World.setCell]
  rw [Array.getElem?_modify, if_pos rfl, h]
  rfl
theorem Ats.set {w : World} {v : Value} {o : Option (ByteArray × ByteArray)} (h : Ats w v o) {g k : Nat} {u : Value} {cur : Array Value} {fr : Nat × Nat} (hg : w.heap[g]? = some (.cells cur 37 fr)) : Ats (w.setCell ⟨g, k, none⟩ u) v o := by
  cases o with
  | none => exact h
  | some p =>
    obtain ⟨b, cap, cs, fr, h1, h2, h3, h4⟩ := h
    refine ⟨b, cap, cs, fr, h1, h2, (set_other ?_).trans h3, h4⟩
    rintro rfl
    rw [hg] at h3
    injection h3 with h3
    injection h3 with _ h3
    exact absurd h3 (by decide)
theorem Kid.set {w : World} {v : Value} {o : Option Nat} (h : Kid w v o) {g k : Nat} {u : Value} {cur : Array Value} {fr : Nat × Nat} (hg : w.heap[g]? = some (.cells cur 37 fr)) : Kid (w.setCell ⟨g, k, none⟩ u) v o := by
  cases o with
  | none => exact h
  | some p =>
    obtain ⟨b, cap, cs, fr, h1, h2, h3, h4⟩ := h
    refine ⟨b, cap, cs, fr, h1, h2, (set_other ?_).trans h3, h4⟩
    rintro rfl
    rw [hg] at h3
    injection h3 with h3
    injection h3 with _ h3
    exact absurd h3 (by decide)
theorem cells_len (x : Kd) (va : Value) (pa : Int) (vk : Value) : (x.cells va pa vk).length = 8 := rfl
/-- Attributes laid anew. -/
theorem OwnN.set3 {w : World} {B g c : Nat} {l : List Kd} {m : Nat} (h : OwnN w B g c l m) (i : Nat) (x : Kd) (hx : l[i]? = some x) (u : Value) (hu : Ats w u x.ats) : OwnN (w.setCell ⟨g, i * 8 + 3, none⟩ u) B g c l m := by
  obtain ⟨cur, h1, h2, h3, h4, h5, h6⟩ := h
  refine ⟨cur.setIfInBounds (i * 8 + 3) u, set_same h1, h2, h3, h4, by rw [Array.size_setIfInBounds]; exact h5, fun i' x' hx' => ?_⟩
  obtain ⟨va, vk, h7, h8, h9⟩ := h6 i' x' hx'
  have hin : i * 8 + 3 < cur.size := by
    obtain ⟨_, _, _, _, h9⟩ := h6 i x hx
    exact (Array.getElem?_eq_some_iff.1 (h9 3 _ rfl)).1
  by_cases hi : i' = i
  · subst hi
    rw [hx] at hx'
    injection hx' with hx'
    subst hx'
    refine ⟨u, vk, hu.set h1, h8.set h1, fun j v hv => ?_⟩
    have hj : j < 8 := (List.getElem?_eq_some_iff.1 hv).1
    by_cases hj3 : j = 3
    · subst hj3
      rw [Array.getElem?_setIfInBounds_self_of_lt hin]
      exact hv
    · rw [Array.getElem?_setIfInBounds_ne (by omega)]
      refine h9 j v ?_
      rw [← hv]
      rcases (show j = 0 ∨ j = 1 ∨ j = 2 ∨ j = 4 ∨ j = 5 ∨ j = 6 ∨ j = 7 by omega) with rfl | rfl | rfl | rfl | rfl | rfl | rfl <;> rfl
  · refine ⟨va, vk, h7.set h1, h8.set h1, fun j v hv => ?_⟩
    have hj : j < 8 := (List.getElem?_eq_some_iff.1 hv).1
    rw [Array.getElem?_setIfInBounds_ne (by omega)]
    exact h9 j v hv
/-- Kids laid anew. -/
theorem OwnN.set5 {w : World} {B g c : Nat} {l : List Kd} {m : Nat} (h : OwnN w B g c l m) (i : Nat) (x : Kd) (hx : l[i]? = some x) (u : Value) (hu : Kid w u (kidOf m i)) : OwnN (w.setCell ⟨g, i * 8 + 5, none⟩ u) B g c l m := by
  obtain ⟨cur, h1, h2, h3, h4, h5, h6⟩ := h
  refine ⟨cur.setIfInBounds (i * 8 + 5) u, set_same h1, h2, h3, h4, by rw [Array.size_setIfInBounds]; exact h5, fun i' x' hx' => ?_⟩
  obtain ⟨va, vk, h7, h8, h9⟩ := h6 i' x' hx'
  have hin : i * 8 + 5 < cur.size := by
    obtain ⟨_, _, _, _, h9⟩ := h6 i x hx
    exact (Array.getElem?_eq_some_iff.1 (h9 5 _ rfl)).1
  by_cases hi : i' = i
  · subst hi
    rw [hx] at hx'
    injection hx' with hx'
    subst hx'
    refine ⟨va, u, h7.set h1, hu.set h1, fun j v hv => ?_⟩
    have hj : j < 8 := (List.getElem?_eq_some_iff.1 hv).1
    by_cases hj3 : j = 5
    · subst hj3
      rw [Array.getElem?_setIfInBounds_self_of_lt hin]
      exact hv
    · rw [Array.getElem?_setIfInBounds_ne (by omega)]
      refine h9 j v ?_
      rw [← hv]
      rcases (show j = 0 ∨ j = 1 ∨ j = 2 ∨ j = 3 ∨ j = 4 ∨ j = 6 ∨ j = 7 by omega) with rfl | rfl | rfl | rfl | rfl | rfl | rfl <;> rfl
  · refine ⟨va, vk, h7.set h1, h8.set h1, fun j v hv => ?_⟩
    have hj : j < 8 := (List.getElem?_eq_some_iff.1 hv).1
    rw [Array.getElem?_setIfInBounds_ne (by omega)]
    exact h9 j v hv
/-- slices.Clone of a document's nodes. -/
def OutNodes (l : List Kd) (m : Nat) (w : World) (e : Ending) (w' : World) : Prop := ∃ g c, e = .returned (.slice (some ⟨g, 0, none⟩) l.length c) ∧ OwnN w' w.heap.size g c l m ∧ Below w.heap.size w w'
theorem clonenodes_any (g cap : Nat) (l : List Kd) (m : Nat) (w : World) (h : Nodes w g l m) (h0 : 0 < l.length) (hl : l.length ≤ 1000) : Calls Tryz.prog 39 #[.slice (some ⟨g, 0, none⟩) l.length cap] w (OutNodes l m w) := by
  obtain ⟨cs, fr, h1, h2⟩ := h
  have hsz : l.length * 8 ≤ cs.size := by
    obtain ⟨_, _, _, _, h9⟩ := h2 (l.length - 1) _ (List.getElem?_eq_getElem (by omega))
    have := (Array.getElem?_eq_some_iff.1 (h9 7 _ rfl)).1
    omega
  have hat : ∀ (j : Nat) (u : Value), (cs.toList.take (l.length * 8))[j]? = some u → cs[j]? = some u := by
    intro j u hu
    rw [List.getElem?_take] at hu
    split at hu
    · simpa using hu
    · cases hu
  refine (clonen_some ⟨g, 0, none⟩ l.length cap (cs.toList.take (l.length * 8)) w h0 hl ?_ ?_ ?_ (hlt h1)).mono ?_
  · rw [List.length_take, Array.length_toList]; exact Nat.min_eq_left hsz
  · intro j u hu
    rw [add_at, Nat.zero_add, cell_row h1]
    exact hat j u hu
  · intro u hu
    obtain ⟨p, hp⟩ := List.getElem?_of_mem hu
    have hpl : p < l.length * 8 := by
      have := (List.getElem?_eq_some_iff.1 hp).1
      rw [List.length_take] at this
      omega
    have hcs := hat p u hp
    obtain ⟨va, vk, h3, h4, h9⟩ := h2 (p / 8) _ (List.getElem?_eq_getElem (show p / 8 < l.length by omega))
    obtain ⟨A, n, c, rfl⟩ := h3.form
    obtain ⟨A', n', c', rfl⟩ := h4.form
    have h10 := h9 (p % 8) _ (List.getElem?_eq_getElem (by rw [cells_len]; omega))
    rw [show p / 8 * 8 + p % 8 = p by omega, hcs] at h10
    injection h10 with h10
    rw [h10]
    rcases (show p % 8 = 0 ∨ p % 8 = 1 ∨ p % 8 = 2 ∨ p % 8 = 3 ∨ p % 8 = 4 ∨ p % 8 = 5 ∨ p % 8 = 6 ∨ p % 8 = 7 by omega) with h | h | h | h | h | h | h | h <;> simp only [h] <;> rfl
  · rintro e w' ⟨g', c', rfl, ho, hb⟩
    have hcm : c' ≤ maxLen := by
      rcases ho.2 with ⟨hv, _⟩ | ⟨_, _, _, hv, _, _, _, hm, _⟩
      · cases hv
      · injection hv with _ _ h3; rw [h3]; exact hm
    obtain ⟨cur, hg', hB, hc', hs, hx⟩ := own_block ho
    refine ⟨g', c', rfl, ⟨cur, hg', hB, hc', hcm, hs, fun i x hx' => ?_⟩, hb⟩
    obtain ⟨va, vk, h3, h4, h9⟩ := h2 i x hx'
    refine ⟨va, vk, h3.below hb, h4.below hb, fun j u hu => hx _ u ?_⟩
    have hj : j < 8 := (List.getElem?_eq_some_iff.1 hu).1
    have hi : i < l.length := (List.getElem?_eq_some_iff.1 hx').1
    rw [List.getElem?_take, if_pos (by omega), Array.getElem?_toList]
    exact h9 j u hu
end Go.Proofs.YtbhnfnbnngclmaaGreatDoor
