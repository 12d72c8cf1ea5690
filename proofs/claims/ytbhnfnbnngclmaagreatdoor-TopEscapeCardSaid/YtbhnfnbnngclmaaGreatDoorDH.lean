/- A node more; there, node, first, New. -/
import Derived.Test.YtbhnfnbnngclmaaGreatDoorDG
import Derived.Test.YtbhnfnbnngclmaaGreatDoorDD
namespace Go.Proofs.YtbhnfnbnngclmaaGreatDoor
open Go.RowKit Go.Sort Go.BigFrame Go.Maps Go.WideMaps
set_option maxRecDepth 100000

/-- Cells that read as nodes. -/
def RowN (w : World) (l : List Kd) (m : Nat) (xs : List Value) : Prop :=
  ∀ (i : Nat) (x : Kd), l[i]? = some x → ∃ va vk, Ats w va x.ats ∧ Kid w vk (kidOf m i) ∧ ∀ (j : Nat) (u : Value), (x.cells va (paOf m i) vk)[j]? = some u → xs[i * 8 + j]? = some u
theorem OwnN.row {w : World} {B g c : Nat} {l : List Kd} {m : Nat} (h : OwnN w B g c l m) : ∃ xs, w.ownsRow B 37 8 (.slice (some ⟨g, 0, none⟩) l.length c) l.length xs ∧ RowN w l m xs := by
  obtain ⟨cur, h1, h2, h3, h4, h5, h6⟩ := h
  refine ⟨cur.toList.take (l.length * 8), ⟨?_, .inr ⟨g, c, cur, rfl, h2, h1, h3, h4, h5, rfl⟩⟩, fun i x hx => ?_⟩
  · rw [List.length_take, Array.length_toList (xs := cur), h5]
    exact Nat.min_eq_left (Nat.mul_le_mul_right 8 h3)
  · obtain ⟨va, vk, h7, h8, h9⟩ := h6 i x hx
    refine ⟨va, vk, h7, h8, fun j u hu => ?_⟩
    have hj : j < 8 := (List.getElem?_eq_some_iff.1 hu).1
    have hi : i < l.length := (List.getElem?_eq_some_iff.1 hx).1
    rw [List.getElem?_take, if_pos (by omega), Array.getElem?_toList]
    exact h9 j u hu
theorem OwnN.of_row {w : World} {B g c n : Nat} {l : List Kd} {m : Nat} {xs : List Value} (h : w.ownsRow B 37 8 (.slice (some ⟨g, 0, none⟩) n c) n xs) (hn : l.length = n) (hr : RowN w l m xs) : OwnN w B g c l m := by
  have hcm : c ≤ maxLen := by
    rcases h.2 with ⟨hv, _⟩ | ⟨_, _, _, hv, _, _, _, hm, _⟩
    · cases hv
    · injection hv with _ _ h3; rw [h3]; exact hm
  obtain ⟨cur, hg', hB, hc', hs, hx⟩ := own_block h
  refine ⟨cur, hg', hB, by rw [hn]; exact hc', hcm, hs, fun i x hi => ?_⟩
  obtain ⟨va, vk, h3, h4, h9⟩ := hr i x hi
  exact ⟨va, vk, h3, h4, fun j u hu => hx _ u (h9 j u hu)⟩
theorem Ats.grown {w w' : World} {v : Value} {o : Option (ByteArray × ByteArray)} (h : Ats w v o) {g : Nat} {cur : Array Value} {fr : Nat × Nat} (hg : w.heap[g]? = some (.cells cur 37 fr)) (hk : w.grownBy w' (some g)) : Ats w' v o := by
  cases o with
  | none => exact h
  | some p =>
    obtain ⟨b, cap, cs, fr, h1, h2, h3, h4⟩ := h
    refine ⟨b, cap, cs, fr, h1, h2, (hk.block b (hlt h3) ?_).trans h3, h4⟩
    intro e
    injection e with e
    subst e
    rw [hg] at h3
    injection h3 with h3
    injection h3 with _ h3
    exact absurd h3 (by decide)
theorem Kid.grown {w w' : World} {v : Value} {o : Option Nat} (h : Kid w v o) {g : Nat} {cur : Array Value} {fr : Nat × Nat} (hg : w.heap[g]? = some (.cells cur 37 fr)) (hk : w.grownBy w' (some g)) : Kid w' v o := by
  cases o with
  | none => exact h
  | some p =>
    obtain ⟨b, cap, cs, fr, h1, h2, h3, h4⟩ := h
    refine ⟨b, cap, cs, fr, h1, h2, (hk.block b (hlt h3) ?_).trans h3, h4⟩
    intro e
    injection e with e
    subst e
    rw [hg] at h3
    injection h3 with h3
    injection h3 with _ h3
    exact absurd h3 (by decide)
/-- A node more, that stands nowhere. -/
theorem OwnN.more {w w' : World} {B g c gg cap : Nat} {l : List Kd} {x : Kd} {va : Value} {xs : List Value} (h : OwnN w B g c l l.length) (hr : RowN w l l.length xs) (hxs : xs.length = l.length * 8) (ha : Ats w va x.ats)
    (hown : w'.ownsRow B 37 8 (.slice (some ⟨gg, 0, none⟩) (l.length + 1) cap) (l.length + 1) (xs ++ x.cells va (-1) (.slice none 0 0))) (hgrow : w.grownBy w' (some g)) : OwnN w' B gg cap (l ++ [x]) l.length := by
  obtain ⟨cur, h1, _⟩ := h
  refine OwnN.of_row hown (by simp) fun i y hy => ?_
  by_cases hi : i < l.length
  · rw [List.getElem?_append_left hi] at hy
    obtain ⟨vb, vk, h7, h8, h9⟩ := hr i y hy
    refine ⟨vb, vk, h7.grown h1 hgrow, h8.grown h1 hgrow, fun j u hu => ?_⟩
    have hj : j < 8 := (List.getElem?_eq_some_iff.1 hu).1
    rw [List.getElem?_append_left (by omega)]
    exact h9 j u hu
  · have hil : i = l.length := by
      have := (List.getElem?_eq_some_iff.1 hy).1
      rw [List.length_append, List.length_singleton] at this
      omega
    subst hil
    rw [List.getElem?_append_right (Nat.le_refl _), Nat.sub_self] at hy
    injection hy with hy
    subst hy
    refine ⟨va, .slice none 0 0, ha.grown h1 hgrow, ?_, fun j u hu => ?_⟩
    · have : kidOf l.length l.length = none := by unfold kidOf; rw [if_neg (by omega)]
      rw [this]
      rfl
    · have hp : paOf l.length l.length = -1 := by unfold paOf; rw [if_neg (by omega)]
      rw [hp] at hu
      rw [List.getElem?_append_right (by omega), hxs, Nat.add_sub_cancel_left]
      exact hu
theorem Good.more {l : List Kd} {x : Kd} (h : Good l l.length) (hl : l.length < 50) (hx : (x.num == 1) = false) (ho : x.ok) : Good (l ++ [x]) l.length where
  m1 := h.m1
  ml := by simp
  len := by simp; omega
  root := by rw [List.getElem?_append_left h.m1]; exact h.root
  ne := by
    intro i y hy hi
    by_cases hil : i < l.length
    · rw [List.getElem?_append_left hil] at hy; exact h.ne i y hy hi
    · rw [List.getElem?_append_right (by omega)] at hy
      have := (List.getElem?_eq_some_iff.1 hy).1
      simp at this
      rw [show i - l.length = 0 by omega] at hy
      injection hy with hy
      subst hy
      exact hx
  holds := by
    intro i y hy hi
    rw [List.getElem?_append_left (by omega)] at hy
    exact h.holds i y hy hi
  ok := by
    intro y hy
    rcases List.mem_append.1 hy with hy | hy
    · exact h.ok y hy
    · rw [List.mem_singleton.1 hy]; exact ho

/-- there. -/
theorem there_any (l : List Kd) (m k : Nat) (v : Value) (w : World) (hd : Doc w v l m) (hg : Good l m) (hk : k < l.length) : Calls Tryz.prog 15 #[v, .int .i64 k] w fun e w' => e = .returned (.bool true) ∧ Below w.heap.size w w' := by
  have cc := fun w' h => check_any l m v w' h hg
  obtain ⟨g, cap, rfl, hcap, hn⟩ := hd
  obtain ⟨n, hnl⟩ : ∃ n, n = l.length := ⟨_, rfl⟩
  rw [← hnl] at cc hk ⊢
  have hbW := below_alloc' w (.cells #[.slice (some ⟨g, 0, none⟩) n cap] 26)
  have hr0 := heap_alloc_new w (.cells #[.slice (some ⟨g, 0, none⟩) n cap] 26)
  obtain ⟨W, hW⟩ : ∃ W, W = w.alloc (.cells #[.slice (some ⟨g, 0, none⟩) n cap] 26) := ⟨_, rfl⟩
  rw [← hW] at hbW hr0
  have x0 := cell_row hr0 0
  simp at x0
  have hD : Doc W (.agg #[.slice (some ⟨g, 0, none⟩) n cap]) l m := ⟨g, cap, by rw [hnl], hcap, hn.below hbW⟩
  have hlt0 := hlt hr0
  have k1 : decide ((k : Int) < (n : Int)) = true := by simp; omega
  have k2 : decide (k < n) = true := by simp; omega
  have HW := Lib.hid hW
  have HB := Lib.hid hbW
  have HD := Lib.hid hD
  have HC := Lib.hid cc
  clear hW hbW hr0 hD cc hnl hn
  go_enter Tryz.func15, Tryz.ntmps15
  go_upto_region 1 with fail
  rw [← HW.out]
  go_wp2_with fail
  with_reducible refine (HC.out _ HD.out).mono ?_
  rintro e w1 ⟨rfl, hb1⟩
  have x1 := (hb1.cell (p := ⟨w.heap.size, 0, none⟩) hlt0).trans x0
  have HB1 := Lib.hid (nx HB.out hb1)
  clear x0 hb1
  go_wp2_with fail
  go_ret
  exact ⟨rfl, HB1.out⟩
/-- node, at what is so. -/
theorem node_any (w : World) : Calls Tryz.prog 114 #[.bool true] w fun e w' => e = .returned (.int .i64 0) ∧ w = w' := by
  go_enter Tryz.func114, Tryz.ntmps114
  go_wp2_with fail
  go_ret
  exact ⟨rfl, rfl⟩
/-- first, of two that are none. -/
theorem first_any (g cap : Nat) (w : World) (h0 : w.cell? ⟨g, 0, none⟩ = some (.int .i64 0)) (h1 : w.cell? ⟨g, 1, none⟩ = some (.int .i64 0)) : Calls Tryz.prog 113 #[.slice (some ⟨g, 0, none⟩) 2 cap] w fun e w' => e = .returned (.int .i64 0) ∧ w = w' := by
  go_enter Tryz.func113, Tryz.ntmps113
  go_wp2_with fail
  refine wp_loop_rounds 3 ?_
  rw [rounds_succ]
  go_wp2_with fail
  rw [rounds_succ]
  go_wp2_with fail
  rw [rounds_succ]
  go_wp2_with fail
  go_ret
  exact ⟨rfl, rfl⟩
end Go.Proofs.YtbhnfnbnngclmaaGreatDoor
