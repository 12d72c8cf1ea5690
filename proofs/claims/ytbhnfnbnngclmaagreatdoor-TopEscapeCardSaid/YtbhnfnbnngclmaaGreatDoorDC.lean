import Derived.Test.YtbhnfnbnngclmaaGreatDoorED
import Derived.Deep.MidRow
import Derived.Maps.OwnSet
import Derived.Maps.OwnOps
import Derived.Deep.Cut
import Derived.Outline
import Derived.Deep.RegionHeld3
import Derived.Deep.RegionLaw
import Derived.Deep.AppendLies
import Derived.BigRegion
import Derived.Laws.OwnMore
/- A document as a plain list of nodes, each below the one before; may, holds. -/
namespace Go.Proofs.YtbhnfnbnngclmaaGreatDoor
open Go.RowKit Go.Sort Go.BigFrame Go.Maps Go.WideMaps
set_option maxRecDepth 100000

/-- The root; an element b, with an attribute or none; a text. -/
inductive Kd where
  | root
  | el (a : Option (ByteArray × ByteArray))
  | tx (t : ByteArray)
def Kd.num : Kd → Int
  | .root => 1
  | .el _ => 2
  | .tx _ => 3
def Kd.nm : Kd → ByteArray
  | .el _ => ⟨#[98]⟩
  | _ => ⟨#[]⟩
def Kd.dt : Kd → ByteArray
  | .tx t => t
  | _ => ⟨#[]⟩
def Kd.ats : Kd → Option (ByteArray × ByteArray)
  | .el a => a
  | _ => none
def Kd.pr : Kd → Bool
  | .el _ => true
  | _ => false
def Kd.holds : Kd → Bool
  | .tx _ => false
  | _ => true
/-- A slice of attributes: none, or one. -/
def Ats (w : World) (v : Value) : Option (ByteArray × ByteArray) → Prop
  | none => v = .slice none 0 0
  | some p => ∃ g cap cs fr, v = .slice (some ⟨g, 0, none⟩) 1 cap ∧ 1 ≤ cap ∧ w.heap[g]? = some (.cells cs 63 fr) ∧ cs[0]? = some (.string p.1) ∧ cs[1]? = some (.string p.2)
/-- A slice of kids: none, or one. -/
def Kid (w : World) (v : Value) : Option Nat → Prop
  | none => v = .slice none 0 0
  | some k => ∃ g cap cs fr, v = .slice (some ⟨g, 0, none⟩) 1 cap ∧ 1 ≤ cap ∧ w.heap[g]? = some (.cells cs 3 fr) ∧ cs[0]? = some (.int .i64 k)
theorem hlt {w : World} {g : Nat} {o : Obj} (h : w.heap[g]? = some o) : g < w.heap.size := (Array.getElem?_eq_some_iff.1 h).1
theorem Ats.below {w w' : World} {v : Value} {o : Option (ByteArray × ByteArray)} (h : Ats w v o) (hb : Below w.heap.size w w') : Ats w' v o := by
  cases o with
  | none => exact h
  | some p => obtain ⟨g, cap, cs, fr, h1, h2, h3, h4⟩ := h; exact ⟨g, cap, cs, fr, h1, h2, (hb.block g (hlt h3)).trans h3, h4⟩
theorem Kid.below {w w' : World} {v : Value} {o : Option Nat} (h : Kid w v o) (hb : Below w.heap.size w w') : Kid w' v o := by
  cases o with
  | none => exact h
  | some p => obtain ⟨g, cap, cs, fr, h1, h2, h3, h4⟩ := h; exact ⟨g, cap, cs, fr, h1, h2, (hb.block g (hlt h3)).trans h3, h4⟩
/-- A node's cells. -/
def Kd.cells (x : Kd) (va : Value) (pa : Int) (vk : Value) : List Value := [.int .i64 x.num, .string x.nm, .string x.dt, va, .int .i64 pa, vk, .bool x.pr, .bool false]

/-- holds. -/
theorem holds_any (x : Kd) (va : Value) (pa : Int) (vk : Value) (w : World) : Calls Tryz.prog 46 #[.agg (x.cells va pa vk).toArray] w fun e w' => e = .returned (.bool x.holds) ∧ Below w.heap.size w w' := by
  have hb := below_alloc' w (.cells (x.cells va pa vk).toArray 37)
  cases x <;> (
    simp only [Kd.cells, Kd.num, Kd.nm, Kd.dt, Kd.pr] at hb ⊢
    go_enter Tryz.func46, Tryz.ntmps46
    go_wp2_with fail
    go_ret
    exact ⟨rfl, hb⟩)
theorem may_root (pa : Int) (va vk : Value) (w : World) (ha : va = .slice none 0 0) : Calls Tryz.prog 45 #[.agg (Kd.root.cells va pa vk).toArray] w fun e w' => e = .returned (.bool true) ∧ Below w.heap.size w w' := by
  subst ha
  have hb := below_alloc' w (.cells (Kd.root.cells (.slice none 0 0) pa vk).toArray 37)
  simp only [Kd.cells, Kd.num, Kd.nm, Kd.dt, Kd.pr] at hb ⊢
  go_enter Tryz.func45, Tryz.ntmps45
  go_wp2_with fail
  go_ret
  exact ⟨rfl, hb⟩
theorem may_text (t : ByteArray) (pa : Int) (va vk : Value) (w : World) (ha : va = .slice none 0 0) : Calls Tryz.prog 45 #[.agg ((Kd.tx t).cells va pa vk).toArray] w fun e w' => e = .returned (.bool true) ∧ Below w.heap.size w w' := by
  subst ha
  have hb := below_alloc' w (.cells ((Kd.tx t).cells (.slice none 0 0) pa vk).toArray 37)
  simp only [Kd.cells, Kd.num, Kd.nm, Kd.dt, Kd.pr] at hb ⊢
  go_enter Tryz.func45, Tryz.ntmps45
  go_wp2_with fail
  go_ret
  exact ⟨rfl, hb⟩
end Go.Proofs.YtbhnfnbnngclmaaGreatDoor
/- may, at an element. -/
namespace Go.Proofs.YtbhnfnbnngclmaaGreatDoor
open Go.RowKit Go.Sort Go.BigFrame Go.Maps Go.WideMaps
set_option maxRecDepth 100000

theorem law9 : Keyed Tryz.prog 9 := string_keyed Tryz.underlying9
theorem may_el0 (pa : Int) (va vk : Value) (w : World) (ha : va = .slice none 0 0) : Calls Tryz.prog 45 #[.agg ((Kd.el none).cells va pa vk).toArray] w fun e w' => e = .returned (.bool true) ∧ Below w.heap.size w w' := by
  subst ha
  have hmm := @run_makeMap Tryz.prog
  have hb := below_alloc' w (.cells ((Kd.el none).cells (.slice none 0 0) pa vk).toArray 37)
  have hrow := heap_alloc_new w (.cells ((Kd.el none).cells (.slice none 0 0) pa vk).toArray 37)
  simp only [Kd.cells, Kd.num, Kd.nm, Kd.dt, Kd.pr, Kd.ats] at hb hrow ⊢
  obtain ⟨W, hW⟩ : ∃ W, W = w.alloc (.cells #[.int .i64 2, .string ⟨#[98]⟩, .string ⟨#[]⟩, .slice none 0 0, .int .i64 pa, vk, .bool true, .bool false] 37) := ⟨_, rfl⟩
  rw [← hW] at hb hrow
  have x0 := cell_row hrow 0
  have x1 := cell_row hrow 1
  have x2 := cell_row hrow 2
  have x3 := cell_row hrow 3
  simp at x0 x1 x2 x3
  have hlen := (World.ownsMap_made (H := Unit) W Tryz.prog 9 (plainElem Tryz.prog 4)).len Tryz.underlying128 3
  have hlt' : w.heap.size < W.heap.size := by rw [hW]; simp
  have HW := Lib.hid hW
  have HB := Lib.hid hb
  clear hW hb hrow
  go_enter Tryz.func45, Tryz.ntmps45
  go_upto_region 1 with fail
  rw [← HW.out]
  go_wp2_with fail
  refine wp_loop_rounds 1 ?_
  rw [rounds_succ]
  go_wp2_with fail
  go_ret
  exact ⟨rfl, nx HB.out (below_alloc' _ _)⟩
set_option maxHeartbeats 2000000 in
theorem may_el1 (pa : Int) (va vk : Value) (p : ByteArray × ByteArray) (w : World) (ha : Ats w va (some p)) (hp : p.1.size ≤ 100000) : Calls Tryz.prog 45 #[.agg ((Kd.el (some p)).cells va pa vk).toArray] w fun e w' => e = .returned (.bool true) ∧ Below w.heap.size w w' := by
  obtain ⟨g, cap, cs, fr, rfl, hcap, hg, h0, h1⟩ := ha
  have hmm := @run_makeMap Tryz.prog
  have hb := below_alloc' w (.cells ((Kd.el (some p)).cells (.slice (some ⟨g, 0, none⟩) 1 cap) pa vk).toArray 37)
  have hrow := heap_alloc_new w (.cells ((Kd.el (some p)).cells (.slice (some ⟨g, 0, none⟩) 1 cap) pa vk).toArray 37)
  simp only [Kd.cells, Kd.num, Kd.nm, Kd.dt, Kd.pr, Kd.ats] at hb hrow ⊢
  obtain ⟨W, hW⟩ : ∃ W, W = w.alloc (.cells #[.int .i64 2, .string ⟨#[98]⟩, .string ⟨#[]⟩, .slice (some ⟨g, 0, none⟩) 1 cap, .int .i64 pa, vk, .bool true, .bool false] 37) := ⟨_, rfl⟩
  rw [← hW] at hb hrow
  have x0 := cell_row hrow 0
  have x1 := cell_row hrow 1
  have x2 := cell_row hrow 2
  have x3 := cell_row hrow 3
  simp at x0 x1 x2 x3
  have c0 : W.cell? ⟨g, 0, none⟩ = some (.string p.1) := (hb.cell (p := ⟨g, 0, none⟩) (hlt hg)).trans ((cell_row hg 0).trans h0)
  have c1 : W.cell? ⟨g, 1, none⟩ = some (.string p.2) := (hb.cell (p := ⟨g, 1, none⟩) (hlt hg)).trans ((cell_row hg 1).trans h1)
  have hgl : g < w.heap.size := hlt hg
  have hlt' : w.heap.size < W.heap.size := by rw [hW]; simp
  have hown := World.ownsMap_made (H := Unit) W Tryz.prog 9 (plainElem Tryz.prog 4)
  obtain ⟨x, y⟩ := p
  simp only at c0 c1 hp
  have hkey : keyOf Tryz.prog 9 (.string x) = some (.string x.data.toList) := keyOf_string_mk Tryz.underlying9 (by unfold maxLen; omega)
  have HW := Lib.hid hW
  have HB := Lib.hid hb
  have HO := Lib.hid hown
  have HKEY := Lib.hid hkey
  have hm := below_alloc' W (.map #[] 0)
  have d0 := (hm.cell (p := ⟨g, 0, none⟩) (by show g < _; omega)).trans c0
  have d1 := (hm.cell (p := ⟨g, 1, none⟩) (by show g < _; omega)).trans c1
  have y1 := (hm.cell (p := ⟨w.heap.size, 1, none⟩) (by show w.heap.size < _; omega)).trans x1
  have y2 := (hm.cell (p := ⟨w.heap.size, 2, none⟩) (by show w.heap.size < _; omega)).trans x2
  have y3 := (hm.cell (p := ⟨w.heap.size, 3, none⟩) (by show w.heap.size < _; omega)).trans x3
  have y0 := (hm.cell (p := ⟨w.heap.size, 0, none⟩) (by show w.heap.size < _; omega)).trans x0
  clear h0 h1 hg hb hW hrow hown hkey hm
  go_enter Tryz.func45, Tryz.ntmps45
  go_upto_region 1 with fail
  rw [← HW.out]
  go_wp2_with fail
  refine wp_loop_rounds 2 ?_
  rw [rounds_succ]
  go_wp2_with (at_mapUpdate; refine wpList_mapUpdate_own _ rfl _ _ _ 128 rfl 9 4 law9 Tryz.underlying128 (plainElem (H := Unit) Tryz.prog 4) W.heap.size 0 _ rfl (HO.out.alloc _) (by unfold maxLen; omega) _ _ _ rfl rfl HKEY.out _ [] (plainElem_bool Tryz.underlying4 true) ?_; intro w1 hown1 hgrow1; have hb1 : Below W.heap.size W w1 := ((below_alloc' W (.map #[] 0)).alloc (by simp) _).grown hgrow1 (by simp; omega) (fun k hk => by cases hk; exact Nat.le_refl _); have hln := hown1.len Tryz.underlying128 3; have z1 := (hb1.cell (p := ⟨w.heap.size, 1, none⟩) (by show w.heap.size < _; omega)).trans x1; have z2 := (hb1.cell (p := ⟨w.heap.size, 2, none⟩) (by show w.heap.size < _; omega)).trans x2; have z3 := (hb1.cell (p := ⟨w.heap.size, 3, none⟩) (by show w.heap.size < _; omega)).trans x3; have HB1 := Lib.hid hb1; have hsz : Maps.size ((DataW.map []).put (.string x.data.toList) (.lit (.bool true)) : DataW Unit) = 1 := rfl; rw [hsz] at hln; clear hown1 hgrow1 hb1 hsz)
  rw [rounds_succ]
  go_wp2_with fail
  go_ret
  exact ⟨rfl, nx HB.out HB1.out⟩
end Go.Proofs.YtbhnfnbnngclmaaGreatDoor
/- A document in memory; the marks that Check lays. -/
namespace Go.Proofs.YtbhnfnbnngclmaaGreatDoor
open Go.RowKit Go.Sort Go.BigFrame Go.Maps Go.WideMaps
set_option maxRecDepth 100000

/-- A text that is small. -/
def Kd.ok : Kd → Prop
  | .root => True
  | .el none => True
  | .el (some p) => p.1.size ≤ 100000 ∧ p.2.size ≤ 100000
  | .tx t => t.size ≤ 100000
/-- may. -/
theorem may_any (x : Kd) (hx : x.ok) (va : Value) (pa : Int) (vk : Value) (w : World) (ha : Ats w va x.ats) : Calls Tryz.prog 45 #[.agg (x.cells va pa vk).toArray] w fun e w' => e = .returned (.bool true) ∧ Below w.heap.size w w' := by
  cases x with
  | root => exact may_root pa va vk w ha
  | tx t => exact may_text t pa va vk w ha
  | el a =>
    cases a with
    | none => exact may_el0 pa va vk w ha
    | some p => exact may_el1 pa va vk p w ha hx.1
/-- Each node but the first stands below the one before, as far as m; the last one may stand nowhere. -/
def paOf (m i : Nat) : Int := if i < m then (i : Int) - 1 else -1
def kidOf (m i : Nat) : Option Nat := if i + 1 < m then some (i + 1) else none
structure Good (l : List Kd) (m : Nat) : Prop where
  m1 : 1 ≤ m
  ml : m ≤ l.length
  len : l.length ≤ 100
  root : l[0]? = some .root
  ne : ∀ i x, l[i]? = some x → 0 < i → (x.num == 1) = false
  holds : ∀ i x, l[i]? = some x → i + 1 < m → x.holds = true
  ok : ∀ x ∈ l, x.ok
def Nodes (w : World) (g : Nat) (l : List Kd) (m : Nat) : Prop :=
  ∃ cs fr, w.heap[g]? = some (.cells cs 37 fr) ∧ ∀ i x, l[i]? = some x → ∃ va vk, Ats w va x.ats ∧ Kid w vk (kidOf m i) ∧ ∀ j u, (x.cells va (paOf m i) vk)[j]? = some u → cs[i * 8 + j]? = some u
def Doc (w : World) (v : Value) (l : List Kd) (m : Nat) : Prop := ∃ g cap, v = .agg #[.slice (some ⟨g, 0, none⟩) l.length cap] ∧ l.length ≤ cap ∧ Nodes w g l m
theorem Nodes.below {w w' : World} {g : Nat} {l : List Kd} {m : Nat} (h : Nodes w g l m) (hb : Below w.heap.size w w') : Nodes w' g l m := by
  obtain ⟨cs, fr, h1, h2⟩ := h
  refine ⟨cs, fr, (hb.block g (hlt h1)).trans h1, fun i x hx => ?_⟩
  obtain ⟨va, vk, h3, h4, h5⟩ := h2 i x hx
  exact ⟨va, vk, h3.below hb, h4.below hb, h5⟩
theorem Nodes.lt {w : World} {g : Nat} {l : List Kd} {m : Nat} (h : Nodes w g l m) : g < w.heap.size := by
  obtain ⟨cs, fr, h1, _⟩ := h
  exact hlt h1
theorem Doc.below {w w' : World} {v : Value} {l : List Kd} {m : Nat} (h : Doc w v l m) (hb : Below w.heap.size w w') : Doc w' v l m := by
  obtain ⟨g, cap, h1, h2, h3⟩ := h
  exact ⟨g, cap, h1, h2, h3.below hb⟩
theorem Ats.form {w : World} {v : Value} {o : Option (ByteArray × ByteArray)} (h : Ats w v o) : ∃ A n c, v = .slice A n c := by
  cases o with
  | none => exact ⟨_, _, _, h⟩
  | some p => obtain ⟨g, cap, cs, fr, h1, _⟩ := h; exact ⟨_, _, _, h1⟩
theorem Kid.form {w : World} {v : Value} {o : Option Nat} (h : Kid w v o) : ∃ A n c, v = .slice A n c := by
  cases o with
  | none => exact ⟨_, _, _, h⟩
  | some p => obtain ⟨g, cap, cs, fr, h1, _⟩ := h; exact ⟨_, _, _, h1⟩
/-- A node's row, laid in a block of its own. -/
theorem row_facts {w : World} {A : Nat} {x : Kd} {va vk : Value} {pa : Int} (h : w.heap[A]? = some (.cells (x.cells va pa vk).toArray 37)) :
    w.cell? ⟨A, 0, none⟩ = some (.int .i64 x.num) ∧ w.cell? ⟨A, 1, none⟩ = some (.string x.nm) ∧ w.cell? ⟨A, 2, none⟩ = some (.string x.dt) ∧ w.cell? ⟨A, 3, none⟩ = some va ∧ w.cell? ⟨A, 4, none⟩ = some (.int .i64 pa) ∧ w.cell? ⟨A, 5, none⟩ = some vk ∧ w.cell? ⟨A, 6, none⟩ = some (.bool x.pr) ∧ w.cell? ⟨A, 7, none⟩ = some (.bool false) :=
  ⟨cell_row h 0, cell_row h 1, cell_row h 2, cell_row h 3, cell_row h 4, cell_row h 5, cell_row h 6, cell_row h 7⟩
theorem range_facts {w : World} {g o : Nat} {x : Kd} {va vk : Value} {pa : Int} (h : w.rangeAt g o (x.cells va pa vk)) :
    w.cell? ⟨g, o, none⟩ = some (.int .i64 x.num) ∧ w.cell? ⟨g, o + 1, none⟩ = some (.string x.nm) ∧ w.cell? ⟨g, o + 2, none⟩ = some (.string x.dt) ∧ w.cell? ⟨g, o + 3, none⟩ = some va ∧ w.cell? ⟨g, o + 4, none⟩ = some (.int .i64 pa) ∧ w.cell? ⟨g, o + 5, none⟩ = some vk ∧ w.cell? ⟨g, o + 6, none⟩ = some (.bool x.pr) ∧ w.cell? ⟨g, o + 7, none⟩ = some (.bool false) :=
  ⟨h 0 _ rfl, h 1 _ rfl, h 2 _ rfl, h 3 _ rfl, h 4 _ rfl, h 5 _ rfl, h 6 _ rfl, h 7 _ rfl⟩
/-- What a node's cells are. -/
theorem Nodes.at_ {w : World} {g : Nat} {l : List Kd} {m : Nat} (h : Nodes w g l m) (i : Nat) (x : Kd) (hx : l[i]? = some x) :
    ∃ va vk, Ats w va x.ats ∧ Kid w vk (kidOf m i) ∧ w.rangeAt g (i * 8) (x.cells va (paOf m i) vk) := by
  obtain ⟨cs, fr, h1, h2⟩ := h
  obtain ⟨va, vk, h3, h4, h5⟩ := h2 i x hx
  exact ⟨va, vk, h3, h4, fun j u hj => (cell_row h1 _).trans (h5 j u hj)⟩
/-- A node's parent. -/
theorem Nodes.pa {w : World} {g : Nat} {l : List Kd} {m : Nat} (h : Nodes w g l m) (i : Nat) (hi : i < l.length) : w.cell? ⟨g, i * 8 + 4, none⟩ = some (.int .i64 (paOf m i)) := by
  obtain ⟨va, vk, _, _, h5⟩ := h.at_ i l[i] (List.getElem?_eq_getElem hi)
  exact h5 4 _ rfl
theorem ty37 : ∃ d, Tryz.prog.underlying 37 = some d ∧ d.isRow = true ∧ (Tryz.prog.info? 37).map (·.size) = some 8 := ⟨_, rfl, rfl, rfl⟩

theorem kid_none {m i : Nat} (h : kidOf m i = none) : m ≤ i + 1 := by
  unfold kidOf at h
  split at h
  · cases h
  · omega
theorem kid_some {m i k : Nat} (h : kidOf m i = some k) : i + 1 < m ∧ k = i + 1 := by
  unfold kidOf at h
  split at h
  · injection h with h; exact ⟨by assumption, h.symm⟩
  · cases h
/-- The marks: the cells of a slice of truths. -/
def bcells (l : List Bool) : Array Value := (l.map Value.bool).toArray
theorem made_false (n : Nat) : madeCells #[.bool false] n = bcells (List.replicate n false) := by
  apply Array.toList_inj.1
  rw [toList_madeCells_one]
  simp [bcells]
theorem bcells_at (l : List Bool) (k : Nat) (h : k < l.length) : (bcells l)[k]? = some (.bool l[k]) := by
  unfold bcells; simp [List.getElem?_eq_getElem h]
theorem cell_bits {w : World} {g : Nat} {l : List Bool} (hb : w.heap[g]? = some (.cells (bcells l) 4 (0, 0))) (k : Nat) (h : k < l.length) : w.cell? ⟨g, k, none⟩ = some (.bool l[k]) := by
  rw [cell_of_row w g k _ 4 (0, 0) hb, bcells_at l k h]
theorem bool_row : (Tryz.prog.info? 4).map (fun i => (i.zero, i.size, i.bytes)) = some (some (.bool false), 1, 1) := by kernel_rfl
/-- What is marked when i nodes were looked at. -/
def marks (n m i : Nat) : List Bool := (List.range n).map fun j => decide (1 ≤ j ∧ j ≤ i ∧ j < m)
theorem marks_len (n m i : Nat) : (marks n m i).length = n := by simp [marks]
theorem marks_at (n m i j : Nat) (h : j < (marks n m i).length) : (marks n m i)[j] = decide (1 ≤ j ∧ j ≤ i ∧ j < m) := by simp [marks]
theorem marks_zero (n m : Nat) : marks n m 0 = List.replicate n false := by
  apply List.ext_getElem
  · simp [marks]
  · intro j h1 h2
    rw [marks_at, List.getElem_replicate]
    simp; omega
theorem marks_same (n m i : Nat) (h : m ≤ i + 1) : marks n m (i + 1) = marks n m i := by
  apply List.ext_getElem
  · simp [marks]
  · intro j h1 h2
    rw [marks_at, marks_at]
    congr 1
    apply propext
    omega
theorem marks_set (n m i : Nat) (h : i + 1 < m) (hm : m ≤ n) : (bcells (marks n m i)).setIfInBounds (i + 1) (.bool true) = bcells (marks n m (i + 1)) := by
  apply Array.toList_inj.1
  unfold bcells
  simp only [Array.toList_setIfInBounds]
  apply List.ext_getElem
  · simp [marks]
  · intro j h1 h2
    simp only [List.getElem_set, List.getElem_map, marks_at]
    simp only [List.length_map, marks_len, List.length_set] at h1 h2
    split
    · rename_i he
      subst he
      congr 1
      symm
      simp; omega
    · rename_i he
      congr 1
      have : decide (1 ≤ j ∧ j ≤ i ∧ j < m) = decide (1 ≤ j ∧ j ≤ i + 1 ∧ j < m) := by
        congr 1
        apply propext
        omega
      simp [this]
theorem set_mark {w : World} {g n m i : Nat} (h : w.heap[g]? = some (.cells (bcells (marks n m i)) 4 (0, 0))) (hi : i + 1 < m) (hm : m ≤ n) : (w.setCell ⟨g, i + 1, none⟩ (.bool true)).heap[g]? = some (.cells (bcells (marks n m (i + 1))) 4 (0, 0)) := by
  rw [← marks_set n m i hi hm]
  simp only [World.setCell]
  rw [Array.getElem?_modify, if_pos rfl, h]
  rfl
/-- make([]bool, n). -/
theorem make_marks (n : Nat) (hn : n ≤ 100) (u : World) : (Instr.makeSlice 112 (.int .i64 (n : Int)) (.int .i64 (n : Int))).run Tryz.prog u = .ok (.slice (some ⟨u.heap.size, 0, none⟩) n n) (u.alloc (.cells (bcells (List.replicate n false)) 4)) := by
  obtain ⟨i0, hi, hz0, hz1, hz2⟩ := info_parts bool_row
  have h := run_make (P := Tryz.prog) u 112 4 i0 (.bool false) Tryz.underlying112 hi hz0 .i64 .i64 (n : Int) (n : Int) (by omega) (Int.le_refl _) (by rw [hz2]; omega) (by omega)
  rw [hz1] at h
  simp only [Int.toNat_natCast, Nat.mul_one, Value.cells] at h
  rw [made_false] at h
  exact h
end Go.Proofs.YtbhnfnbnngclmaaGreatDoor
