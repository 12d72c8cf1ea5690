/- The document's rows hold. -/
import Derived.Test.YteghldoglffabaaDoorHR
namespace Go.Proofs.YteghldoglffabaaDoor
open Go.RowKit Go.Shelf

def True1 (w : World) (e : Ending) (w' : World) : Prop := e = .returned (.bool true) ∧ Below w.heap.size w w'
theorem texts_same (A B : Option Addr) (n c d : Nat) (p : List ByteArray) (w : World) (hp : Texts w A n p) (hq : Texts w B n p) (hn : n ≤ 10000000) : Calls Tryd.prog 19 #[.slice A n c, .slice B n d] w (True1 w) :=
  (texts_any A B n n c d p p w hp hq hn hn).mono fun e w' ⟨he, hb⟩ => ⟨by rw [he]; simp, hb⟩
theorem texts_lit (A : Option Addr) (c : Nat) (p : List ByteArray) (w : World) (hp : Texts w A p.length p) (hn : p.length ≤ 10000000) :
    Calls Tryd.prog 19 #[.slice A p.length c, .slice (some ⟨w.heap.size, 0, none⟩) p.length p.length] (w.alloc (.cells (p.map Value.string).toArray 9)) (True1 w) :=
  (texts_same A _ p.length c p.length p _ (hp.below (below_alloc' w _)) (Texts.lit w p) hn).mono fun e w' ⟨he, hb⟩ => ⟨he, (below_alloc' w _).trans (hb.mono (by simp))⟩
/-- What the two texts are parsed as. -/
def R1 : List (List (ByteArray × List ByteArray)) := [[(⟨#[115, 99, 114, 105, 112, 116, 45, 115, 114, 99]⟩, [⟨#[39, 115, 101, 108, 102, 39]⟩, ⟨#[104, 116, 116, 112, 115, 58]⟩]), (⟨#[120]⟩, [⟨#[121]⟩])], [(⟨#[100, 101, 102, 97, 117, 108, 116, 45, 115, 114, 99]⟩, [])]]
def R2 : List (List (ByteArray × List ByteArray)) := [[(⟨#[97]⟩, [⟨#[49]⟩])], [(⟨#[98]⟩, [])]]
theorem lit_r1 : parseB [83, 99, 114, 105, 112, 116, 45, 83, 114, 99, 32, 39, 115, 101, 108, 102, 39, 32, 104, 116, 116, 112, 115, 58, 59, 32, 120, 32, 121, 44, 32, 59, 100, 101, 102, 97, 117, 108, 116, 45, 115, 114, 99] = R1 := by decide +kernel
theorem lit_r2 : parseB [97, 32, 49, 59, 32, 65, 32, 50, 59, 59, 32, 44, 32, 44, 98] = R2 := by decide +kernel
theorem parse1_lit (w : World) : Calls Tryd.prog 11 #[.string ⟨#[83, 99, 114, 105, 112, 116, 45, 83, 114, 99, 32, 39, 115, 101, 108, 102, 39, 32, 104, 116, 116, 112, 115, 58, 59, 32, 120, 32, 121, 44, 32, 59, 100, 101, 102, 97, 117, 108, 116, 45, 115, 114, 99]⟩, .bool false] w (OutPols false R1 w) := by
  have := parse_any ⟨#[83, 99, 114, 105, 112, 116, 45, 83, 114, 99, 32, 39, 115, 101, 108, 102, 39, 32, 104, 116, 116, 112, 115, 58, 59, 32, 120, 32, 121, 44, 32, 59, 100, 101, 102, 97, 117, 108, 116, 45, 115, 114, 99]⟩ false w (by decide)
  rw [show (⟨#[83, 99, 114, 105, 112, 116, 45, 83, 114, 99, 32, 39, 115, 101, 108, 102, 39, 32, 104, 116, 116, 112, 115, 58, 59, 32, 120, 32, 121, 44, 32, 59, 100, 101, 102, 97, 117, 108, 116, 45, 115, 114, 99]⟩ : ByteArray).data.toList = [83, 99, 114, 105, 112, 116, 45, 83, 114, 99, 32, 39, 115, 101, 108, 102, 39, 32, 104, 116, 116, 112, 115, 58, 59, 32, 120, 32, 121, 44, 32, 59, 100, 101, 102, 97, 117, 108, 116, 45, 115, 114, 99] from rfl, lit_r1] at this; exact this
theorem parse2_lit (w : World) : Calls Tryd.prog 11 #[.string ⟨#[97, 32, 49, 59, 32, 65, 32, 50, 59, 59, 32, 44, 32, 44, 98]⟩, .bool true] w (OutPols true R2 w) := by
  have := parse_any ⟨#[97, 32, 49, 59, 32, 65, 32, 50, 59, 59, 32, 44, 32, 44, 98]⟩ true w (by decide)
  rw [show (⟨#[97, 32, 49, 59, 32, 65, 32, 50, 59, 59, 32, 44, 32, 44, 98]⟩ : ByteArray).data.toList = [97, 32, 49, 59, 32, 65, 32, 50, 59, 59, 32, 44, 32, 44, 98] from rfl, lit_r2] at this; exact this

theorem textsV_row {W : World} {b : Nat} {fr : Nat × Nat} (ss : List ByteArray) (h : W.heap[b]? = some (.cells (ss.map Value.string).toArray 9 fr)) : TextsV W (.slice (some ⟨b, 0, none⟩) ss.length ss.length) ss :=
  ⟨_, _, rfl, Nat.le_refl _, fun e => (by cases e), rfl, fun _ => ⟨_, rfl, (Array.getElem?_eq_some_iff.1 h).1, fun j hj => by
    rw [add_at, Nat.zero_add, cell_of_row _ b j _ 9 fr h]
    simp [List.getElem?_eq_getElem hj]⟩⟩
theorem dirsV_row {W : World} {g : Nat} {cs : Array Value} {fr : Nat × Nat} (ds : List (ByteArray × List ByteArray)) (h : W.heap[g]? = some (.cells cs 42 fr))
    (hc : ∀ j (h : j < ds.length), cs[j * 2]? = some (.string ds[j].1) ∧ ∃ wv, cs[j * 2 + 1]? = some wv ∧ TextsV W wv ds[j].2) : DirsV W (.slice (some ⟨g, 0, none⟩) ds.length ds.length) ds :=
  ⟨_, _, rfl, Nat.le_refl _, fun e => (by cases e), fun _ => ⟨g, 0, rfl, (Array.getElem?_eq_some_iff.1 h).1, fun j hj => by
    obtain ⟨h1, wv, h2, h3⟩ := hc j hj
    rw [Nat.zero_add, cell_row h, cell_row h]
    exact ⟨h1, wv, h2, h3⟩⟩⟩
def D1 : List (ByteArray × List ByteArray) := [(⟨#[97]⟩, [⟨#[49]⟩])]
def D2 : List (ByteArray × List ByteArray) := [(⟨#[97]⟩, [⟨#[49]⟩]), (⟨#[98]⟩, [])]
theorem d1_lit (w : World) : DirsV ((w.alloc (.cells #[.string ⟨#[49]⟩] 9)).alloc (.cells #[.string ⟨#[97]⟩, .slice (some ⟨w.heap.size, 0, none⟩) 1 1] 42)) (.slice (some ⟨w.heap.size + 1, 0, none⟩) 1 1) D1 := by
  have h0 := (heap_alloc_old (w.alloc (.cells #[.string ⟨#[49]⟩] 9)) (.cells #[.string ⟨#[97]⟩, .slice (some ⟨w.heap.size, 0, none⟩) 1 1] 42) (show w.heap.size < _ by simp)).trans (heap_alloc_new w _)
  have h1 := heap_alloc_new (w.alloc (.cells #[.string ⟨#[49]⟩] 9)) (.cells #[.string ⟨#[97]⟩, .slice (some ⟨w.heap.size, 0, none⟩) 1 1] 42)
  rw [World.size_alloc] at h1
  refine dirsV_row D1 h1 fun j hj => ?_
  obtain rfl : j = 0 := by simp [D1] at hj; exact hj
  exact ⟨rfl, _, rfl, textsV_row [⟨#[49]⟩] h0⟩
theorem d2_lit (w : World) : DirsV ((w.alloc (.cells #[.string ⟨#[49]⟩] 9)).alloc (.cells #[.string ⟨#[97]⟩, .slice (some ⟨w.heap.size, 0, none⟩) 1 1, .string ⟨#[98]⟩, .slice none 0 0] 42)) (.slice (some ⟨w.heap.size + 1, 0, none⟩) 2 2) D2 := by
  have h0 := (heap_alloc_old (w.alloc (.cells #[.string ⟨#[49]⟩] 9)) (.cells #[.string ⟨#[97]⟩, .slice (some ⟨w.heap.size, 0, none⟩) 1 1, .string ⟨#[98]⟩, .slice none 0 0] 42) (show w.heap.size < _ by simp)).trans (heap_alloc_new w _)
  have h1 := heap_alloc_new (w.alloc (.cells #[.string ⟨#[49]⟩] 9)) (.cells #[.string ⟨#[97]⟩, .slice (some ⟨w.heap.size, 0, none⟩) 1 1, .string ⟨#[98]⟩, .slice none 0 0] 42)
  rw [World.size_alloc] at h1
  refine dirsV_row D2 h1 fun j hj => ?_
  rcases (show j = 0 ∨ j = 1 by simp [D2] at hj; omega) with rfl | rfl
  · exact ⟨rfl, _, rfl, textsV_row [⟨#[49]⟩] h0⟩
  · exact ⟨rfl, _, rfl, none, 0, rfl, Nat.le_refl _, fun _ => rfl, Texts.nil _⟩
theorem d_mild {ds : List (ByteArray × List ByteArray)} (h : (decide (ds.length ≤ 10000000) && ds.all fun d => decide (d.1.size ≤ 10000000) && decide (d.2.length ≤ 10000000) && d.2.all fun s => decide (s.size ≤ 10000000)) = true) : Mild ds := by
  simp only [Bool.and_eq_true, decide_eq_true_eq, List.all_eq_true] at h
  exact ⟨h.1, fun d hd => ⟨(h.2 d hd).1.1, (h.2 d hd).1.2, (h.2 d hd).2⟩⟩
theorem find_lit (w : World) : Calls Tryd.prog 15 #[.agg #[.slice (some ⟨w.heap.size + 1, 0, none⟩) 1 1, .bool false], .string ⟨#[65]⟩] ((w.alloc (.cells #[.string ⟨#[49]⟩] 9)).alloc (.cells #[.string ⟨#[97]⟩, .slice (some ⟨w.heap.size, 0, none⟩) 1 1] 42))
    (OutFind (some [⟨#[49]⟩]) ((w.alloc (.cells #[.string ⟨#[49]⟩] 9)).alloc (.cells #[.string ⟨#[97]⟩, .slice (some ⟨w.heap.size, 0, none⟩) 1 1] 42))) := by
  have := find_any _ false D1 ⟨#[65]⟩ _ (d1_lit w) (by decide) (by decide) (by decide)
  rw [show findB D1 (Fo.lower (⟨#[65]⟩ : ByteArray).data.toList) = some [⟨#[49]⟩] by decide +kernel] at this
  exact this
theorem print_lit (w : World) : Calls Tryd.prog 17 #[.agg #[.slice (some ⟨w.heap.size + 1, 0, none⟩) 2 2, .bool false]] ((w.alloc (.cells #[.string ⟨#[49]⟩] 9)).alloc (.cells #[.string ⟨#[97]⟩, .slice (some ⟨w.heap.size, 0, none⟩) 1 1, .string ⟨#[98]⟩, .slice none 0 0] 42))
    fun e w' => e = .returned (.tuple #[.string ⟨#[97, 32, 49, 59, 32, 98]⟩, .bool true]) ∧ Below ((w.alloc (.cells #[.string ⟨#[49]⟩] 9)).alloc (.cells #[.string ⟨#[97]⟩, .slice (some ⟨w.heap.size, 0, none⟩) 1 1, .string ⟨#[98]⟩, .slice none 0 0] 42)).heap.size ((w.alloc (.cells #[.string ⟨#[49]⟩] 9)).alloc (.cells #[.string ⟨#[97]⟩, .slice (some ⟨w.heap.size, 0, none⟩) 1 1, .string ⟨#[98]⟩, .slice none 0 0] 42)) w' := by
  have := print_any _ false D2 _ (d2_lit w) (d_mild (by decide +kernel)) (by decide)
  rw [show rightB D2 = true by decide +kernel, if_pos rfl, show (⟨(printB D2).toArray⟩ : ByteArray) = ⟨#[97, 32, 49, 59, 32, 98]⟩ by decide +kernel] at this
  exact this
theorem print_none (w : World) : Calls Tryd.prog 17 #[.agg #[.slice none 0 0, .bool false]] w fun e w' => e = .returned (.tuple #[.string ⟨#[]⟩, .bool false]) ∧ Below w.heap.size w w' := by
  have := print_any (.slice none 0 0) false [] w ⟨none, 0, rfl, Nat.le_refl _, fun _ => rfl, fun h => absurd h (by simp)⟩ (d_mild (by decide +kernel)) (by decide)
  rw [show rightB [] = false by decide +kernel] at this
  exact this

set_option maxRecDepth 100000 in
set_option maxHeartbeats 4000000 in
theorem reads_any (w : World) : Calls Tryd.prog 9 #[] w (True1 w) := by
  go_enter Tryd.func9, Tryd.ntmps9
  go_wp2_with fail
  refine (parse1_lit _).mono ?_
  rintro e w1 ⟨v1, rfl, h1, hb1⟩
  go_wp2_with fail
  refine (parse2_lit _).mono ?_
  rintro e w2 ⟨v2, rfl, h2, hb2⟩
  go_wp2_with fail
  refine (find_lit _).mono ?_
  rintro e w3 ⟨v3, rfl, h3, hb3⟩
  go_wp2_with fail
  refine (print_lit _).mono ?_
  rintro e w4 ⟨rfl, hb4⟩
  go_wp2_with fail
  refine (print_none _).mono ?_
  rintro e w5 ⟨rfl, hb5⟩
  have hx2 : Below w2.heap.size w2 w3 := (((Below.refl _ w2).alloc (Nat.le_refl _) _).alloc (by simp) _).trans (hb3.mono (by simp; omega))
  have hx3 : Below w3.heap.size w3 w4 := (((Below.refl _ w3).alloc (Nat.le_refl _) _).alloc (by simp) _).trans (hb4.mono (by simp; omega))
  have hx25 : Below w2.heap.size w2 w5 := nx (nx hx2 hx3) hb5
  have hx05 : Below w.heap.size w w5 := nx (nx hb1 hb2) hx25
  have hx35 : Below w3.heap.size w3 w5 := nx hx3 hb5
  have p1 : PolsV w5 v1 [([(⟨#[115, 99, 114, 105, 112, 116, 45, 115, 114, 99]⟩, [⟨#[39, 115, 101, 108, 102, 39]⟩, ⟨#[104, 116, 116, 112, 115, 58]⟩]), (⟨#[120]⟩, [⟨#[121]⟩])], false), ([(⟨#[100, 101, 102, 97, 117, 108, 116, 45, 115, 114, 99]⟩, [])], false)] := h1.toV.below (nx hb2 hx25)
  have p2 : PolsV w5 v2 [([(⟨#[97]⟩, [⟨#[49]⟩])], true), ([(⟨#[98]⟩, [])], true)] := h2.toV.below hx25
  have p3 : TextsV w5 v3 [⟨#[49]⟩] := h3.below hx35
  have HX := Lib.hid hx05
  clear h1 h2 h3 hb1 hb2 hb3 hb4 hb5 hx2 hx3 hx25 hx05 hx35
  obtain ⟨A1, c1, rfl, hc1, -, -⟩ := id p1
  obtain ⟨g1, o1, dv1, rfl, a1, a2, a3⟩ := p1.at_ 0 (by decide)
  obtain ⟨g1', o1', dv2, e, b1, b2, b3⟩ := p1.at_ 1 (by decide)
  injection e with e
  injection e with e1 e2 _
  subst e1 e2
  obtain ⟨DA, dc, rfl, -, -, -⟩ := id a3
  obtain ⟨g3, o3, rfl, d1, WA, wc, d2, d3, d4, d5⟩ := a3.at_ 0 (by decide)
  obtain ⟨DB, dcb, rfl, -, -, -⟩ := id b3
  obtain ⟨A2, c2, rfl, hc2, -, -⟩ := id p2
  obtain ⟨g2, o2, dv3, rfl, f1, f2, f3⟩ := p2.at_ 0 (by decide)
  obtain ⟨g2', o2', dv4, e, k1, k2, k3⟩ := p2.at_ 1 (by decide)
  injection e with e
  injection e with e1 e2 _
  subst e1 e2
  obtain ⟨DC, dcc, rfl, -, -, -⟩ := id f3
  obtain ⟨DD, dcd, rfl, -, -, -⟩ := id k3
  obtain ⟨g4, o4, rfl, m1, -⟩ := k3.at_ 0 (by decide)
  obtain ⟨A3, c3, rfl, hc3, -, t3⟩ := id p3
  simp at a1 a2 b1 b2 d1 d2 f1 f2 k1 k2 m1 hc1 hc2 hc3
  have P3 := Lib.hid t3
  have T1 := Lib.hid d5
  clear p1 p2 p3 a3 b3 f3 k3 d3 d4 d5 t3
  go_wp2_with fail
  refine (texts_lit WA wc [⟨#[39, 115, 101, 108, 102, 39]⟩, ⟨#[104, 116, 116, 112, 115, 58]⟩] w5 T1.out (by decide)).mono ?_
  rintro e w6 ⟨rfl, hb6⟩
  have l1 := World.block_lt_of_cell? w5 _ a1
  have l2 := World.block_lt_of_cell? w5 _ f1
  have l4 := World.block_lt_of_cell? w5 _ m1
  have n1 := (bcell' hb6 l1).trans a1
  have n2 := (bcell' hb6 l1).trans a2
  have n3 := (bcell' hb6 l1).trans b1
  have n4 := (bcell' hb6 l1).trans b2
  have n5 := (bcell' hb6 l2).trans f1
  have n6 := (bcell' hb6 l2).trans f2
  have n7 := (bcell' hb6 l2).trans k1
  have n8 := (bcell' hb6 l2).trans k2
  have n9 := (bcell' hb6 l4).trans m1
  have T3 := Lib.hid (P3.out.below hb6)
  have HX6 := Lib.hid (nx HX.out hb6)
  clear a1 a2 b1 b2 d1 d2 f1 f2 k1 k2 m1 hb6 l1 l2 l4
  go_wp2_with fail
  refine (texts_lit A3 c3 [⟨#[49]⟩] w6 T3.out (by decide)).mono ?_
  rintro e w7 ⟨rfl, hb7⟩
  have HX7 := Lib.hid (nx HX6.out hb7)
  clear hb7
  go_wp2_with fail
  go_ret
  exact ⟨rfl, HX7.out⟩
end Go.Proofs.YteghldoglffabaaDoor
