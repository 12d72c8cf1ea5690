/- source's Parse at the kept words, List. -/
import Derived.Test.YtajokmcdhhiahaaGreatDoorSA
import Derived.Laws.ResultCell
namespace Go.Proofs.YtajokmcdhhiahaaGreatDoor
open Go.RowKit
set_option maxRecDepth 100000

structure Quo (x : ByteArray) : Prop where
  fst : x.data.toList[0]? = some 39
  lst : x.data.toList[x.size - 1]? = some 39
theorem word_quo (i : Nat) (hi : i = 1 ∨ i = 2 ∨ i = 3) : Quo (word i) := by
  rcases hi with rfl | rfl | rfl
  all_goals exact ⟨by decide +kernel, by decide +kernel⟩
theorem at_int {x : ByteArray} {k : Nat} (hk : k < x.size) (h : x.data.toList[k]? = some 39) : ((x[k].toNat : Int) == 39) = true := by
  rw [byte_at x k hk] at h
  injection h with h
  rw [h]
  rfl
theorem cells7 {w : World} {b : Nat} {v0 v1 v2 v3 v4 v5 v6 : Value} {T : TypeId} (h : w.heap[b]? = some (.cells #[v0, v1, v2, v3, v4, v5, v6] T (0, 0))) :
    w.cell? ⟨b, 0, none⟩ = some v0 ∧ w.cell? ⟨b, 1, none⟩ = some v1 ∧ w.cell? ⟨b, 2, none⟩ = some v2 ∧ w.cell? ⟨b, 3, none⟩ = some v3 ∧ w.cell? ⟨b, 4, none⟩ = some v4 ∧ w.cell? ⟨b, 5, none⟩ = some v5 ∧ w.cell? ⟨b, 6, none⟩ = some v6 := by
  have h0 := cell_row h 0
  have h1 := cell_row h 1
  have h2 := cell_row h 2
  have h3 := cell_row h 3
  have h4 := cell_row h 4
  have h5 := cell_row h 5
  have h6 := cell_row h 6
  simp at h0 h1 h2 h3 h4 h5 h6
  exact ⟨h0, h1, h2, h3, h4, h5, h6⟩
theorem Cut.all {w : World} {b : Nat} {k : Int} {x : ByteArray} (h : Cut w b k x) :
    w.cell? ⟨b, 0, none⟩ = some (.int .i64 k) ∧ w.cell? ⟨b, 1, none⟩ = some (.string ⟨#[]⟩) ∧ w.cell? ⟨b, 2, none⟩ = some (.string ⟨#[]⟩) ∧ w.cell? ⟨b, 3, none⟩ = some (.string ⟨#[]⟩) ∧ w.cell? ⟨b, 4, none⟩ = some (.bool false) ∧ w.cell? ⟨b, 5, none⟩ = some (.int .i64 0) ∧ w.cell? ⟨b, 6, none⟩ = some (.string ⟨#[]⟩) := by
  have h0 := cell_row h 0
  have h1 := cell_row h 1
  have h2 := cell_row h 2
  have h3 := cell_row h 3
  have h4 := cell_row h 4
  have h5 := cell_row h 5
  have h6 := cell_row h 6
  simp at h0 h1 h2 h3 h4 h5 h6
  exact ⟨h0, h1, h2, h3, h4, h5, h6⟩
set_option maxHeartbeats 2000000 in
theorem sparse_any (i : Nat) (hi : i = 1 ∨ i = 2 ∨ i = 3) (x : ByteArray) (hx : WordIs i x) (hq : Quo x) (w : World) (hg : Gl w) :
    Calls Tryz.prog 101 #[.string x] w fun e w' => e = .returned (.tuple #[src i, .bool true]) ∧ Below w.heap.size w w' := by
  have h1 := hx.size
  have h2 := hx.small
  have hem : ¬ x.toList = [] := fun e => by
    rw [Lib.toList_data] at e
    have := size_len x
    rw [e] at this
    simp at this
    omega
  have hem2 : x.toList.isEmpty = false := by simpa using hem
  have h1i : (1 : Int) < x.size := by omega
  have hf := at_int (by omega) hq.fst
  have hl := at_int (by omega) hq.lst
  have HX := Lib.hid hx
  have HG := Lib.hid hg
  clear hx hg hq
  obtain ⟨W, hW⟩ : ∃ W, W = (w.alloc (.cells #[.int .i64 0, .string ⟨#[]⟩, .string ⟨#[]⟩, .string ⟨#[]⟩, .bool false, .int .i64 0, .string ⟨#[]⟩] 130)).alloc (.cells #[.int .i64 0, .string ⟨#[]⟩, .string ⟨#[]⟩, .string ⟨#[]⟩, .bool false, .int .i64 0, .string ⟨#[]⟩, .string x] 158) := ⟨_, rfl⟩
  have hbW : Below w.heap.size w W := by rw [hW]; exact ((Below.refl _ w).alloc (Nat.le_refl _) _).alloc (by simp) _
  have hres : W.heap[w.heap.size]? = some (.cells #[.int .i64 0, .string ⟨#[]⟩, .string ⟨#[]⟩, .string ⟨#[]⟩, .bool false, .int .i64 0, .string ⟨#[]⟩] 130 (0, 0)) := by rw [hW]; exact (heap_alloc_old _ _ (by simp)).trans (heap_alloc_new _ _)
  have hcut : Cut W (w.heap.size + 1) 0 x := by
    rw [hW]
    have := heap_alloc_new (w.alloc (.cells #[.int .i64 0, .string ⟨#[]⟩, .string ⟨#[]⟩, .string ⟨#[]⟩, .bool false, .int .i64 0, .string ⟨#[]⟩] 130)) (.cells #[.int .i64 0, .string ⟨#[]⟩, .string ⟨#[]⟩, .string ⟨#[]⟩, .bool false, .int .i64 0, .string ⟨#[]⟩, .string x] 158)
    rw [World.size_alloc] at this
    exact this
  have h5 := HG.out.five
  have c118 := quoted_any i (by omega) x HX.out W (HG.out.below hbW) (w.heap.size + 1) hcut (by omega)
  have hik : (i : Int) = 1 ∨ (i : Int) = 2 ∨ (i : Int) = 3 := by omega
  have c120 := fun w' => right_any i hik w'
  unfold src at c120 ⊢
  obtain ⟨K, hK⟩ : ∃ K : Int, K = i := ⟨_, rfl⟩
  rw [← hK] at c118 c120 ⊢
  have C118 := Lib.hid c118
  have C120 := Lib.hid c120
  have HBW := Lib.hid hbW
  have HRES := Lib.hid hres
  have HW := Lib.hid hW
  clear c118 c120 hbW hres hcut hW hK hik hi
  go_enter Tryz.func101, Tryz.ntmps101
  go_wp2_with fail
  rw [← HW.out]
  with_reducible refine C118.out.mono ?_
  rintro e w1 ⟨rfl, hc1, hg1⟩
  have hr1 := (hg1.block w.heap.size (Array.getElem?_eq_some_iff.1 HRES.out).1 (by simp)).trans HRES.out
  obtain ⟨y0, y1, y2, y3, y4, y5, y6⟩ := hc1.all
  have hb1 : Below w.heap.size w w1 := HBW.out.grown hg1 HBW.out.size (fun k e => by simp at e; omega)
  have HB1 := Lib.hid hb1
  have HR1 := Lib.hid hr1
  have HC1 := Lib.hid hc1
  clear hc1 hg1 hr1 hb1
  go_wp2_with fail
  with_reducible refine (C120.out _).mono ?_
  rintro e w2 ⟨rfl, hb2⟩
  clear y0 y1 y2 y3 y4 y5 y6
  have hr2 := (hb2.block w.heap.size (Array.getElem?_eq_some_iff.1 HR1.out).1).trans HR1.out
  have hc2 : Cut w2 (w.heap.size + 1) K x := (hb2.block (w.heap.size + 1) (Array.getElem?_eq_some_iff.1 HC1.out).1).trans HC1.out
  obtain ⟨y0, y1, y2, y3, y4, y5, y6⟩ := hc2.all
  obtain ⟨z0, z1, z2, z3, z4, z5, z6⟩ := cells7 hr2
  have f0 := frozen_of_row w2 w.heap.size 0 _ 130 hr2
  have f1 := frozen_of_row w2 w.heap.size 1 _ 130 hr2
  have f2 := frozen_of_row w2 w.heap.size 2 _ 130 hr2
  have f3 := frozen_of_row w2 w.heap.size 3 _ 130 hr2
  have f4 := frozen_of_row w2 w.heap.size 4 _ 130 hr2
  have f5 := frozen_of_row w2 w.heap.size 5 _ 130 hr2
  have f6 := frozen_of_row w2 w.heap.size 6 _ 130 hr2
  have HB2 := Lib.hid (HB1.out.trans (hb2.mono HB1.out.size))
  have HR2 := Lib.hid hr2
  clear hb2 hr2 hc2
  go_wp2_with fail
  have h3 := heap_setCell_same _ w.heap.size 6 _ 130 (.string ⟨#[]⟩) (heap_setCell_same _ w.heap.size 5 _ 130 (.int .i64 0) (heap_setCell_same _ w.heap.size 4 _ 130 (.bool false) (heap_setCell_same _ w.heap.size 3 _ 130 (.string ⟨#[]⟩) (heap_setCell_same _ w.heap.size 2 _ 130 (.string ⟨#[]⟩) (heap_setCell_same _ w.heap.size 1 _ 130 (.string ⟨#[]⟩) (heap_setCell_same _ w.heap.size 0 _ 130 (.int .i64 K) HR2.out))))))
  have hb3 : Below w.heap.size w ((((((((w2.setCell ⟨w.heap.size, 0, none⟩ (.int .i64 K)).setCell ⟨w.heap.size, 1, none⟩ (.string ⟨#[]⟩)).setCell ⟨w.heap.size, 2, none⟩ (.string ⟨#[]⟩)).setCell ⟨w.heap.size, 3, none⟩ (.string ⟨#[]⟩)).setCell ⟨w.heap.size, 4, none⟩ (.bool false)).setCell ⟨w.heap.size, 5, none⟩ (.int .i64 0)).setCell ⟨w.heap.size, 6, none⟩ (.string ⟨#[]⟩))) :=
    ((((((HB2.out.setCell (p := ⟨w.heap.size, 0, none⟩) (Nat.le_refl _) _).setCell (p := ⟨w.heap.size, 1, none⟩) (Nat.le_refl _) _).setCell (p := ⟨w.heap.size, 2, none⟩) (Nat.le_refl _) _).setCell (p := ⟨w.heap.size, 3, none⟩) (Nat.le_refl _) _).setCell (p := ⟨w.heap.size, 4, none⟩) (Nat.le_refl _) _).setCell (p := ⟨w.heap.size, 5, none⟩) (Nat.le_refl _) _).setCell (p := ⟨w.heap.size, 6, none⟩) (Nat.le_refl _) _
  obtain ⟨W3, hW3⟩ : ∃ W3, W3 = ((((((((w2.setCell ⟨w.heap.size, 0, none⟩ (.int .i64 K)).setCell ⟨w.heap.size, 1, none⟩ (.string ⟨#[]⟩)).setCell ⟨w.heap.size, 2, none⟩ (.string ⟨#[]⟩)).setCell ⟨w.heap.size, 3, none⟩ (.string ⟨#[]⟩)).setCell ⟨w.heap.size, 4, none⟩ (.bool false)).setCell ⟨w.heap.size, 5, none⟩ (.int .i64 0)).setCell ⟨w.heap.size, 6, none⟩ (.string ⟨#[]⟩))) := ⟨_, rfl⟩
  rw [← hW3] at h3 hb3 ⊢
  have h3' : W3.heap[w.heap.size]? = some (.cells #[.int .i64 K, .string ⟨#[]⟩, .string ⟨#[]⟩, .string ⟨#[]⟩, .bool false, .int .i64 0, .string ⟨#[]⟩] 130 (0, 0)) := h3
  clear z0 z1 z2 z3 z4 z5 z6 f0 f1 f2 f3 f4 f5 f6 y0 y1 y2 y3 y4 y5 y6 hW3 h3
  obtain ⟨z0, z1, z2, z3, z4, z5, z6⟩ := cells7 h3'
  clear h3'
  refine bodyPost_ret (v := .tuple #[.agg #[.int .i64 K, .string ⟨#[]⟩, .string ⟨#[]⟩, .string ⟨#[]⟩, .bool false, .int .i64 0, .string ⟨#[]⟩], .bool true]) ?_ rfl ⟨rfl, hb3⟩
  rw [results_cell_tmp rfl]
  go_simp
end Go.Proofs.YtajokmcdhhiahaaGreatDoor
