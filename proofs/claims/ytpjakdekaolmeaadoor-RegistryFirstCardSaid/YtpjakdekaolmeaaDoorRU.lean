/- The law RegistryTwice. -/
import Derived.Test.YtpjakdekaolmeaaDoorRT
namespace Go.Proofs.YtpjakdekaolmeaaDoor
open Go.RowKit Go.Shelf

abbrev NB : ByteArray := ⟨#[39, 110, 111, 110, 101, 39]⟩
def noneD (b : Bool) : List DB := [(ttS, if b then [NB] else [])]
theorem find_none (b : Bool) : findB (noneD b) ttB = some (if b then [NB] else []) := by cases b <;> decide +kernel
theorem lets_none (b : Bool) (ms : List ByteArray) (n : ByteArray) (h1 : n ≠ starB) (h2 : n ≠ NB) : letsM (noneD b) ms n = false := by
  unfold letsM
  rw [find_none]
  cases b
  · rfl
  · have : namedM [NB] n = false := by
      simp only [namedM, List.any_cons, List.any_nil, Bool.or_false, Bool.or_eq_false_iff, decide_eq_false_iff_not]
      exact ⟨by decide +kernel, fun e => h2 e.symm⟩
    simp [this]
theorem blocks_none (b : Bool) (ms : List ByteArray) (n : ByteArray) (h1 : n ≠ starB) (h2 : n ≠ NB) : blocksM 0 ms n [(noneD b, false)] = [(0, false)] := by
  simp [blocksM, lets_none b ms n h1 h2]
theorem textsV_row {W : World} {b : Nat} {fr : Nat × Nat} (ss : List ByteArray) (h : W.heap[b]? = some (.cells (ss.map Value.string).toArray 9 fr)) : TextsV W (.slice (some ⟨b, 0, none⟩) ss.length ss.length) ss :=
  ⟨_, _, rfl, Nat.le_refl _, fun e => (by cases e), rfl, fun _ => ⟨_, rfl, (Array.getElem?_eq_some_iff.1 h).1, fun j hj => by
    rw [add_at, Nat.zero_add, cell_of_row _ b j _ 9 fr h]
    simp [List.getElem?_eq_getElem hj]⟩⟩
theorem dirsV_row {W : World} {g : Nat} {cs : Array Value} {fr : Nat × Nat} (ds : List DB) (h : W.heap[g]? = some (.cells cs 49 fr))
    (hc : ∀ j (h : j < ds.length), cs[j * 2]? = some (.string ds[j].1) ∧ ∃ wv, cs[j * 2 + 1]? = some wv ∧ TextsV W wv ds[j].2) : DirsV W (.slice (some ⟨g, 0, none⟩) ds.length ds.length) ds :=
  ⟨_, _, rfl, Nat.le_refl _, fun e => (by cases e), fun _ => ⟨g, 0, rfl, (Array.getElem?_eq_some_iff.1 h).1, fun j hj => by
    obtain ⟨h1, wv, h2, h3⟩ := hc j hj
    rw [Nat.zero_add, cell_row h, cell_row h]
    exact ⟨h1, wv, h2, h3⟩⟩⟩
theorem heap_old2 (w : World) (a b : Obj) : ((w.alloc a).alloc b).heap[w.heap.size]? = some a := (heap_alloc_old _ _ (by simp)).trans (heap_alloc_new w a)
theorem heap_new2 (w : World) (a b : Obj) : ((w.alloc a).alloc b).heap[w.heap.size + 1]? = some b := by
  have := heap_alloc_new (w.alloc a) b
  rwa [World.size_alloc] at this
theorem heap_old3 (w : World) (a b c : Obj) : (((w.alloc a).alloc b).alloc c).heap[w.heap.size]? = some a := (heap_alloc_old _ _ (by simp; omega)).trans (heap_old2 w a b)
theorem heap_mid3 (w : World) (a b c : Obj) : (((w.alloc a).alloc b).alloc c).heap[w.heap.size + 1]? = some b := (heap_alloc_old _ _ (by simp)).trans (heap_new2 w a b)
theorem heap_new3 (w : World) (a b c : Obj) : (((w.alloc a).alloc b).alloc c).heap[w.heap.size + 2]? = some c := by
  have := heap_alloc_new ((w.alloc a).alloc b) c
  rwa [World.size_alloc, World.size_alloc] at this
set_option maxHeartbeats 8000000 in
set_option maxRecDepth 100000 in
theorem law_twice_any (A : Option Addr) (N c : Nat) (ms : List ByteArray) (n : ByteArray) (b : Bool) (w : World) (ht : Texts w A N ms) :
    Calls Tryd.prog 7 #[.slice A N c, .string n, .bool b] w (True1 w) := by
  have c9 := large_any (.slice none 0 0) [] A N c ms n w (PolsV.nil w) ht
  obtain ⟨LG, hLG⟩ : ∃ b, b = largeM [] ms n := ⟨_, rfl⟩
  rw [← hLG] at c9
  have C9 := Lib.hid c9
  clear c9
  cases LG
  case true =>
    clear hLG ht
    go_enter Tryd.func7, Tryd.ntmps7
    go_wp2_with fail
    with_reducible refine C9.out.mono ?_
    rintro e w1 ⟨rfl, hw1⟩
    obtain rfl : w = w1 := hw1.symm
    go_wp2_with fail
    go_ret
    exact ⟨rfl, Below.refl _ _⟩
  obtain ⟨hm, hps, hl, hs⟩ := not_large hLG.symm
  have hln := ht.1
  rw [hln] at hl
  by_cases h1 : n = starB
  · have hq1 : (n.toList == [42]) = true := by rw [h1, Lib.toList_data]; rfl
    clear hLG ht h1 hm hps
    go_enter Tryd.func7, Tryd.ntmps7
    go_wp2_with fail
    with_reducible refine C9.out.mono ?_
    rintro e w1 ⟨rfl, hw1⟩
    obtain rfl : w = w1 := hw1.symm
    go_wp2_with fail
    go_ret
    exact ⟨rfl, Below.refl _ _⟩
  have hq1 : (n.toList == [42]) = false := by
    rw [beq_eq_false_iff_ne]
    intro e
    exact h1 (ByteArray.ext (Array.toList_inj.1 (by rw [← Lib.toList_data, e]; rfl)))
  by_cases h2 : n = NB
  · have hq2 : (n.toList == [39, 110, 111, 110, 101, 39]) = true := by rw [h2, Lib.toList_data]; rfl
    clear hLG ht h1 h2 hm hps
    go_enter Tryd.func7, Tryd.ntmps7
    go_wp2_with fail
    with_reducible refine C9.out.mono ?_
    rintro e w1 ⟨rfl, hw1⟩
    obtain rfl : w = w1 := hw1.symm
    go_wp2_with fail
    go_ret
    exact ⟨rfl, Below.refl _ _⟩
  have hq2 : (n.toList == [39, 110, 111, 110, 101, 39]) = false := by
    rw [beq_eq_false_iff_ne]
    intro e
    exact h2 (ByteArray.ext (Array.toList_inj.1 (by rw [← Lib.toList_data, e])))
  have c17 := fun w' (hb : Below w.heap.size w w') => allowed_any (.slice none 0 0) [] A N c ms n w' (PolsV.nil w') hm (ht.below hb) (by omega)
  have c17b := fun v w' (h : PolsV w' v [(noneD b, false)]) (hb : Below w.heap.size w w') => allowed_any v [(noneD b, false)] A N c ms n w' h (p_mild (by cases b <;> decide +kernel)) (ht.below hb) (by omega)
  rw [blocks_none b ms n h1 h2] at c17b
  have C17 := Lib.hid c17
  have C17B := Lib.hid c17b
  clear c17 c17b hLG ht h1 h2 hm hps hl hln
  have hfv := field_verdict
  cases b
  · go_enter Tryd.func7, Tryd.ntmps7
    go_wp2_with fail
    with_reducible refine C9.out.mono ?_
    rintro e w1 ⟨rfl, hw1⟩
    obtain rfl : w = w1 := hw1.symm
    go_wp2_with fail
    obtain ⟨WX, hWX⟩ : ∃ W, W = (w.alloc (.cells #[.string ttS, .slice none 0 0] 49)).alloc (.cells #[.slice (some ⟨w.heap.size, 0, none⟩) 1 1, .bool false] 42) := ⟨_, rfl⟩
    have hbx : Below w.heap.size w WX := by rw [hWX]; exact ((Below.refl _ w).alloc (Nat.le_refl _) _).alloc (by simp) _
    have hxv : WX.heap[w.heap.size + 1]? = some (.cells #[.slice (some ⟨w.heap.size, 0, none⟩) 1 1, .bool false] 42 (0, 0)) := by rw [hWX]; exact heap_new2 _ _ _
    have hdv : DirsV WX (.slice (some ⟨w.heap.size, 0, none⟩) 1 1) (noneD false) := by
      rw [hWX]
      refine dirsV_row (noneD false) (heap_old2 _ _ _) fun j hj => ?_
      obtain rfl : j = 0 := by simp [noneD] at hj; exact hj
      exact ⟨rfl, _, rfl, none, 0, rfl, Nat.le_refl _, fun _ => rfl, Texts.none0 _⟩
    rw [← hWX]
    have HXV := Lib.hid hxv
    have HDV := Lib.hid hdv
    have HBX := Lib.hid hbx
    clear hxv hdv hbx hWX
    with_reducible refine (registers_any WX).mono ?_
    rintro e w2 ⟨rfl, hb2⟩
    have HB2 := Lib.hid (nx HBX.out hb2)
    go_wp2_with fail
    with_reducible refine (C17.out w2 HB2.out).mono ?_
    rintro e w3 ⟨bv3, rfl, -, hb3⟩
    have HB3 := Lib.hid (nx HB2.out hb3)
    have hx3 := carry (carry HXV.out hb2) hb3
    have x0 := cell_row hx3 0
    have x1 := cell_row hx3 1
    simp at x0 x1
    have hpv := polsV_lit (r := false) HDV.out (nx hb2 hb3)
    have HPV := Lib.hid hpv
    clear hpv hx3 hb2 hb3
    go_wp2_with fail
    with_reducible refine (C17B.out _ _ HPV.out (nx HB3.out (below_alloc' w3 _))).mono ?_
    rintro e w4 ⟨bv4, rfl, -, hb4⟩
    have HB4 := Lib.hid (nx HB3.out (one_step hb4))
    clear hb4
    go_wp2_with fail
    go_ret
    exact ⟨rfl, HB4.out⟩
  · go_enter Tryd.func7, Tryd.ntmps7
    go_wp2_with fail
    with_reducible refine C9.out.mono ?_
    rintro e w1 ⟨rfl, hw1⟩
    obtain rfl : w = w1 := hw1.symm
    go_wp2_with fail
    obtain ⟨WX, hWX⟩ : ∃ W, W = ((w.alloc (.cells #[.string ttS, .slice (some ⟨w.heap.size + 1 + 1, 0, none⟩) 1 1] 49)).alloc (.cells #[.slice (some ⟨w.heap.size, 0, none⟩) 1 1, .bool false] 42)).alloc (.cells #[.string NB] 9) := ⟨_, rfl⟩
    have hbx : Below w.heap.size w WX := by rw [hWX]; exact (((Below.refl _ w).alloc (Nat.le_refl _) _).alloc (by simp) _).alloc (by simp; omega) _
    have hxv : WX.heap[w.heap.size + 1]? = some (.cells #[.slice (some ⟨w.heap.size, 0, none⟩) 1 1, .bool false] 42 (0, 0)) := by rw [hWX]; exact heap_mid3 _ _ _ _
    have hdv : DirsV WX (.slice (some ⟨w.heap.size, 0, none⟩) 1 1) (noneD true) := by
      rw [hWX]
      refine dirsV_row (noneD true) (heap_old3 _ _ _ _) fun j hj => ?_
      obtain rfl : j = 0 := by simp [noneD] at hj; exact hj
      exact ⟨rfl, _, rfl, textsV_row [NB] (heap_new3 _ _ _ _)⟩
    rw [← hWX]
    have HXV := Lib.hid hxv
    have HDV := Lib.hid hdv
    have HBX := Lib.hid hbx
    clear hxv hdv hbx hWX
    with_reducible refine (registers_any WX).mono ?_
    rintro e w2 ⟨rfl, hb2⟩
    have HB2 := Lib.hid (nx HBX.out hb2)
    go_wp2_with fail
    with_reducible refine (C17.out w2 HB2.out).mono ?_
    rintro e w3 ⟨bv3, rfl, -, hb3⟩
    have HB3 := Lib.hid (nx HB2.out hb3)
    have hx3 := carry (carry HXV.out hb2) hb3
    have x0 := cell_row hx3 0
    have x1 := cell_row hx3 1
    simp at x0 x1
    have hpv := polsV_lit (r := false) HDV.out (nx hb2 hb3)
    have HPV := Lib.hid hpv
    clear hpv hx3 hb2 hb3
    go_wp2_with fail
    with_reducible refine (C17B.out _ _ HPV.out (nx HB3.out (below_alloc' w3 _))).mono ?_
    rintro e w4 ⟨bv4, rfl, -, hb4⟩
    have HB4 := Lib.hid (nx HB3.out (one_step hb4))
    clear hb4
    go_wp2_with fail
    go_ret
    exact ⟨rfl, HB4.out⟩
end Go.Proofs.YtpjakdekaolmeaaDoor
