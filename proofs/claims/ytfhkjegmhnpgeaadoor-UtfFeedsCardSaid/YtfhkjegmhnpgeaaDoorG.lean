import Derived.Test.YtfhkjegmhnpgeaaDoorF
namespace Go.Proofs.YtfhkjegmhnpgeaaDoor
open Go.RowKit

set_option maxHeartbeats 400000 in
/-- WriteRune: a code point's bytes behind those that the builder holds. -/
theorem writeRune_any (B b : Nat) (l : List UInt8) (r : Nat) (w : World) (hok : Ut.ok r = true) (h : Lib.IsBuilder 43 5 B b (Lib.byteCells l) w) (hlen : l.length ≤ 1000000000000) (hBw : B ≤ w.heap.size) :
    Calls Tryd.prog 29 #[.pointer (some ⟨b, 0, none⟩), .int .i32 r] w fun e w' => (∃ x, e = .returned x) ∧ Lib.IsBuilder 43 5 B b (Lib.byteCells (l ++ Ut.by_ r)) w' ∧ Below B w w' := by
  have hr11 : r ≤ 1114111 := by simp [Ut.ok] at hok; omega
  have hcells := encode_by r hok
  have hbl := Ut.by_len r
  obtain ⟨m, hm⟩ : ∃ m, m = Ut.by_ r := ⟨_, rfl⟩
  rw [← hm] at hcells hbl ⊢
  clear hm hok
  obtain ⟨rc, hrc⟩ : ∃ rc, rc = Lib.runeCells (r : Int) := ⟨_, rfl⟩
  have hap := fun (v : Value) (n : Nat) (xs : List Value) (w : World) (h1 : w.ownsRow B 5 1 v n xs) (h2 : n + 4 ≤ 140737488355328) (h3 : B ≤ w.heap.size) => Tryd.utf8_AppendRune B v n xs r (by omega) (by omega) w h1 h2 h3
  rw [← hrc] at hcells hap
  subst hcells
  have HAP := Lib.hid hap; clear hap hrc
  go_enter Tryd.func29, Tryd.ntmps29
  go_wp2_with fail
  refine (copyCheck_any B b _ _ h).mono ?_
  rintro e w1 ⟨rfl, h1, hb1⟩
  obtain ⟨hB, v, hbk, hown, hne⟩ := h1
  obtain ⟨A, c, rfl⟩ := own_shape hown
  obtain ⟨M, hM⟩ : ∃ M, M = (Lib.byteCells l).length := ⟨_, rfl⟩
  have hMl : M ≤ 1000000000000 := by rw [hM, Lib.byteCells_length]; exact hlen
  rw [← hM] at hown hbk hne
  have HOWN := Lib.hid hown
  have HM := Lib.hid hM; clear hM
  have c0 : w1.cell? ⟨b, 0, none⟩ = some (.pointer (some ⟨b, 0, none⟩)) := by rw [Lib.cell_of_heap hbk]; rfl
  have c1 : w1.cell? ⟨b, 1, none⟩ = some (.slice A M c) := by rw [Lib.cell_of_heap hbk]; rfl
  have hsz := hb1.size
  clear hown
  go_wp2_with fail
  refine (HAP.out (.slice A M c) M (Lib.byteCells l) w1 HOWN.out (by omega) (by omega)).mono ?_
  rintro e w2 ⟨v', rfl, hown', o, hgrow⟩
  have hown := HOWN.out
  have hN : M + (Lib.byteCells m).length = (Lib.byteCells (l ++ m)).length := by rw [HM.out]; simp [Lib.byteCells_length]
  rw [← Lib.byteCells_append, hN] at hown'
  clear hN
  have hlt : b < w1.heap.size := (Array.getElem?_eq_some_iff.1 hbk).1
  have hbk1 : (w1.alloc o).heap[b]? = some (.cells #[.pointer (some ⟨b, 0, none⟩), .slice A M c] 43 (0, 0)) := by rw [Lib.alloc_old w1 _ b hlt]; exact hbk
  have hb2 := builder_at hbk1 hne hgrow
  have d1 : w2.cell? ⟨b, 1, none⟩ = some (.slice A M c) := by rw [Lib.cell_of_heap hb2]; rfl
  have f1 : w2.frozen? ⟨b, 1, none⟩ = false := Lib.frozen_of_heap hb2 1
  have hput := builder_put hB (hb1.alloc (by omega) o) hbk1 (hown.alloc o) hne hown' hgrow
  obtain ⟨A', c', rfl⟩ := own_shape hown'
  have hll : (Lib.byteCells (l ++ m)).length ≤ 2000000000000 := by rw [Lib.byteCells_length, List.length_append]; omega
  obtain ⟨N, hN⟩ : ∃ N, N = (Lib.byteCells (l ++ m)).length := ⟨_, rfl⟩
  rw [← hN] at hput hll ⊢
  clear hown hown' hgrow hbk hbk1 hb2 h hN HM HOWN HAP c0 c1
  go_wp2
  go_ret2
  exact ⟨⟨_, rfl⟩, hput⟩

end Go.Proofs.YtfhkjegmhnpgeaaDoor
