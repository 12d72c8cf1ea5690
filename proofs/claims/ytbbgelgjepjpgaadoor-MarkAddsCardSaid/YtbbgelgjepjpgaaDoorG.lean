import Derived.Test.YtbbgelgjepjpgaaDoorF
namespace Go.Proofs.YtbbgelgjepjpgaaDoor
open Go.RowKit

/-- The two steps lie in the variable. -/
structure G (w : World) : Prop where
  g0 : w.cell? ⟨0, 0, none⟩ = some (.int .u64 257)
  g1 : w.cell? ⟨0, 1, none⟩ = some (.int .u64 65539)
theorem G.pos {w : World} (h : G w) : 0 < w.heap.size := World.block_lt_of_cell? w _ h.g0
theorem G.below {w w' : World} {B : Nat} (h : G w) (hb : Below B w w') (hB : 0 < B) : G w' := ⟨(hb.cell hB).trans h.g0, (hb.cell hB).trans h.g1⟩
theorem G.grown {w w' : World} {b : Nat} (h : G w) (hb : w.grownBy w' (some b)) (hB : 0 < b) : G w' := ⟨hb.cell h.g0 (by simp; omega), hb.cell h.g1 (by simp; omega)⟩
theorem G.alloc {w : World} (h : G w) (o : Obj) : G (w.alloc o) := h.below ((Below.refl _ _).alloc (Nat.le_refl _) o) h.pos
theorem Mk3.below {w w' : World} {b x y B : Nat} {n : Int} (h : Mk3 w b x y n) (hb : Below B w w') (hB : b < B) : Mk3 w' b x y n := (hb.block b hB).trans h
theorem Mk3.alloc {w : World} {b x y : Nat} {n : Int} (h : Mk3 w b x y n) (o : Obj) : Mk3 (w.alloc o) b x y n := h.below ((Below.refl _ _).alloc (Nat.le_refl _) o) h.lt

/-- The mark of a text, behind a name. -/
def mk (l : List UInt8) : ByteArray := ⟨(Mk.mark l).toArray⟩
theorem mk_toList (l : List UInt8) : (mk l).toList = Mk.mark l := ByteArray.toList_mk _
theorem mk_size (l : List UInt8) : (mk l).size = 16 := by
  show (Mk.mark l).toArray.size = 16
  rw [List.size_toArray, Mk.mark_length]

theorem of_mk (A : Option Addr) (n c : Nat) (ss : List ByteArray) (w : World) (hr : Texts w A n ss) (hn : n ≤ 1000000000) (hs : (cat ss).length ≤ 1000000000) (hg : G w) :
    Calls Tryd.prog 12 #[.slice A n c] w fun e w' => e = .returned (.string (mk (cat ss))) ∧ Below w.heap.size w w' := of_any A n c ss w hr hn hs hg.g0 hg.g1
theorem of_none (w : World) (hg : G w) : Calls Tryd.prog 12 #[.slice none 0 0] w fun e w' => e = .returned (.string (mk [])) ∧ Below w.heap.size w w' :=
  of_mk none 0 0 [] w ⟨rfl, fun h => absurd h (by omega)⟩ (by omega) (by decide) hg
theorem texts_lit (w : World) (ss : List ByteArray) : Texts (w.alloc (.cells (ss.map Value.string).toArray 9)) (some ⟨w.heap.size, 0, none⟩) ss.length ss :=
  ⟨rfl, fun _ => ⟨_, rfl, by simp, fun j hj => cells_new w _ 9 j _ (by simp [List.getElem?_eq_getElem hj])⟩⟩
theorem of_one (w : World) (s : ByteArray) (hg : G w) (hs : s.size ≤ 1000000000) :
    Calls Tryd.prog 12 #[.slice (some ⟨w.heap.size, 0, none⟩) 1 1] (w.alloc (.cells #[.string s] 9)) fun e w' => e = .returned (.string (mk s.data.toList)) ∧ Below w.heap.size w w' := by
  have h := of_mk _ 1 1 [s] _ (texts_lit w [s]) (by omega) (by simp only [cat, List.flatMap_cons, List.flatMap_nil, List.append_nil, size_len]; exact hs) (hg.alloc _)
  refine h.mono fun e w' ⟨he, hb⟩ => ⟨?_, ((Below.refl _ _).alloc (Nat.le_refl _) _).trans (hb.mono (by simp))⟩
  rw [he]; simp only [cat, List.flatMap_cons, List.flatMap_nil, List.append_nil]
theorem of_three (w : World) (s t u : ByteArray) (hg : G w) (hs : s.size + t.size + u.size ≤ 1000000000) :
    Calls Tryd.prog 12 #[.slice (some ⟨w.heap.size, 0, none⟩) 3 3] (w.alloc (.cells #[.string s, .string t, .string u] 9)) fun e w' => e = .returned (.string (mk (s.data.toList ++ (t.data.toList ++ u.data.toList)))) ∧ Below w.heap.size w w' := by
  have h := of_mk _ 3 3 [s, t, u] _ (texts_lit w [s, t, u]) (by omega) (by simp only [cat, List.flatMap_cons, List.flatMap_nil, List.append_nil, List.length_append, size_len]; omega) (hg.alloc _)
  refine h.mono fun e w' ⟨he, hb⟩ => ⟨?_, ((Below.refl _ _).alloc (Nat.le_refl _) _).trans (hb.mono (by simp))⟩
  rw [he]; simp only [cat, List.flatMap_cons, List.flatMap_nil, List.append_nil]
theorem of_two (w : World) (s t : ByteArray) (hg : G w) (hs : s.size + t.size ≤ 1000000000) :
    Calls Tryd.prog 12 #[.slice (some ⟨w.heap.size, 0, none⟩) 2 2] (w.alloc (.cells #[.string s, .string t] 9)) fun e w' => e = .returned (.string (mk (s.data.toList ++ t.data.toList))) ∧ Below w.heap.size w w' := by
  have h := of_mk _ 2 2 [s, t] _ (texts_lit w [s, t]) (by omega) (by simp only [cat, List.flatMap_cons, List.flatMap_nil, List.append_nil, List.length_append, size_len]; omega) (hg.alloc _)
  refine h.mono fun e w' ⟨he, hb⟩ => ⟨?_, ((Below.refl _ _).alloc (Nat.le_refl _) _).trans (hb.mono (by simp))⟩
  rw [he]; simp only [cat, List.flatMap_cons, List.flatMap_nil, List.append_nil]
theorem ref_of_mk (s : ByteArray) (w : World) (hs : s.size ≤ 1000000000) :
    Calls Tryd.prog 13 #[.string s] w fun e w' => e = .returned (.string (mk s.data.toList)) ∧ Below w.heap.size w w' := ref_of_any s w hs
theorem mark_mk (w : World) (b : Nat) (l : List UInt8) (hb : Mk3 w b (Mk.run 257 7 l) (Mk.run 65539 11 l) (l.length : Nat)) (hl : l.length ≤ 1000000000) :
    Calls Tryd.prog 17 #[.pointer (some ⟨b, 0, none⟩)] w fun e w' => e = .returned (.string (mk l)) ∧ Below w.heap.size w w' :=
  mark_any w b _ _ _ hb (Mk.run_lt _ _ _ (by decide)) (Mk.run_lt _ _ _ (by decide)) (by omega)
theorem add_mk (s : ByteArray) (w : World) (b : Nat) (l : List UInt8) (hb : Mk3 w b (Mk.run 257 7 l) (Mk.run 65539 11 l) (l.length : Nat)) (hl : l.length ≤ 1000000000) (hs : s.size ≤ 1000000000) (hg : G w) (hb0 : 0 < b) :
    Calls Tryd.prog 19 #[.pointer (some ⟨b, 0, none⟩), .string s] w fun e w' => e = .returned (.int .i64 0) ∧ InRound w w' b (Mk.run 257 7 (l ++ s.data.toList)) (Mk.run 65539 11 (l ++ s.data.toList)) ((l ++ s.data.toList).length : Nat) := by
  refine (add_any s w b _ _ _ hb (Mk.run_lt _ _ _ (by decide)) (Mk.run_lt _ _ _ (by decide)) (by omega) (by omega) hs hg.g0 hg.g1 hb0).mono fun e w' ⟨he, hI⟩ => ⟨he, ?_⟩
  rw [Mk.run_append, Mk.run_append, List.length_append, size_len]
  simpa using hI

theorem nx {w a b : World} (h : Below w.heap.size w a) (k : Below a.heap.size a b) : Below w.heap.size w b := h.trans (k.mono h.size)

theorem e_nil : (mk []).toList = [0, 0, 0, 7, 0, 0, 0, 11, 0, 0, 0, 77, 0, 0, 0, 0] := by rw [mk_toList]; decide +kernel
theorem e_ab : ((mk [97]).toList == (mk [98]).toList) = false := by rw [mk_toList, mk_toList]; decide +kernel

set_option maxHeartbeats 2000000 in
set_option maxRecDepth 100000 in
theorem marks_any (w : World) (hg : G w) : Calls Tryd.prog 11 #[] w fun e w' => e = .returned (.bool true) ∧ Below w.heap.size w w' := by
  have e0 := e_nil
  have e1 := e_ab
  have hp := hg.pos
  go_enter Tryd.func11, Tryd.ntmps11
  go_wp2_with fail
  refine (new_any _).mono ?_
  rintro e w1 ⟨rfl, rfl⟩
  have hg1 := hg.alloc (.cells #[.int .u64 7, .int .u64 11, .int .i64 0] 44)
  have hm1 : Mk3 (w.alloc (.cells #[.int .u64 7, .int .u64 11, .int .i64 0] 44)) w.heap.size (Mk.run 257 7 []) (Mk.run 65539 11 []) (([] : List UInt8).length : Nat) := heap_alloc_new w _
  have hb1 : Below w.heap.size w (w.alloc (.cells #[.int .u64 7, .int .u64 11, .int .i64 0] 44)) := (Below.refl _ _).alloc (Nat.le_refl _) _
  have hs1 : (w.alloc (.cells #[.int .u64 7, .int .u64 11, .int .i64 0] 44)).heap.size = w.heap.size + 1 := by simp
  go_wp2_with fail
  refine (add_mk ⟨#[97]⟩ _ w.heap.size [] hm1 (by decide) (by decide) hg1 hp).mono ?_
  rintro e w2 ⟨rfl, hI⟩
  have hg2 := hg1.grown hI.grown hp
  have hm2 : Mk3 w2 w.heap.size (Mk.run 257 7 [97]) (Mk.run 65539 11 [97]) (([97] : List UInt8).length : Nat) := hI.own
  have hb2 : Below w.heap.size w w2 := hb1.grown hI.grown (by simp) (by simp)
  have hs2 : w.heap.size < w2.heap.size := hm2.lt
  clear hg1 hm1 hb1 hs1 hI
  have HM := Lib.hid hm2; clear hm2
  go_wp2_with fail
  refine (of_none _ hg2).mono ?_
  rintro e w3 ⟨rfl, hb3⟩
  have hg3 := hg2.below hb3 hg2.pos
  go_wp2_with fail
  refine (of_one w3 ⟨#[97]⟩ hg3 (by decide)).mono ?_
  rintro e w4 ⟨rfl, hb4⟩
  have hb4 := nx hb3 hb4
  go_wp2_with fail
  refine (ref_of_mk ⟨#[97]⟩ w4 (by decide)).mono ?_
  rintro e w5 ⟨rfl, hb5⟩
  have hb5 := nx hb4 hb5
  have hg5 := hg2.below hb5 hg2.pos
  clear hb3 hg3 hb4
  go_wp2_with fail
  refine (of_three w5 ⟨#[]⟩ ⟨#[97]⟩ ⟨#[]⟩ hg5 (by decide)).mono ?_
  rintro e w6 ⟨rfl, hb6⟩
  have hb6 := nx hb5 hb6
  have hg6 := hg2.below hb6 hg2.pos
  clear hb5 hg5
  go_wp2_with fail
  refine (of_one w6 ⟨#[97]⟩ hg6 (by decide)).mono ?_
  rintro e w7 ⟨rfl, hb7⟩
  have hb7 := nx hb6 hb7
  have hg7 := hg2.below hb7 hg2.pos
  clear hb6 hg6
  go_wp2_with fail
  refine (mark_mk w7 w.heap.size [97] (HM.out.below hb7 hs2) (by decide)).mono ?_
  rintro e w8 ⟨rfl, hb8⟩
  have hb8 := nx hb7 hb8
  have hg8 := hg2.below hb8 hg2.pos
  clear hb7 hg7
  go_wp2_with fail
  refine (of_one w8 ⟨#[97]⟩ hg8 (by decide)).mono ?_
  rintro e w9 ⟨rfl, hb9⟩
  have hb9 := nx hb8 hb9
  have hg9 := hg2.below hb9 hg2.pos
  clear hb8 hg8
  go_wp2_with fail
  refine (count_any w9 w.heap.size _ (HM.out.below hb9 hs2).c2).mono ?_
  rintro e w10 ⟨rfl, rfl⟩
  go_wp2_with fail
  refine (of_one w9 ⟨#[97]⟩ hg9 (by decide)).mono ?_
  rintro e w11 ⟨rfl, hb11⟩
  have hb11 := nx hb9 hb11
  have hg11 := hg2.below hb11 hg2.pos
  clear hb9 hg9
  go_wp2_with fail
  refine (of_one w11 ⟨#[98]⟩ hg11 (by decide)).mono ?_
  rintro e w12 ⟨rfl, hb12⟩
  have hb12 := nx hb11 hb12
  go_wp2_with fail
  go_ret
  exact ⟨rfl, hb2.trans (hb12.mono (Nat.le_of_lt hs2))⟩
end Go.Proofs.YtbbgelgjepjpgaaDoor
