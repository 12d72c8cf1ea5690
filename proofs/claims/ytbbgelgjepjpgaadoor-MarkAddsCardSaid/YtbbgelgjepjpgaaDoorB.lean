import Derived.Test.YtbbgelgjepjpgaaDoorA
import Derived.StillTailTactics
import Derived.Lib.Hide
namespace Go.Proofs.YtbbgelgjepjpgaaDoor
open Go.RowKit

/-- A maker's block: the two numbers and the count. -/
def Mk3 (w : World) (b : Nat) (x y : Nat) (n : Int) : Prop := w.heap[b]? = some (.cells #[.int .u64 x, .int .u64 y, .int .i64 n] 44 (0, 0))
theorem Mk3.c0 {w : World} {b x y : Nat} {n : Int} (h : Mk3 w b x y n) : w.cell? ⟨b, 0, none⟩ = some (.int .u64 x) := by rw [cell_of_row w b 0 _ 44 (0,0) h]; rfl
theorem Mk3.c1 {w : World} {b x y : Nat} {n : Int} (h : Mk3 w b x y n) : w.cell? ⟨b, 1, none⟩ = some (.int .u64 y) := by rw [cell_of_row w b 1 _ 44 (0,0) h]; rfl
theorem Mk3.c2 {w : World} {b x y : Nat} {n : Int} (h : Mk3 w b x y n) : w.cell? ⟨b, 2, none⟩ = some (.int .i64 n) := by rw [cell_of_row w b 2 _ 44 (0,0) h]; rfl
theorem Mk3.f {w : World} {b x y : Nat} {n : Int} (h : Mk3 w b x y n) (j : Nat) : w.frozen? ⟨b, j, none⟩ = false := frozen_of_row w b j _ 44 h
theorem Mk3.lt {w : World} {b x y : Nat} {n : Int} (h : Mk3 w b x y n) : b < w.heap.size := (Array.getElem?_eq_some_iff.1 h).1

/-- One round's world: the two numbers of the first k steps. -/
structure InRound (w wr : World) (b x y : Nat) (n : Int) : Prop where
  own : Mk3 wr b x y n
  grown : w.grownBy wr (some b)
  size : wr.heap.size = w.heap.size

theorem InRound.refl {w : World} {b x y : Nat} {n : Int} (h : Mk3 w b x y n) : InRound w w b x y n := ⟨h, ⟨rfl, rfl, rfl, Nat.le_refl _, fun _ _ _ => rfl⟩, rfl⟩
theorem grown_set {w wr : World} {b j : Nat} (h : w.grownBy wr (some b)) (v : Value) : w.grownBy (wr.setCell ⟨b, j, none⟩ v).drew (some b) :=
  ⟨h.os, h.tape, h.output, by have := h.size; simp [World.setCell, World.drew]; exact this, fun k hk hne => (heap_setCell_other wr ⟨b, j, none⟩ k v (fun e => hne (by simp [e]))).trans (h.block k hk hne)⟩
theorem size_set {wr : World} (a : Addr) (v : Value) : (wr.setCell a v).drew.heap.size = wr.heap.size := by simp [World.setCell, World.drew]
theorem InRound.set0 {w wr : World} {b x y : Nat} {n : Int} (h : InRound w wr b x y n) {x' : Nat} {v : Int} (hv : v = x') : InRound w (wr.setCell ⟨b, 0, none⟩ (.int .u64 v)).drew b x' y n := by
  subst hv
  exact ⟨heap_setCell_same wr b 0 _ 44 _ h.own, grown_set h.grown _, (size_set _ _).trans h.size⟩
theorem InRound.set1 {w wr : World} {b x y : Nat} {n : Int} (h : InRound w wr b x y n) {y' : Nat} {v : Int} (hv : v = y') : InRound w (wr.setCell ⟨b, 1, none⟩ (.int .u64 v)).drew b x y' n := by
  subst hv
  exact ⟨heap_setCell_same wr b 1 _ 44 _ h.own, grown_set h.grown _, (size_set _ _).trans h.size⟩
theorem grown_set' {w wr : World} {b j : Nat} (h : w.grownBy wr (some b)) (v : Value) : w.grownBy (wr.setCell ⟨b, j, none⟩ v) (some b) :=
  ⟨h.os, h.tape, h.output, by have := h.size; simp [World.setCell]; exact this, fun k hk hne => (heap_setCell_other wr ⟨b, j, none⟩ k v (fun e => hne (by simp [e]))).trans (h.block k hk hne)⟩
theorem size_set' {wr : World} (a : Addr) (v : Value) : (wr.setCell a v).heap.size = wr.heap.size := by simp [World.setCell]
theorem InRound.set2 {w wr : World} {b x y : Nat} {n : Int} (h : InRound w wr b x y n) {v : Int} : InRound w (wr.setCell ⟨b, 2, none⟩ (.int .i64 v)) b x y v :=
  ⟨heap_setCell_same wr b 2 _ 44 _ h.own, grown_set' h.grown _, (size_set' _ _).trans h.size⟩
theorem InRound.trans {w wr wq : World} {b x y x' y' : Nat} {n n' : Int} (h : InRound w wr b x y n) (k : InRound wr wq b x' y' n') : InRound w wq b x' y' n' :=
  ⟨k.own, ⟨k.grown.os.trans h.grown.os, k.grown.tape.trans h.grown.tape, k.grown.output.trans h.grown.output, Nat.le_trans h.grown.size k.grown.size, fun i hi hne => (k.grown.block i (Nat.lt_of_lt_of_le hi h.grown.size) hne).trans (h.grown.block i hi hne)⟩, k.size.trans h.size⟩
theorem take_snoc (s : ByteArray) (k : Nat) (h : k < s.size) : s.data.toList.take (k + 1) = s.data.toList.take k ++ [s[k]] := by
  rw [List.take_succ_eq_append_getElem (by simpa using h)]; rfl

set_option maxHeartbeats 1000000 in
theorem add_any (s : ByteArray) (w : World) (b x y : Nat) (n : Int) (hb : Mk3 w b x y n) (hx : x < 1000000007) (hy : y < 1000000007) (hn : 0 ≤ n) (hn2 : n ≤ 1000000000000) (hs : s.size ≤ 1000000000)
    (hg0 : w.cell? ⟨0, 0, none⟩ = some (.int .u64 257)) (hg1 : w.cell? ⟨0, 1, none⟩ = some (.int .u64 65539)) (hb0 : 0 < b) :
    Calls Tryd.prog 19 #[.pointer (some ⟨b, 0, none⟩), .string s] w fun e w' => e = .returned (.int .i64 0) ∧ InRound w w' b (Mk.run 257 x s.data.toList) (Mk.run 65539 y s.data.toList) (n + s.size) := by
  go_enter Tryd.func19, Tryd.ntmps19
  go_wp2
  go_loopw [12] (fun i wr => ∃ k : Nat, k ≤ s.size ∧ i = .int .i64 k ∧ InRound w wr b (Mk.run 257 x (s.data.toList.take k)) (Mk.run 65539 y (s.data.toList.take k)) n) (fun i _ => s.size - (intOf i).toNat)
  case atStart => exact ⟨0, Nat.zero_le _, rfl, hb, ⟨rfl, rfl, rfl, Nat.le_refl _, fun _ _ _ => rfl⟩, rfl⟩
  case round =>
    obtain ⟨k, hk, rfl, hI⟩ := hrel
    obtain ⟨x1, hx1⟩ : ∃ z, z = Mk.run 257 x (s.data.toList.take k) := ⟨_, rfl⟩
    obtain ⟨y1, hy1⟩ : ∃ z, z = Mk.run 65539 y (s.data.toList.take k) := ⟨_, rfl⟩
    have hx1l : x1 < 1000000007 := by rw [hx1]; exact Mk.run_lt _ _ _ hx
    have hy1l : y1 < 1000000007 := by rw [hy1]; exact Mk.run_lt _ _ _ hy
    rw [← hx1, ← hy1] at hI
    have HX := Lib.hid hx1; clear hx1
    have HY := Lib.hid hy1; clear hy1
    have c0 := hI.own.c0
    have c1 := hI.own.c1
    have c2 := hI.own.c2
    have f0 := hI.own.f 0
    have f1 := hI.own.f 1
    have f2 := hI.own.f 2
    have g0 : wr.cell? ⟨0, 0, none⟩ = some (.int .u64 257) := hI.grown.cell hg0 (by simp; omega)
    have g1 : wr.cell? ⟨0, 1, none⟩ = some (.int .u64 65539) := hI.grown.cell hg1 (by simp; omega)
    clear hg0 hg1
    have i0 : ∀ (p q : Value) w, (Instr.index 42 (.agg #[p, q]) (.int .i64 0)).run Tryd.prog w = .ok p w := fun _ _ _ => by kernel_rfl
    have i1 : ∀ (p q : Value) w, (Instr.index 42 (.agg #[p, q]) (.int .i64 1)).run Tryd.prog w = .ok q w := fun _ _ _ => by kernel_rfl
    by_cases hlt : k < s.size
    · have hc := s[k].toNat_lt
      go_wp2
      go_loopw [19] (fun i wq => (i = .int .i64 0 ∧ InRound wr wq b x1 y1 n) ∨ (i = .int .i64 1 ∧ InRound wr wq b (Mk.st 257 x1 s[k]) y1 n) ∨ (i = .int .i64 2 ∧ InRound wr wq b (Mk.st 257 x1 s[k]) (Mk.st 65539 y1 s[k]) n)) (fun i _ => 2 - (intOf i).toNat)
      case atStart => exact Or.inl ⟨rfl, InRound.refl hI.own⟩
      case round =>
        rcases hrel with ⟨rfl, hJ⟩ | ⟨rfl, hJ⟩ | ⟨rfl, hJ⟩
        · have d0 := hJ.own.c0
          have d1 := hJ.own.c1
          have e0 := hJ.own.f 0
          have e1 := hJ.own.f 1
          have h0 : wr.cell? ⟨0, 0, none⟩ = some (.int .u64 257) := hJ.grown.cell g0 (by simp; omega)
          have h1 : wr.cell? ⟨0, 1, none⟩ = some (.int .u64 65539) := hJ.grown.cell g1 (by simp; omega)
          clear g0 g1 c0 c1 f0 f1
          go_wp2
          go_still_tail 17, (by kernel_rfl)
          go_wp2
          go_roundw
          case rel => exact Or.inr (Or.inl ⟨rfl, hJ.set0 (by simp [Mk.st])⟩)
          case measure => simp [intOf]
        · have d0 := hJ.own.c0
          have d1 := hJ.own.c1
          have e0 := hJ.own.f 0
          have e1 := hJ.own.f 1
          have h0 : wr.cell? ⟨0, 0, none⟩ = some (.int .u64 257) := hJ.grown.cell g0 (by simp; omega)
          have h1 : wr.cell? ⟨0, 1, none⟩ = some (.int .u64 65539) := hJ.grown.cell g1 (by simp; omega)
          clear g0 g1 c0 c1 f0 f1
          go_wp2
          go_still_tail 17, (by kernel_rfl)
          go_wp2
          go_roundw
          case rel => exact Or.inr (Or.inr ⟨rfl, hJ.set1 (by simp [Mk.st])⟩)
          case measure => simp [intOf]
        · go_wp2
          go_roundw
          case rel =>
            have hts := take_snoc s k hlt
            refine ⟨k + 1, by omega, by go_num, hI.trans ?_⟩
            rw [hts, Mk.run_snoc, Mk.run_snoc, ← HX.out, ← HY.out]
            exact hJ
          case measure => simp [intOf]; omega
    · obtain rfl : k = s.size := by omega
      go_wp2
      go_ret
      refine ⟨rfl, ?_⟩
      have hl : List.take s.size s.data.toList = s.data.toList := List.take_of_length_le (by simp)
      rw [← hl, ← HX.out, ← HY.out]
      exact hI.set2
end Go.Proofs.YtbbgelgjepjpgaaDoor
