/- source's right at the kept words. -/
import Derived.Test.YtajokmcdhhiahaaGreatDoorUF
namespace Go.Proofs.YtajokmcdhhiahaaGreatDoor
open Go.RowKit
set_option maxRecDepth 100000

/-- A source of a kept word. -/
def src (k : Int) : Value := .agg #[.int .i64 k, .string ⟨#[]⟩, .string ⟨#[]⟩, .string ⟨#[]⟩, .bool false, .int .i64 0, .string ⟨#[]⟩]
theorem src_eq (k : Int) (hk : k = 1 ∨ k = 2 ∨ k = 3) (w : World) : (binOp .eql 130 (src k) (src k)).run Tryz.prog w = .ok (.bool true) w := by
  rcases hk with rfl | rfl | rfl <;> kernel_rfl
set_option maxHeartbeats 2000000 in
theorem right_any (k : Int) (hk : k = 1 ∨ k = 2 ∨ k = 3) (w : World) : Calls Tryz.prog 120 #[src k] w fun e w' => e = .returned (.bool true) ∧ Below w.heap.size w w' := by
  have he := src_eq k hk
  unfold src at he ⊢
  rcases hk with rfl | rfl | rfl
  all_goals
    go_enter Tryz.func120, Tryz.ntmps120
    go_wp2_with fail
    go_ret
    exact ⟨rfl, ((Below.refl _ w).alloc (Nat.le_refl _) _).alloc (by simp) _⟩

/-- The kept words that the laws use, by their numbers. -/
def word (i : Nat) : ByteArray := keptL.getD i ⟨#[]⟩
structure WordIs (i : Nat) (x : ByteArray) : Prop where
  size : 1 < x.size
  small : x.size ≤ 100
  low : Fo.lower x.data.toList = x.data.toList
  nonce : Lib.hasPrefix x.data.toList [39, 110, 111, 110, 99, 101, 45] = false
  mark : Lib.hasPrefix x.data.toList [39, 109, 97, 114, 107, 45] = false
  at_ : ∀ k (h : k < keptL.length), (keptL[k].toList == x.toList) = decide (k = i)
theorem kept_data (i : Nat) (x : ByteArray) (h : ((List.range 9).all (fun k => (((keptL.getD k ⟨#[]⟩).data.toList == x.data.toList) == decide (k = i)))) = true) (k : Nat) (hk : k < keptL.length) : (keptL[k].toList == x.toList) = decide (k = i) := by
  have := List.all_eq_true.1 h k (List.mem_range.2 hk)
  rw [beq_iff_eq, List.getD_eq_getElem?_getD, List.getElem?_eq_getElem hk] at this
  rw [Lib.toList_data, Lib.toList_data]
  exact this
theorem word_is (i : Nat) (hi : i = 1 ∨ i = 2 ∨ i = 3) : WordIs i (word i) := by
  rcases hi with rfl | rfl | rfl
  all_goals exact ⟨by decide, by decide, by decide +kernel, by decide +kernel, by decide +kernel, kept_data _ _ (by decide +kernel)⟩
theorem grown_below {a w w' : World} {row : Option Nat} (h : a.grownBy w row) (hb : Below w.heap.size w w') : a.grownBy w' row :=
  ⟨hb.os.trans h.os, hb.tape.trans h.tape, hb.output.trans h.output, Nat.le_trans h.size hb.size, fun k hk hne => (hb.block k (Nat.lt_of_lt_of_le hk h.size)).trans (h.block k hk hne)⟩
theorem grown_cell {w wr : World} {b j : Nat} (h : w.grownBy wr (some b)) (v : Value) : w.grownBy (wr.setCell ⟨b, j, none⟩ v) (some b) :=
  ⟨h.os, h.tape, h.output, by have := h.size; simp [World.setCell]; exact this, fun k hk hne => (heap_setCell_other wr ⟨b, j, none⟩ k v (fun e => hne (by simp [e]))).trans (h.block k hk hne)⟩
/-- The cutter's block. -/
def Cut (w : World) (b : Nat) (k : Int) (x : ByteArray) : Prop := w.heap[b]? = some (.cells #[.int .i64 k, .string ⟨#[]⟩, .string ⟨#[]⟩, .string ⟨#[]⟩, .bool false, .int .i64 0, .string ⟨#[]⟩, .string x] 158 (0, 0))

theorem Cut.cells {w : World} {b : Nat} {k : Int} {x : ByteArray} (h : Cut w b k x) : w.cell? ⟨b, 0, none⟩ = some (.int .i64 k) ∧ w.cell? ⟨b, 7, none⟩ = some (.string x) := by
  have h0 := cell_row h 0
  have h7 := cell_row h 7
  simp at h0 h7
  exact ⟨h0, h7⟩
theorem idx_kept0 (w : World) : (Instr.index 173 (.agg #[.string ⟨#[]⟩, .string ⟨#[39, 110, 111, 110, 101, 39]⟩, .string ⟨#[39, 115, 101, 108, 102, 39]⟩, .string ⟨#[39, 117, 110, 115, 97, 102, 101, 45, 105, 110, 108, 105, 110, 101, 39]⟩, .string ⟨#[39, 117, 110, 115, 97, 102, 101, 45, 101, 118, 97, 108, 39]⟩, .string ⟨#[39, 119, 97, 115, 109, 45, 117, 110, 115, 97, 102, 101, 45, 101, 118, 97, 108, 39]⟩, .string ⟨#[39, 115, 116, 114, 105, 99, 116, 45, 100, 121, 110, 97, 109, 105, 99, 39]⟩, .string ⟨#[39, 117, 110, 115, 97, 102, 101, 45, 104, 97, 115, 104, 101, 115, 39]⟩, .string ⟨#[39, 114, 101, 112, 111, 114, 116, 45, 115, 97, 109, 112, 108, 101, 39]⟩]) (.int .i64 0)).run Tryz.prog w = .ok (.string ⟨#[]⟩) w := by kernel_rfl
theorem idx_kept1 (w : World) : (Instr.index 173 (.agg #[.string ⟨#[]⟩, .string ⟨#[39, 110, 111, 110, 101, 39]⟩, .string ⟨#[39, 115, 101, 108, 102, 39]⟩, .string ⟨#[39, 117, 110, 115, 97, 102, 101, 45, 105, 110, 108, 105, 110, 101, 39]⟩, .string ⟨#[39, 117, 110, 115, 97, 102, 101, 45, 101, 118, 97, 108, 39]⟩, .string ⟨#[39, 119, 97, 115, 109, 45, 117, 110, 115, 97, 102, 101, 45, 101, 118, 97, 108, 39]⟩, .string ⟨#[39, 115, 116, 114, 105, 99, 116, 45, 100, 121, 110, 97, 109, 105, 99, 39]⟩, .string ⟨#[39, 117, 110, 115, 97, 102, 101, 45, 104, 97, 115, 104, 101, 115, 39]⟩, .string ⟨#[39, 114, 101, 112, 111, 114, 116, 45, 115, 97, 109, 112, 108, 101, 39]⟩]) (.int .i64 1)).run Tryz.prog w = .ok (.string ⟨#[39, 110, 111, 110, 101, 39]⟩) w := by kernel_rfl
theorem idx_kept2 (w : World) : (Instr.index 173 (.agg #[.string ⟨#[]⟩, .string ⟨#[39, 110, 111, 110, 101, 39]⟩, .string ⟨#[39, 115, 101, 108, 102, 39]⟩, .string ⟨#[39, 117, 110, 115, 97, 102, 101, 45, 105, 110, 108, 105, 110, 101, 39]⟩, .string ⟨#[39, 117, 110, 115, 97, 102, 101, 45, 101, 118, 97, 108, 39]⟩, .string ⟨#[39, 119, 97, 115, 109, 45, 117, 110, 115, 97, 102, 101, 45, 101, 118, 97, 108, 39]⟩, .string ⟨#[39, 115, 116, 114, 105, 99, 116, 45, 100, 121, 110, 97, 109, 105, 99, 39]⟩, .string ⟨#[39, 117, 110, 115, 97, 102, 101, 45, 104, 97, 115, 104, 101, 115, 39]⟩, .string ⟨#[39, 114, 101, 112, 111, 114, 116, 45, 115, 97, 109, 112, 108, 101, 39]⟩]) (.int .i64 2)).run Tryz.prog w = .ok (.string ⟨#[39, 115, 101, 108, 102, 39]⟩) w := by kernel_rfl
theorem idx_kept3 (w : World) : (Instr.index 173 (.agg #[.string ⟨#[]⟩, .string ⟨#[39, 110, 111, 110, 101, 39]⟩, .string ⟨#[39, 115, 101, 108, 102, 39]⟩, .string ⟨#[39, 117, 110, 115, 97, 102, 101, 45, 105, 110, 108, 105, 110, 101, 39]⟩, .string ⟨#[39, 117, 110, 115, 97, 102, 101, 45, 101, 118, 97, 108, 39]⟩, .string ⟨#[39, 119, 97, 115, 109, 45, 117, 110, 115, 97, 102, 101, 45, 101, 118, 97, 108, 39]⟩, .string ⟨#[39, 115, 116, 114, 105, 99, 116, 45, 100, 121, 110, 97, 109, 105, 99, 39]⟩, .string ⟨#[39, 117, 110, 115, 97, 102, 101, 45, 104, 97, 115, 104, 101, 115, 39]⟩, .string ⟨#[39, 114, 101, 112, 111, 114, 116, 45, 115, 97, 109, 112, 108, 101, 39]⟩]) (.int .i64 3)).run Tryz.prog w = .ok (.string ⟨#[39, 117, 110, 115, 97, 102, 101, 45, 105, 110, 108, 105, 110, 101, 39]⟩) w := by kernel_rfl
theorem idx_kept4 (w : World) : (Instr.index 173 (.agg #[.string ⟨#[]⟩, .string ⟨#[39, 110, 111, 110, 101, 39]⟩, .string ⟨#[39, 115, 101, 108, 102, 39]⟩, .string ⟨#[39, 117, 110, 115, 97, 102, 101, 45, 105, 110, 108, 105, 110, 101, 39]⟩, .string ⟨#[39, 117, 110, 115, 97, 102, 101, 45, 101, 118, 97, 108, 39]⟩, .string ⟨#[39, 119, 97, 115, 109, 45, 117, 110, 115, 97, 102, 101, 45, 101, 118, 97, 108, 39]⟩, .string ⟨#[39, 115, 116, 114, 105, 99, 116, 45, 100, 121, 110, 97, 109, 105, 99, 39]⟩, .string ⟨#[39, 117, 110, 115, 97, 102, 101, 45, 104, 97, 115, 104, 101, 115, 39]⟩, .string ⟨#[39, 114, 101, 112, 111, 114, 116, 45, 115, 97, 109, 112, 108, 101, 39]⟩]) (.int .i64 4)).run Tryz.prog w = .ok (.string ⟨#[39, 117, 110, 115, 97, 102, 101, 45, 101, 118, 97, 108, 39]⟩) w := by kernel_rfl
theorem idx_kept5 (w : World) : (Instr.index 173 (.agg #[.string ⟨#[]⟩, .string ⟨#[39, 110, 111, 110, 101, 39]⟩, .string ⟨#[39, 115, 101, 108, 102, 39]⟩, .string ⟨#[39, 117, 110, 115, 97, 102, 101, 45, 105, 110, 108, 105, 110, 101, 39]⟩, .string ⟨#[39, 117, 110, 115, 97, 102, 101, 45, 101, 118, 97, 108, 39]⟩, .string ⟨#[39, 119, 97, 115, 109, 45, 117, 110, 115, 97, 102, 101, 45, 101, 118, 97, 108, 39]⟩, .string ⟨#[39, 115, 116, 114, 105, 99, 116, 45, 100, 121, 110, 97, 109, 105, 99, 39]⟩, .string ⟨#[39, 117, 110, 115, 97, 102, 101, 45, 104, 97, 115, 104, 101, 115, 39]⟩, .string ⟨#[39, 114, 101, 112, 111, 114, 116, 45, 115, 97, 109, 112, 108, 101, 39]⟩]) (.int .i64 5)).run Tryz.prog w = .ok (.string ⟨#[39, 119, 97, 115, 109, 45, 117, 110, 115, 97, 102, 101, 45, 101, 118, 97, 108, 39]⟩) w := by kernel_rfl
theorem idx_kept6 (w : World) : (Instr.index 173 (.agg #[.string ⟨#[]⟩, .string ⟨#[39, 110, 111, 110, 101, 39]⟩, .string ⟨#[39, 115, 101, 108, 102, 39]⟩, .string ⟨#[39, 117, 110, 115, 97, 102, 101, 45, 105, 110, 108, 105, 110, 101, 39]⟩, .string ⟨#[39, 117, 110, 115, 97, 102, 101, 45, 101, 118, 97, 108, 39]⟩, .string ⟨#[39, 119, 97, 115, 109, 45, 117, 110, 115, 97, 102, 101, 45, 101, 118, 97, 108, 39]⟩, .string ⟨#[39, 115, 116, 114, 105, 99, 116, 45, 100, 121, 110, 97, 109, 105, 99, 39]⟩, .string ⟨#[39, 117, 110, 115, 97, 102, 101, 45, 104, 97, 115, 104, 101, 115, 39]⟩, .string ⟨#[39, 114, 101, 112, 111, 114, 116, 45, 115, 97, 109, 112, 108, 101, 39]⟩]) (.int .i64 6)).run Tryz.prog w = .ok (.string ⟨#[39, 115, 116, 114, 105, 99, 116, 45, 100, 121, 110, 97, 109, 105, 99, 39]⟩) w := by kernel_rfl
theorem idx_kept7 (w : World) : (Instr.index 173 (.agg #[.string ⟨#[]⟩, .string ⟨#[39, 110, 111, 110, 101, 39]⟩, .string ⟨#[39, 115, 101, 108, 102, 39]⟩, .string ⟨#[39, 117, 110, 115, 97, 102, 101, 45, 105, 110, 108, 105, 110, 101, 39]⟩, .string ⟨#[39, 117, 110, 115, 97, 102, 101, 45, 101, 118, 97, 108, 39]⟩, .string ⟨#[39, 119, 97, 115, 109, 45, 117, 110, 115, 97, 102, 101, 45, 101, 118, 97, 108, 39]⟩, .string ⟨#[39, 115, 116, 114, 105, 99, 116, 45, 100, 121, 110, 97, 109, 105, 99, 39]⟩, .string ⟨#[39, 117, 110, 115, 97, 102, 101, 45, 104, 97, 115, 104, 101, 115, 39]⟩, .string ⟨#[39, 114, 101, 112, 111, 114, 116, 45, 115, 97, 109, 112, 108, 101, 39]⟩]) (.int .i64 7)).run Tryz.prog w = .ok (.string ⟨#[39, 117, 110, 115, 97, 102, 101, 45, 104, 97, 115, 104, 101, 115, 39]⟩) w := by kernel_rfl
theorem idx_kept8 (w : World) : (Instr.index 173 (.agg #[.string ⟨#[]⟩, .string ⟨#[39, 110, 111, 110, 101, 39]⟩, .string ⟨#[39, 115, 101, 108, 102, 39]⟩, .string ⟨#[39, 117, 110, 115, 97, 102, 101, 45, 105, 110, 108, 105, 110, 101, 39]⟩, .string ⟨#[39, 117, 110, 115, 97, 102, 101, 45, 101, 118, 97, 108, 39]⟩, .string ⟨#[39, 119, 97, 115, 109, 45, 117, 110, 115, 97, 102, 101, 45, 101, 118, 97, 108, 39]⟩, .string ⟨#[39, 115, 116, 114, 105, 99, 116, 45, 100, 121, 110, 97, 109, 105, 99, 39]⟩, .string ⟨#[39, 117, 110, 115, 97, 102, 101, 45, 104, 97, 115, 104, 101, 115, 39]⟩, .string ⟨#[39, 114, 101, 112, 111, 114, 116, 45, 115, 97, 109, 112, 108, 101, 39]⟩]) (.int .i64 8)).run Tryz.prog w = .ok (.string ⟨#[39, 114, 101, 112, 111, 114, 116, 45, 115, 97, 109, 112, 108, 101, 39]⟩) w := by kernel_rfl
theorem idx_kept (k : Nat) (hk : k < keptL.length) (w : World) : (Instr.index 173 (.agg #[.string ⟨#[]⟩, .string ⟨#[39, 110, 111, 110, 101, 39]⟩, .string ⟨#[39, 115, 101, 108, 102, 39]⟩, .string ⟨#[39, 117, 110, 115, 97, 102, 101, 45, 105, 110, 108, 105, 110, 101, 39]⟩, .string ⟨#[39, 117, 110, 115, 97, 102, 101, 45, 101, 118, 97, 108, 39]⟩, .string ⟨#[39, 119, 97, 115, 109, 45, 117, 110, 115, 97, 102, 101, 45, 101, 118, 97, 108, 39]⟩, .string ⟨#[39, 115, 116, 114, 105, 99, 116, 45, 100, 121, 110, 97, 109, 105, 99, 39]⟩, .string ⟨#[39, 117, 110, 115, 97, 102, 101, 45, 104, 97, 115, 104, 101, 115, 39]⟩, .string ⟨#[39, 114, 101, 112, 111, 114, 116, 45, 115, 97, 109, 112, 108, 101, 39]⟩]) (.int .i64 k)).run Tryz.prog w = .ok (.string keptL[k]) w := by
  have : keptL.length = 9 := rfl
  rcases (show k = 0 ∨ k = 1 ∨ k = 2 ∨ k = 3 ∨ k = 4 ∨ k = 5 ∨ k = 6 ∨ k = 7 ∨ k = 8 by omega) with rfl | rfl | rfl | rfl | rfl | rfl | rfl | rfl | rfl
  · exact idx_kept0 w
  · exact idx_kept1 w
  · exact idx_kept2 w
  · exact idx_kept3 w
  · exact idx_kept4 w
  · exact idx_kept5 w
  · exact idx_kept6 w
  · exact idx_kept7 w
  · exact idx_kept8 w
set_option maxHeartbeats 2000000 in
theorem quoted_any (i : Nat) (hi9 : i < 9) (x : ByteArray) (hx : WordIs i x) (w : World) (hg : Gl w) (b : Nat) (hb : Cut w b 0 x) (hb5 : 5 < b) :
    Calls Tryz.prog 118 #[.pointer (some ⟨b, 0, none⟩)] w fun e w' => e = .returned (.bool true) ∧ Cut w' b i x ∧ w.grownBy w' (some b) := by
  obtain ⟨h1, h2, h3, h4, h5, h6⟩ := hx
  have c57 := fun w' => lower_any x w' (by omega)
  rw [h3, mk_data'] at c57
  have c26a := fun w' => Tryz.strings_HasPrefix x ⟨#[39, 110, 111, 110, 99, 101, 45]⟩ w'
  rw [show Lib.hasPrefix x.data.toList (⟨#[39, 110, 111, 110, 99, 101, 45]⟩ : ByteArray).data.toList = false from h4] at c26a
  have c26b := fun w' => Tryz.strings_HasPrefix x ⟨#[39, 109, 97, 114, 107, 45]⟩ w'
  rw [show Lib.hasPrefix x.data.toList (⟨#[39, 109, 97, 114, 107, 45]⟩ : ByteArray).data.toList = false from h5] at c26b
  have C57 := Lib.hid c57
  have CA := Lib.hid c26a
  have CB := Lib.hid c26b
  have H6 := Lib.hid h6
  have HB := Lib.hid hb
  have HG := Lib.hid hg
  clear c57 c26a c26b h3 h4 h5 h6 hg
  obtain ⟨y0, y7⟩ := hb.cells
  have hbl : b < w.heap.size := World.block_lt_of_cell? w _ y0
  clear hb
  go_enter Tryz.func118, Tryz.ntmps118
  go_wp2_with fail
  with_reducible refine (C57.out _).mono ?_
  rintro e w1 ⟨rfl, hb1⟩
  have z0 := (hb1.cell (p := ⟨b, 0, none⟩) hbl).trans y0
  have z7 := (hb1.cell (p := ⟨b, 0 + 7, none⟩) hbl).trans y7
  have h4w : 4 < w.heap.size := by omega
  have k0 := (hb1.cell (p := ⟨4, 0, none⟩) h4w).trans (HG.out.kept 0 (by decide))
  have k1 := (hb1.cell (p := ⟨4, 1, none⟩) h4w).trans (HG.out.kept 1 (by decide))
  have k2 := (hb1.cell (p := ⟨4, 2, none⟩) h4w).trans (HG.out.kept 2 (by decide))
  have k3 := (hb1.cell (p := ⟨4, 3, none⟩) h4w).trans (HG.out.kept 3 (by decide))
  have k4 := (hb1.cell (p := ⟨4, 4, none⟩) h4w).trans (HG.out.kept 4 (by decide))
  have k5 := (hb1.cell (p := ⟨4, 5, none⟩) h4w).trans (HG.out.kept 5 (by decide))
  have k6 := (hb1.cell (p := ⟨4, 6, none⟩) h4w).trans (HG.out.kept 6 (by decide))
  have k7 := (hb1.cell (p := ⟨4, 7, none⟩) h4w).trans (HG.out.kept 7 (by decide))
  have k8 := (hb1.cell (p := ⟨4, 8, none⟩) h4w).trans (HG.out.kept 8 (by decide))
  simp only [keptL, List.getElem_cons_zero, List.getElem_cons_succ] at k0 k1 k2 k3 k4 k5 k6 k7 k8
  have HB1 := Lib.hid hb1
  have hsz : (0 : Int) ≤ (x.size : Int) - 1 := by omega
  clear y0 y7 hb1
  go_wp2_with fail
  go_quiet (fail)
  go_wp2_with fail
  with_reducible refine (CA.out _).mono ?_
  rintro e w2 ⟨rfl, hw⟩
  obtain rfl : w1.drewN nq = w2 := hw.symm
  clear hw
  go_wp2_with fail
  with_reducible refine (CB.out _).mono ?_
  rintro e w2 ⟨rfl, hw⟩
  obtain rfl : w1.drewN nq = w2 := hw.symm
  clear hw
  go_wp2_with fail
  have hidx := idx_kept
  obtain ⟨A, hA⟩ : ∃ A : Value, A = .agg #[.string ⟨#[]⟩, .string ⟨#[39, 110, 111, 110, 101, 39]⟩, .string ⟨#[39, 115, 101, 108, 102, 39]⟩, .string ⟨#[39, 117, 110, 115, 97, 102, 101, 45, 105, 110, 108, 105, 110, 101, 39]⟩, .string ⟨#[39, 117, 110, 115, 97, 102, 101, 45, 101, 118, 97, 108, 39]⟩, .string ⟨#[39, 119, 97, 115, 109, 45, 117, 110, 115, 97, 102, 101, 45, 101, 118, 97, 108, 39]⟩, .string ⟨#[39, 115, 116, 114, 105, 99, 116, 45, 100, 121, 110, 97, 109, 105, 99, 39]⟩, .string ⟨#[39, 117, 110, 115, 97, 102, 101, 45, 104, 97, 115, 104, 101, 115, 39]⟩, .string ⟨#[39, 114, 101, 112, 111, 114, 116, 45, 115, 97, 109, 112, 108, 101, 39]⟩] := ⟨_, rfl⟩
  rw [← hA] at hidx ⊢
  have HI := Lib.hid hidx
  obtain ⟨W0, hW0⟩ : ∃ W0, W0 = w1.drewN nq := ⟨_, rfl⟩
  rw [← hW0]
  have hbW : Below w.heap.size w W0 := by rw [hW0]; exact HB1.out.trans ((below_drewN' _ _).mono HB1.out.size)
  have hcut : Cut W0 b 0 x := (hbW.block b hbl).trans HB.out
  have HCUT := Lib.hid hcut
  have HBW := Lib.hid hbW
  clear hidx hA hW0 hbW hcut k0 k1 k2 k3 k4 k5 k6 k7 k8 z0 z7
  go_loopg [24] 9 (fun gk v wr => ∃ k : Nat, k + gk = 9 ∧ v = .int .i64 k ∧ Hid (Cut wr b (if i < k then i else 0) x) ∧ Hid (w.grownBy wr (some b)))
  case atStart => exact ⟨0, by omega, rfl, by simp; exact HCUT.out, grown_below (World.grownBy.refl _ _) HBW.out⟩
  case round =>
    obtain ⟨k, hk, rfl, HC, HGR⟩ := hrel
    have HK := Lib.hid hk
    clear hk
    by_cases hlt : k < 9
    · have hix := HI.out k hlt
      have h6 := H6.out k hlt
      obtain ⟨y, hy⟩ : ∃ y, y = keptL[k]'hlt := ⟨_, rfl⟩
      rw [← hy] at hix h6
      have y0 := HC.out.cells.1
      have f0 : wr.frozen? ⟨b, 0, none⟩ = false := frozen_of_row wr b 0 _ 158 HC.out
      clear hy
      by_cases hki : k = i
      · have hq : (y.toList == x.toList) = true := by rw [h6]; simpa using hki
        have HKI := Lib.hid hki
        clear hki h6
        go_wp2_with fail
        go_roundg (gk - 1)
        case measure => have := HK.out; omega
        case rel =>
          have := HK.out
          have hki := HKI.out
          refine ⟨k + 1, by omega, by go_num, ?_, grown_cell HGR.out _⟩
          have h := heap_setCell_same wr b 0 _ 158 (.int .i64 k) HC.out
          show Cut _ b _ x
          rw [if_pos (by omega)]
          subst hki
          exact h
      · have hq : (y.toList == x.toList) = false := by rw [h6]; simpa using hki
        have HKI := Lib.hid hki
        clear hki h6
        go_wp2_with fail
        go_roundg (gk - 1)
        case measure => have := HK.out; omega
        case rel =>
          have := HK.out
          have hki := HKI.out
          refine ⟨k + 1, by omega, by go_num, ?_, HGR.out⟩
          show Cut _ b _ x
          rw [show (if i < k + 1 then (i : Int) else 0) = if i < k then (i : Int) else 0 by by_cases h : i < k <;> simp [h] <;> omega]
          exact HC.out
    · go_wp2_with fail
      go_ret
      have hk9 : k = 9 := by have := HK.out; omega
      refine ⟨rfl, ?_, HGR.out⟩
      have := HC.out
      rw [if_pos (by omega)] at this
      exact this
end Go.Proofs.YtajokmcdhhiahaaGreatDoor
