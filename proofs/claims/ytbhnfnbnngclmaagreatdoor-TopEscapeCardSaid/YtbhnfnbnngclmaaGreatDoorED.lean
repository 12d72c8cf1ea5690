/- What stays of a heap; take. -/
import Derived.Test.YtbhnfnbnngclmaaGreatDoorEC
import Derived.Lib.QuietBelow
namespace Go.Proofs.YtbhnfnbnngclmaaGreatDoor
open Go.RowKit Go.Sort Go.BigFrame
set_option maxRecDepth 100000

/-- Of what was there, all but these blocks is as it was. -/
structure Keep (l : List Nat) (w w' : World) : Prop where
  os : w'.os = w.os
  tape : w'.tape = w.tape
  output : w'.output = w.output
  size : w.heap.size ≤ w'.heap.size
  block : ∀ k, k < w.heap.size → k ∉ l → w'.heap[k]? = w.heap[k]?
theorem Keep.refl (l : List Nat) (w : World) : Keep l w w := ⟨rfl, rfl, rfl, Nat.le_refl _, fun _ _ _ => rfl⟩
theorem Keep.trans {l : List Nat} {w a b : World} (h : Keep l w a) (k : Keep l a b) : Keep l w b :=
  ⟨k.os.trans h.os, k.tape.trans h.tape, k.output.trans h.output, Nat.le_trans h.size k.size, fun j hj hl => (k.block j (Nat.lt_of_lt_of_le hj h.size) hl).trans (h.block j hj hl)⟩
theorem Keep.mono {l m : List Nat} {w w' : World} (h : Keep l w w') (hs : ∀ k ∈ l, k ∈ m) : Keep m w w' :=
  ⟨h.os, h.tape, h.output, h.size, fun k hk hm => h.block k hk fun hl => hm (hs k hl)⟩
theorem Keep.of_below {l : List Nat} {w w' : World} (h : Below w.heap.size w w') : Keep l w w' := ⟨h.os, h.tape, h.output, h.size, fun k hk _ => h.block k hk⟩
theorem Keep.below {l : List Nat} {B : Nat} {w w' : World} (h : Keep l w w') (hl : ∀ k ∈ l, B ≤ k) (hB : B ≤ w.heap.size) : Below B w w' :=
  ⟨h.os, h.tape, h.output, h.size, fun k hk => h.block k (Nat.lt_of_lt_of_le hk hB) fun hm => by have := hl k hm; omega⟩
theorem Keep.cell {l : List Nat} {w w' : World} (h : Keep l w w') {p : Addr} (hp : p.block < w.heap.size) (hl : p.block ∉ l) : w'.cell? p = w.cell? p := World.cell?_of_block (h.block p.block hp hl)
theorem Keep.own {l : List Nat} {base n : Nat} {e size : Nat} {v : Value} {xs : List Value} {w w' : World} (h : Keep l w w') (ho : w.ownsRow base e size v n xs) (hne : ∀ k, v.ownBlock = some k → k ∉ l) : w'.ownsRow base e size v n xs := by
  refine ⟨ho.1, ?_⟩
  rcases ho.2 with hn | ⟨g, cap, cur, rfl, hb, hgg, rest⟩
  · exact .inl hn
  · refine .inr ⟨g, cap, cur, rfl, hb, ?_, rest⟩
    rw [h.block g (Array.getElem?_eq_some_iff.1 hgg).1 (hne g rfl)]
    exact hgg
theorem Keep.gn {l : List Nat} {w w' : World} (h : Keep l w w') (hg : GN w) (hl : ∀ k ∈ l, 2 ≤ k) : GN w' := by
  have h1 := hg.one
  obtain ⟨m, hm⟩ := hg.ml
  have n0 : (0 : Nat) ∉ l := fun h => absurd (hl 0 h) (by omega)
  have n1 : (1 : Nat) ∉ l := fun h => absurd (hl 1 h) (by omega)
  exact ⟨⟨m, (h.cell (p := ⟨1, 0, none⟩) h1 n1).trans hm⟩, fun i hi => (h.cell (p := ⟨0, i * 2, none⟩) (by show 0 < _; omega) n0).trans (hg.key i hi),
    fun i hi => (h.cell (p := ⟨0, i * 2 + 1, none⟩) (by show 0 < _; omega) n0).trans (hg.val i hi)⟩
theorem cell_row {w : World} {A : Nat} {vs : Array Value} {T : TypeId} {fr : Nat × Nat} (h : w.heap[A]? = some (.cells vs T fr)) (j : Nat) : w.cell? ⟨A, j, none⟩ = vs[j]? := by
  simp [World.cell?, h]
/-- A cursor: the text, the place, the tokens, the fails. -/
def Cur (w : World) (c : Nat) (s : ByteArray) (a : Nat) (vo vf : Value) : Prop := w.heap[c]? = some (.cells #[.string s, .int .i64 a, vo, vf] 70)
theorem Cur.lt {w : World} {c : Nat} {s : ByteArray} {a : Nat} {vo vf : Value} (h : Cur w c s a vo vf) : c < w.heap.size := (Array.getElem?_eq_some_iff.1 h).1
theorem Cur.below {w w' : World} {c : Nat} {s : ByteArray} {a : Nat} {vo vf : Value} (h : Cur w c s a vo vf) (hb : Below w.heap.size w w') : Cur w' c s a vo vf := (hb.block c h.lt).trans h
theorem Cur.c0 {w : World} {c : Nat} {s : ByteArray} {a : Nat} {vo vf : Value} (h : Cur w c s a vo vf) : w.cell? ⟨c, 0, none⟩ = some (.string s) := cell_row h 0
theorem Cur.c1 {w : World} {c : Nat} {s : ByteArray} {a : Nat} {vo vf : Value} (h : Cur w c s a vo vf) : w.cell? ⟨c, 1, none⟩ = some (.int .i64 a) := cell_row h 1
theorem Cur.c2 {w : World} {c : Nat} {s : ByteArray} {a : Nat} {vo vf : Value} (h : Cur w c s a vo vf) : w.cell? ⟨c, 2, none⟩ = some vo := cell_row h 2
theorem Cur.c3 {w : World} {c : Nat} {s : ByteArray} {a : Nat} {vo vf : Value} (h : Cur w c s a vo vf) : w.cell? ⟨c, 3, none⟩ = some vf := cell_row h 3
theorem Cur.fz {w : World} {c : Nat} {s : ByteArray} {a : Nat} {vo vf : Value} (h : Cur w c s a vo vf) (k : Nat) : w.frozen? ⟨c, k, none⟩ = false := by
  unfold Cur at h
  simp [World.frozen?, h]
/-- The place moves. -/
theorem Cur.move {w : World} {c : Nat} {s : ByteArray} {a : Nat} {vo vf : Value} (h : Cur w c s a vo vf) (b : Nat) : Cur (w.setCell ⟨c, 1, none⟩ (.int .i64 b)) c s b vo vf ∧ Keep [c] w (w.setCell ⟨c, 1, none⟩ (.int .i64 b)) := by
  have hlt := h.lt
  unfold Cur at h ⊢
  refine ⟨?_, ⟨rfl, rfl, rfl, ?_, ?_⟩⟩
  · simp only [World.setCell]
    rw [Array.getElem?_modify, if_pos rfl, h]
    rfl
  · simp [World.setCell]
  · intro k hk hl
    have : k ≠ c := fun e => hl (by rw [e]; exact List.mem_singleton.2 rfl)
    simp [World.setCell, Array.getElem?_modify, Ne.symm this]
end Go.Proofs.YtbhnfnbnngclmaaGreatDoor
