import Derived.Test.YtigjmelngddbjaaA
import Derived.Laws.MakeOwn
namespace Go.Proofs.Ytigjmelngddbjaa
open Go.RowKit

/-- The lowest n bits of a number, the greatest first. -/
def sfx (x : Nat) : Nat → List Bool
  | 0 => []
  | j + 1 => (x / 2 ^ j % 2 == 1) :: sfx x j
theorem sfx_length (x n : Nat) : (sfx x n).length = n := by
  induction n with
  | zero => rfl
  | succ n ih => simp [sfx, ih]

theorem bool_info : (Try.prog.info? 4).map (fun i => (i.zero, i.size, i.bytes)) = some (some (.bool false), 1, 1) := by kernel_rfl

/-- Bits as cells. -/
def bcells (l : List Bool) : Array Value := (l.map Value.bool).toArray
theorem made_false (n : Nat) : madeCells #[Value.bool false] n = bcells (List.replicate n false) := by
  unfold bcells
  apply Array.ext
  · simp [madeCells]
  · intro i h1 h2
    simp [madeCells, Nat.mod_one]
theorem set_row (m : Nat) (b : Bool) (t : List Bool) : (bcells (List.replicate (m + 1) false ++ t)).setIfInBounds m (.bool b) = bcells (List.replicate m false ++ (b :: t)) := by
  unfold bcells
  apply Array.toList_inj.1
  simp only [Array.toList_setIfInBounds]
  rw [List.replicate_succ', List.append_assoc]
  simp
theorem bcells_at (l : List Bool) (k : Nat) (h : k < l.length) : (bcells l)[k]? = some (.bool l[k]) := by
  unfold bcells; simp [List.getElem?_eq_getElem h]
theorem cell_bits {w : World} {g : Nat} {l : List Bool} (hb : w.heap[g]? = some (.cells (bcells l) 4 (0, 0))) (k : Nat) (h : k < l.length) : w.cell? ⟨g, k, none⟩ = some (.bool l[k]) := by
  rw [cell_of_row w g k _ 4 (0, 0) hb, bcells_at l k h]

set_option maxHeartbeats 1000000 in
theorem bits_any (x n : Nat) (w : World) (hn : n ≤ 64) (hx : x ≤ 1000000) :
    Calls Try.prog 19 #[.int .i64 x, .int .i64 n] w fun e w' => e = .returned (.slice (some ⟨w.heap.size, 0, none⟩) n n) ∧ w'.heap[w.heap.size]? = some (.cells (bcells (sfx x n)) 4 (0, 0)) ∧ Below w.heap.size w w' := by
  obtain ⟨i0, hi, hz0, hz1, hz2⟩ := info_parts bool_info
  have hmk : ∀ u : World, (Instr.makeSlice 37 (.int .i64 (n : Int)) (.int .i64 (n : Int))).run Try.prog u = .ok (.slice (some ⟨u.heap.size, 0, none⟩) n n) (u.alloc (.cells (bcells (List.replicate n false)) 4)) := fun u => by
    have h := run_make (P := Try.prog) u 37 4 i0 (.bool false) Try.underlying37 hi hz0 .i64 .i64 (n : Int) (n : Int) (by omega) (Int.le_refl _) (by rw [hz2]; omega) (by omega)
    rw [hz1] at h
    simp only [Int.toNat_natCast, Nat.mul_one, Value.cells] at h
    rw [made_false] at h
    exact h
  have hB := heap_alloc_new w (.cells (bcells (List.replicate n false)) 4)
  have HB := Lib.hid hB; clear hB
  go_enter Try.func19, Try.ntmps19
  go_wp2
  go_loopg [0, 6] n (fun gk v i wr => gk ≤ n ∧ i = .int .i64 ((gk : Int) - 1) ∧ v = .int .i64 ((x / 2 ^ (n - gk) : Nat) : Int) ∧ wr.heap[w.heap.size]? = some (.cells (bcells (List.replicate gk false ++ sfx x (n - gk))) 4 (0, 0)) ∧ Below w.heap.size w wr)
  case atStart => exact ⟨Nat.le_refl _, rfl, by simp, by rw [Nat.sub_self, sfx, List.append_nil]; exact HB.out, below_alloc' w _⟩
  case round =>
    obtain ⟨hgk, rfl, rfl, hb, hbw⟩ := hrel
    have hy : x / 2 ^ (n - gk) ≤ 1000000 := Nat.le_trans (Nat.div_le_self _ _) hx
    obtain ⟨y, hyy⟩ : ∃ y, y = x / 2 ^ (n - gk) := ⟨_, rfl⟩
    rw [← hyy] at hy ⊢
    have HY := Lib.hid hyy; clear hyy
    have hfr := frozen_of_row wr w.heap.size
    cases gk with
    | zero =>
      have HH := Lib.hid hb; clear hb
      clear hfr
      go_wp2
      go_ret
      refine ⟨rfl, ?_, hbw⟩
      have := HH.out
      simpa using this
    | succ m =>
      have hlen : m < (List.replicate (m + 1) false ++ sfx x (n - (m + 1))).length := by simp; omega
      obtain ⟨b0, hc⟩ : ∃ b0, wr.cell? ⟨w.heap.size, m, none⟩ = some (.bool b0) := ⟨_, cell_bits hb m hlen⟩
      have hf : wr.frozen? ⟨w.heap.size, m, none⟩ = false := frozen_of_row wr w.heap.size m _ 4 hb
      have HH := Lib.hid hb; clear hb
      clear hfr hlen
      go_wp2
      go_roundg m
      case rel =>
        have hy' : x / 2 ^ (n - m) = y / 2 := by
          rw [HY.out, show n - m = (n - (m + 1)) + 1 by omega, Nat.pow_succ, ← Nat.div_div_eq_div_mul]
        have hbit : ((y : Int) % 2 == 1) = (y % 2 == 1) := by
          rw [Bool.eq_iff_iff, beq_iff_eq, beq_iff_eq]; omega
        refine ⟨by omega, by go_num, ?_, ?_, hbw.setCell (Nat.le_refl _) _⟩
        · rw [hy']; simp
        · rw [heap_setCell_same wr w.heap.size m _ 4 _ HH.out, set_row, hbit, show n - m = (n - (m + 1)) + 1 by omega, sfx, ← HY.out]
      case measure => omega

/-- A slice of cells that reads as a list (nil too), in blocks that were there. -/
def Row (w : World) (A : Option Addr) (n : Nat) (vs : List Value) : Prop :=
  vs.length = n ∧ (0 < n → ∃ ad, A = some ad ∧ ad.block < w.heap.size ∧ ∀ j u, vs[j]? = some u → w.cell? (ad.add j) = some u)
theorem Row.at_ {w w' : World} {A : Option Addr} {n : Nat} {vs : List Value} (h : Row w A n vs) (hb : Below w.heap.size w w') (k : Nat) (u : Value) (hk : vs[k]? = some u) : ∃ ad, A = some ad ∧ w'.cell? (ad.add k) = some u := by
  have hl : k < vs.length := (List.getElem?_eq_some_iff.1 hk).1
  obtain ⟨ad, e, hlt, hc⟩ := h.2 (by have := h.1; omega)
  exact ⟨ad, e, (hb.cell (by rw [add_block]; exact hlt)).trans (hc k u hk)⟩
theorem Row.below {w w' : World} {A : Option Addr} {n : Nat} {vs : List Value} (h : Row w A n vs) (hb : Below w.heap.size w w') : Row w' A n vs :=
  ⟨h.1, fun hn => by
    obtain ⟨ad, e, hlt, hc⟩ := h.2 hn
    exact ⟨ad, e, Nat.lt_of_lt_of_le hlt hb.size, fun j u hj => (hb.cell (by rw [add_block]; exact hlt)).trans (hc j u hj)⟩⟩
theorem Row.of_own {w : World} {base T n : Nat} {A : Option Addr} {c : Nat} {vs : List Value} (h : w.ownsRow base T 1 (.slice A n c) n vs) : Row w A n vs := by
  refine ⟨by have := h.1; simpa using this, fun hn => ?_⟩
  rcases h.2 with ⟨hv, h0⟩ | ⟨g, cap, cur, hv, _, hg, _⟩
  · omega
  · injection hv with hA
    subst hA
    exact ⟨_, rfl, (Array.getElem?_eq_some_iff.1 hg).1, h.cells (g := g) rfl⟩
/-- A piece of a row that lies in a block of its own. -/
theorem Row.piece {w : World} {base T n m o k c : Nat} {vs : List Value} {g : Nat} (h : w.ownsRow base T 1 (.slice (some ⟨g, 0, none⟩) n c) n vs) (hk : k = m - o) (hm : m ≤ n) : Row w (some ⟨g, o, none⟩) k ((vs.take m).drop o) := by
  have hl : vs.length = n := by have := h.1; simpa using this
  refine ⟨by rw [List.length_drop, List.length_take]; omega, fun hn => ⟨_, rfl, ?_, fun j u hj => ?_⟩⟩
  · rcases h.2 with ⟨hv, _⟩ | ⟨g', cap, cur, hv, _, hg, _⟩
    · cases hv
    · injection hv with hA; injection hA with hA; injection hA with hA; subst hA
      exact (Array.getElem?_eq_some_iff.1 hg).1
  · rw [List.getElem?_drop] at hj
    have hj' : vs[o + j]? = some u := by
      rw [List.getElem?_take] at hj
      split at hj
      · exact hj
      · cases hj
    have := h.cells (g := g) rfl (o + j) u hj'
    rw [add_at] at this ⊢
    rwa [Nat.zero_add] at this

theorem snoc_ind {α : Type} {P : List α → Prop} (h0 : P []) (h1 : ∀ l x, P l → P (l ++ [x])) (l : List α) : P l := by
  have h : ∀ l : List α, P l.reverse := by
    intro l
    induction l with
    | nil => exact h0
    | cons x l ih => rw [List.reverse_cons]; exact h1 _ _ ih
  have := h l.reverse
  rwa [List.reverse_reverse] at this
/-- The number of bits. -/
def num (l : List Bool) : Nat := l.foldl (fun n b => 2 * n + b.toNat) 0
theorem num_snoc (l : List Bool) (b : Bool) : num (l ++ [b]) = 2 * num l + b.toNat := by simp [num]
theorem num_append (a b : List Bool) : num (a ++ b) = num a * 2 ^ b.length + num b := by
  induction b using snoc_ind with
  | h0 => simp [num]
  | h1 b x ih =>
    rw [← List.append_assoc, num_snoc, num_snoc, ih, List.length_append, List.length_singleton, Nat.pow_succ, Nat.mul_add, ← Nat.mul_assoc, ← Nat.mul_assoc, Nat.mul_comm 2 (num a), Nat.mul_assoc (num a) 2, Nat.mul_comm 2 (2 ^ _), ← Nat.mul_assoc]
    omega
theorem num_lt (l : List Bool) : num l < 2 ^ l.length := by
  induction l using snoc_ind with
  | h0 => simp [num]
  | h1 l x ih =>
    rw [num_snoc, List.length_append, List.length_singleton, Nat.pow_succ]
    have : x.toNat ≤ 1 := by cases x <;> decide
    omega

set_option maxHeartbeats 1000000 in
theorem number_any (A : Option Addr) (n c : Nat) (l : List Bool) (w : World) (hr : Row w A n (l.map Value.bool)) (hn : n ≤ 40) :
    Calls Try.prog 20 #[.slice A n c] w fun e w' => e = .returned (.int .i64 (num l : Nat)) ∧ w = w' := by
  have hl : l.length = n := by have := hr.1; simpa using this
  have HL := Lib.hid hl; clear hl
  go_enter Try.func20, Try.ntmps20
  go_wp2
  go_loopg [3, 4] n (fun gk v i wr => ∃ k : Nat, k + gk = n ∧ i = .int .i64 k ∧ v = .int .i64 (num (l.take k) : Nat) ∧ w = wr)
  case atStart => exact ⟨0, by omega, rfl, rfl, rfl⟩
  case round =>
    obtain ⟨k, hk, rfl, rfl, rfl⟩ := hrel
    have hlt40 : num (l.take k) < 1099511627776 := by
      refine Nat.lt_of_lt_of_le (num_lt _) (Nat.le_trans (Nat.pow_le_pow_right (n := 2) (by decide) (show (l.take k).length ≤ 40 from Nat.le_trans (List.length_take_le _ _) (by omega))) (by decide))
    have HK := Lib.hid hk; clear hk
    obtain ⟨m, hm⟩ : ∃ m, m = num (l.take k) := ⟨_, rfl⟩
    rw [← hm] at hlt40 ⊢
    have HM := Lib.hid hm; clear hm
    by_cases hlt : k < n
    · have hkl : k < l.length := by rw [HL.out]; exact hlt
      obtain ⟨ad, rfl, hc⟩ := hr.at_ (Below.refl _ _) k (.bool l[k]) (by simp [List.getElem?_eq_getElem hkl])
      have hsn : num (l.take (k + 1)) = 2 * m + l[k].toNat := by rw [List.take_succ_eq_append_getElem hkl, num_snoc, ← HM.out]
      obtain ⟨b, hb⟩ : ∃ b, b = l[k] := ⟨_, rfl⟩
      rw [← hb] at hc hsn
      have HS := Lib.hid hsn; clear hsn hb
      cases b
      · go_wp2
        go_roundg (gk - 1)
        case rel =>
          have hk := HK.out
          refine ⟨k + 1, by omega, by go_num, ?_, rfl⟩
          rw [HS.out]; simp
        case measure => have := HK.out; omega
      · go_wp2
        go_roundg (gk - 1)
        case rel =>
          have hk := HK.out
          refine ⟨k + 1, by omega, by go_num, ?_, rfl⟩
          rw [HS.out]; simp
        case measure => have := HK.out; omega
    · obtain rfl : k = n := by have := HK.out; omega
      have hall : l.take k = l := List.take_of_length_le (by rw [HL.out]; exact Nat.le_refl _)
      rw [hall] at HM
      go_wp2
      go_ret
      exact ⟨ret_int (by rw [HM.out]), rfl⟩
end Go.Proofs.Ytigjmelngddbjaa
