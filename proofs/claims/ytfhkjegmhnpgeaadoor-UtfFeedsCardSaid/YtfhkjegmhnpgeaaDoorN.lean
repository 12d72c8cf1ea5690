import Derived.Test.YtfhkjegmhnpgeaaDoorM
import Derived.Deep.RegionHeld3
namespace Go.Proofs.YtfhkjegmhnpgeaaDoor
open Go.RowKit

/-- append(own, b...): a slice's bytes behind, whatever slice it is. -/
theorem wpList_append_any_bytes {ops : Array Oper} {rest : List Oper} {o : Oper} {a : Act} {Q : Exit → Act → World → Prop} (hgd : o.guard = none) (s x : Operand)
    (ho : o.op = .call { callee := .builtin .append, args := #[s, x], argTypes := #[22, 22] }) (W w0 : World) (base : Nat) (v : Value) (n : Nat) (l m : List UInt8) (A : Option Addr) (k c : Nat)
    (hs : a.eval s = v) (hx : a.eval x = .slice A k c) (hown : W.ownsRow base 5 1 v n (Lib.byteCells l)) (hm : BytesIn W A k m) (hz : A = none → k = 0 ∧ c = 0) (hb : Below base w0 W) (hB : base ≤ W.heap.size) (hn : n + k ≤ 1000000000000)
    (h : ∀ v' w', w'.ownsRow base 5 1 v' (n + k) (Lib.byteCells (l ++ m)) → Below base w0 w' → wpList Tryd.prog ops Q rest (a.put o.dst v') w') :
    wpList Tryd.prog ops Q (o :: rest) a W := by
  obtain ⟨i0, hi, hz0, hz1, hz2⟩ := info_parts byte_info
  cases A with
  | none =>
    obtain ⟨rfl, rfl⟩ := hz rfl
    have hm0 : m = [] := List.eq_nil_of_length_eq_zero hm.1
    subst hm0
    refine wpList_append_own_none hgd s x 22 ho base 5 i0 1 Tryd.underlying22 hi v n _ hs hown hx (h v W ?_ hb)
    rw [List.append_nil]; exact hown
  | some ad =>
    refine wpList_append_own _ hgd s x 22 ho base 5 i0 (.int .u8 0) 1 1 Tryd.underlying22 hi hz0 hz1 hz2 rfl (by decide) v n _ hs hown ad k c (Lib.byteCells m) hx (by rw [Lib.byteCells_length, hm.1]; omega)
      (fun j u hj => ?_) (fun u hu => by simp [Lib.byteCells] at hu; obtain ⟨_, _, rfl⟩ := hu; rfl) (by unfold maxLen; omega) (by omega) hB ?_
    · have hj' : j < m.length := by have := (List.getElem?_eq_some_iff.1 hj).1; rwa [Lib.byteCells_length] at this
      obtain ⟨b', off', e, _, hc⟩ := hm.2 (by have := hm.1; omega)
      injection e with e; subst e
      rw [add_at]; exact hc j u hj
    · intro v' w' h1 h2 _
      rw [← Lib.byteCells_append] at h1
      exact h v' w' h1 (hb.grown h2 hB (fun q hq => (hown.lt q hq).1))
/-- append(own, p...): a slice's numbers behind, whatever slice it is. -/
theorem wpList_append_any_ints {ops : Array Oper} {rest : List Oper} {o : Oper} {a : Act} {Q : Exit → Act → World → Prop} (hgd : o.guard = none) (s x : Operand)
    (ho : o.op = .call { callee := .builtin .append, args := #[s, x], argTypes := #[27, 27] }) (W w0 : World) (base : Nat) (v : Value) (n : Nat) (l m : List Int) (A : Option Addr) (k c : Nat)
    (hs : a.eval s = v) (hx : a.eval x = .slice A k c) (hown : W.ownsRow base 3 1 v n (ic l)) (hm : Row W A k (ic m)) (hz : A = none → k = 0 ∧ c = 0) (hb : Below base w0 W) (hB : base ≤ W.heap.size) (hn : n + k ≤ 1000000000000)
    (h : ∀ v' w', w'.ownsRow base 3 1 v' (n + k) (ic (l ++ m)) → Below base w0 w' → wpList Tryd.prog ops Q rest (a.put o.dst v') w') :
    wpList Tryd.prog ops Q (o :: rest) a W := by
  obtain ⟨i0, hi, hz0, hz1, hz2⟩ := info_parts int_info
  have hl : m.length = k := by have := hm.1; rwa [ic_length] at this
  cases A with
  | none =>
    obtain ⟨rfl, rfl⟩ := hz rfl
    have hm0 : m = [] := List.eq_nil_of_length_eq_zero hl
    subst hm0
    refine wpList_append_own_none hgd s x 27 ho base 3 i0 1 Tryd.underlying27 hi v n _ hs hown hx (h v W ?_ hb)
    rw [List.append_nil]; exact hown
  | some ad =>
    refine wpList_append_own _ hgd s x 27 ho base 3 i0 (.int .i64 0) 1 8 Tryd.underlying27 hi hz0 hz1 hz2 rfl (by decide) v n _ hs hown ad k c (ic m) hx (by rw [ic_length, hl]; omega)
      (fun j u hj => ?_) (fun u hu => by simp [ic] at hu; obtain ⟨_, _, rfl⟩ := hu; rfl) (by unfold maxLen; omega) (by omega) hB ?_
    · have hj' : j < m.length := by have := (List.getElem?_eq_some_iff.1 hj).1; rwa [ic_length] at this
      obtain ⟨ad', e, _, hc⟩ := hm.2 (by omega)
      injection e with e; subst e
      exact hc j u hj
    · intro v' w' h1 h2 _
      rw [← ic_append] at h1
      exact h v' w' h1 (hb.grown h2 hB (fun q hq => (hown.lt q hq).1))
/-- string(b), b a slice of bytes. -/
theorem bytes_string {w : World} {A : Option Addr} {n c : Nat} {l : List UInt8} (h : BytesIn w A n l) : (convert 22 9 (.slice A n c)).run Tryd.prog w = .ok (.string ⟨l.toArray⟩) w := by
  have hl := h.1
  cases A with
  | none =>
    obtain rfl : n = 0 := by
      rcases Nat.eq_zero_or_pos n with h0 | h0
      · exact h0
      · obtain ⟨b, off, e, _⟩ := h.2 h0; cases e
    obtain rfl : l = [] := List.eq_nil_of_length_eq_zero hl
    exact run_convert_bytes_nil w 22 5 Tryd.underlying22 Tryd.underlying5 0 c 9 Tryd.underlying9
  | some ad =>
    rcases Nat.eq_zero_or_pos n with h0 | h0
    · subst h0
      obtain rfl : l = [] := List.eq_nil_of_length_eq_zero hl
      have hl0 : (loadCells ad 0).run Tryd.prog w = .ok #[] w := by
        have := run_loadCells_list (P := Tryd.prog) w ad [] (fun j v hj => by cases hj)
        simpa using this
      have hz := run_bytesToString (P := Tryd.prog) w ad 0 c [] (by simpa using hl0)
      rw [run_convert_bytes_string w 22 9 5 _ 0 c Tryd.underlying22 Tryd.underlying5 Tryd.underlying9, hz]; rfl
    · obtain ⟨b, off, e, _, hc⟩ := h.2 h0
      injection e with e; subst e
      have := run_convert_bytes_arg (P := Tryd.prog) w 22 5 Tryd.underlying22 Tryd.underlying5 b off n c (l.map fun c => (c.toNat : Int)) (by simpa using hl) (fun i hi => ?_) 9 Tryd.underlying9
      · rw [strOfNums_bytes] at this; exact this
      · exact hc i _ (by simp [Lib.byteCells, List.getElem?_eq_getElem (show i < l.length by omega), List.getD_eq_getElem?_getD])
end Go.Proofs.YtfhkjegmhnpgeaaDoor
