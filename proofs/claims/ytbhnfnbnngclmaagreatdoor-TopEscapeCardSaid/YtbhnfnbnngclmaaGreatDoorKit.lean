/- Words that the walks share: texts as lists of bytes, slices that read as lists, a row of the call's own that grows by one. -/
import Derived.Test.YtbhnfnbnngclmaaGreatDoorChecked
import Derived.WalkKit
import Derived.BigQuiet
import Derived.Deep.QuietTactic
import Derived.Deep.LoopGhost
import Derived.Maps.AppendAt
import Derived.Laws.BytesArg
import Derived.Laws.BitsAllLaws
import Derived.Lib.UnsafeStr
import Derived.Lib.Hide
import Derived.Lib.Strings
import Derived.Laws.AppendOwnNone
namespace Go.Proofs.YtbhnfnbnngclmaaGreatDoor
open Go.RowKit

theorem ret_str {a b : ByteArray} (h : a = b) : Ending.returned (.string a) = .returned (.string b) := by rw [h]
theorem ret_bool {a b : Bool} (h : a = b) : Ending.returned (.bool a) = .returned (.bool b) := by rw [h]
theorem ret_int {a b : Int} (h : a = b) : Ending.returned (.int .i64 a) = .returned (.int .i64 b) := by rw [h]
theorem size_len (s : ByteArray) : s.data.toList.length = s.size := by rw [Array.length_toList]; rfl
theorem mk_size' (l : List UInt8) : (⟨l.toArray⟩ : ByteArray).size = l.length := by rw [← size_len]
theorem mk_data' (s : ByteArray) : (⟨s.data.toList.toArray⟩ : ByteArray) = s := ByteArray.ext (by simp)
theorem nx {w a b : World} (h : Below w.heap.size w a) (k : Below a.heap.size a b) : Below w.heap.size w b := h.trans (k.mono h.size)
theorem add_at (b o j : Nat) : (⟨b, o, none⟩ : Addr).add j = ⟨b, o + j, none⟩ := by unfold Addr.add; split <;> simp_all
theorem add_block (a : Addr) (j : Nat) : (a.add j).block = a.block := by unfold Addr.add; split <;> rfl
theorem below_drewN' (w : World) (n : Nat) : Below w.heap.size w (w.drewN n) := ⟨rfl, rfl, rfl, Nat.le_refl _, fun _ _ => rfl⟩
theorem below_alloc' (w : World) (o : Obj) : Below w.heap.size w (w.alloc o) := (Below.refl _ _).alloc (Nat.le_refl _) o
theorem take_snoc (s : ByteArray) (k : Nat) (h : k < s.size) : s.data.toList.take (k + 1) = s.data.toList.take k ++ [s[k]] := by
  rw [List.take_succ_eq_append_getElem (by simpa using h)]; rfl
theorem take_all (s : ByteArray) : s.data.toList.take s.size = s.data.toList := List.take_of_length_le (by rw [size_len]; exact Nat.le_refl _)
theorem byte_at (s : ByteArray) (k : Nat) (h : k < s.size) : s.data.toList[k]? = some s[k] := by
  rw [List.getElem?_eq_getElem (by rw [size_len]; exact h)]; rfl
theorem byte_mem (s : ByteArray) (k : Nat) (h : k < s.size) : s[k] ∈ s.data.toList := List.mem_of_getElem? (byte_at s k h)
theorem drop_cons (s : ByteArray) (k : Nat) (h : k < s.size) : s.data.toList.drop k = s[k] :: s.data.toList.drop (k + 1) := by
  rw [List.drop_eq_getElem_cons (by rw [size_len]; exact h)]; rfl
theorem cat_str (a b : List UInt8) : (⟨a.toArray⟩ ++ ⟨b.toArray⟩ : ByteArray) = ⟨(a ++ b).toArray⟩ := by
  apply ByteArray.ext
  rw [ByteArray.data_append]
  simp
theorem cat_data (a b : ByteArray) : (a ++ b).data.toList = a.data.toList ++ b.data.toList := by rw [ByteArray.data_append]; simp

theorem byte_row : (Tryz.prog.info? 5).map (fun i => (i.zero, i.size, i.bytes)) = some (some (.int .u8 0), 1, 1) := by kernel_rfl
theorem text_row : (Tryz.prog.info? 9).map (fun i => (i.zero, i.size, i.bytes)) = some (some (.string ⟨#[]⟩), 1, 16) := by kernel_rfl

theorem cells_new (w : World) (vs : Array Value) (T : TypeId) : ∀ (j : Nat) (u : Value), vs.toList[j]? = some u → (w.alloc (.cells vs T)).cell? ((⟨w.heap.size, 0, none⟩ : Addr).add j) = some u := by
  intro j u h
  rw [add_at, Nat.zero_add, cell_of_row _ w.heap.size j vs T (0, 0) (heap_alloc_new w _)]
  simpa using h
theorem strOfNums_bytes (l : List UInt8) : strOfNums (l.map fun c => (c.toNat : Int)) = ⟨l.toArray⟩ := by
  simp [strOfNums, List.map_map, Function.comp_def]
theorem own_len {w : World} {base T n : Nat} {v : Value} {l : List UInt8} (h : w.ownsRow base T 1 v n (Lib.byteCells l)) : l.length = n := by
  have := h.1; simp [Lib.byteCells] at this; exact this
theorem own_form {w : World} {base e s n : Nat} {v : Value} {xs : List Value} (h : w.ownsRow base e s v n xs) : ∃ A c, v = .slice A n c ∧ n ≤ c ∧ (A = none → c = 0) := by
  rcases h.2 with ⟨rfl, rfl⟩ | ⟨g, cap, cur, rfl, _, _, hc, _⟩
  · exact ⟨none, 0, rfl, Nat.le_refl _, fun _ => rfl⟩
  · exact ⟨_, cap, rfl, hc, fun h => by cases h⟩

theorem own_string {w : World} {base n : Nat} {v : Value} {l : List UInt8} (h : w.ownsRow base 5 1 v n (Lib.byteCells l)) :
    (convert 41 9 v).run Tryz.prog w = .ok (.string ⟨l.toArray⟩) w := by
  have hl := own_len h
  rcases h.2 with ⟨rfl, rfl⟩ | ⟨g, cap, cur, rfl, _⟩
  · obtain rfl : l = [] := List.eq_nil_of_length_eq_zero hl
    exact run_convert_bytes_nil w 41 5 Tryz.underlying41 Tryz.underlying5 0 0 9 Tryz.underlying9
  · have := run_convert_bytes_arg (P := Tryz.prog) w 41 5 Tryz.underlying41 Tryz.underlying5 g 0 n cap (l.map fun c => (c.toNat : Int)) (by simpa using hl) (fun i hi => ?_) 9 Tryz.underlying9
    · rw [strOfNums_bytes] at this; exact this
    · have hc := h.cells (g := g) rfl i (.int .u8 ((l.map fun c => (c.toNat : Int)).getD i 0)) (by simp [Lib.byteCells, List.getElem?_eq_getElem (show i < l.length by omega), List.getD_eq_getElem?_getD])
      rwa [add_at] at hc
/-- append(out, c): one byte more. -/
theorem wpList_append_byte {ops : Array Oper} {rest : List Oper} {o : Oper} {a : Act} {Q : Exit → Act → World → Prop} (hgd : o.guard = none) (s x : Operand)
    (ho : o.op = .call { callee := .builtin .append, args := #[s, x], argTypes := #[41, 41] }) (W w0 : World) (base : Nat) (v : Value) (n : Nat) (l : List UInt8) (c : UInt8) (e : Int) (he : e = c.toNat)
    (hs : a.eval s = v) (hx : a.eval x = .slice (some ⟨W.heap.size, 0, none⟩) 1 1) (hown : W.ownsRow base 5 1 v n (Lib.byteCells l)) (hb : Below base w0 W) (hB : base ≤ W.heap.size) (hn : n ≤ 1000000000000)
    (h : ∀ v' w', w'.ownsRow base 5 1 v' (n + 1) (Lib.byteCells (l ++ [c])) → Below base w0 w' → wpList Tryz.prog ops Q rest (a.put o.dst v') w') :
    wpList Tryz.prog ops Q (o :: rest) a (W.alloc (.cells #[.int .u8 e] 5)) := by
  obtain ⟨i0, hi, hz0, hz1, hz2⟩ := info_parts byte_row
  subst he
  refine wpList_append_own _ hgd s x 41 ho base 5 i0 (.int .u8 0) 1 1 Tryz.underlying41 hi hz0 hz1 hz2 rfl (by decide) v n _ hs (hown.alloc _) ⟨W.heap.size, 0, none⟩ 1 1 (Lib.byteCells [c]) hx rfl
    (cells_new W _ 5) (by simp [Lib.byteCells, Value.oneCell']) (by unfold maxLen; omega) (by omega) (by simp; omega) ?_
  intro v' w' h1 h2 _
  rw [← Lib.byteCells_append] at h1
  exact h v' w' h1 ((hb.alloc hB _).grown h2 (by simp; omega) (fun q hq => (hown.lt q hq).1))

/-- A slice of texts that reads as a list (nil too), in blocks that were there. -/
def Texts (w : World) (A : Option Addr) (n : Nat) (ss : List ByteArray) : Prop :=
  ss.length = n ∧ (0 < n → ∃ ad, A = some ad ∧ ad.block < w.heap.size ∧ ∀ j (h : j < ss.length), w.cell? (ad.add j) = some (.string ss[j]))
theorem Texts.at_ {w w' : World} {A : Option Addr} {n : Nat} {ss : List ByteArray} (h : Texts w A n ss) (hb : Below w.heap.size w w') (k : Nat) (hk : k < ss.length) : ∃ ad, A = some ad ∧ w'.cell? (ad.add k) = some (.string ss[k]) := by
  obtain ⟨ad, e, hlt, hc⟩ := h.2 (by have := h.1; omega)
  exact ⟨ad, e, (hb.cell (by rw [add_block]; exact hlt)).trans (hc k hk)⟩
theorem Texts.below {w w' : World} {A : Option Addr} {n : Nat} {ss : List ByteArray} (h : Texts w A n ss) (hb : Below w.heap.size w w') : Texts w' A n ss :=
  ⟨h.1, fun hn => by
    obtain ⟨ad, e, hlt, hc⟩ := h.2 hn
    exact ⟨ad, e, Nat.lt_of_lt_of_le hlt hb.size, fun j hj => (hb.cell (by rw [add_block]; exact hlt)).trans (hc j hj)⟩⟩
theorem Texts.nil (w : World) : Texts w none 0 [] := ⟨rfl, fun h => absurd h (by omega)⟩
theorem Texts.lit (w : World) (ss : List ByteArray) : Texts (w.alloc (.cells (ss.map Value.string).toArray 9)) (some ⟨w.heap.size, 0, none⟩) ss.length ss :=
  ⟨rfl, fun _ => ⟨_, rfl, by simp, fun j hj => cells_new w _ 9 j _ (by simp [List.getElem?_eq_getElem hj])⟩⟩
theorem Texts.of_own {w : World} {base n : Nat} {A : Option Addr} {c : Nat} {ss : List ByteArray} (h : w.ownsRow base 9 1 (.slice A n c) n (ss.map Value.string)) : Texts w A n ss := by
  have hl : ss.length = n := by have := h.1; simpa using this
  refine ⟨hl, fun hn => ?_⟩
  rcases h.2 with ⟨hv, h0⟩ | ⟨g, cap, cur, hv, _, hg, _⟩
  · omega
  · injection hv with hA
    subst hA
    refine ⟨_, rfl, (Array.getElem?_eq_some_iff.1 hg).1, fun j hj => ?_⟩
    exact h.cells (g := g) rfl j (.string ss[j]) (by simp [List.getElem?_eq_getElem hj])
/-- A result that is a slice of texts. -/
def OutTexts (ss : List ByteArray) (w : World) (e : Ending) (w' : World) : Prop :=
  ∃ A' c', e = .returned (.slice A' ss.length c') ∧ ss.length ≤ c' ∧ (A' = none → c' = 0) ∧ Texts w' A' ss.length ss ∧ Below w.heap.size w w'

/-- append(out, s): one text more. -/
theorem wpList_append_text {ops : Array Oper} {rest : List Oper} {o : Oper} {a : Act} {Q : Exit → Act → World → Prop} (hgd : o.guard = none) (s x : Operand)
    (ho : o.op = .call { callee := .builtin .append, args := #[s, x], argTypes := #[39, 39] }) (W w0 : World) (base : Nat) (v : Value) (n : Nat) (l : List ByteArray) (c : ByteArray)
    (hs : a.eval s = v) (hx : a.eval x = .slice (some ⟨W.heap.size, 0, none⟩) 1 1) (hown : W.ownsRow base 9 1 v n (l.map Value.string)) (hb : Below base w0 W) (hB : base ≤ W.heap.size) (hn : n ≤ 1000000000000)
    (h : ∀ v' w', w'.ownsRow base 9 1 v' (n + 1) ((l ++ [c]).map Value.string) → Below base w0 w' → wpList Tryz.prog ops Q rest (a.put o.dst v') w') :
    wpList Tryz.prog ops Q (o :: rest) a (W.alloc (.cells #[.string c] 9)) := by
  obtain ⟨i0, hi, hz0, hz1, hz2⟩ := info_parts text_row
  refine wpList_append_own _ hgd s x 39 ho base 9 i0 (.string ⟨#[]⟩) 1 16 Tryz.underlying39 hi hz0 hz1 hz2 rfl (by decide) v n _ hs (hown.alloc _) ⟨W.heap.size, 0, none⟩ 1 1 [.string c] hx rfl
    (cells_new W _ 9) (by simp [Value.oneCell']) (by unfold maxLen; omega) (by omega) (by simp; omega) ?_
  intro v' w' h1 h2 _
  rw [show l.map Value.string ++ [Value.string c] = (l ++ [c]).map Value.string by simp] at h1
  exact h v' w' h1 ((hb.alloc hB _).grown h2 (by simp; omega) (fun q hq => (hown.lt q hq).1))
end Go.Proofs.YtbhnfnbnngclmaaGreatDoor
