/- Bytes that come in parts: where they may be cut. Over lists of bytes, no program in sight. -/
import Derived.Test.YtfhkjegmhnpgeaaDoorPlain
namespace Go.Proofs.YtfhkjegmhnpgeaaDoor.Ut
open Go

/-- Is a byte a continuation? -/
def co (c : UInt8) : Bool := c.toNat / 64 == 2
theorem co_iff (c : UInt8) : co c = true ↔ c.toNat / 64 = 2 := by simp [co]
theorem co_not (c : UInt8) : co c = false ↔ c.toNat / 64 ≠ 2 := by simp [co]

theorem decodeN_low {n b0 b1 b2 b3 : Nat} (h : b0 / 64 = 2) : Lib.decodeN n b0 b1 b2 b3 = (65533, 1) := by
  unfold Lib.decodeN
  rw [if_neg (by omega), if_neg (by omega), if_neg (by omega), if_neg (by omega)]
/-- What lies behind four bytes is not looked at. -/
theorem decodeN_len {n m b0 b1 b2 b3 : Nat} (hn : 4 ≤ n) (hm : 4 ≤ m) : Lib.decodeN n b0 b1 b2 b3 = Lib.decodeN m b0 b1 b2 b3 := by
  have e1 : (1 < n) = (1 < m) := propext ⟨fun _ => by omega, fun _ => by omega⟩
  have e2 : (2 < n) = (2 < m) := propext ⟨fun _ => by omega, fun _ => by omega⟩
  have e3 : (3 < n) = (3 < m) := propext ⟨fun _ => by omega, fun _ => by omega⟩
  unfold Lib.decodeN
  simp only [e1, e2, e3]
theorem getD_app (l y : List UInt8) (i : Nat) (h : i < l.length) : (l ++ y).getD i 0 = l.getD i 0 := by
  simp only [List.getD_eq_getElem?_getD, List.getElem?_append_left h]
theorem dN_long (l y : List UInt8) (h : 4 ≤ l.length) : dN (l ++ y) = dN l := by
  unfold dN
  rw [getD_app l y 0 (by omega), getD_app l y 1 (by omega), getD_app l y 2 (by omega), getD_app l y 3 (by omega)]
  exact decodeN_len (by rw [List.length_append]; omega) h
theorem dN_co (c : UInt8) (l : List UInt8) (h : co c = true) : dN (c :: l) = (65533, 1) := by
  unfold dN
  exact decodeN_low ((co_iff c).1 h)
/-- A decoder never goes into what does not go on. -/
theorem decodeN_stop {n m b0 b1 b2 b3 c1 c2 c3 : Nat} (hn : 1 ≤ n) (hm : n ≤ m) (h1 : 1 < n → c1 = b1) (h2 : 2 < n → c2 = b2) (h3 : 3 < n → c3 = b3)
    (k1 : n = 1 → 1 < m → c1 / 64 ≠ 2) (k2 : n = 2 → 2 < m → c2 / 64 ≠ 2) (k3 : n = 3 → 3 < m → c3 / 64 ≠ 2) : Lib.decodeN m b0 c1 c2 c3 = Lib.decodeN n b0 b1 b2 b3 := by
  have e1 : (1 < m ∧ c1 / 64 = 2) = (1 < n ∧ b1 / 64 = 2) := propext ⟨fun ⟨p, q⟩ => by
    rcases Nat.lt_or_ge 1 n with h | h
    · exact ⟨h, by rw [← h1 h]; exact q⟩
    · exact absurd q (k1 (by omega) p), fun ⟨p, q⟩ => ⟨by omega, by rw [h1 p]; exact q⟩⟩
  by_cases c1' : 1 < n ∧ b1 / 64 = 2
  · obtain rfl := h1 c1'.1
    have e2 : (2 < m ∧ c2 / 64 = 2) = (2 < n ∧ b2 / 64 = 2) := propext ⟨fun ⟨p, q⟩ => by
      rcases Nat.lt_or_ge 2 n with h | h
      · exact ⟨h, by rw [← h2 h]; exact q⟩
      · exact absurd q (k2 (by omega) p), fun ⟨p, q⟩ => ⟨by omega, by rw [h2 p]; exact q⟩⟩
    by_cases c2' : 2 < n ∧ b2 / 64 = 2
    · obtain rfl := h2 c2'.1
      have e3 : (3 < m ∧ c3 / 64 = 2) = (3 < n ∧ b3 / 64 = 2) := propext ⟨fun ⟨p, q⟩ => by
        rcases Nat.lt_or_ge 3 n with h | h
        · exact ⟨h, by rw [← h3 h]; exact q⟩
        · exact absurd q (k3 (by omega) p), fun ⟨p, q⟩ => ⟨by omega, by rw [h3 p]; exact q⟩⟩
      by_cases c3' : 3 < n ∧ b3 / 64 = 2
      · obtain rfl := h3 c3'.1
        unfold Lib.decodeN; simp only [e1, e2, e3]
      · unfold Lib.decodeN; simp only [e1, e2, e3, eq_false c3', and_false, if_false]
    · unfold Lib.decodeN; simp only [e1, e2, eq_false c2', and_false, false_and, if_false]
  · unfold Lib.decodeN; simp only [e1, eq_false c1', and_false, false_and, if_false]
def Stop (y : List UInt8) : Prop := ∀ c, y.head? = some c → co c = false
theorem dN_stop (l y : List UInt8) (hl : l ≠ []) (hy : Stop y) : dN (l ++ y) = dN l := by
  have hp : 0 < l.length := List.length_pos_iff.2 hl
  have hh : ∀ i, i = l.length → i < (l ++ y).length → ((l ++ y).getD i 0).toNat / 64 ≠ 2 := by
    intro i hi h
    rw [List.length_append] at h
    cases y with
    | nil => simp at h; omega
    | cons c y =>
      have := (co_not c).1 (hy c rfl)
      rw [List.getD_eq_getElem?_getD, List.getElem?_append_right (by omega), hi, Nat.sub_self]
      exact this
  unfold dN
  rw [getD_app l y 0 hp]
  exact decodeN_stop hp (by rw [List.length_append]; omega) (fun h => by rw [getD_app l y 1 h]) (fun h => by rw [getD_app l y 2 h]) (fun h => by rw [getD_app l y 3 h])
    (fun e h => hh 1 e.symm h) (fun e h => hh 2 e.symm h) (fun e h => hh 3 e.symm h)
theorem dec_step (l y : List UInt8) (hl : l ≠ []) (he : dN (l ++ y) = dN l) (hd : dec (l.drop (dN l).2 ++ y) = dec (l.drop (dN l).2) ++ dec y) : dec (l ++ y) = dec l ++ dec y := by
  have hne : l ++ y ≠ [] := fun e => hl (List.append_eq_nil_iff.1 e).1
  rw [dec_cons _ hne, he, dec_cons l hl, List.drop_append_of_le_length (dN_pos l hl).2.2, hd, List.append_assoc]
/-- Ahead of a byte that does not go on, bytes may be cut. -/
theorem dec_stop (l y : List UInt8) (hy : Stop y) : dec (l ++ y) = dec l ++ dec y := by
  induction l using pts.induct with
  | case1 => rw [dec_nil, List.nil_append, List.nil_append]
  | case2 l h ih => exact dec_step l y h (dN_stop l y h hy) ih
/-- Behind three bytes that go on, or where all go on, bytes may be cut. -/
def Tail (l : List UInt8) : Prop := ∀ i c, l[i]? = some c → l.length ≤ i + 3 → co c = true
theorem Tail.drop {l : List UInt8} (h : Tail l) (k : Nat) : Tail (l.drop k) := by
  intro i c hi hl
  rw [List.getElem?_drop] at hi
  rw [List.length_drop] at hl
  exact h (k + i) c hi (by omega)
theorem dec_tail (l y : List UInt8) (h : Tail l) : dec (l ++ y) = dec l ++ dec y := by
  induction l using pts.induct with
  | case1 => rw [dec_nil, List.nil_append, List.nil_append]
  | case2 l hl ih =>
    refine dec_step l y hl ?_ (ih (h.drop _))
    rcases Nat.lt_or_ge l.length 4 with h4 | h4
    · cases l with
      | nil => exact absurd rfl hl
      | cons c l =>
        have hc := h 0 c rfl (by simp at h4 ⊢; omega)
        rw [List.cons_append, dN_co c _ hc, dN_co c _ hc]
    · exact dN_long l y h4
end Go.Proofs.YtfhkjegmhnpgeaaDoor.Ut
