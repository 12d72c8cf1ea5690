/- Signs told by names, over lists of bytes. No program in sight. -/
import Derived.Lib.IndexMore
import Derived.Lib.IndexLaws
import Derived.Lib.IndexBytes
namespace Go.Proofs.YtbhnfnbnngclmaaGreatDoor.En
open Go

/-- The five signs, and their names. -/
def odd (c : UInt8) : Bool := c == 38 || c == 60 || c == 62 || c == 34 || c == 39
def nameOf (c : UInt8) : List UInt8 := if c == 38 then [97, 109, 112] else if c == 60 then [108, 116] else if c == 62 then [103, 116] else if c == 34 then [113, 117, 111, 116] else [97, 112, 111, 115]
def esc (c : UInt8) : List UInt8 := if odd c then 38 :: nameOf c ++ [59] else [c]
def enc (l : List UInt8) : List UInt8 := l.flatMap esc

theorem enc_nil : enc [] = [] := rfl
theorem enc_cons (c : UInt8) (l : List UInt8) : enc (c :: l) = esc c ++ enc l := by unfold enc; rw [List.flatMap_cons]
theorem enc_append (a b : List UInt8) : enc (a ++ b) = enc a ++ enc b := by unfold enc; rw [List.flatMap_append]
theorem enc_plain {l : List UInt8} (h : ∀ c ∈ l, odd c = false) : enc l = l := by
  induction l with
  | nil => rfl
  | cons c r ih =>
    rw [enc_cons, ih fun x hx => h x (List.mem_cons_of_mem _ hx), esc, if_neg (by rw [h c (List.mem_cons_self ..)]; simp)]
    rfl
theorem nameOf_le (c : UInt8) : (nameOf c).length ≤ 4 := by
  unfold nameOf
  repeat' split
  all_goals simp
theorem esc_le (c : UInt8) : (esc c).length ≤ 6 := by
  unfold esc
  split
  · have := nameOf_le c
    simp; omega
  · simp
theorem enc_le (l : List UInt8) : (enc l).length ≤ 6 * l.length := by
  induction l with
  | nil => simp [enc]
  | cons c r ih =>
    have := esc_le c
    rw [enc_cons, List.length_append, List.length_cons]
    omega
theorem esc_ge (c : UInt8) : 1 ≤ (esc c).length := by
  unfold esc
  split <;> simp
theorem enc_empty {l : List UInt8} : enc l = [] ↔ l = [] := by
  cases l with
  | nil => simp [enc]
  | cons c r =>
    have := esc_ge c
    rw [enc_cons]
    constructor
    · intro h
      have h2 := congrArg List.length h
      rw [List.length_append, List.length_nil] at h2
      omega
    · intro h; cases h
/-- A byte that no encoded text has. -/
theorem enc_free (x : UInt8) (hx : odd x = true) (h38 : x ≠ 38) (hn : ∀ c, odd c = true → x ∉ nameOf c) (h59 : x ≠ 59) (l : List UInt8) : x ∉ enc l := by
  intro h
  unfold enc at h
  obtain ⟨c, _, hc⟩ := List.mem_flatMap.1 h
  unfold esc at hc
  split at hc
  · rename_i ho
    simp only [List.cons_append, List.mem_cons, List.mem_append, List.not_mem_nil, or_false] at hc
    rcases hc with hc | hc | hc
    · exact h38 hc
    · exact hn c ho hc
    · exact h59 hc
  · rename_i ho
    simp at hc
    subst hc
    exact ho hx
theorem nameOf_mem (x c : UInt8) (h : x ∈ nameOf c) : 97 ≤ x ∧ x ≤ 122 := by
  unfold nameOf at h
  repeat' split at h
  all_goals
    simp only [List.mem_cons, List.not_mem_nil, or_false] at h
    rcases h with rfl | rfl | rfl | rfl <;> decide
theorem enc_no60 (l : List UInt8) : (60 : UInt8) ∉ enc l := enc_free 60 (by decide) (by decide) (fun c _ h => absurd (nameOf_mem _ _ h).1 (by decide)) (by decide) l
theorem enc_no39 (l : List UInt8) : (39 : UInt8) ∉ enc l := enc_free 39 (by decide) (by decide) (fun c _ h => absurd (nameOf_mem _ _ h).1 (by decide)) (by decide) l
theorem nameOf_no59 (c : UInt8) : (59 : UInt8) ∉ nameOf c := fun h => absurd (nameOf_mem _ _ h).1 (by decide)

theorem indexByte_no {l : List UInt8} {c : UInt8} (h : c ∉ l) : Lib.indexByte l c = -1 := by
  induction l with
  | nil => rfl
  | cons b r ih =>
    unfold Lib.indexByte
    rw [if_neg (by simp; rintro rfl; exact h (List.mem_cons_self ..)), ih fun hr => h (List.mem_cons_of_mem _ hr)]
    rfl
theorem indexByte_at {p q : List UInt8} {c : UInt8} (h : c ∉ p) : Lib.indexByte (p ++ c :: q) c = p.length := by
  induction p with
  | nil => simp [Lib.indexByte]
  | cons b r ih =>
    rw [List.cons_append]
    unfold Lib.indexByte
    have := ih fun hr => h (List.mem_cons_of_mem _ hr)
    rw [if_neg (by simp; rintro rfl; exact h (List.mem_cons_self ..)), this, if_neg (by simp)]
    simp
theorem cut_at {p q : List UInt8} {c : UInt8} (h : c ∉ p) : Lib.cut (p ++ c :: q) [c] = (p, q, true) := by
  unfold Lib.cut
  rw [Lib.index_one, indexByte_at h, if_pos (by omega)]
  simp
theorem cut_no {p : List UInt8} {c : UInt8} (h : c ∉ p) : Lib.cut p [c] = (p, [], false) := by
  unfold Lib.cut
  rw [Lib.index_one, indexByte_no h, if_neg (by omega)]
/-- How a text begins: bytes that stay, then a sign or the end. -/
theorem parts (l : List UInt8) : (∀ c ∈ l, odd c = false) ∨ ∃ p c q, l = p ++ c :: q ∧ (∀ x ∈ p, odd x = false) ∧ odd c = true := by
  induction l with
  | nil => exact .inl (fun _ h => by cases h)
  | cons b r ih =>
    by_cases hb : odd b = true
    · exact .inr ⟨[], b, r, rfl, (fun _ h => by cases h), hb⟩
    · rcases ih with h | ⟨p, c, q, rfl, h1, h2⟩
      · refine .inl fun x hx => ?_
        rcases List.mem_cons.1 hx with rfl | hx
        · simpa using hb
        · exact h x hx
      · refine .inr ⟨b :: p, c, q, rfl, fun x hx => ?_, h2⟩
        rcases List.mem_cons.1 hx with rfl | hx
        · simpa using hb
        · exact h1 x hx
theorem not38 {p : List UInt8} (h : ∀ x ∈ p, odd x = false) : (38 : UInt8) ∉ p := fun hm => by have := h _ hm; simp [odd] at this
theorem enc_parts {p q : List UInt8} {c : UInt8} (h : ∀ x ∈ p, odd x = false) (hc : odd c = true) : enc (p ++ c :: q) = p ++ 38 :: (nameOf c ++ 59 :: enc q) := by
  rw [enc_append, enc_cons, enc_plain h, esc, if_pos hc]
  simp
end Go.Proofs.YtbhnfnbnngclmaaGreatDoor.En
