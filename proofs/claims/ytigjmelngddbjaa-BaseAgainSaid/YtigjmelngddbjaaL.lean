/- The document's way to decode (rows of bits) and the program's numbers are the same. No program in sight. -/
import Derived.Test.YtigjmelngddbjaaF
namespace Go.Proofs.Ytigjmelngddbjaa
open Go.RowKit

/-- The bytes of bits, eight at a time. -/
def by8 : List Bool → List UInt8
  | b0 :: b1 :: b2 :: b3 :: b4 :: b5 :: b6 :: b7 :: r => UInt8.ofNat (num [b0, b1, b2, b3, b4, b5, b6, b7]) :: by8 r
  | _ => []
/-- What is left of them. -/
def left8 : List Bool → List Bool
  | _ :: _ :: _ :: _ :: _ :: _ :: _ :: _ :: r => left8 r
  | l => l
theorem by8_step (x y : List Bool) (h : x.length = 8) : by8 (x ++ y) = UInt8.ofNat (num x) :: by8 y := by
  match x, h with
  | [a, b, c, d, e, f, g, i], _ => rfl
theorem left8_step (x y : List Bool) (h : x.length = 8) : left8 (x ++ y) = left8 y := by
  match x, h with
  | [a, b, c, d, e, f, g, i], _ => rfl
theorem by8_short (x : List Bool) (h : x.length < 8) : by8 x = [] := by
  match x, h with
  | [], _ => rfl
  | [_], _ => rfl
  | [_, _], _ => rfl
  | [_, _, _], _ => rfl
  | [_, _, _, _], _ => rfl
  | [_, _, _, _, _], _ => rfl
  | [_, _, _, _, _, _], _ => rfl
  | [_, _, _, _, _, _, _], _ => rfl
theorem left8_short (x : List Bool) (h : x.length < 8) : left8 x = x := by
  match x, h with
  | [], _ => rfl
  | [_], _ => rfl
  | [_, _], _ => rfl
  | [_, _, _], _ => rfl
  | [_, _, _, _], _ => rfl
  | [_, _, _, _, _], _ => rfl
  | [_, _, _, _, _, _], _ => rfl
  | [_, _, _, _, _, _, _], _ => rfl
theorem left8_eq : ∀ (n : Nat) (x : List Bool), x.length / 8 = n → left8 x = x.drop (8 * n) := by
  intro n
  induction n with
  | zero => intro x h; rw [left8_short x (by omega)]; rfl
  | succ n ih =>
    intro x h
    have h1 : x = x.take 8 ++ x.drop 8 := (List.take_append_drop 8 x).symm
    rw [h1, left8_step _ _ (by rw [List.length_take]; omega), ih _ (by rw [List.length_drop]; omega), ← h1, List.drop_drop]
    congr 1; omega

def b6 (l : List Nat) : List Bool := l.flatMap fun v => sfx v 6
theorem b6_length (l : List Nat) : (b6 l).length = 6 * l.length := by
  induction l with
  | nil => rfl
  | cons c l ih => simp only [b6, List.flatMap_cons, List.length_append, sfx_length, List.length_cons] at ih ⊢; omega
theorem six_all : ∀ v : Fin 64, num (sfx v.val 6) = v.val ∧ num ((sfx v.val 6).take 2) = v.val / 16 ∧ num ((sfx v.val 6).drop 2) = v.val % 16 ∧ num ((sfx v.val 6).take 4) = v.val / 4 ∧ num ((sfx v.val 6).drop 4) = v.val % 4 := by decide +kernel
theorem six (v : Nat) (h : v < 64) : num (sfx v 6) = v ∧ num ((sfx v 6).take 2) = v / 16 ∧ num ((sfx v 6).drop 2) = v % 16 ∧ num ((sfx v 6).take 4) = v / 4 ∧ num ((sfx v 6).drop 4) = v % 4 := six_all ⟨v, h⟩

theorem decD_bits (l : List Nat) (hl : ∀ n ∈ l, n < 64) : by8 (b6 l) = (Bs.decD l).1 ∧ num (left8 (b6 l)) = (Bs.decD l).2 := by
  induction l using Bs.decD.induct with
  | case1 => exact ⟨rfl, rfl⟩
  | case2 v =>
    have h := six v (hl v (by simp))
    have e : b6 [v] = sfx v 6 := by simp [b6]
    rw [e]
    exact ⟨by8_short _ (by rw [sfx_length]; decide), by rw [left8_short _ (by rw [sfx_length]; decide)]; exact h.1⟩
  | case3 v w =>
    have h1 := six v (hl v (by simp)); have h2 := six w (hl w (by simp))
    have hv := hl v (by simp); have hw := hl w (by simp)
    have e : b6 [v, w] = (sfx v 6 ++ (sfx w 6).take 2) ++ (sfx w 6).drop 2 := by simp [b6]
    rw [e, by8_step _ _ rfl, left8_step _ _ rfl, by8_short _ (by simp [sfx_length]), left8_short _ (by simp [sfx_length]), num_append, h1.1, h2.2.1, h2.2.2.1]
    refine ⟨?_, ?_⟩
    · show [UInt8.ofNat (v * 2 ^ 2 + w / 16)] = [UInt8.ofNat ((v * 64 + w) / 16)]
      rw [show v * 2 ^ 2 + w / 16 = (v * 64 + w) / 16 by omega]
    · show w % 16 = (v * 64 + w) % 16; omega
  | case4 v w x =>
    have h1 := six v (hl v (by simp)); have h2 := six w (hl w (by simp)); have h3 := six x (hl x (by simp))
    have hv := hl v (by simp); have hw := hl w (by simp); have hx := hl x (by simp)
    have e : b6 [v, w, x] = (sfx v 6 ++ (sfx w 6).take 2) ++ (((sfx w 6).drop 2 ++ (sfx x 6).take 4) ++ (sfx x 6).drop 4) := by simp [b6]; rfl
    rw [e, by8_step _ _ rfl, left8_step _ _ rfl, by8_step _ _ rfl, left8_step _ _ rfl, by8_short _ (by simp [sfx_length]), left8_short _ (by simp [sfx_length]), num_append, num_append, h1.1, h2.2.1, h2.2.2.1, h3.2.2.2.1, h3.2.2.2.2]
    refine ⟨?_, ?_⟩
    · show [UInt8.ofNat (v * 2 ^ 2 + w / 16), UInt8.ofNat (w % 16 * 2 ^ 4 + x / 4)] = [UInt8.ofNat ((v * 64 + w) / 16), UInt8.ofNat (((v * 64 + w) % 16 * 64 + x) / 4)]
      rw [show v * 2 ^ 2 + w / 16 = (v * 64 + w) / 16 by omega, show w % 16 * 2 ^ 4 + x / 4 = ((v * 64 + w) % 16 * 64 + x) / 4 by omega]
    · show x % 4 = ((v * 64 + w) % 16 * 64 + x) % 4; omega
  | case5 v w x y r ih =>
    obtain ⟨i1, i2⟩ := ih fun n hn => hl n (by simp [hn])
    have h1 := six v (hl v (by simp)); have h2 := six w (hl w (by simp)); have h3 := six x (hl x (by simp)); have h4 := six y (hl y (by simp))
    have hv := hl v (by simp); have hw := hl w (by simp); have hx := hl x (by simp); have hy := hl y (by simp)
    have e : b6 (v :: w :: x :: y :: r) = (sfx v 6 ++ (sfx w 6).take 2) ++ (((sfx w 6).drop 2 ++ (sfx x 6).take 4) ++ (((sfx x 6).drop 4 ++ sfx y 6) ++ b6 r)) := by simp [b6]; rfl
    rw [e, by8_step _ _ rfl, left8_step _ _ rfl, by8_step _ _ rfl, left8_step _ _ rfl, by8_step _ _ rfl, left8_step _ _ rfl, num_append, num_append, num_append, h1.1, h2.2.1, h2.2.2.1, h3.2.2.2.1, h3.2.2.2.2, h4.1, i1, i2]
    refine ⟨?_, rfl⟩
    show UInt8.ofNat (v * 2 ^ 2 + w / 16) :: UInt8.ofNat (w % 16 * 2 ^ 4 + x / 4) :: UInt8.ofNat (x % 4 * 2 ^ 6 + y) :: (Bs.decD r).1 = UInt8.ofNat ((v * 64 + w) / 16) :: UInt8.ofNat (((v * 64 + w) % 16 * 64 + x) / 4) :: UInt8.ofNat (((v * 64 + w) % 16 * 64 + x) % 4 * 64 + y) :: (Bs.decD r).1
    rw [show v * 2 ^ 2 + w / 16 = (v * 64 + w) / 16 by omega, show w % 16 * 2 ^ 4 + x / 4 = ((v * 64 + w) % 16 * 64 + x) / 4 by omega, show x % 4 * 2 ^ 6 + y = ((v * 64 + w) % 16 * 64 + x) % 4 * 64 + y by omega]

theorem hd_len (l : List UInt8) : (Bs.hd l).length ≤ l.length ∧ ((Bs.hd l).length < l.length ↔ Bs.hd l ≠ l) := by
  obtain ⟨k, _, h⟩ := Bs.hd_eq l
  have hl := congrArg List.length h
  rw [List.length_append, List.length_replicate] at hl
  refine ⟨by omega, fun h1 h2 => by rw [h2] at h1; omega, fun h1 => ?_⟩
  rcases Nat.lt_or_ge (Bs.hd l).length l.length with h2 | h2
  · exact h2
  · exfalso
    have : k = 0 := by omega
    subst this
    exact h1 (by rw [List.replicate_zero, List.append_nil] at h; exact h.symm)

/-- When the document refuses. -/
theorem dec_none (l : List UInt8) (h0 : l ≠ []) (hf : Bs.form l = true) (P : List Bool) (hP : P = b6 (Bs.nums (Bs.hd l))) :
    (6 ≤ (P.drop (8 * (P.length / 8))).length ∨ num (P.drop (8 * (P.length / 8))) ≠ 0 ∨ ((Bs.hd l).length < l.length ∧ l.length % 4 ≠ 0)) → Bs.dec l = none := by
  intro h
  have hall : ((Bs.hd l).all fun c => decide (0 ≤ Bs.vl c)) = true := by unfold Bs.form at hf; simp only [Bool.and_eq_true] at hf; exact hf.1
  obtain ⟨d1, d2⟩ := decD_bits _ (Bs.nums_lt _ hall)
  rw [← hP, left8_eq _ P rfl] at d2
  have hPl : P.length = 6 * (Bs.hd l).length := by rw [hP, b6_length, Bs.nums, List.length_map]
  unfold Bs.dec
  rw [if_neg h0]
  by_cases hb : Bs.bad l = true
  · rw [if_pos hb]
  rw [if_neg hb]
  unfold Bs.bad at hb
  rw [hf] at hb
  simp only [Bool.not_true, Bool.false_or, Bool.or_eq_true, beq_iff_eq, Bool.and_eq_true, Bool.not_eq_true', beq_eq_false_iff_ne, not_or, not_and] at hb
  obtain ⟨h1, h2⟩ := hb
  rw [if_neg]
  intro hz
  rw [← d2] at hz
  rcases h with h | h | ⟨h, h'⟩
  · rw [List.length_drop, hPl] at h; omega
  · exact h hz
  · have := h2 ((hd_len l).2.1 h)
    simp at this; omega
/-- When it does not. -/
theorem dec_some (l : List UInt8) (h0 : l ≠ []) (hf : Bs.form l = true) (P : List Bool) (hP : P = b6 (Bs.nums (Bs.hd l)))
    (h1 : (P.drop (8 * (P.length / 8))).length < 6) (h2 : num (P.drop (8 * (P.length / 8))) = 0) (h3 : ¬((Bs.hd l).length < l.length ∧ l.length % 4 ≠ 0)) : Bs.dec l = some (by8 P) := by
  have hall : ((Bs.hd l).all fun c => decide (0 ≤ Bs.vl c)) = true := by unfold Bs.form at hf; simp only [Bool.and_eq_true] at hf; exact hf.1
  obtain ⟨d1, d2⟩ := decD_bits _ (Bs.nums_lt _ hall)
  rw [← hP, left8_eq _ P rfl] at d2
  rw [← hP] at d1
  have hPl : P.length = 6 * (Bs.hd l).length := by rw [hP, b6_length, Bs.nums, List.length_map]
  have hb : Bs.bad l = false := by
    unfold Bs.bad
    rw [hf]
    rw [List.length_drop, hPl] at h1
    have e1 : ((Bs.hd l).length % 4 == 1) = false := by rw [beq_eq_false_iff_ne]; omega
    rw [e1]
    by_cases he : Bs.hd l = l
    · have : (Bs.hd l == l) = true := by rw [beq_iff_eq]; exact he
      rw [this]; rfl
    · have e2 : (l.length % 4 == 0) = true := by
        rw [beq_iff_eq]
        have := (hd_len l).2.2 he
        omega
      rw [e2]; simp
  unfold Bs.dec
  rw [if_neg h0, if_neg (by rw [hb]; decide), if_pos (by rw [← d2]; exact h2), d1]
end Go.Proofs.Ytigjmelngddbjaa
