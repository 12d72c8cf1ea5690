import Derived.Test.YtigjmelngddbjaaE
namespace Go.Proofs.Ytigjmelngddbjaa
open Go.RowKit

/-- The signs of bits, six at a time. -/
def sx : List Bool → List UInt8
  | b0 :: b1 :: b2 :: b3 :: b4 :: b5 :: r => Bs.sg (num [b0, b1, b2, b3, b4, b5]) :: sx r
  | _ => []
def allbits (l : List UInt8) : List Bool := l.flatMap fun c => sfx c.toNat 8
def padb (l : List Bool) : List Bool := l ++ List.replicate ((6 - l.length % 6) % 6) false

theorem bits_facts : ∀ n : Fin 256, num ((sfx n.val 8).take 6) = n.val / 4 ∧ num ((sfx n.val 8).drop 6) = n.val % 4 ∧ num ((sfx n.val 8).take 4) = n.val / 16 ∧ num ((sfx n.val 8).drop 4) = n.val % 16 ∧ num ((sfx n.val 8).take 2) = n.val / 64 ∧ num ((sfx n.val 8).drop 2) = n.val % 64 := by decide +kernel
theorem bits_of (c : UInt8) : num ((sfx c.toNat 8).take 6) = c.toNat / 4 ∧ num ((sfx c.toNat 8).drop 6) = c.toNat % 4 ∧ num ((sfx c.toNat 8).take 4) = c.toNat / 16 ∧ num ((sfx c.toNat 8).drop 4) = c.toNat % 16 ∧ num ((sfx c.toNat 8).take 2) = c.toNat / 64 ∧ num ((sfx c.toNat 8).drop 2) = c.toNat % 64 := bits_facts ⟨c.toNat, c.toNat_lt⟩

theorem sx_six (x y : List Bool) (h : x.length = 6) : sx (x ++ y) = Bs.sg (num x) :: sx y := by
  match x, h with
  | [a, b, c, d, e, f], _ => rfl
theorem sfx_split (x n k : Nat) : sfx x n = (sfx x n).take k ++ (sfx x n).drop k := (List.take_append_drop k _).symm
theorem num_two (x y : List Bool) : num (x ++ y) = num x * 2 ^ y.length + num y := num_append x y

theorem sx_three (a b c : UInt8) (y : List Bool) : sx (sfx a.toNat 8 ++ (sfx b.toNat 8 ++ (sfx c.toNat 8 ++ y))) = Bs.sg (a.toNat / 4) :: Bs.sg (a.toNat % 4 * 16 + b.toNat / 16) :: Bs.sg (b.toNat % 16 * 4 + c.toNat / 64) :: Bs.sg (c.toNat % 64) :: sx y := by
  obtain ⟨a1, a2, _⟩ := bits_of a
  obtain ⟨_, _, b1, b2, _⟩ := bits_of b
  obtain ⟨_, _, _, _, c1, c2⟩ := bits_of c
  have e : sfx a.toNat 8 ++ (sfx b.toNat 8 ++ (sfx c.toNat 8 ++ y)) = (sfx a.toNat 8).take 6 ++ (((sfx a.toNat 8).drop 6 ++ (sfx b.toNat 8).take 4) ++ (((sfx b.toNat 8).drop 4 ++ (sfx c.toNat 8).take 2) ++ ((sfx c.toNat 8).drop 2 ++ y))) := rfl
  rw [e, sx_six _ _ rfl, sx_six _ _ rfl, sx_six _ _ rfl, sx_six _ _ rfl, num_two, num_two, a1, a2, b1, b2, c1, c2]
  rfl

theorem allbits_length (l : List UInt8) : (allbits l).length = 8 * l.length := by
  induction l with
  | nil => rfl
  | cons c l ih => simp only [allbits, List.flatMap_cons, List.length_append, sfx_length, List.length_cons] at ih ⊢; omega
theorem padb_length (l : List Bool) : (padb l).length % 6 = 0 := by
  rw [padb, List.length_append, List.length_replicate]; omega

/-- The document's rows of bits and the signs are the same. -/
theorem enc_bits (l : List UInt8) : Bs.pad4 (sx (padb (allbits l))) = Bs.enc l := by
  have main : ∀ l : List UInt8, sx (padb (allbits l)) = (Bs.dg l).map Bs.sg := by
    intro l
    induction l using Bs.dg.induct with
    | case1 => rfl
    | case2 a =>
      obtain ⟨a1, a2, _⟩ := bits_of a
      have e : padb (allbits [a]) = (sfx a.toNat 8).take 6 ++ (((sfx a.toNat 8).drop 6 ++ [false, false, false, false]) ++ []) := by
        rw [padb, allbits_length]; simp [allbits]; rfl
      rw [e, sx_six _ _ rfl, sx_six _ _ rfl, num_two, a1, a2]
      rfl
    | case3 a b =>
      obtain ⟨a1, a2, _⟩ := bits_of a
      obtain ⟨_, _, b1, b2, _⟩ := bits_of b
      have e : padb (allbits [a, b]) = (sfx a.toNat 8).take 6 ++ (((sfx a.toNat 8).drop 6 ++ (sfx b.toNat 8).take 4) ++ (((sfx b.toNat 8).drop 4 ++ [false, false]) ++ [])) := by
        rw [padb, allbits_length]; simp [allbits]; rfl
      rw [e, sx_six _ _ rfl, sx_six _ _ rfl, sx_six _ _ rfl, num_two, num_two, a1, a2, b1, b2]
      rfl
    | case4 a b c r ih =>
      have e : padb (allbits (a :: b :: c :: r)) = sfx a.toNat 8 ++ (sfx b.toNat 8 ++ (sfx c.toNat 8 ++ padb (allbits r))) := by
        have h1 : allbits (a :: b :: c :: r) = sfx a.toNat 8 ++ (sfx b.toNat 8 ++ (sfx c.toNat 8 ++ allbits r)) := rfl
        have h2 : (allbits (a :: b :: c :: r)).length % 6 = (allbits r).length % 6 := by
          rw [h1]; simp only [List.length_append, sfx_length]; omega
        rw [padb, h2, h1, padb]
        simp only [List.append_assoc]
      rw [e, sx_three, ih]
      rfl
  rw [main, Bs.enc_eq, Bs.pad4, List.length_map, Bs.dg_length, Bs.pd]
  congr 2
  split <;> omega
end Go.Proofs.Ytigjmelngddbjaa
