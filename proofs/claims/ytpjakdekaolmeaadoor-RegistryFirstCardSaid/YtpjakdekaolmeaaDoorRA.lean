/- Makers and their names, and what policies say of a name. No program in sight. -/
import Derived.Test.YtpjakdekaolmeaaDoorHM
namespace Go.Proofs.YtpjakdekaolmeaaDoor
open Go
abbrev DB := ByteArray × List ByteArray

/-- A byte of a maker's name. -/
def mb (c : UInt8) : Bool := (97 ≤ (Fo.lc c).toNat && (Fo.lc c).toNat ≤ 122) || (48 ≤ c.toNat && c.toNat ≤ 57) || [45, 35, 61, 95, 47, 64, 46, 37].contains c
def mname (l : List UInt8) : Bool := decide (l.length ≤ 40) && l.all mb && !l.isEmpty
/-- A name's first place among makers; none: -1. -/
def findM : List ByteArray → ByteArray → Int
  | [], _ => -1
  | m :: r, n => if m = n then 0 else if findM r n < 0 then -1 else findM r n + 1
def ttB : List UInt8 := [116, 114, 117, 115, 116, 101, 100, 45, 116, 121, 112, 101, 115]
def dupB : List UInt8 := [39, 97, 108, 108, 111, 119, 45, 100, 117, 112, 108, 105, 99, 97, 116, 101, 115, 39]
def starB : ByteArray := ⟨#[42]⟩
def namedM (ws : List ByteArray) (n : ByteArray) : Bool := ws.any fun w => decide (w = starB) || decide (w = n)
def twiceM (ws : List ByteArray) : Bool := ws.any fun w => decide (Fo.lower w.data.toList = dupB)
def letsM (ds : List DB) (ms : List ByteArray) (n : ByteArray) : Bool :=
  match findB ds ttB with
  | none => true
  | some ws => namedM ws n && (decide (findM ms n < 0) || twiceM ws)
/-- What policies say: of each that lets the name not be, its place and whether it is a report. -/
def blocksM (k : Nat) (ms : List ByteArray) (n : ByteArray) : List (List DB × Bool) → List (Nat × Bool)
  | [] => []
  | p :: r => if letsM p.1 ms n then blocksM (k + 1) ms n r else (k, p.2) :: blocksM (k + 1) ms n r
def okM (bl : List (Nat × Bool)) : Bool := bl.all fun b => b.2
theorem blocks_snoc (ms : List ByteArray) (n : ByteArray) (p : List DB × Bool) : ∀ (l : List (List DB × Bool)) (k : Nat), blocksM k ms n (l ++ [p]) = blocksM k ms n l ++ (if letsM p.1 ms n then [] else [(k + l.length, p.2)])
  | [], k => by simp [blocksM]
  | q :: r, k => by
    have ih := blocks_snoc ms n p r (k + 1)
    rw [List.cons_append, blocksM, blocksM, ih, List.length_cons, show k + 1 + r.length = k + (r.length + 1) by omega]
    split <;> rfl
theorem blocks_length (ms : List ByteArray) (n : ByteArray) : ∀ (l : List (List DB × Bool)) (k : Nat), (blocksM k ms n l).length ≤ l.length
  | [], _ => Nat.le_refl _
  | p :: r, k => by
    have := blocks_length ms n r (k + 1)
    unfold blocksM
    split
    · simp; omega
    · simp; omega
theorem findM_snoc (ms : List ByteArray) (m n : ByteArray) : findM (ms ++ [m]) n = if findM ms n < 0 then (if m = n then (ms.length : Int) else -1) else findM ms n := by
  induction ms with
  | nil => simp only [List.nil_append, findM]; split <;> simp
  | cons a r ih =>
    rw [List.cons_append, findM, findM, ih]
    by_cases ha : a = n
    · simp [ha]
    · rw [if_neg ha, if_neg ha]
      by_cases hr : findM r n < 0
      · rw [if_pos hr, if_pos hr]
        by_cases hm : m = n
        · rw [if_pos hm, if_neg (by omega), if_pos (by omega), if_pos hm]; simp
        · rw [if_neg hm, if_pos (by omega), if_pos (by omega), if_neg hm]
      · rw [if_neg hr, if_neg hr]
        have : ¬ findM r n + 1 < 0 := by omega
        rw [if_neg this]
theorem findM_range (ms : List ByteArray) (n : ByteArray) : -1 ≤ findM ms n ∧ findM ms n < ms.length := by
  induction ms with
  | nil => simp [findM]
  | cons a r ih =>
    unfold findM
    split
    · simp only [List.length_cons]; omega
    · split
      · simp only [List.length_cons]; omega
      · simp only [List.length_cons]; omega
theorem findM_neg {ms : List ByteArray} {n : ByteArray} (h : findM ms n < 0) : findM ms n = -1 := by have := (findM_range ms n).1; omega
theorem findM_none (ms : List ByteArray) (n : ByteArray) : findM ms n < 0 ↔ n ∉ ms := by
  induction ms with
  | nil => simp [findM]
  | cons a r ih =>
    unfold findM
    by_cases ha : a = n
    · simp [ha]
    · rw [if_neg ha]
      by_cases hr : findM r n < 0
      · rw [if_pos hr]
        simp [ih.1 hr, Ne.symm ha]
      · rw [if_neg hr]
        have := mt ih.2 hr
        simp at this
        simp [this]
        omega
/-- The place that is found has the name, and none ahead has. -/
theorem findM_some (ms : List ByteArray) (n : ByteArray) (k : Nat) (h : findM ms n = k) : ∃ hk : k < ms.length, ms[k] = n ∧ ∀ j (hj : j < ms.length), j < k → ms[j] ≠ n := by
  induction ms generalizing k with
  | nil => simp only [findM] at h; omega
  | cons a r ih =>
    unfold findM at h
    by_cases ha : a = n
    · rw [if_pos ha] at h
      obtain rfl : k = 0 := by omega
      exact ⟨by simp, ha, fun j _ hj => absurd hj (by omega)⟩
    · rw [if_neg ha] at h
      by_cases hr : findM r n < 0
      · rw [if_pos hr] at h; omega
      · rw [if_neg hr] at h
        obtain ⟨k', rfl⟩ : ∃ k', k = k' + 1 := ⟨k - 1, by omega⟩
        obtain ⟨h1, h2, h3⟩ := ih k' (by omega)
        refine ⟨by simp; omega, by simpa using h2, fun j hj hjk => ?_⟩
        cases j with
        | zero => simpa using ha
        | succ j => simpa using h3 j (by simpa using hj) (by omega)
/-- How a maker is made: what is wrong. -/
def defB : ByteArray := ⟨#[100, 101, 102, 97, 117, 108, 116]⟩
def makeE (l : List (List DB × Bool)) (ms : List ByteArray) (n : ByteArray) : Nat :=
  if mname n.data.toList = false then 190 else if n = defB ∧ 0 ≤ findM ms n then 191 else if 200 ≤ ms.length then 2 else if okM (blocksM 0 ms n l) = false then 200 else 0
theorem letsM_more {l : List (List DB × Bool)} {p : List DB × Bool} {ms : List ByteArray} {n : ByteArray} (h : letsM p.1 ms n = true) : blocksM 0 ms n (l ++ [p]) = blocksM 0 ms n l := by
  rw [blocks_snoc, h]; simp
end Go.Proofs.YtpjakdekaolmeaaDoor
