/- The mark's plain law: what a mark is, over lists of bytes. No program in sight. -/
namespace Go.Proofs.YtbbgelgjepjpgaaDoor.Mk

def st (a x : Nat) (c : UInt8) : Nat := (x * a + c.toNat + 1) % 1000000007
def run (a x : Nat) (l : List UInt8) : Nat := l.foldl (st a) x
def four (n : Nat) : List UInt8 := [UInt8.ofNat (n / 16777216), UInt8.ofNat (n / 65536), UInt8.ofNat (n / 256), UInt8.ofNat n]
def out (x y n : Nat) : List UInt8 := four x ++ four y ++ four (x * y % 1000000007) ++ four (n % 1000000007)
def mark (l : List UInt8) : List UInt8 := out (run 257 7 l) (run 65539 11 l) l.length

theorem st_lt (a x : Nat) (c : UInt8) : st a x c < 1000000007 := Nat.mod_lt _ (by decide)
theorem run_lt (a x : Nat) (l : List UInt8) (hx : x < 1000000007) : run a x l < 1000000007 := by
  induction l generalizing x with
  | nil => exact hx
  | cons c l ih => exact ih _ (st_lt _ _ _)
theorem run_append (a x : Nat) (l m : List UInt8) : run a x (l ++ m) = run a (run a x l) m := by simp [run]
theorem run_snoc (a x : Nat) (l : List UInt8) (c : UInt8) : run a x (l ++ [c]) = st a (run a x l) c := by simp [run]

theorem four_length (n : Nat) : (four n).length = 4 := rfl
theorem out_length (x y n : Nat) : (out x y n).length = 16 := by simp [out, four_length]
theorem mark_length (l : List UInt8) : (mark l).length = 16 := out_length _ _ _

theorem ofNat_eq {a b : Nat} (h : UInt8.ofNat a = UInt8.ofNat b) : a % 256 = b % 256 := by
  have := congrArg UInt8.toNat h
  simpa [UInt8.toNat_ofNat'] using this
theorem four_inj {a b : Nat} (ha : a < 4294967296) (hb : b < 4294967296) (h : four a = four b) : a = b := by
  simp only [four, List.cons.injEq, and_true] at h
  obtain ⟨h1, h2, h3, h4⟩ := h
  have h1 := ofNat_eq h1
  have h2 := ofNat_eq h2
  have h3 := ofNat_eq h3
  have h4 := ofNat_eq h4
  omega
/-- Texts of unlike lengths have unlike marks. -/
theorem mark_ne {l m : List UInt8} (hl : l.length < 1000000007) (hm : m.length < 1000000007) (h : l.length ≠ m.length) : mark l ≠ mark m := by
  intro e
  have e4 : ∀ z : List UInt8, z.length < 1000000007 → (mark z).drop 12 = four z.length := by
    intro z hz
    simp [mark, out, four, Nat.mod_eq_of_lt hz]
  have := congrArg (List.drop 12) e
  rw [e4 l hl, e4 m hm] at this
  exact h (four_inj (by omega) (by omega) this)
end Go.Proofs.YtbbgelgjepjpgaaDoor.Mk
