import Derived.Test.YtfhkjegmhnpgeaaDoorA
namespace Go.Proofs.YtfhkjegmhnpgeaaDoor
open Go.RowKit

theorem point_any (n : Int) (w : World) : Calls Tryd.prog 30 #[.int .i64 n] w fun e w' => e = .returned (.bool (decide (0 ≤ n) && Ut.ok n.toNat)) ∧ w = w' := by
  have e : (decide (0 ≤ n) && Ut.ok n.toNat) = (decide (0 ≤ n ∧ n ≤ 1114111 ∧ (n < 55296 ∨ 57343 < n))) := by
    rw [Bool.eq_iff_iff, Bool.and_eq_true, Ut.ok]; simp only [decide_eq_true_eq]; omega
  rw [e]; clear e
  by_cases h1 : 0 ≤ n
  · by_cases h2 : n ≤ 1114111
    · by_cases h3 : n < 55296
      · go_enter Tryd.func30, Tryd.ntmps30
        go_wp2
        go_ret
        exact ⟨ret_bool (by simp [h1, h2, h3]), rfl⟩
      · by_cases h4 : 57343 < n
        · go_enter Tryd.func30, Tryd.ntmps30
          go_wp2
          go_ret
          exact ⟨ret_bool (by simp [h1, h2, h4]), rfl⟩
        · go_enter Tryd.func30, Tryd.ntmps30
          go_wp2
          go_ret
          exact ⟨ret_bool (by simp [h1, h2, h3, h4]), rfl⟩
    · go_enter Tryd.func30, Tryd.ntmps30
      go_wp2
      go_ret
      exact ⟨ret_bool (by simp; omega), rfl⟩
  · go_enter Tryd.func30, Tryd.ntmps30
    go_wp2
    go_ret
    exact ⟨ret_bool (by simp; omega), rfl⟩

theorem conv_new (w : World) (k : Nat) (xs : List Int) (hk : xs.length = k) (l : List UInt8) (hl : xs = l.map fun c => (c.toNat : Int)) :
    (convert 22 9 (.slice (some ⟨w.heap.size, 0, none⟩) k k)).run Tryd.prog (w.alloc (.cells (xs.map fun x => Value.int .u8 x).toArray 5)) = .ok (.string ⟨l.toArray⟩) (w.alloc (.cells (xs.map fun x => Value.int .u8 x).toArray 5)) := by
  have := run_convert_bytes_arg (P := Tryd.prog) (w.alloc (.cells (xs.map fun x => Value.int .u8 x).toArray 5)) 22 5 Tryd.underlying22 Tryd.underlying5 w.heap.size 0 k k xs hk (fun i hi => by
    rw [Nat.zero_add, cell_of_row _ w.heap.size i _ 5 (0, 0) (heap_alloc_new w _)]
    simp [List.getElem?_eq_getElem (show i < xs.length by omega), List.getD_eq_getElem?_getD]) 9 Tryd.underlying9
  rw [hl, strOfNums_bytes, ← hl] at this
  exact this

set_option maxHeartbeats 1000000 in
theorem bytes_any (n : Nat) (hn : n ≤ 1114111) (w : World) : Calls Tryd.prog 35 #[.int .i64 n] w fun e w' => e = .returned (.string ⟨(Ut.by_ n).toArray⟩) ∧ Below w.heap.size w w' := by
  by_cases h1 : n ≤ 127
  · have hc := conv_new w 1 [(n : Int)] rfl (Ut.by_ n) (by unfold Ut.by_; rw [if_pos h1]; simp only [List.map_cons, List.map_nil, List.cons.injEq, and_true]; rw [Ut.toNat_lt (by omega)])
    simp only [List.map_cons, List.map_nil] at hc
    go_enter Tryd.func35, Tryd.ntmps35
    go_wp2
    go_ret
    exact ⟨rfl, below_alloc' _ _⟩
  by_cases h2 : n ≤ 2047
  · have hc := conv_new w 2 [192 + (n : Int) / 64, 128 + (n : Int) % 64] rfl (Ut.by_ n) (by unfold Ut.by_; rw [if_neg h1, if_pos h2]; simp only [List.map_cons, List.map_nil, List.cons.injEq, and_true]; rw [Ut.toNat_lt (by omega), Ut.toNat_lt (by omega)]; omega)
    simp only [List.map_cons, List.map_nil] at hc
    go_enter Tryd.func35, Tryd.ntmps35
    go_wp2
    go_ret
    exact ⟨rfl, below_alloc' _ _⟩
  by_cases h3 : n ≤ 65535
  · have hc := conv_new w 3 [224 + (n : Int) / 4096, 128 + (n : Int) / 64 % 64, 128 + (n : Int) % 64] rfl (Ut.by_ n) (by unfold Ut.by_; rw [if_neg h1, if_neg h2, if_pos h3]; simp only [List.map_cons, List.map_nil, List.cons.injEq, and_true]; rw [Ut.toNat_lt (by omega), Ut.toNat_lt (by omega), Ut.toNat_lt (by omega)]; omega)
    simp only [List.map_cons, List.map_nil] at hc
    go_enter Tryd.func35, Tryd.ntmps35
    go_wp2
    go_ret
    exact ⟨rfl, below_alloc' _ _⟩
  · have hc := conv_new w 4 [240 + (n : Int) / 262144, 128 + (n : Int) / 4096 % 64, 128 + (n : Int) / 64 % 64, 128 + (n : Int) % 64] rfl (Ut.by_ n) (by unfold Ut.by_; rw [if_neg h1, if_neg h2, if_neg h3]; simp only [List.map_cons, List.map_nil, List.cons.injEq, and_true]; rw [Ut.toNat_lt (by omega), Ut.toNat_lt (by omega), Ut.toNat_lt (by omega), Ut.toNat_lt (by omega)]; omega)
    simp only [List.map_cons, List.map_nil] at hc
    go_enter Tryd.func35, Tryd.ntmps35
    go_wp2
    go_ret
    exact ⟨rfl, below_alloc' _ _⟩

/-- What a byte says of the code point that it begins: how many bytes it has, and its first bits. -/
def ld (c : UInt8) : Nat × Nat :=
  if c.toNat < 128 then (1, c.toNat) else if 192 ≤ c.toNat ∧ c.toNat < 224 then (2, c.toNat - 192) else if 224 ≤ c.toNat ∧ c.toNat < 240 then (3, c.toNat - 224) else if 240 ≤ c.toNat ∧ c.toNat < 248 then (4, c.toNat - 240) else (0, 0)
def Pair (a b : Nat) (w : World) (e : Ending) (w' : World) : Prop := e = .returned (.tuple #[.int .i64 a, .int .i64 b]) ∧ w = w'
theorem Pair.mk {a b : Nat} {x y : Int} {w : World} (h1 : x = a) (h2 : y = b) : Pair a b w (.returned (.tuple #[.int .i64 x, .int .i64 y])) w := by subst h1; subst h2; exact ⟨rfl, rfl⟩

set_option maxRecDepth 100000 in
set_option maxHeartbeats 1000000 in
theorem lead_any (c : UInt8) (w : World) : Calls Tryd.prog 36 #[.int .u8 c.toNat] w (Pair (ld c).1 (ld c).2 w) := by
  have hc := c.toNat_lt
  obtain ⟨x, hx⟩ : ∃ x, x = c.toNat := ⟨_, rfl⟩
  unfold ld
  rw [← hx] at hc ⊢
  clear hx
  by_cases h1 : x < 128
  · rw [if_pos h1]
    go_enter Tryd.func36, Tryd.ntmps36
    go_wp2
    go_ret2
    exact Pair.mk rfl rfl
  rw [if_neg h1]
  by_cases h2 : 192 ≤ x
  · by_cases h3 : x < 224
    · rw [if_pos ⟨h2, h3⟩]
      go_enter Tryd.func36, Tryd.ntmps36
      go_wp2
      go_ret2
      exact Pair.mk rfl (by omega)
    rw [if_neg (by omega)]
    by_cases h4 : x < 240
    · rw [if_pos ⟨by omega, h4⟩]
      go_enter Tryd.func36, Tryd.ntmps36
      go_wp2
      go_ret2
      exact Pair.mk rfl (by omega)
    rw [if_neg (by omega)]
    by_cases h5 : x < 248
    · rw [if_pos ⟨by omega, h5⟩]
      go_enter Tryd.func36, Tryd.ntmps36
      go_wp2
      go_ret2
      exact Pair.mk rfl (by omega)
    · rw [if_neg (by omega)]
      go_enter Tryd.func36, Tryd.ntmps36
      go_wp2
      go_ret2
      exact Pair.mk rfl rfl
  · rw [if_neg (by omega), if_neg (by omega), if_neg (by omega)]
    go_enter Tryd.func36, Tryd.ntmps36
    go_wp2
    go_ret2
    exact Pair.mk rfl rfl
end Go.Proofs.YtfhkjegmhnpgeaaDoor
