/- Code points and their bytes, over lists of bytes. No program in sight. -/
import Derived.Lib.DecodeN
import Derived.Lib.RuneBytes
import Derived.Lib.Bytealg
namespace Go.Proofs.YtfhkjegmhnpgeaaDoor.Ut
open Go

/-- Is it a code point? -/
def ok (n : Nat) : Bool := decide (n < 55296 ∨ (57343 < n ∧ n ≤ 1114111))
/-- A code point's bytes. -/
def by_ (n : Nat) : List UInt8 :=
  if n ≤ 127 then [UInt8.ofNat n]
  else if n ≤ 2047 then [UInt8.ofNat (192 + n / 64), UInt8.ofNat (128 + n % 64)]
  else if n ≤ 65535 then [UInt8.ofNat (224 + n / 4096), UInt8.ofNat (128 + n / 64 % 64), UInt8.ofNat (128 + n % 64)]
  else [UInt8.ofNat (240 + n / 262144), UInt8.ofNat (128 + n / 4096 % 64), UInt8.ofNat (128 + n / 64 % 64), UInt8.ofNat (128 + n % 64)]
/-- The first code point, and how many bytes it takes. -/
def dN (l : List UInt8) : Nat × Nat := Lib.decodeN l.length (l.getD 0 0).toNat (l.getD 1 0).toNat (l.getD 2 0).toNat (l.getD 3 0).toNat

theorem toNat_lt {n : Nat} (h : n < 256) : (UInt8.ofNat n).toNat = n := by rw [UInt8.toNat_ofNat']; omega
theorem ofNat_eq (a : UInt8) {n : Nat} (h : n = a.toNat) : UInt8.ofNat n = a := by subst h; exact UInt8.ofNat_toNat

theorem by_len (n : Nat) : 1 ≤ (by_ n).length ∧ (by_ n).length ≤ 4 := by
  unfold by_
  split
  · simp
  · split
    · simp
    · split <;> simp

/-- What is decoded is a code point's bytes, or one byte that is none. -/
theorem dN_take (l : List UInt8) (h : l ≠ []) (hb : dN l ≠ (65533, 1)) : l.take (dN l).2 = by_ (dN l).1 ∧ ok (dN l).1 = true := by
  obtain ⟨n, hn⟩ : ∃ n, n = l.length := ⟨_, rfl⟩
  obtain ⟨a, ha⟩ : ∃ a, a = l.getD 0 0 := ⟨_, rfl⟩
  obtain ⟨b, hb'⟩ : ∃ b, b = l.getD 1 0 := ⟨_, rfl⟩
  obtain ⟨c, hc⟩ : ∃ c, c = l.getD 2 0 := ⟨_, rfl⟩
  obtain ⟨d, hd⟩ : ∃ d, d = l.getD 3 0 := ⟨_, rfl⟩
  have t1 : l.take 1 = [a] := by
    match l, h with
    | x :: r, _ => simp at ha; rw [ha]; rfl
  have t2 : 1 < n → l.take 2 = [a, b] := by
    intro h1
    match l, h with
    | [x], _ => simp at hn; omega
    | x :: y :: r, _ => simp at ha hb'; rw [ha, hb']; rfl
  have t3 : 2 < n → l.take 3 = [a, b, c] := by
    intro h1
    match l, h with
    | [x], _ => simp at hn; omega
    | [x, y], _ => simp at hn; omega
    | x :: y :: z :: r, _ => simp at ha hb' hc; rw [ha, hb', hc]; rfl
  have t4 : 3 < n → l.take 4 = [a, b, c, d] := by
    intro h1
    match l, h with
    | [x], _ => simp at hn; omega
    | [x, y], _ => simp at hn; omega
    | [x, y, z], _ => simp at hn; omega
    | x :: y :: z :: u :: r, _ => simp at ha hb' hc hd; rw [ha, hb', hc, hd]; rfl
  have ba := a.toNat_lt; have bb := b.toNat_lt; have bc := c.toNat_lt; have bd := d.toNat_lt
  unfold dN at hb ⊢
  rw [← hn, ← ha, ← hb', ← hc, ← hd] at hb ⊢
  clear hn ha hb' hc hd
  unfold Lib.decodeN at hb ⊢
  split at hb
  · rename_i h1
    rw [if_pos h1]
    refine ⟨?_, by simp [ok]; omega⟩
    rw [t1]; unfold by_; rw [if_pos (by simp only; omega), UInt8.ofNat_toNat]
  · rename_i h1
    rw [if_neg h1]
    split at hb
    · rename_i h2
      rw [if_pos h2]
      split at hb
      · rename_i h3
        rw [if_pos h3]
        refine ⟨?_, by simp [ok]; omega⟩
        rw [t2 h2.2.1]; unfold by_
        rw [if_neg (by simp only; omega), if_pos (by simp only; omega), ofNat_eq a (by simp only; omega), ofNat_eq b (by simp only; omega)]
      · exact absurd rfl hb
    · rename_i h2
      rw [if_neg h2]
      split at hb
      · rename_i h3
        rw [if_pos h3]
        split at hb
        · rename_i h4
          rw [if_pos h4]
          refine ⟨?_, by simp [ok]; omega⟩
          rw [t3 h3.2.2.1]; unfold by_
          rw [if_neg (by simp only; omega), if_neg (by simp only; omega), if_pos (by simp only; omega), ofNat_eq a (by simp only; omega), ofNat_eq b (by simp only; omega), ofNat_eq c (by simp only; omega)]
        · exact absurd rfl hb
      · rename_i h3
        rw [if_neg h3]
        split at hb
        · rename_i h4
          rw [if_pos h4]
          split at hb
          · rename_i h5
            rw [if_pos h5]
            refine ⟨?_, by simp [ok]; omega⟩
            rw [t4 h4.2.2.2.1]; unfold by_
            rw [if_neg (by simp only; omega), if_neg (by simp only; omega), if_neg (by simp only; omega), ofNat_eq a (by simp only; omega), ofNat_eq b (by simp only; omega), ofNat_eq c (by simp only; omega), ofNat_eq d (by simp only; omega)]
          · exact absurd rfl hb
        · exact absurd rfl hb

theorem decodeN_one {n b0 b1 b2 b3 : Nat} (h : b0 < 128) : Lib.decodeN n b0 b1 b2 b3 = (b0, 1) := by unfold Lib.decodeN; rw [if_pos h]

/-- A code point's bytes are decoded as it. -/
theorem dN_by (n : Nat) (h : ok n = true) (y : List UInt8) : dN (by_ n ++ y) = (n, (by_ n).length) := by
  simp only [ok, decide_eq_true_eq] at h
  unfold by_ dN
  split
  · simp only [List.cons_append, List.nil_append, List.getD_cons_zero, List.length_cons, List.length_nil]
    rw [toNat_lt (by omega)]
    exact decodeN_one (by omega)
  · rename_i h1
    split
    · rename_i h2
      simp only [List.cons_append, List.nil_append, List.getD_cons_zero, List.getD_cons_succ, List.length_cons, List.length_nil]
      rw [toNat_lt (by omega), toNat_lt (by omega)]
      unfold Lib.decodeN
      rw [if_neg (by omega), if_pos (by omega), if_pos (by omega)]
      exact Prod.ext (by simp only; omega) rfl
    · rename_i h2
      split
      · rename_i h3
        simp only [List.cons_append, List.nil_append, List.getD_cons_zero, List.getD_cons_succ, List.length_cons, List.length_nil]
        rw [toNat_lt (by omega), toNat_lt (by omega), toNat_lt (by omega)]
        unfold Lib.decodeN
        rw [if_neg (by omega), if_neg (by omega), if_pos (by omega), if_pos (by omega)]
        exact Prod.ext (by simp only; omega) rfl
      · rename_i h3
        simp only [List.cons_append, List.nil_append, List.getD_cons_zero, List.getD_cons_succ, List.length_cons, List.length_nil]
        rw [toNat_lt (by omega), toNat_lt (by omega), toNat_lt (by omega), toNat_lt (by omega)]
        unfold Lib.decodeN
        rw [if_neg (by omega), if_neg (by omega), if_neg (by omega), if_pos (by omega), if_pos (by omega)]
        exact Prod.ext (by simp only; omega) rfl

theorem dN_pos (l : List UInt8) (h : l ≠ []) : 1 ≤ (dN l).2 ∧ (dN l).2 ≤ 4 ∧ (dN l).2 ≤ l.length := by
  have hl : 0 < l.length := List.length_pos_iff.2 h
  unfold dN Lib.decodeN
  split
  · exact ⟨Nat.le_refl _, Nat.le_of_ble_eq_true rfl, hl⟩
  · split
    · rename_i h1 h2
      split
      · exact ⟨Nat.le_of_ble_eq_true rfl, Nat.le_of_ble_eq_true rfl, h2.2.1⟩
      · exact ⟨Nat.le_refl _, Nat.le_of_ble_eq_true rfl, hl⟩
    · split
      · rename_i h1 h2 h3
        split
        · exact ⟨Nat.le_of_ble_eq_true rfl, Nat.le_of_ble_eq_true rfl, h3.2.2.1⟩
        · exact ⟨Nat.le_refl _, Nat.le_of_ble_eq_true rfl, hl⟩
      · split
        · rename_i h1 h2 h3 h4
          split
          · exact ⟨Nat.le_of_ble_eq_true rfl, Nat.le_of_ble_eq_true rfl, h4.2.2.2.1⟩
          · exact ⟨Nat.le_refl _, Nat.le_of_ble_eq_true rfl, hl⟩
        · exact ⟨Nat.le_refl _, Nat.le_of_ble_eq_true rfl, hl⟩
theorem dN_ok (l : List UInt8) (h : l ≠ []) : ok (dN l).1 = true := by
  by_cases hb : dN l = (65533, 1)
  · rw [hb]; decide
  · exact (dN_take l h hb).2

/-- The code points of bytes. -/
def pts (l : List UInt8) : List Nat := if _h : l = [] then [] else (dN l).1 :: pts (l.drop (dN l).2)
termination_by l.length
decreasing_by
  have := dN_pos l _h
  have : 0 < l.length := List.length_pos_iff.2 _h
  rw [List.length_drop]; omega
theorem pts_nil : pts [] = [] := by rw [pts]; rfl
theorem pts_cons (l : List UInt8) (h : l ≠ []) : pts l = (dN l).1 :: pts (l.drop (dN l).2) := by rw [pts, dif_neg h]
def join (p : List Nat) : List UInt8 := p.flatMap by_
def dec (l : List UInt8) : List UInt8 := join (pts l)

theorem by_ne (n : Nat) : by_ n ≠ [] := fun h => by have := (by_len n).1; rw [h] at this; simp at this
theorem pts_by (n : Nat) (h : ok n = true) (y : List UInt8) : pts (by_ n ++ y) = n :: pts y := by
  rw [pts_cons _ (by have := by_ne n; cases hb : by_ n with | nil => exact absurd hb this | cons => simp), dN_by n h y]
  simp
theorem pts_join (p : List Nat) (h : ∀ n ∈ p, ok n = true) (y : List UInt8) : pts (join p ++ y) = p ++ pts y := by
  induction p with
  | nil => rfl
  | cons n p ih =>
    rw [join, List.flatMap_cons, List.append_assoc, pts_by n (h n (by simp)), ← join, ih (fun m hm => h m (by simp [hm]))]; rfl
theorem pts_join_nil (p : List Nat) (h : ∀ n ∈ p, ok n = true) : pts (join p) = p := by
  have := pts_join p h []
  rwa [List.append_nil, pts_nil, List.append_nil] at this
theorem pts_ok (l : List UInt8) : ∀ n ∈ pts l, ok n = true := by
  induction l using pts.induct with
  | case1 => intro n h; rw [pts_nil] at h; cases h
  | case2 l h ih =>
    intro n hn
    rw [pts_cons l h] at hn
    rcases List.mem_cons.1 hn with rfl | hn
    · exact dN_ok l h
    · exact ih n hn
theorem pts_dec (l : List UInt8) : pts (dec l) = pts l := pts_join_nil _ (pts_ok l)
theorem dec_dec (l : List UInt8) : dec (dec l) = dec l := by show join (pts (dec l)) = join (pts l); rw [pts_dec]
theorem dec_append (a b : List UInt8) : dec (dec a ++ b) = dec a ++ dec b := by
  unfold dec
  rw [pts_join _ (pts_ok a), join, List.flatMap_append]; rfl
theorem pts_length (l : List UInt8) : (pts l).length ≤ l.length ∧ l.length ≤ 4 * (pts l).length := by
  induction l using pts.induct with
  | case1 => rw [pts_nil]; simp
  | case2 l h ih =>
    have := dN_pos l h
    rw [pts_cons l h, List.length_cons]
    rw [List.length_drop] at ih
    omega
theorem dec_cons (l : List UInt8) (h : l ≠ []) : dec l = by_ (dN l).1 ++ dec (l.drop (dN l).2) := by
  unfold dec; rw [pts_cons l h]; rfl
theorem dec_nil : dec [] = [] := by unfold dec; rw [pts_nil]; rfl
theorem join_length (p : List Nat) : (join p).length ≤ 4 * p.length := by
  induction p with
  | nil => simp [join]
  | cons n p ih => rw [join, List.flatMap_cons, List.length_append, ← join, List.length_cons]; have := (by_len n).2; omega
theorem dec_length (l : List UInt8) : (dec l).length ≤ 4 * l.length := by
  have := join_length (pts l); have := (pts_length l).1; unfold dec; omega
end Go.Proofs.YtfhkjegmhnpgeaaDoor.Ut
