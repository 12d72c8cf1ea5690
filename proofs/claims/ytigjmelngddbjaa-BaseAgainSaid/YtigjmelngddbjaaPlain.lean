/- Letters and signs: what bytes are encoded and decoded as, over lists of bytes. No program in sight. -/
import Derived.Lib.Bytealg
import Derived.Lib.Strings
namespace Go.Proofs.Ytigjmelngddbjaa.Bs
open Go

def signs : List UInt8 := [65, 66, 67, 68, 69, 70, 71, 72, 73, 74, 75, 76, 77, 78, 79, 80, 81, 82, 83, 84, 85, 86, 87, 88, 89, 90, 97, 98, 99, 100, 101, 102, 103, 104, 105, 106, 107, 108, 109, 110, 111, 112, 113, 114, 115, 116, 117, 118, 119, 120, 121, 122, 48, 49, 50, 51, 52, 53, 54, 55, 56, 57, 43, 47]
def sg (n : Nat) : UInt8 := signs.getD n 0
/-- A sign as it is written. -/
def plain (c : UInt8) : UInt8 := if c = 45 then 43 else if c = 95 then 47 else c
/-- A sign's number; -1: it is none. -/
def vl (c : UInt8) : Int := Lib.indexByte signs (plain c)

theorem vl_all : ∀ n : Fin 256, (vl (UInt8.ofNat n.val) = -1 ∨ 0 ≤ vl (UInt8.ofNat n.val) ∧ vl (UInt8.ofNat n.val) < 64 ∧ sg (vl (UInt8.ofNat n.val)).toNat = plain (UInt8.ofNat n.val)) := by decide +kernel
theorem vl_cases (c : UInt8) : vl c = -1 ∨ 0 ≤ vl c ∧ vl c < 64 ∧ sg (vl c).toNat = plain c := by
  have h := vl_all ⟨c.toNat, c.toNat_lt⟩
  simpa using h
theorem sg_all : ∀ n : Fin 64, vl (sg n.val) = (n.val : Int) ∧ sg n.val ≠ 61 ∧ plain (sg n.val) = sg n.val := by decide +kernel
theorem vl_sg (n : Nat) (h : n < 64) : vl (sg n) = (n : Int) := (sg_all ⟨n, h⟩).1
theorem sg_ne (n : Nat) (h : n < 64) : sg n ≠ 61 := (sg_all ⟨n, h⟩).2.1
theorem vl_eq : vl 61 = -1 := by decide +kernel
theorem plain_eq : plain 61 = 61 := by decide

/-- What bytes are encoded as. -/
def enc : List UInt8 → List UInt8
  | [] => []
  | [a] => [sg (a.toNat / 4), sg (a.toNat % 4 * 16), 61, 61]
  | [a, b] => [sg (a.toNat / 4), sg (a.toNat % 4 * 16 + b.toNat / 16), sg (b.toNat % 16 * 4), 61]
  | a :: b :: c :: r => sg (a.toNat / 4) :: sg (a.toNat % 4 * 16 + b.toNat / 16) :: sg (b.toNat % 16 * 4 + c.toNat / 64) :: sg (c.toNat % 64) :: enc r
/-- The numbers of its signs. -/
def dg : List UInt8 → List Nat
  | [] => []
  | [a] => [a.toNat / 4, a.toNat % 4 * 16]
  | [a, b] => [a.toNat / 4, a.toNat % 4 * 16 + b.toNat / 16, b.toNat % 16 * 4]
  | a :: b :: c :: r => a.toNat / 4 :: (a.toNat % 4 * 16 + b.toNat / 16) :: (b.toNat % 16 * 4 + c.toNat / 64) :: c.toNat % 64 :: dg r
/-- The = behind it. -/
def pd (s : List UInt8) : List UInt8 := List.replicate ((3 - s.length % 3) % 3) 61

theorem enc_eq (s : List UInt8) : enc s = (dg s).map sg ++ pd s := by
  induction s using enc.induct with
  | case1 => rfl
  | case2 a => rfl
  | case3 a b => rfl
  | case4 a b c r ih =>
    have e : pd (a :: b :: c :: r) = pd r := by unfold pd; congr 1; simp only [List.length_cons]; omega
    rw [e, enc, ih, dg]; rfl
theorem dg_lt (s : List UInt8) : ∀ n ∈ dg s, n < 64 := by
  induction s using dg.induct with
  | case1 => intro n h; cases h
  | case2 a => intro n h; have := a.toNat_lt; simp [dg] at h; omega
  | case3 a b => intro n h; have := a.toNat_lt; have := b.toNat_lt; simp [dg] at h; omega
  | case4 a b c r ih =>
    intro n h
    have := a.toNat_lt; have := b.toNat_lt; have := c.toNat_lt
    simp only [dg, List.mem_cons] at h
    rcases h with h | h | h | h | h
    · omega
    · omega
    · omega
    · omega
    · exact ih n h
theorem dg_length (s : List UInt8) : (dg s).length = s.length / 3 * 4 + (if s.length % 3 = 0 then 0 else s.length % 3 + 1) := by
  induction s using dg.induct with
  | case1 => rfl
  | case2 a => simp [dg]
  | case3 a b => simp [dg]
  | case4 a b c r ih =>
    have e1 : (r.length + 1 + 1 + 1) / 3 = r.length / 3 + 1 := by omega
    have e2 : (r.length + 1 + 1 + 1) % 3 = r.length % 3 := by omega
    simp only [dg, List.length_cons, ih, e1, e2]; omega
theorem enc_length (s : List UInt8) : (enc s).length = (s.length + 2) / 3 * 4 := by
  rw [enc_eq, List.length_append, List.length_map, dg_length, pd, List.length_replicate]
  split <;> omega
theorem enc_append (a b : List UInt8) (h : a.length % 3 = 0) : enc (a ++ b) = enc a ++ enc b := by
  induction a using enc.induct with
  | case1 => rfl
  | case2 a => simp at h
  | case3 a b => simp at h
  | case4 x y z r ih =>
    simp only [List.length_cons] at h
    simp only [List.cons_append, enc, ih (by omega)]

/-- What numbers of signs are decoded as, and what is left of them. -/
def decD : List Nat → List UInt8 × Nat
  | [] => ([], 0)
  | [v] => ([], v)
  | [v, w] => ([UInt8.ofNat ((v * 64 + w) / 16)], (v * 64 + w) % 16)
  | [v, w, x] => ([UInt8.ofNat ((v * 64 + w) / 16), UInt8.ofNat (((v * 64 + w) % 16 * 64 + x) / 4)], ((v * 64 + w) % 16 * 64 + x) % 4)
  | v :: w :: x :: y :: r => (UInt8.ofNat ((v * 64 + w) / 16) :: UInt8.ofNat (((v * 64 + w) % 16 * 64 + x) / 4) :: UInt8.ofNat (((v * 64 + w) % 16 * 64 + x) % 4 * 64 + y) :: (decD r).1, (decD r).2)

theorem byte_of (a : UInt8) {n : Nat} (h : n = a.toNat) : UInt8.ofNat n = a := by subst h; exact UInt8.ofNat_toNat
theorem decD_dg (s : List UInt8) : decD (dg s) = (s, 0) := by
  induction s using dg.induct with
  | case1 => rfl
  | case2 a =>
    have := a.toNat_lt
    simp only [dg, decD]
    rw [byte_of a (by omega)]
    exact Prod.ext rfl (by simp only; omega)
  | case3 a b =>
    have := a.toNat_lt; have := b.toNat_lt
    simp only [dg, decD]
    rw [byte_of a (by omega), byte_of b (by omega)]
    exact Prod.ext rfl (by simp only; omega)
  | case4 a b c r ih =>
    have := a.toNat_lt; have := b.toNat_lt; have := c.toNat_lt
    simp only [dg, decD, ih]
    rw [byte_of a (by omega), byte_of b (by omega), byte_of c (by omega)]
theorem toNat_ofNat_lt {n : Nat} (h : n < 256) : (UInt8.ofNat n).toNat = n := by rw [UInt8.toNat_ofNat']; omega
theorem dg_decD (l : List Nat) (hl : ∀ n ∈ l, n < 64) (h1 : l.length % 4 ≠ 1) (h0 : (decD l).2 = 0) : dg (decD l).1 = l := by
  induction l using decD.induct with
  | case1 => rfl
  | case2 v => simp at h1
  | case3 v w =>
    have h1 := hl v (by simp); have h2 := hl w (by simp)
    simp only [decD] at h0
    simp only [decD, dg]
    rw [toNat_ofNat_lt (by omega)]
    have e1 : (v * 64 + w) / 16 / 4 = v := by omega
    have e2 : (v * 64 + w) / 16 % 4 * 16 = w := by omega
    rw [e1, e2]
  | case4 v w x =>
    have h1 := hl v (by simp); have h2 := hl w (by simp); have h3 := hl x (by simp)
    simp only [decD] at h0
    simp only [decD, dg]
    rw [toNat_ofNat_lt (by omega), toNat_ofNat_lt (by omega)]
    have e1 : (v * 64 + w) / 16 / 4 = v := by omega
    have e2 : (v * 64 + w) / 16 % 4 * 16 + ((v * 64 + w) % 16 * 64 + x) / 4 / 16 = w := by omega
    have e3 : ((v * 64 + w) % 16 * 64 + x) / 4 % 16 * 4 = x := by omega
    rw [e1, e2, e3]
  | case5 v w x y r ih =>
    have h1' := hl v (by simp); have h2 := hl w (by simp); have h3 := hl x (by simp); have h4 := hl y (by simp)
    simp only [decD] at h0
    simp only [List.length_cons] at h1
    have ih := ih (fun n hn => hl n (by simp [hn])) (by omega) h0
    simp only [decD, dg, ih]
    rw [toNat_ofNat_lt (by omega), toNat_ofNat_lt (by omega), toNat_ofNat_lt (by omega)]
    have e1 : (v * 64 + w) / 16 / 4 = v := by omega
    have e2 : (v * 64 + w) / 16 % 4 * 16 + ((v * 64 + w) % 16 * 64 + x) / 4 / 16 = w := by omega
    have e3 : ((v * 64 + w) % 16 * 64 + x) / 4 % 16 * 4 + (((v * 64 + w) % 16 * 64 + x) % 4 * 64 + y) / 64 = x := by omega
    have e4 : (((v * 64 + w) % 16 * 64 + x) % 4 * 64 + y) % 64 = y := by omega
    rw [e1, e2, e3, e4]
theorem decD_length (l : List Nat) : (decD l).1.length = l.length * 6 / 8 := by
  induction l using decD.induct with
  | case1 => rfl
  | case2 v => simp [decD]
  | case3 v w => simp [decD]
  | case4 v w x => simp [decD]
  | case5 v w x y r ih => simp only [decD, List.length_cons, ih]; omega
theorem decD_lt (l : List Nat) (hl : ∀ n ∈ l, n < 64) : (decD l).2 < 64 := by
  induction l using decD.induct with
  | case1 => decide
  | case2 v => exact hl v (by simp)
  | case3 v w => simp only [decD]; omega
  | case4 v w x => simp only [decD]; omega
  | case5 v w x y r ih => exact ih fun n hn => hl n (by simp [hn])

/-- A text without the = that it ends with, one at most. -/
def strip (l : List UInt8) : List UInt8 := Lib.trimSuffix l [61]
def hd (l : List UInt8) : List UInt8 := strip (strip l)
theorem strip_nil : strip [] = [] := by decide
theorem strip_snoc (l : List UInt8) : strip (l ++ [61]) = l := by
  have h : Lib.hasSuffix (l ++ [61]) [61] = true := by
    rw [Lib.hasSuffix, List.isSuffixOf_iff_suffix]; exact List.suffix_append l [61]
  simp only [strip, Lib.trimSuffix, h, if_true]
  simp
theorem strip_other (l : List UInt8) (c : UInt8) (hc : c ≠ 61) : strip (l ++ [c]) = l ++ [c] := by
  have h : Lib.hasSuffix (l ++ [c]) [61] = false := by
    rw [Bool.eq_false_iff, ne_eq, Lib.hasSuffix, List.isSuffixOf_iff_suffix]
    intro ⟨t, ht⟩
    have := List.append_inj_right' ht (by simp)
    simp at this
    exact hc this.symm
  simp [strip, Lib.trimSuffix, h]
theorem strip_cases (l : List UInt8) : (strip l = l ∧ ∀ t, l ≠ t ++ [61]) ∨ l = strip l ++ [61] := by
  rcases List.eq_nil_or_concat l with rfl | ⟨t, c, rfl⟩
  · left; exact ⟨strip_nil, fun t h => by simp at h⟩
  · rw [List.concat_eq_append]
    by_cases hc : c = 61
    · subst hc; right; rw [strip_snoc]
    · left; exact ⟨strip_other t c hc, fun u h => hc (by have := List.append_inj_right' h (by simp); simpa using this)⟩
/-- A text is its head, and = behind it: none, one or two. -/
theorem hd_eq (l : List UInt8) : ∃ k, k ≤ 2 ∧ l = hd l ++ List.replicate k 61 := by
  rcases strip_cases l with ⟨h1, h⟩ | h1
  · refine ⟨0, by omega, ?_⟩
    unfold hd; rw [h1, h1]; simp
  · rcases strip_cases (strip l) with ⟨h2, _⟩ | h2
    · exact ⟨1, by omega, by unfold hd; rw [h2]; exact h1⟩
    · refine ⟨2, by omega, ?_⟩
      show l = strip (strip l) ++ [61, 61]
      rw [show ([61, 61] : List UInt8) = [61] ++ [61] from rfl, ← List.append_assoc, ← h2]; exact h1

/-- Has a text the form? -/
def form (l : List UInt8) : Bool := ((hd l).all fun c => decide (0 ≤ vl c)) && !(hd l).isEmpty
/-- Is a text refused, by its form and its length? -/
def bad (l : List UInt8) : Bool := !form l || (hd l).length % 4 == 1 || (!(hd l == l) && !(l.length % 4 == 0))
def nums (l : List UInt8) : List Nat := l.map fun c => (vl c).toNat
def dec (l : List UInt8) : Option (List UInt8) := if l = [] then some [] else if bad l then none else if (decD (nums (hd l))).2 = 0 then some (decD (nums (hd l))).1 else none

theorem nums_lt (l : List UInt8) (h : (l.all fun c => decide (0 ≤ vl c)) = true) : ∀ n ∈ nums l, n < 64 := by
  intro n hn
  simp only [nums, List.mem_map] at hn
  obtain ⟨c, hc, rfl⟩ := hn
  have := List.all_eq_true.1 h c hc
  simp only [decide_eq_true_eq] at this
  rcases vl_cases c with h | h <;> omega
theorem nums_plain (l : List UInt8) (h : (l.all fun c => decide (0 ≤ vl c)) = true) : (nums l).map sg = l.map plain := by
  rw [nums, List.map_map]
  apply List.map_congr_left
  intro c hc
  have := List.all_eq_true.1 h c hc
  simp only [decide_eq_true_eq] at this
  rcases vl_cases c with h | h
  · omega
  · exact h.2.2
theorem nums_sg (l : List Nat) (h : ∀ n ∈ l, n < 64) : nums (l.map sg) = l := by
  rw [nums, List.map_map]
  conv => rhs; rw [← List.map_id l]
  apply List.map_congr_left
  intro n hn
  simp only [Function.comp, vl_sg n (h n hn), Int.toNat_natCast, id]

theorem hd_signs (l : List Nat) (h : ∀ n ∈ l, n < 64) (k : Nat) (hk : k ≤ 2) (hl : l ≠ []) : hd (l.map sg ++ List.replicate k 61) = l.map sg := by
  obtain ⟨t, n, rfl⟩ : ∃ t n, l = t ++ [n] := by
    rcases List.eq_nil_or_concat l with rfl | ⟨t, n, rfl⟩
    · exact absurd rfl hl
    · exact ⟨t, n, by simp⟩
  have hn := sg_ne n (h n (by simp))
  have e0 : strip ((t ++ [n]).map sg) = (t ++ [n]).map sg := by simp only [List.map_append, List.map_cons, List.map_nil]; exact strip_other _ _ hn
  rcases (show k = 0 ∨ k = 1 ∨ k = 2 by omega) with rfl | rfl | rfl
  · simp only [List.replicate_zero, List.append_nil]; unfold hd; rw [e0, e0]
  · show hd ((t ++ [n]).map sg ++ [61]) = _
    unfold hd; rw [strip_snoc, e0]
  · show hd ((t ++ [n]).map sg ++ [61, 61]) = _
    rw [show ([61, 61] : List UInt8) = [61] ++ [61] from rfl, ← List.append_assoc]
    unfold hd; rw [strip_snoc, strip_snoc]

theorem dg_ne (s : List UInt8) (h : s ≠ []) : dg s ≠ [] := by
  match s, h with
  | [a], _ => simp [dg]
  | [a, b], _ => simp [dg]
  | a :: b :: c :: r, _ => simp [dg]
theorem hd_enc (s : List UInt8) (h : s ≠ []) : hd (enc s) = (dg s).map sg := by
  rw [enc_eq]
  exact hd_signs _ (dg_lt s) _ (by omega) (dg_ne s h)
theorem all_sg (l : List Nat) (h : ∀ n ∈ l, n < 64) : ((l.map sg).all fun c => decide (0 ≤ vl c)) = true := by
  rw [List.all_eq_true]
  intro c hc
  obtain ⟨n, hn, rfl⟩ := List.mem_map.1 hc
  rw [vl_sg n (h n hn)]
  simp
theorem form_enc (s : List UInt8) : form (enc s) = !s.isEmpty := by
  by_cases h : s = []
  · subst h; decide
  · unfold form
    rw [hd_enc s h, all_sg _ (dg_lt s)]
    have := dg_ne s h
    cases s with
    | nil => exact absurd rfl h
    | cons a s => cases hd : dg (a :: s) with
      | nil => exact absurd hd this
      | cons => rfl
theorem dec_enc (s : List UInt8) : dec (enc s) = some s := by
  by_cases h : s = []
  · subst h; rfl
  have hne : enc s ≠ [] := by
    intro e
    have := congrArg List.length e
    rw [enc_length] at this
    have hl : 0 < s.length := List.length_pos_iff.2 h
    simp at this
    omega
  have hb : bad (enc s) = false := by
    unfold bad
    rw [form_enc, hd_enc s h, enc_length, List.length_map, dg_length]
    have e1 : s.isEmpty = false := by cases s with | nil => exact absurd rfl h | cons => rfl
    have e2 : ((s.length + 2) / 3 * 4 % 4 == 0) = true := by rw [beq_iff_eq]; omega
    have e3 : ((s.length / 3 * 4 + if s.length % 3 = 0 then 0 else s.length % 3 + 1) % 4 == 1) = false := by
      rw [beq_eq_false_iff_ne]; split <;> omega
    rw [e1, e2, e3]; simp
  unfold dec
  rw [if_neg hne, if_neg (by rw [hb]; decide), hd_enc s h, nums_sg _ (dg_lt s), decD_dg, if_pos rfl]

/-- = behind a text till its length is a multiple of 4. -/
def pad4 (l : List UInt8) : List UInt8 := l ++ List.replicate ((4 - l.length % 4) % 4) 61
theorem pad_arith (u m k : Nat) (hu : u = m * 6 / 8) (h1 : m % 4 ≠ 1) (hk : k ≤ 2) (h : k = 0 ∨ (m + k) % 4 = 0) : (3 - u % 3) % 3 = k + (4 - (m + k) % 4) % 4 := by
  obtain ⟨q, r, hm, hr⟩ : ∃ q r, m = 4 * q + r ∧ r < 4 := ⟨m / 4, m % 4, by omega, by omega⟩
  subst hm
  rcases (show r = 0 ∨ r = 1 ∨ r = 2 ∨ r = 3 by omega) with rfl | rfl | rfl | rfl <;> omega
theorem enc_dec (l u : List UInt8) (h : dec l = some u) : enc u = pad4 (l.map plain) := by
  unfold dec at h
  by_cases h0 : l = []
  · rw [if_pos h0] at h
    injection h with h
    subst h0; subst h; rfl
  rw [if_neg h0] at h
  by_cases hb : bad l
  · rw [if_pos hb] at h; cases h
  rw [if_neg hb] at h
  by_cases hz : (decD (nums (hd l))).2 = 0
  · rw [if_pos hz] at h
    injection h with h
    simp only [bad, Bool.or_eq_true, not_or, Bool.not_eq_true, Bool.not_eq_false', Bool.and_eq_true, not_and, beq_eq_false_iff_ne] at hb
    obtain ⟨⟨hf, h1⟩, h2⟩ := hb
    simp only [form, Bool.and_eq_true] at hf
    have hall := hf.1
    have hdg := dg_decD (nums (hd l)) (nums_lt _ hall) (by rw [nums, List.length_map]; exact h1) hz
    rw [h] at hdg
    obtain ⟨k, hk, hlk⟩ := hd_eq l
    have hul : u.length = (hd l).length * 6 / 8 := by rw [← h, decD_length, nums, List.length_map]
    rw [enc_eq, hdg, nums_plain _ hall, pad4, pd]
    have hlen : l.length = (hd l).length + k := by conv => lhs; rw [hlk]
                                                   rw [List.length_append, List.length_replicate]
    have hmap : l.map plain = (hd l).map plain ++ List.replicate k 61 := by
      conv => lhs; rw [hlk]
      rw [List.map_append, List.map_replicate, plain_eq]
    rw [hmap, List.append_assoc]
    congr 1
    rw [List.length_append, List.length_map, List.length_replicate, List.replicate_append_replicate]
    congr 1
    refine pad_arith _ _ _ hul h1 hk ?_
    by_cases hk0 : k = 0
    · exact Or.inl hk0
    · right
      have hne : hd l ≠ l := by
        intro e
        have := congrArg List.length e
        omega
      have h4 : l.length % 4 = 0 := by
        have := h2 (by simpa using hne)
        simpa using this
      omega
  · rw [if_neg hz] at h; cases h
end Go.Proofs.Ytigjmelngddbjaa.Bs
