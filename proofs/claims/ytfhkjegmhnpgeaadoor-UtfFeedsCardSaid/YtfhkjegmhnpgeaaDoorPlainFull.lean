/- Is a code point's beginning whole? And where a row of bytes may be cut. Over lists of bytes, no program in sight. -/
import Derived.Test.YtfhkjegmhnpgeaaDoorPlainFeed
namespace Go.Proofs.YtfhkjegmhnpgeaaDoor.Ut
open Go

theorem bad_lead (N b0 a1 a2 a3 : Nat) (h0 : 128 ≤ b0) (hb : b0 < 256) (h : b0 < 194 ∨ 245 ≤ b0) : Lib.decodeN N b0 a1 a2 a3 = (65533, 1) := by
  unfold Lib.decodeN
  rw [if_neg (by omega)]
  split
  · rw [if_neg (by omega)]
  · rw [if_neg (by omega)]
    split
    · rw [if_neg (by omega)]
    · rfl
theorem bad_2 (N b0 a1 a2 a3 : Nat) (h0 : 194 ≤ b0) (hb : b0 < 224) (h : N ≤ 1 ∨ a1 / 64 ≠ 2) : Lib.decodeN N b0 a1 a2 a3 = (65533, 1) := by
  unfold Lib.decodeN
  rw [if_neg (by omega), if_neg (by omega), if_neg (by omega), if_neg (by omega)]
theorem val_2 (N b0 a1 a2 a3 : Nat) (h0 : 194 ≤ b0) (hb : b0 < 224) (hN : 1 < N) (h : a1 / 64 = 2) : Lib.decodeN N b0 a1 a2 a3 = (b0 % 32 * 64 + a1 % 64, 2) := by
  unfold Lib.decodeN
  rw [if_neg (by omega), if_pos (by omega), if_pos (by omega)]
theorem good_2 (N M b0 a1 a2 a3 b2 b3 : Nat) (h0 : 194 ≤ b0) (hb : b0 < 224) (hN : 1 < N) (hM : 1 < M) : Lib.decodeN N b0 a1 a2 a3 = Lib.decodeN M b0 a1 b2 b3 := by
  by_cases h : a1 / 64 = 2
  · rw [val_2 N b0 a1 a2 a3 h0 hb hN h, val_2 M b0 a1 b2 b3 h0 hb hM h]
  · rw [bad_2 N b0 a1 a2 a3 h0 hb (Or.inr h), bad_2 M b0 a1 b2 b3 h0 hb (Or.inr h)]
theorem bad_3 (N b0 a1 a2 a3 : Nat) (h0 : 224 ≤ b0) (hb : b0 < 240) (h : (b0 = 224 ∧ a1 < 160) ∨ (b0 = 237 ∧ 159 < a1) ∨ a1 / 64 ≠ 2 ∨ a2 / 64 ≠ 2) : Lib.decodeN N b0 a1 a2 a3 = (65533, 1) := by
  unfold Lib.decodeN
  rw [if_neg (by omega), if_neg (by omega)]
  split
  · rw [if_neg (by omega)]
  · rw [if_neg (by omega)]
theorem val_3 (N b0 a1 a2 a3 : Nat) (h0 : 224 ≤ b0) (hb : b0 < 240) (hN : 2 < N) (h1 : a1 / 64 = 2) (h2 : a2 / 64 = 2) : Lib.decodeN N b0 a1 a2 a3 =
    (if b0 % 16 * 4096 + a1 % 64 * 64 + a2 % 64 ≥ 2048 ∧ (b0 % 16 * 4096 + a1 % 64 * 64 + a2 % 64 < 55296 ∨ (57344 ≤ b0 % 16 * 4096 + a1 % 64 * 64 + a2 % 64 ∧ b0 % 16 * 4096 + a1 % 64 * 64 + a2 % 64 ≤ 1114111))
     then (b0 % 16 * 4096 + a1 % 64 * 64 + a2 % 64, 3) else (65533, 1)) := by
  unfold Lib.decodeN
  rw [if_neg (by omega), if_neg (by omega), if_pos (by omega)]
theorem good_3 (N M b0 a1 a2 a3 b3 : Nat) (h0 : 224 ≤ b0) (hb : b0 < 240) (hN : 2 < N) (hM : 2 < M) : Lib.decodeN N b0 a1 a2 a3 = Lib.decodeN M b0 a1 a2 b3 := by
  by_cases h : a1 / 64 = 2 ∧ a2 / 64 = 2
  · rw [val_3 N b0 a1 a2 a3 h0 hb hN h.1 h.2, val_3 M b0 a1 a2 b3 h0 hb hM h.1 h.2]
  · rw [bad_3 N b0 a1 a2 a3 h0 hb (by omega), bad_3 M b0 a1 a2 b3 h0 hb (by omega)]
theorem bad_4 (N b0 a1 a2 a3 : Nat) (h0 : 240 ≤ b0) (hb : b0 < 245) (h : (b0 = 240 ∧ a1 < 144) ∨ (b0 = 244 ∧ 143 < a1) ∨ a1 / 64 ≠ 2 ∨ a2 / 64 ≠ 2) : Lib.decodeN N b0 a1 a2 a3 = (65533, 1) := by
  unfold Lib.decodeN
  rw [if_neg (by omega), if_neg (by omega), if_neg (by omega)]
  split
  · rw [if_neg (by omega)]
  · rfl

/-- Is it seen of the first bytes what they are? -/
def Full (n b0 b1 b2 : Nat) : Prop := Lib.firstT b0 % 8 ≤ n ∨ (1 < n ∧ (b1 < Lib.accLo (Lib.firstT b0 / 16) ∨ Lib.accHi (Lib.firstT b0 / 16) < b1)) ∨ (2 < n ∧ (b2 < 128 ∨ 191 < b2))
theorem full_num (n m b0 b1 b2 b3 c1 c2 c3 : Nat) (hn : 1 ≤ n) (hn3 : n ≤ 3) (hm : n ≤ m) (hb0 : b0 < 256) (hb1 : b1 < 256) (hb2 : b2 < 256) (h1 : 1 < n → c1 = b1) (h2 : 2 < n → c2 = b2)
    (hf : Full n b0 b1 b2) : Lib.decodeN m b0 c1 c2 c3 = Lib.decodeN n b0 b1 b2 b3 := by
  unfold Full at hf
  by_cases k0 : b0 < 128
  · unfold Lib.decodeN; rw [if_pos k0, if_pos k0]
  by_cases k1 : b0 < 194 ∨ 245 ≤ b0
  · rw [bad_lead m b0 c1 c2 c3 (by omega) hb0 k1, bad_lead n b0 b1 b2 b3 (by omega) hb0 k1]
  by_cases k2 : b0 < 224
  · have hx : Lib.firstT b0 = 2 := by unfold Lib.firstT; rw [if_neg (by omega), if_neg (by omega), if_pos (by omega)]
    rw [hx] at hf
    have hn2 : 1 < n := by
      rcases hf with h | h | h
      · omega
      · exact h.1
      · omega
    obtain rfl := h1 hn2
    exact good_2 m n b0 c1 c2 c3 b2 b3 (by omega) k2 (by omega) hn2
  by_cases k3 : b0 < 240
  · by_cases hn3' : n = 3
    · obtain rfl := h1 (by omega)
      obtain rfl := h2 (by omega)
      exact good_3 m n b0 c1 c2 c3 b3 (by omega) k3 (by omega) (by omega)
    · have hx : Lib.firstT b0 % 8 = 3 := by
        unfold Lib.firstT
        rw [if_neg (by omega), if_neg (by omega), if_neg (by omega)]
        split
        · rfl
        · split
          · rfl
          · split
            · rfl
            · rfl
      rw [hx] at hf
      have hf2 : 1 < n ∧ (b1 < Lib.accLo (Lib.firstT b0 / 16) ∨ Lib.accHi (Lib.firstT b0 / 16) < b1) := by
        rcases hf with h | h | h
        · omega
        · exact h
        · omega
      obtain rfl := h1 hf2.1
      have hbad : (b0 = 224 ∧ c1 < 160) ∨ (b0 = 237 ∧ 159 < c1) ∨ c1 / 64 ≠ 2 := by
        have h := hf2.2
        unfold Lib.firstT at h
        rw [if_neg (by omega), if_neg (by omega), if_neg (by omega)] at h
        split at h
        · simp [Lib.accLo, Lib.accHi] at h; omega
        · split at h
          · simp [Lib.accLo, Lib.accHi] at h; omega
          · split at h
            · simp [Lib.accLo, Lib.accHi] at h; omega
            · simp [Lib.accLo, Lib.accHi] at h; omega
      rw [bad_3 m b0 c1 c2 c3 (by omega) k3 (by omega), bad_3 n b0 c1 b2 b3 (by omega) k3 (by omega)]
  · have hx : Lib.firstT b0 % 8 = 4 := by
      unfold Lib.firstT
      rw [if_neg (by omega), if_neg (by omega), if_neg (by omega), if_neg (by omega), if_neg (by omega), if_neg (by omega), if_neg (by omega)]
      split
      · rfl
      · split
        · rfl
        · rw [if_pos (by omega)]
    rw [hx] at hf
    have hacc : (b1 < Lib.accLo (Lib.firstT b0 / 16) ∨ Lib.accHi (Lib.firstT b0 / 16) < b1) → (b0 = 240 ∧ b1 < 144) ∨ (b0 = 244 ∧ 143 < b1) ∨ b1 / 64 ≠ 2 := by
      intro h
      unfold Lib.firstT at h
      rw [if_neg (by omega), if_neg (by omega), if_neg (by omega), if_neg (by omega), if_neg (by omega), if_neg (by omega), if_neg (by omega)] at h
      split at h
      · simp [Lib.accLo, Lib.accHi] at h; omega
      · split at h
        · simp [Lib.accLo, Lib.accHi] at h; omega
        · rw [if_pos (by omega)] at h; simp [Lib.accLo, Lib.accHi] at h; omega
    rcases hf with h | h | h
    · omega
    · obtain rfl := h1 h.1
      have := hacc h.2
      rw [bad_4 m b0 c1 c2 c3 (by omega) (by omega) (by omega), bad_4 n b0 c1 b2 b3 (by omega) (by omega) (by omega)]
    · obtain rfl := h2 h.1
      rw [bad_4 m b0 c1 c2 c3 (by omega) (by omega) (by omega), bad_4 n b0 b1 c2 b3 (by omega) (by omega) (by omega)]

def FullL (l : List UInt8) : Prop := Full l.length (l.getD 0 0).toNat (l.getD 1 0).toNat (l.getD 2 0).toNat
/-- A whole beginning, and bytes that go on behind it: bytes may be cut behind them. -/
theorem dec_full (c : UInt8) (l y : List UInt8) (hl : ∀ x ∈ l, co x = true) (hn : l.length ≤ 2) (hf : FullL (c :: l)) : dec (c :: l ++ y) = dec (c :: l) ++ dec y := by
  refine dec_step (c :: l) y (by simp) ?_ (dec_tail _ y ?_)
  · unfold dN
    rw [getD_app _ y 0 (by simp)]
    refine full_num _ _ _ _ _ _ _ _ _ (by simp) (by simp; omega) (by simp) (UInt8.toNat_lt _) (UInt8.toNat_lt _) (UInt8.toNat_lt _) (fun h => by rw [getD_app _ y 1 h]) (fun h => by rw [getD_app _ y 2 h]) hf
  · have hp := dN_pos (c :: l) (by simp)
    obtain ⟨k, hk⟩ : ∃ k, (dN (c :: l)).2 = k + 1 := ⟨(dN (c :: l)).2 - 1, by omega⟩
    rw [hk]
    intro i x hi _
    simp only [List.drop_succ_cons, List.getElem?_drop] at hi
    exact hl x (List.mem_of_getElem? hi)

/-- Where the last beginning is that is not whole: how many bytes are kept (0: none). -/
def Cut (l : List UInt8) (k : Nat) : Prop :=
  (k = 0 ∧ ((∃ r c t, l = r ++ c :: t ∧ co c = false ∧ (∀ x ∈ t, co x = true) ∧ t.length ≤ 2 ∧ FullL (c :: t)) ∨ Tail l)) ∨
  (1 ≤ k ∧ k ≤ 3 ∧ k ≤ l.length ∧ Stop (l.drop (l.length - k)) )
theorem dec_cut (l y : List UInt8) (k : Nat) (h : Cut l k) : dec (l ++ y) = dec (l.take (l.length - k)) ++ dec (l.drop (l.length - k) ++ y) := by
  rcases h with ⟨rfl, h⟩ | ⟨h1, h3, hk, hs⟩
  · rw [Nat.sub_zero, List.take_length, List.drop_length, List.nil_append]
    rcases h with ⟨r, c, t, rfl, hc, ht, hn, hf⟩ | h
    · have hst : ∀ z, Stop (c :: t ++ z) := fun z x hx => by simp at hx; subst hx; exact hc
      rw [List.append_assoc, dec_stop r _ (hst y), dec_full c t y ht hn hf, ← List.append_assoc, ← dec_stop r _ (by simpa using hst [])]
    · exact dec_tail l y h
  · conv => lhs; rw [← List.take_append_drop (l.length - k) l]
    rw [List.append_assoc]
    refine dec_stop _ _ fun c hc => ?_
    have hne : l.drop (l.length - k) ≠ [] := fun e => by have := congrArg List.length e; rw [List.length_drop] at this; simp at this; omega
    cases hd : l.drop (l.length - k) with
    | nil => exact absurd hd hne
    | cons a r => rw [hd] at hc hs; simp at hc; subst hc; exact hs a rfl
end Go.Proofs.YtfhkjegmhnpgeaaDoor.Ut
