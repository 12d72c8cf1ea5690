/- strings.FieldsFunc at the blanks: over runes as over bytes. No program in sight. -/
import Derived.Test.YtbhnfnbnngclmaaGreatDoorFoldPlain
namespace Go.Proofs.YtbhnfnbnngclmaaGreatDoor.Fo
open Go

theorem decodeN_big (n b0 b1 b2 b3 : Nat) (h : 128 ≤ b0) (hn : 1 ≤ n) :
    128 ≤ (Lib.decodeN n b0 b1 b2 b3).1 ∧ 1 ≤ (Lib.decodeN n b0 b1 b2 b3).2 ∧ (Lib.decodeN n b0 b1 b2 b3).2 ≤ n ∧ (Lib.decodeN n b0 b1 b2 b3).2 ≤ 4 ∧
      (2 ≤ (Lib.decodeN n b0 b1 b2 b3).2 → 128 ≤ b1) ∧ (3 ≤ (Lib.decodeN n b0 b1 b2 b3).2 → 128 ≤ b2) ∧ (4 ≤ (Lib.decodeN n b0 b1 b2 b3).2 → 128 ≤ b3) := by
  unfold Lib.decodeN
  rw [if_neg (by omega)]
  split
  · rename_i h1
    split <;> refine ⟨?_, ?_, ?_, ?_, ?_, ?_, ?_⟩ <;> (try intro _) <;> simp only at * <;> omega
  · split
    · rename_i h1
      split <;> refine ⟨?_, ?_, ?_, ?_, ?_, ?_, ?_⟩ <;> (try intro _) <;> simp only at * <;> omega
    · split
      · rename_i h1
        split <;> refine ⟨?_, ?_, ?_, ?_, ?_, ?_, ?_⟩ <;> (try intro _) <;> simp only at * <;> omega
      · refine ⟨?_, ?_, ?_, ?_, ?_, ?_, ?_⟩ <;> (try intro _) <;> simp only at * <;> omega
theorem get_list (s : ByteArray) (i : Nat) : s.get! i = s.data.toList.getD i 0 := by
  show s.data[i]! = _
  rw [List.getD_eq_getElem?_getD, Array.getElem?_toList, getElem!_def]
  cases s.data[i]? <;> rfl
/-- What one step of the decoder goes over: a blank, or bytes that are none. -/
theorem step (s : ByteArray) (pos : Nat) (h : pos < s.size) :
    1 ≤ (Utf8.decode s pos).2 ∧ pos + (Utf8.decode s pos).2 ≤ s.size ∧
      (blR (Utf8.decode s pos).1 = true → ∃ c, s.data.toList.drop pos = c :: s.data.toList.drop (pos + (Utf8.decode s pos).2) ∧ bl c = true) ∧
      (blR (Utf8.decode s pos).1 = false → ∃ w, w ≠ [] ∧ s.data.toList.drop pos = w ++ s.data.toList.drop (pos + (Utf8.decode s pos).2) ∧ ∀ c ∈ w, bl c = false) := by
  have hl : s.data.toList.length = s.size := by rw [Array.length_toList]; rfl
  obtain ⟨l, hl'⟩ : ∃ l, l = s.data.toList := ⟨_, rfl⟩
  rw [← hl'] at hl ⊢
  have hd : l.drop pos = l[pos] :: l.drop (pos + 1) := List.drop_eq_getElem_cons (by omega)
  rw [Lib.decode_at, get_list, get_list, get_list, get_list, ← hl']
  have g0 : l.getD pos 0 = l[pos] := by simp [List.getD_eq_getElem?_getD, List.getElem?_eq_getElem (show pos < l.length by omega)]
  by_cases hb : (l.getD pos 0).toNat < 128
  · have hx : Lib.decodeN (s.size - pos) (l.getD pos 0).toNat (l.getD (pos + 1) 0).toNat (l.getD (pos + 2) 0).toNat (l.getD (pos + 3) 0).toNat = ((l.getD pos 0).toNat, 1) := by
      unfold Lib.decodeN; rw [if_pos hb]
    rw [hx]
    refine ⟨Nat.le_refl _, by simp only; omega, fun hp => ⟨l[pos], hd, ?_⟩, fun hp => ⟨[l[pos]], by simp, hd, fun c hc => ?_⟩⟩
    · simp only at hp; rw [blR_of, g0] at hp; exact hp
    · simp only [List.mem_singleton] at hc; subst hc
      simp only at hp; rw [blR_of, g0] at hp; exact hp
  · have hx := decodeN_big (s.size - pos) (l.getD pos 0).toNat (l.getD (pos + 1) 0).toNat (l.getD (pos + 2) 0).toNat (l.getD (pos + 3) 0).toNat (by omega) (by omega)
    obtain ⟨d, hdd⟩ : ∃ d, d = Lib.decodeN (s.size - pos) (l.getD pos 0).toNat (l.getD (pos + 1) 0).toNat (l.getD (pos + 2) 0).toNat (l.getD (pos + 3) 0).toNat := ⟨_, rfl⟩
    rw [← hdd] at hx ⊢
    obtain ⟨h1, h2, h3, h4, h5, h6, h7⟩ := hx
    refine ⟨h2, by omega, fun hp => ?_, fun _ => ⟨(l.drop pos).take d.2, ?_, ?_, ?_⟩⟩
    · exfalso; simp [blR] at hp; omega
    · rw [hd]; cases hn : d.2 with
      | zero => omega
      | succ k => simp; omega
    · rw [← List.drop_drop, List.take_append_drop]
    · intro c hc
      obtain ⟨j, hj⟩ := List.getElem?_of_mem hc
      have hjl : j < ((l.drop pos).take d.2).length := (List.getElem?_eq_some_iff.1 hj).1
      rw [List.length_take, List.length_drop] at hjl
      rw [List.getElem?_take, if_pos (by omega), List.getElem?_drop] at hj
      have hg : l.getD (pos + j) 0 = c := by rw [List.getD_eq_getElem?_getD, hj]; rfl
      apply bl_big
      rw [← hg]
      rcases Nat.lt_or_ge j 1 with e | e
      · obtain rfl : j = 0 := by omega
        simp only [Nat.add_zero]; omega
      · rcases Nat.lt_or_ge j 2 with e2 | e2
        · obtain rfl : j = 1 := by omega
          exact h5 (by omega)
        · rcases Nat.lt_or_ge j 3 with e3 | e3
          · obtain rfl : j = 2 := by omega
            exact h6 (by omega)
          · obtain rfl : j = 3 := by omega
            exact h7 (by omega)

def piece (s : ByteArray) (x : Nat × Nat) : List UInt8 := (s.data.toList.take x.2).drop x.1
theorem extract_piece (s : ByteArray) (a b : Nat) : (s.extract a b).data.toList = piece s (a, b) := by
  simp [piece, List.extract_eq_take_drop, List.drop_take]
theorem spans_words (s : ByteArray) : ∀ (f pos : Nat) (st : Option Nat) (acc : List (Nat × Nat)), pos ≤ s.size → s.size ≤ pos + f → (∀ a, st = some a → a < pos) →
    (Lib.closeSpans s (Lib.spansFromP blR s f pos st acc)).map (piece s) = acc.map (piece s) ++ wgo (match st with | some a => piece s (a, pos) | none => []) (s.data.toList.drop pos) := by
  have hl : s.data.toList.length = s.size := by rw [Array.length_toList]; rfl
  have hend : ∀ (pos : Nat) (st : Option Nat) (acc : List (Nat × Nat)), pos = s.size → (∀ a, st = some a → a < pos) →
      (Lib.closeSpans s (acc, st)).map (piece s) = acc.map (piece s) ++ wgo (match st with | some a => piece s (a, pos) | none => []) (s.data.toList.drop pos) := by
    intro pos st acc hp hst
    subst hp
    rw [List.drop_eq_nil_of_le (by omega)]
    cases st with
    | none => simp [Lib.closeSpans, wgo]
    | some a =>
      have ha := hst a rfl
      have hne : piece s (a, s.size) ≠ [] := by
        unfold piece; simp only
        intro e
        have := congrArg List.length e
        simp at this; omega
      simp only [Lib.closeSpans, List.map_append, wgo, if_neg hne, List.map_cons, List.map_nil]
  intro f
  induction f with
  | zero => intro pos st acc h1 h2 hst; exact hend pos st acc (by omega) hst
  | succ f ih =>
    intro pos st acc h1 h2 hst
    by_cases hlt : pos < s.size
    · obtain ⟨k1, k2, k3, k4⟩ := step s pos hlt
      unfold Lib.spansFromP
      rw [if_pos hlt]
      obtain ⟨r, n, hrn⟩ : ∃ r n, Utf8.decode s pos = (r, n) := ⟨_, _, rfl⟩
      rw [hrn] at k1 k2 k3 k4 ⊢
      simp only at k1 k2 k3 k4 ⊢
      cases hb : blR r with
      | true =>
        obtain ⟨c, hc, hbc⟩ := k3 hb
        rw [if_pos rfl, hc, wgo, if_pos hbc]
        cases st with
        | none =>
          simp only [if_true]
          rw [ih (pos + n) none acc k2 (by omega) (fun a h => by cases h)]
        | some a =>
          have ha := hst a rfl
          have hne : piece s (a, pos) ≠ [] := by
            unfold piece; simp only
            intro e
            have := congrArg List.length e
            simp at this; omega
          simp only [if_neg hne]
          rw [ih (pos + n) none _ k2 (by omega) (fun a h => by cases h)]
          simp
      | false =>
        obtain ⟨w, hw0, hw, hall⟩ := k4 hb
        rw [if_neg (by simp), hw, wgo_app w hall]
        have hwn : w.length = n := by
          have := congrArg List.length hw
          simp only [List.length_append, List.length_drop] at this
          omega
        have htk : s.data.toList.take (pos + n) = s.data.toList.take pos ++ w := by
          rw [List.take_add, hw, ← hwn, List.take_left]
        cases st with
        | none =>
          simp only []
          rw [ih (pos + n) (some pos) acc k2 (by omega) (fun a h => by cases h; omega)]
          simp only [List.nil_append]
          congr 2
          unfold piece
          simp only
          rw [htk, List.drop_append_of_le_length (by simp; omega), List.drop_eq_nil_of_le (by simp; omega), List.nil_append]
        | some a =>
          have ha := hst a rfl
          simp only []
          rw [ih (pos + n) (some a) acc k2 (by omega) (fun b h => by cases h; omega)]
          simp only []
          congr 2
          unfold piece
          simp only
          rw [htk, List.drop_append_of_le_length (by simp; omega)]
    · unfold Lib.spansFromP
      rw [if_neg hlt]
      exact hend pos st acc (by omega) hst
theorem fields_words (s : ByteArray) : (Lib.goFieldsP blR s).map (fun t => t.data.toList) = words s.data.toList := by
  unfold Lib.goFieldsP Lib.spansOfP
  rw [List.map_map]
  have := spans_words s s.size 0 none [] (Nat.zero_le _) (by omega) (fun a h => by cases h)
  rw [List.drop_zero] at this
  simp only [List.map_nil, List.nil_append] at this
  rw [words, ← this]
  exact List.map_congr_left fun x _ => extract_piece s x.1 x.2
end Go.Proofs.YtbhnfnbnngclmaaGreatDoor.Fo
