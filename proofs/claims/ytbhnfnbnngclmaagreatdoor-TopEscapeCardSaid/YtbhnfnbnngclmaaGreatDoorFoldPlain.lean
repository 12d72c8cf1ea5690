/- Texts' small letters, trims, words and parts, over lists of bytes. No program in sight. -/
import Derived.Lib.DecodeN
import Derived.Lib.FieldsP
import Derived.Lib.SlTrimSet
namespace Go.Proofs.YtbhnfnbnngclmaaGreatDoor.Fo
open Go

/-- Is a byte a blank? -/
def bl (c : UInt8) : Bool := c == 9 || c == 10 || c == 12 || c == 13 || c == 32
/-- A byte's small letter. -/
def lc (c : UInt8) : UInt8 := if 65 ≤ c ∧ c ≤ 90 then c + 32 else c
def lower (l : List UInt8) : List UInt8 := l.map lc
def cut : List UInt8 := [9, 10, 12, 13, 32]
def trim (l : List UInt8) : List UInt8 := Lib.trimS l cut
theorem cut_bl (c : UInt8) : cut.contains c = bl c := by
  simp only [cut, bl, List.contains_cons, List.contains_nil, Bool.or_false]
  simp only [Bool.or_assoc]
theorem lc_lc (c : UInt8) : lc (lc c) = lc c := by
  unfold lc
  split
  · rename_i h
    rw [if_neg]
    intro h2
    have h1 := UInt8.le_iff_toNat_le.1 h.1; have h3 := UInt8.le_iff_toNat_le.1 h.2
    have h4 := UInt8.le_iff_toNat_le.1 h2.2
    rw [UInt8.toNat_add] at h4
    simp at h1 h3 h4
    omega
  · rfl
theorem lower_lower (l : List UInt8) : lower (lower l) = lower l := by
  unfold lower; rw [List.map_map]
  exact List.map_congr_left fun c _ => lc_lc c
theorem lower_length (l : List UInt8) : (lower l).length = l.length := by simp [lower]

theorem trim_eq (l : List UInt8) : trim l = ((l.reverse.dropWhile bl).reverse).dropWhile bl := by
  unfold trim Lib.trimS Lib.trimLeftS Lib.trimRightS
  rw [show (fun x => cut.contains x) = bl from funext cut_bl]
theorem dropWhile_head (p : UInt8 → Bool) (l : List UInt8) : ∀ x, (l.dropWhile p).head? = some x → p x = false := by
  induction l with
  | nil => intro x h; cases h
  | cons a l ih =>
    intro x h
    rw [List.dropWhile_cons] at h
    split at h
    · exact ih x h
    · rename_i hp; simp at h; subst h; simpa using hp
theorem dropWhile_id (p : UInt8 → Bool) (l : List UInt8) (h : ∀ x, l.head? = some x → p x = false) : l.dropWhile p = l := by
  cases l with
  | nil => rfl
  | cons a l => rw [List.dropWhile_cons, if_neg (by simp [h a rfl])]
theorem dropWhile_suffix (p : UInt8 → Bool) (l : List UInt8) : ∃ k, l.dropWhile p = l.drop k := by
  induction l with
  | nil => exact ⟨0, rfl⟩
  | cons a l ih =>
    rw [List.dropWhile_cons]
    split
    · obtain ⟨k, hk⟩ := ih; exact ⟨k + 1, by rw [hk]; rfl⟩
    · exact ⟨0, rfl⟩
theorem dropWhile_last (p : UInt8 → Bool) (l : List UInt8) (x : UInt8) (h : (l.dropWhile p).getLast? = some x) : l.getLast? = some x := by
  induction l with
  | nil => exact h
  | cons a l ih =>
    rw [List.dropWhile_cons] at h
    split at h
    · have := ih h
      cases l with
      | nil => cases this
      | cons b l => rw [List.getLast?_cons_cons]; exact this
    · exact h
theorem trim_first (l : List UInt8) (x : UInt8) (h : (trim l).head? = some x) : bl x = false := by rw [trim_eq] at h; exact dropWhile_head _ _ x h
theorem trim_last (l : List UInt8) (x : UInt8) (h : (trim l).getLast? = some x) : bl x = false := by
  rw [trim_eq] at h
  have := dropWhile_last _ _ x h
  rw [List.getLast?_reverse] at this
  exact dropWhile_head _ _ x this
theorem trim_trim (l : List UInt8) : trim (trim l) = trim l := by
  obtain ⟨t, ht⟩ : ∃ t, t = trim l := ⟨_, rfl⟩
  have h1 : ∀ x, t.head? = some x → bl x = false := fun x h => trim_first l x (ht ▸ h)
  have h2 : ∀ x, t.getLast? = some x → bl x = false := fun x h => trim_last l x (ht ▸ h)
  rw [← ht, trim_eq, dropWhile_id bl t.reverse (fun x hx => h2 x (by rw [← List.head?_reverse]; exact hx)), List.reverse_reverse, dropWhile_id bl t h1]
theorem trim_mem (l : List UInt8) (x : UInt8) (h : x ∈ trim l) : x ∈ l := by
  rw [trim_eq] at h
  have := (List.dropWhile_suffix bl).mem h
  rw [List.mem_reverse] at this
  have := (List.dropWhile_suffix bl).mem this
  rwa [List.mem_reverse] at this
theorem trim_length (l : List UInt8) : (trim l).length ≤ l.length := by
  rw [trim_eq]
  have h1 := (List.dropWhile_suffix bl (l := (l.reverse.dropWhile bl).reverse)).length_le
  have h2 := (List.dropWhile_suffix bl (l := l.reverse)).length_le
  rw [List.length_reverse] at h1 h2
  omega

/-- The words of a text; cur: the word that has begun. -/
def wgo : List UInt8 → List UInt8 → List (List UInt8)
  | cur, [] => if cur = [] then [] else [cur]
  | cur, c :: l => if bl c then (if cur = [] then wgo [] l else cur :: wgo [] l) else wgo (cur ++ [c]) l
def words (l : List UInt8) : List (List UInt8) := wgo [] l
theorem wgo_app (w : List UInt8) (h : ∀ c ∈ w, bl c = false) (cur r : List UInt8) : wgo cur (w ++ r) = wgo (cur ++ w) r := by
  induction w generalizing cur with
  | nil => simp
  | cons c w ih =>
    rw [List.cons_append, wgo, if_neg (by simp [h c (by simp)]), ih (fun x hx => h x (by simp [hx]))]
    simp
theorem wgo_all (cur l : List UInt8) (hc : ∀ c ∈ cur, bl c = false) : ∀ w ∈ wgo cur l, w ≠ [] ∧ ∀ c ∈ w, bl c = false := by
  induction l generalizing cur with
  | nil =>
    intro w hw
    rw [wgo] at hw
    split at hw
    · cases hw
    · rename_i hn; simp at hw; subst hw; exact ⟨hn, hc⟩
  | cons c l ih =>
    intro w hw
    rw [wgo] at hw
    split at hw
    · split at hw
      · exact ih [] (by simp) w hw
      · rename_i hn
        rcases List.mem_cons.1 hw with rfl | hw
        · exact ⟨hn, hc⟩
        · exact ih [] (by simp) w hw
    · rename_i hb
      exact ih (cur ++ [c]) (fun x hx => by
        rcases List.mem_append.1 hx with hx | hx
        · exact hc x hx
        · simp at hx; subst hx; simpa using hb) w hw
theorem words_all (l : List UInt8) : ∀ w ∈ words l, w ≠ [] ∧ ∀ c ∈ w, bl c = false := wgo_all [] l (by simp)
theorem wgo_word (w : List UInt8) (h0 : w ≠ []) (h : ∀ c ∈ w, bl c = false) (c : UInt8) (hb : bl c = true) (r : List UInt8) : wgo [] (w ++ [c, c] ++ r) = w :: wgo [] r := by
  rw [List.append_assoc, wgo_app w h]
  show wgo w (c :: c :: r) = _
  rw [wgo, if_pos hb, if_neg h0, wgo, if_pos hb, if_pos rfl]
/-- Words joined by blanks have the same words. -/
def spread (c : UInt8) (ws : List (List UInt8)) : List UInt8 := ws.flatMap fun w => w ++ [c, c]
theorem words_spread (c : UInt8) (hb : bl c = true) (ws : List (List UInt8)) (h : ∀ w ∈ ws, w ≠ [] ∧ ∀ c ∈ w, bl c = false) : words (c :: spread c ws) = ws := by
  rw [words, wgo, if_pos hb, if_pos rfl]
  induction ws with
  | nil => rfl
  | cons w ws ih =>
    rw [spread, List.flatMap_cons, ← spread, wgo_word w (h w (by simp)).1 (h w (by simp)).2 c hb, ih (fun x hx => h x (by simp [hx]))]
theorem wgo_length (cur l : List UInt8) : (wgo cur l).length ≤ l.length + (if cur = [] then 0 else 1) := by
  induction l generalizing cur with
  | nil => rw [wgo]; split <;> simp
  | cons c l ih =>
    rw [wgo]
    split
    · split
      · have := ih []; simp at this ⊢; omega
      · have := ih []; simp at this ⊢; omega
    · have := ih (cur ++ [c]); simp at this ⊢; omega
theorem words_length (l : List UInt8) : (words l).length ≤ l.length := by have := wgo_length [] l; simp at this; exact this
theorem wgo_total (cur l : List UInt8) : ((wgo cur l).map List.length).sum ≤ cur.length + l.length := by
  induction l generalizing cur with
  | nil => rw [wgo]; split <;> simp
  | cons c l ih =>
    rw [wgo]
    split
    · split
      · have := ih []; simp at this ⊢; omega
      · have := ih []; simp at this ⊢; omega
    · have := ih (cur ++ [c]); simp at this ⊢; omega

/-- The pieces of a text between a byte. -/
def sgo (sep : UInt8) : List UInt8 → List UInt8 → List (List UInt8)
  | cur, [] => [cur]
  | cur, c :: l => if c = sep then cur :: sgo sep [] l else sgo sep (cur ++ [c]) l
def split (sep : UInt8) (l : List UInt8) : List (List UInt8) := sgo sep [] l
def parts (sep : UInt8) (l : List UInt8) : List (List UInt8) := (split sep l).map trim
theorem sgo_app (sep : UInt8) (w : List UInt8) (h : sep ∉ w) (cur r : List UInt8) : sgo sep cur (w ++ r) = sgo sep (cur ++ w) r := by
  induction w generalizing cur with
  | nil => simp
  | cons c w ih =>
    have hc : c ≠ sep := fun e => h (by simp [e])
    rw [List.cons_append, sgo, if_neg hc, ih (fun hx => h (by simp [hx]))]
    simp
theorem split_none (sep : UInt8) (l : List UInt8) (h : sep ∉ l) : split sep l = [l] := by
  have := sgo_app sep l h [] []
  rw [List.append_nil] at this
  rw [split, this]; rfl
theorem split_one (sep : UInt8) (a r : List UInt8) (h : sep ∉ a) : split sep (a ++ sep :: r) = a :: split sep r := by
  rw [split, sgo_app sep a h, sgo, if_pos rfl]; rfl
theorem sgo_length (sep : UInt8) (cur l : List UInt8) : (sgo sep cur l).length = 1 + l.count sep := by
  induction l generalizing cur with
  | nil => simp [sgo]
  | cons c l ih =>
    rw [sgo, List.count_cons]
    split
    · rename_i h; subst h; rw [List.length_cons, ih]; simp; omega
    · rename_i h; rw [ih]; simp [h]
theorem split_length (sep : UInt8) (l : List UInt8) : (split sep l).length = 1 + l.count sep := sgo_length sep [] l
theorem parts_length (sep : UInt8) (l : List UInt8) : (parts sep l).length = 1 + l.count sep := by rw [parts, List.length_map, split_length]
theorem sgo_sep (sep : UInt8) (cur l : List UInt8) (hc : sep ∉ cur) : ∀ w ∈ sgo sep cur l, sep ∉ w := by
  induction l generalizing cur with
  | nil => intro w hw; simp [sgo] at hw; subst hw; exact hc
  | cons c l ih =>
    intro w hw
    rw [sgo] at hw
    split at hw
    · rcases List.mem_cons.1 hw with rfl | hw
      · exact hc
      · exact ih [] (by simp) w hw
    · rename_i hn
      refine ih (cur ++ [c]) ?_ w hw
      simp only [List.mem_append, List.mem_singleton, not_or]
      exact ⟨hc, fun e => hn e.symm⟩
/-- Pieces joined by the byte. -/
def inter (sep : UInt8) : List (List UInt8) → List UInt8
  | [] => []
  | [a] => a
  | a :: b :: l => a ++ sep :: inter sep (b :: l)
theorem split_inter (sep : UInt8) (ps : List (List UInt8)) (h0 : ps ≠ []) (h : ∀ p ∈ ps, sep ∉ p) : split sep (inter sep ps) = ps := by
  induction ps with
  | nil => exact absurd rfl h0
  | cons a l ih =>
    cases l with
    | nil => exact split_none sep a (h a (by simp))
    | cons b l => rw [inter, split_one sep a _ (h a (by simp)), ih (by simp) (fun p hp => h p (by simp [hp]))]
theorem parts_inter (sep : UInt8) (l : List UInt8) : parts sep (inter sep (parts sep l)) = parts sep l := by
  have h0 : parts sep l ≠ [] := fun e => by have := parts_length sep l; rw [e] at this; simp at this; omega
  have hs : ∀ p ∈ parts sep l, sep ∉ p := fun p hp hx => by
    simp only [parts, List.mem_map] at hp
    obtain ⟨q, hq, rfl⟩ := hp
    exact sgo_sep sep [] l (by simp) q hq (trim_mem q sep hx)
  rw [parts, split_inter sep _ h0 hs, parts, List.map_map]
  exact List.map_congr_left fun q _ => trim_trim q
/-- The joined text, one piece at a time. -/
theorem inter_snoc (sep : UInt8) (ps : List (List UInt8)) (h0 : ps ≠ []) (p : List UInt8) : inter sep (ps ++ [p]) = inter sep ps ++ sep :: p := by
  induction ps with
  | nil => exact absurd rfl h0
  | cons a l ih =>
    cases l with
    | nil => rfl
    | cons b l => rw [List.cons_append, List.cons_append, inter, ← List.cons_append, ih (by simp), inter]; simp
theorem sgo_total (sep : UInt8) (cur l : List UInt8) : ((sgo sep cur l).map List.length).sum ≤ cur.length + l.length := by
  induction l generalizing cur with
  | nil => simp [sgo]
  | cons c l ih =>
    rw [sgo]
    split
    · have := ih []; simp at this ⊢; omega
    · have := ih (cur ++ [c]); simp at this ⊢; omega

/-- The runes that are blanks. -/
def blR (x : Nat) : Bool := x == 9 || x == 10 || x == 12 || x == 13 || x == 32
theorem blR_of (c : UInt8) : blR c.toNat = bl c := by
  simp only [blR, bl]
  congr 1
  · congr 1
    · congr 1
      · congr 1
        · exact Bool.eq_iff_iff.2 (by simp [← UInt8.toNat_inj])
        · exact Bool.eq_iff_iff.2 (by simp [← UInt8.toNat_inj])
      · exact Bool.eq_iff_iff.2 (by simp [← UInt8.toNat_inj])
    · exact Bool.eq_iff_iff.2 (by simp [← UInt8.toNat_inj])
  · exact Bool.eq_iff_iff.2 (by simp [← UInt8.toNat_inj])
theorem bl_big (c : UInt8) (h : 128 ≤ c.toNat) : bl c = false := by
  rw [← blR_of]; simp [blR]; omega
end Go.Proofs.YtbhnfnbnngclmaaGreatDoor.Fo
