/- Policies' texts and their parsing, over lists of bytes: what is printed is parsed as it, what is parsed is right. No program in sight. -/
import Derived.Test.YteghldoglffabaaDoorHJ
namespace Go.Proofs.YteghldoglffabaaDoor
open Go

abbrev DB := ByteArray × List ByteArray
theorem u8_all (p : UInt8 → Bool) (h : ((List.range 256).all fun n => p (UInt8.ofNat n)) = true) (c : UInt8) : p c = true := by
  have := List.all_eq_true.1 h c.toNat (List.mem_range.2 (UInt8.toNat_lt c))
  rwa [UInt8.ofNat_toNat] at this
theorem nc_facts (c : UInt8) (h : Hd.nc c = true) : Fo.bl c = false ∧ Fo.lc c = c ∧ c ≠ 44 ∧ c ≠ 59 := by
  have := u8_all (fun c => !Hd.nc c || (!Fo.bl c && (Fo.lc c == c) && !(c == 44) && !(c == 59))) (by decide +kernel) c
  simp only [h, Bool.not_true, Bool.false_or, Bool.and_eq_true, Bool.not_eq_true', beq_iff_eq, beq_eq_false_iff_ne] at this
  exact ⟨this.1.1.1, this.1.1.2, this.1.2, this.2⟩
theorem wc_facts (c : UInt8) (h : Hd.wc c = true) : Fo.bl c = false ∧ c ≠ 44 ∧ c ≠ 59 := by
  have := u8_all (fun c => !Hd.wc c || (!Fo.bl c && !(c == 44) && !(c == 59))) (by decide +kernel) c
  simp only [h, Bool.not_true, Bool.false_or, Bool.and_eq_true, Bool.not_eq_true', beq_eq_false_iff_ne] at this
  exact ⟨this.1.1, this.1.2, this.2⟩
/-- A text without blanks, commas, semicolons, that is not empty. -/
def Plain (w : List UInt8) : Prop := w ≠ [] ∧ ∀ c ∈ w, Fo.bl c = false ∧ c ≠ 44 ∧ c ≠ 59
theorem word_plain {w : List UInt8} (h : Hd.word w = true) : Plain w := by
  unfold Hd.word at h
  rw [Bool.and_eq_true] at h
  refine ⟨fun e => by subst e; simp at h, fun c hc => wc_facts c (List.all_eq_true.1 h.1 c hc)⟩
theorem name_plain {w : List UInt8} (h : Hd.name w = true) : Plain w ∧ Fo.lower w = w ∧ w.length ≤ 40 := by
  unfold Hd.name at h
  simp only [Bool.and_eq_true, decide_eq_true_eq] at h
  obtain ⟨⟨h1, h2⟩, h3⟩ := h
  have hc := fun c hc => nc_facts c (List.all_eq_true.1 h2 c hc)
  refine ⟨⟨fun e => by subst e; simp at h3, fun c h => ⟨(hc c h).1, (hc c h).2.2⟩⟩, ?_, h1⟩
  unfold Fo.lower
  conv => rhs; rw [← List.map_id w]
  exact List.map_congr_left fun c h => (hc c h).2.1

/-! Words of a text. -/
theorem last_app {α : Type} (a b : List α) (h : b ≠ []) : (a ++ b).getLast? = b.getLast? := by
  rw [List.getLast?_append]
  cases b with
  | nil => exact absurd rfl h
  | cons x r => rw [List.getLast?_cons]; rfl
theorem head_app {α : Type} (a b : List α) (h : a ≠ []) : (a ++ b).head? = a.head? := by
  cases a with
  | nil => exact absurd rfl h
  | cons x r => rfl
theorem joinTail_nil (sep : List UInt8) : Lib.joinTail sep [] = [] := rfl
theorem joinTail_cons (sep y : List UInt8) (r : List (List UInt8)) : Lib.joinTail sep (y :: r) = sep ++ (y ++ Lib.joinTail sep r) := by
  simp [Lib.joinTail]
theorem words_join (r : List (List UInt8)) (hr : ∀ w ∈ r, Plain w) : ∀ x, Plain x → Fo.words (x ++ Lib.joinTail [32] r) = x :: r := by
  induction r with
  | nil =>
    intro x hx
    rw [joinTail_nil, List.append_nil, Fo.words]
    have := Fo.wgo_app x (fun c hc => (hx.2 c hc).1) [] []
    rw [List.append_nil] at this
    rw [this, List.nil_append, Fo.wgo, if_neg hx.1]
  | cons y r ih =>
    intro x hx
    have h1 := ih (fun w hw => hr w (List.mem_cons_of_mem _ hw)) y (hr y (List.mem_cons_self ..))
    rw [joinTail_cons, Fo.words, Fo.wgo_app x (fun c hc => (hx.2 c hc).1), List.nil_append]
    show Fo.wgo x (32 :: (y ++ Lib.joinTail [32] r)) = _
    rw [Fo.wgo, if_pos (show Fo.bl 32 = true from rfl), if_neg hx.1]
    exact congrArg (x :: ·) h1
/-- A text that has neither comma nor semicolon, and begins and ends with no blank. -/
def Tight (t : List UInt8) : Prop := t ≠ [] ∧ (∀ x, t.head? = some x → Fo.bl x = false) ∧ (∀ x, t.getLast? = some x → Fo.bl x = false)
theorem tight_join (r : List (List UInt8)) (hr : ∀ w ∈ r, Plain w) : ∀ x, Plain x → Tight (x ++ Lib.joinTail [32] r) := by
  have key : ∀ x, Plain x → ∀ y, (x ++ Lib.joinTail [32] r).getLast? = some y → Fo.bl y = false := by
    induction r with
    | nil =>
      intro x hx y hy
      rw [joinTail_nil, List.append_nil] at hy
      exact (hx.2 y (List.mem_of_getLast? hy)).1
    | cons z r ih =>
      intro x hx y hy
      rw [joinTail_cons, ← List.append_assoc] at hy
      have hz := hr z (List.mem_cons_self ..)
      rw [last_app _ _ (by simp [hz.1])] at hy
      exact ih (fun w hw => hr w (List.mem_cons_of_mem _ hw)) z hz y hy
  intro x hx
  refine ⟨by simp [hx.1], fun y hy => ?_, key x hx⟩
  obtain ⟨a, l, rfl⟩ : ∃ a l, x = a :: l := by cases x with
    | nil => exact absurd rfl hx.1
    | cons a l => exact ⟨a, l, rfl⟩
  simp at hy
  subst hy
  exact (hx.2 _ (List.mem_cons_self ..)).1
theorem trim_tight {t : List UInt8} (h : Tight t) : Fo.trim t = t := by
  rw [Fo.trim_eq, Fo.dropWhile_id Fo.bl t.reverse (fun x hx => h.2.2 x (by rw [← List.head?_reverse]; exact hx)), List.reverse_reverse, Fo.dropWhile_id Fo.bl t h.2.1]
theorem trim_blank {t : List UInt8} (h : Tight t) : Fo.trim (32 :: t) = t := by
  have hr : (32 :: t).reverse = t.reverse ++ [32] := by simp
  have hne : t.reverse ≠ [] := by simp [h.1]
  have h1 : (32 :: t).reverse.dropWhile Fo.bl = (32 :: t).reverse := Fo.dropWhile_id Fo.bl _ (fun x hx => by
    rw [hr, head_app _ _ hne, List.head?_reverse] at hx
    exact h.2.2 x hx)
  rw [Fo.trim_eq, h1, List.reverse_reverse, List.dropWhile_cons, if_pos (show Fo.bl 32 = true from rfl), Fo.dropWhile_id Fo.bl t h.2.1]
theorem split_join (r : List (List UInt8)) (hr : ∀ t ∈ r, (59 : UInt8) ∉ t) : ∀ p : List UInt8, (59 : UInt8) ∉ p → Fo.split 59 (p ++ Lib.joinTail [59, 32] r) = p :: r.map (32 :: ·) := by
  induction r with
  | nil => intro p hp; rw [joinTail_nil, List.append_nil, Fo.split_none 59 p hp]; rfl
  | cons y r ih =>
    intro p hp
    rw [joinTail_cons]
    show Fo.split 59 (p ++ 59 :: ((32 :: y) ++ Lib.joinTail [59, 32] r)) = _
    rw [Fo.split_one 59 p _ hp, ih (fun t ht => hr t (List.mem_cons_of_mem _ ht)) (32 :: y) (by
      simp only [List.mem_cons, not_or]
      exact ⟨by decide, hr y (List.mem_cons_self ..)⟩)]
    rfl
theorem parts_join (ts : List (List UInt8)) (h0 : ts ≠ []) (h : ∀ t ∈ ts, (59 : UInt8) ∉ t ∧ Tight t) : Fo.parts 59 (Lib.join ts [59, 32]) = ts := by
  cases ts with
  | nil => exact absurd rfl h0
  | cons p r =>
    rw [Lib.join_cons, Fo.parts, split_join r (fun t ht => (h t (List.mem_cons_of_mem _ ht)).1) p (h p (List.mem_cons_self ..)).1, List.map_cons, trim_tight (h p (List.mem_cons_self ..)).2, List.map_map]
    congr 1
    conv => rhs; rw [← List.map_id r]
    exact List.map_congr_left fun t ht => trim_blank (h t (List.mem_cons_of_mem _ ht)).2

/-! A right directive, its text. -/
def OkD (d : DB) : Prop := Hd.name d.1.data.toList = true ∧ d.2.length ≤ 200 ∧ ∀ s ∈ d.2, Hd.word s.data.toList = true
theorem oddB_false {ss : List ByteArray} : oddB ss = false ↔ ∀ s ∈ ss, Hd.word s.data.toList = true := by
  unfold oddB
  rw [List.any_eq_false]
  simp
theorem dirText_cons (d : DB) : dirTextB d = d.1.data.toList ++ Lib.joinTail [32] (d.2.map (·.data.toList)) := by
  unfold dirTextB
  rw [List.map_cons, Lib.join_cons]
theorem words_map {d : DB} (h : OkD d) : ∀ w ∈ d.2.map (·.data.toList), Plain w := fun w hw => by
  obtain ⟨s, hs, rfl⟩ := List.mem_map.1 hw
  exact word_plain (h.2.2 s hs)
theorem joinTail_mem {sep : List UInt8} {r : List (List UInt8)} {c : UInt8} (h : c ∈ Lib.joinTail sep r) : c ∈ sep ∨ ∃ w ∈ r, c ∈ w := by
  unfold Lib.joinTail at h
  obtain ⟨l, hl, hc⟩ := List.mem_flatten.1 h
  obtain ⟨w, hw, rfl⟩ := List.mem_map.1 hl
  rcases List.mem_append.1 hc with h | h
  · exact .inl h
  · exact .inr ⟨w, hw, h⟩
theorem dirText_mem {d : DB} (h : OkD d) (c : UInt8) (hc : c ∈ dirTextB d) : c ≠ 44 ∧ c ≠ 59 := by
  rw [dirText_cons] at hc
  rcases List.mem_append.1 hc with hc | hc
  · exact ((name_plain h.1).1.2 c hc).2
  · rcases joinTail_mem hc with hc | ⟨w, hw, hc⟩
    · simp at hc; subst hc; exact ⟨by decide, by decide⟩
    · exact ((words_map h w hw).2 c hc).2
theorem dirText_tight {d : DB} (h : OkD d) : Tight (dirTextB d) := by
  rw [dirText_cons]; exact tight_join _ (words_map h) _ (name_plain h.1).1
theorem bs_data (ss : List ByteArray) : bs (ss.map (·.data.toList)) = ss := by
  unfold bs
  rw [List.map_map]
  conv => rhs; rw [← List.map_id ss]
  exact List.map_congr_left fun s _ => mk_data' s
theorem dirB_text {d : DB} (h : OkD d) : dirB (dirTextB d) = some d := by
  have hw : Fo.words (dirTextB d) = d.1.data.toList :: d.2.map (·.data.toList) := by
    rw [dirText_cons]; exact words_join _ (words_map h) _ (name_plain h.1).1
  unfold dirB
  rw [hw]
  show (if Hd.name (Fo.lower d.1.data.toList) = true then _ else none) = _
  rw [(name_plain h.1).2.1, if_pos h.1]
  have : restOf (bs (d.1.data.toList :: d.2.map (·.data.toList))) = d.2 := by
    unfold restOf
    show (((bs (d.2.map (·.data.toList))).take 200).filter _) = _
    rw [bs_data, List.take_of_length_le h.2.1, List.filter_eq_self.2 h.2.2]
  rw [this, mk_data']
theorem dirsB_text (ds : List DB) (h0 : ds ≠ []) (h : ∀ d ∈ ds, OkD d) : dirsB (printB ds) = ds := by
  unfold dirsB printB
  rw [parts_join (ds.map dirTextB) (by simp [h0]) (fun t ht => by
    obtain ⟨d, hd, rfl⟩ := List.mem_map.1 ht
    exact ⟨fun hc => (dirText_mem (h d hd) 59 hc).2 rfl, dirText_tight (h d hd)⟩), List.filterMap_map]
  clear h0
  induction ds with
  | nil => rfl
  | cons d r ih =>
    rw [List.filterMap_cons]
    simp only [Function.comp_apply]
    rw [dirB_text (h d (List.mem_cons_self ..)), ih (fun x hx => h x (List.mem_cons_of_mem _ hx))]

/-! Directives that are right together. -/
def names (ds : List DB) : List (List UInt8) := ds.map fun d => d.1.data.toList
theorem findB_some (ds : List DB) (n : List UInt8) : (findB ds n).isSome = (names ds).contains n := by
  unfold findB names
  induction ds with
  | nil => rfl
  | cons d r ih =>
    simp only [Option.isSome_map] at ih ⊢
    rw [List.find?_cons, List.map_cons, List.contains_cons]
    by_cases e : d.1.data.toList = n
    · rw [show (d.1.data.toList == n) = true by simp [e], show (n == d.1.data.toList) = true by simp [e]]; rfl
    · rw [show (d.1.data.toList == n) = false by simp [e], show (n == d.1.data.toList) = false by simp [Ne.symm e]]
      simpa using ih
theorem rightGo_snoc (ds : List DB) : ∀ (seen : List (List UInt8)) (d : DB), rightGo seen (ds ++ [d]) = (rightGo seen ds && (Hd.name d.1.data.toList && !(seen ++ names ds).contains d.1.data.toList && decide (d.2.length ≤ 200) && !oddB d.2)) := by
  induction ds with
  | nil => intro seen d; simp [rightGo, names]
  | cons e r ih =>
    intro seen d
    rw [List.cons_append, rightGo, ih, rightGo]
    have : seen ++ [e.1.data.toList] ++ names r = seen ++ names (e :: r) := by simp [names]
    rw [this]
    simp only [Bool.and_assoc]
theorem rightGo_ok : ∀ (ds : List DB) (seen : List (List UInt8)), rightGo seen ds = true → ∀ d ∈ ds, OkD d
  | [], _, _, _, h => by cases h
  | e :: r, seen, hr, d, h => by
    unfold rightGo at hr
    simp only [Bool.and_eq_true, decide_eq_true_eq, Bool.not_eq_true'] at hr
    obtain ⟨⟨⟨⟨h1, _⟩, h3⟩, h4⟩, h5⟩ := hr
    cases h with
    | head => exact ⟨h1, h3, oddB_false.1 h4⟩
    | tail _ h => exact rightGo_ok r _ h5 d h
theorem addAll_right : ∀ (ds acc : List DB), rightGo (names acc) ds = true → ds.foldl addB acc = acc ++ ds
  | [], acc, _ => by simp
  | d :: r, acc, h => by
    have hd := rightGo_ok (d :: r) _ h d (List.mem_cons_self ..)
    unfold rightGo at h
    simp only [Bool.and_eq_true, Bool.not_eq_true'] at h
    have ha : addB acc d = acc ++ [d] := by
      unfold addB
      rw [(name_plain hd.1).2.1, findB_some, h.1.1.1.2]
      rfl
    rw [List.foldl_cons, ha, addAll_right r (acc ++ [d]) (by simpa [names] using h.2)]
    simp
theorem rightGo_add (acc : List DB) (d : DB) (h : rightGo [] acc = true) (hd : OkD d) : rightGo [] (addB acc d) = true := by
  unfold addB
  rw [(name_plain hd.1).2.1, findB_some]
  cases hc : (names acc).contains d.1.data.toList with
  | true => simpa using h
  | false =>
    rw [if_neg (by decide), rightGo_snoc, h, hd.1, List.nil_append, hc, oddB_false.2 hd.2.2]
    simp [hd.2.1]
theorem rightGo_addAll : ∀ (ds acc : List DB), rightGo [] acc = true → (∀ d ∈ ds, OkD d) → rightGo [] (ds.foldl addB acc) = true
  | [], _, h, _ => h
  | d :: r, acc, h, hd => rightGo_addAll r _ (rightGo_add acc d h (hd d (List.mem_cons_self ..))) fun x hx => hd x (List.mem_cons_of_mem _ hx)
theorem dirB_ok (p : List UInt8) (d : DB) (h : dirB p = some d) : OkD d := by
  unfold dirB at h
  split at h
  · cases h
  · split at h
    · rename_i w r hw hn
      injection h with h
      subst h
      refine ⟨hn, restOf_length _, fun s hs => ?_⟩
      unfold restOf at hs
      exact (List.mem_filter.1 hs).2
    · cases h
theorem polB_right (p : List UInt8) : rightGo [] (polB p) = true := by
  unfold polB
  refine rightGo_addAll _ [] rfl fun d hd => ?_
  unfold dirsB at hd
  obtain ⟨q, _, hq⟩ := List.mem_filterMap.1 hd
  exact dirB_ok q d hq
theorem parseB_right (s : List UInt8) (ds : List DB) (h : ds ∈ parseB s) : rightB ds = true := by
  have h1 := List.mem_of_mem_take h
  obtain ⟨h2, h3⟩ := List.mem_filter.1 h1
  obtain ⟨p, _, rfl⟩ := List.mem_map.1 h2
  unfold rightB
  rw [polB_right, h3]; rfl
theorem parseB_length (s : List UInt8) : (parseB s).length ≤ 10 := by
  unfold parseB; rw [List.length_take]; omega
theorem rightB_ne {ds : List DB} (h : rightB ds = true) : ds ≠ [] := fun e => by subst e; simp [rightB] at h
theorem rightB_go {ds : List DB} (h : rightB ds = true) : rightGo [] ds = true := by unfold rightB at h; rw [Bool.and_eq_true] at h; exact h.1
theorem polB_print {ds : List DB} (h : rightB ds = true) : polB (printB ds) = ds := by
  unfold polB
  rw [dirsB_text ds (rightB_ne h) (rightGo_ok ds [] (rightB_go h))]
  have := addAll_right ds [] (rightB_go h)
  rwa [List.nil_append] at this
theorem join_mem {xs : List (List UInt8)} {sep : List UInt8} {c : UInt8} (h : c ∈ Lib.join xs sep) : c ∈ sep ∨ ∃ w ∈ xs, c ∈ w := by
  cases xs with
  | nil => simp [Lib.join_nil] at h
  | cons x r =>
    rw [Lib.join_cons] at h
    rcases List.mem_append.1 h with h | h
    · exact .inr ⟨x, List.mem_cons_self .., h⟩
    · rcases joinTail_mem h with h | ⟨w, hw, hc⟩
      · exact .inl h
      · exact .inr ⟨w, List.mem_cons_of_mem _ hw, hc⟩
theorem printB_comma {ds : List DB} (h : rightB ds = true) : (44 : UInt8) ∉ printB ds := fun hc => by
  rcases join_mem hc with hc | ⟨w, hw, hc⟩
  · simp at hc
  · obtain ⟨d, hd, rfl⟩ := List.mem_map.1 hw
    exact (dirText_mem (rightGo_ok ds [] (rightB_go h) d hd) 44 hc).1 rfl
theorem tight_cat {a b : List UInt8} (ha : Tight a) (hb : Tight b) (m : List UInt8) : Tight (a ++ (m ++ b)) := by
  refine ⟨by simp [ha.1], fun x hx => ?_, fun x hx => ?_⟩
  · rw [head_app _ _ ha.1] at hx; exact ha.2.1 x hx
  · rw [last_app _ _ (by simp [hb.1]), last_app _ _ hb.1] at hx; exact hb.2.2 x hx
theorem tight_joins (sep : List UInt8) (r : List (List UInt8)) : ∀ x, (∀ t ∈ x :: r, Tight t) → Tight (Lib.join (x :: r) sep) := by
  induction r with
  | nil => intro x h; rw [Lib.join_one]; exact h x (List.mem_cons_self ..)
  | cons y r ih =>
    intro x h
    have := ih y (fun t ht => h t (List.mem_cons_of_mem _ ht))
    rw [Lib.join_cons] at this
    rw [Lib.join_cons, joinTail_cons]
    exact tight_cat (h x (List.mem_cons_self ..)) this sep
theorem printB_tight {ds : List DB} (h : rightB ds = true) : Tight (printB ds) := by
  cases ds with
  | nil => exact absurd rfl (rightB_ne h)
  | cons d r =>
    unfold printB
    rw [List.map_cons]
    refine tight_joins _ _ _ fun t ht => ?_
    rw [← List.map_cons] at ht
    obtain ⟨e, he, rfl⟩ := List.mem_map.1 ht
    exact dirText_tight (rightGo_ok _ [] (rightB_go h) e he)
/-- A right policy's text is parsed as it alone. -/
theorem parse_print {ds : List DB} (h : rightB ds = true) : parseB (printB ds) = [ds] := by
  have h0 : ds.isEmpty = false := by
    cases ds with
    | nil => exact absurd rfl (rightB_ne h)
    | cons => rfl
  unfold parseB
  rw [Fo.parts, Fo.split_none 44 _ (printB_comma h), List.map_singleton, trim_tight (printB_tight h), List.map_singleton, polB_print h]
  simp [h0]
/-- The texts of right policies, each with a comma behind it. -/
def texts (l : List (List DB)) : List UInt8 := l.flatMap fun ds => printB ds ++ [44]
theorem texts_snoc (l : List (List DB)) (ds : List DB) : texts (l ++ [ds]) = texts l ++ printB ds ++ [44] := by simp [texts]
theorem split_texts (l : List (List DB)) (h : ∀ ds ∈ l, rightB ds = true) : Fo.split 44 (texts l) = l.map printB ++ [[]] := by
  induction l with
  | nil => rfl
  | cons d r ih =>
    show Fo.split 44 ((printB d ++ [44]) ++ texts r) = _
    rw [List.append_assoc]
    show Fo.split 44 (printB d ++ 44 :: texts r) = _
    rw [Fo.split_one 44 _ _ (printB_comma (h d (List.mem_cons_self ..))), ih (fun x hx => h x (List.mem_cons_of_mem _ hx))]
    rfl
theorem polB_nil : polB [] = [] := by decide +kernel
theorem parse_texts (l : List (List DB)) (h : ∀ ds ∈ l, rightB ds = true) (hl : l.length ≤ 10) : parseB (texts l) = l := by
  have h1 : (Fo.parts 44 (texts l)).map polB = l ++ [[]] := by
    rw [Fo.parts, split_texts l h, List.map_append, List.map_append, List.map_map, List.map_map]
    congr 1
    conv => rhs; rw [← List.map_id l]
    refine List.map_congr_left fun ds hd => ?_
    simp only [Function.comp_apply, id_eq]
    rw [trim_tight (printB_tight (h ds hd)), polB_print (h ds hd)]
  unfold parseB
  rw [h1, List.filter_append, List.filter_eq_self.2 (fun ds hd => by
    cases ds with
    | nil => exact absurd rfl (rightB_ne (h _ hd))
    | cons => rfl)]
  rw [show ([[]] : List (List DB)).filter (fun ds => !ds.isEmpty) = [] from rfl, List.append_nil, List.take_of_length_le hl]

/-! Two texts with a comma between them. -/
theorem sgo_cat (sep : UInt8) (b a : List UInt8) : ∀ cur, Fo.sgo sep cur (a ++ sep :: b) = Fo.sgo sep cur a ++ Fo.sgo sep [] b := by
  induction a with
  | nil =>
    intro cur
    show (if sep = sep then cur :: Fo.sgo sep [] b else _) = [cur] ++ _
    rw [if_pos rfl]; rfl
  | cons c a ih =>
    intro cur
    rw [List.cons_append, Fo.sgo, Fo.sgo]
    split
    · rw [ih]; rfl
    · rw [ih]
theorem parse_cat (a b : List UInt8) : parseB (a ++ 44 :: b) = (parseB a ++ parseB b).take 10 := by
  unfold parseB
  rw [Fo.parts, Fo.split, sgo_cat, List.map_append, List.map_append, List.filter_append]
  generalize hx : List.filter (fun ds => !ds.isEmpty) (List.map polB (List.map Fo.trim (Fo.sgo 44 [] a))) = X
  generalize hy : List.filter (fun ds => !ds.isEmpty) (List.map polB (List.map Fo.trim (Fo.sgo 44 [] b))) = Y
  show List.take 10 (X ++ Y) = List.take 10 (List.take 10 _ ++ List.take 10 _)
  rw [show List.filter (fun ds => !ds.isEmpty) (List.map polB (Fo.parts 44 a)) = X from hx, show List.filter (fun ds => !ds.isEmpty) (List.map polB (Fo.parts 44 b)) = Y from hy]
  apply List.ext_getElem?
  intro i
  by_cases hi : i < 10
  · rw [List.getElem?_take, if_pos hi, List.getElem?_take, if_pos hi]
    by_cases h1 : i < X.length
    · rw [List.getElem?_append_left h1, List.getElem?_append_left (by rw [List.length_take]; omega), List.getElem?_take, if_pos hi]
    · rw [List.getElem?_append_right (by omega), List.getElem?_append_right (by rw [List.length_take]; omega), List.length_take, List.getElem?_take, if_pos (by omega), show min 10 X.length = X.length by omega]
  · rw [List.getElem?_take, if_neg hi, List.getElem?_take, if_neg hi]
/-! A directive is found by its name. -/
theorem findB_self (ds : List DB) (h : rightGo [] ds = true) (k : Nat) (hk : k < ds.length) : findB ds ds[k].1.data.toList = some ds[k].2 := by
  have hnd : ∀ (l : List DB) (seen : List (List UInt8)), rightGo seen l = true → ∀ d ∈ l, d.1.data.toList ∉ seen := by
    intro l
    induction l with
    | nil => intro _ _ d hd; cases hd
    | cons e r ih =>
      intro seen hr d hd
      unfold rightGo at hr
      simp only [Bool.and_eq_true, Bool.not_eq_true'] at hr
      cases hd with
      | head => have := hr.1.1.1.2; simpa using this
      | tail _ hd => have := ih _ hr.2 d hd; simp at this; exact this.1
  have go : ∀ (l : List DB) (seen : List (List UInt8)), rightGo seen l = true → ∀ d ∈ l, findB l d.1.data.toList = some d.2 := by
    intro l
    induction l with
    | nil => intro _ _ d hd; cases hd
    | cons e r ih =>
      intro seen hr d hd
      have hr' := hr
      unfold rightGo at hr
      simp only [Bool.and_eq_true] at hr
      unfold findB
      rw [List.find?_cons]
      cases hd with
      | head => simp
      | tail _ hd =>
        have h1 := hnd r _ hr.2 d hd
        rw [show (e.1.data.toList == d.1.data.toList) = false by rw [beq_eq_false_iff_ne]; exact fun h => h1 (by simp [h])]
        exact ih _ hr.2 d hd
  exact go ds [] h _ (List.getElem_mem hk)
/-! A policy's text. -/
theorem printB_count {ds : List DB} (h : rightB ds = true) : 1 + (printB ds).count 59 = ds.length := by
  have h1 := Fo.parts_length 59 (printB ds)
  unfold printB at h1 ⊢
  rw [parts_join (ds.map dirTextB) (by simp [rightB_ne h]) (fun t ht => by
    obtain ⟨d, hd, rfl⟩ := List.mem_map.1 ht
    have hok := rightGo_ok ds [] (rightB_go h) d hd
    exact ⟨fun hc => (dirText_mem hok 59 hc).2 rfl, dirText_tight hok⟩), List.length_map] at h1
  exact h1.symm
theorem printB_first (d : DB) (r : List DB) : ∃ t, printB (d :: r) = d.1.data.toList ++ t := by
  unfold printB
  rw [List.map_cons, Lib.join_cons, dirText_cons, List.append_assoc]
  exact ⟨_, rfl⟩
end Go.Proofs.YteghldoglffabaaDoor
