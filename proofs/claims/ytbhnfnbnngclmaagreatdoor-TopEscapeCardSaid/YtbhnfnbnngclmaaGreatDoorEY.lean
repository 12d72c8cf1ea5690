import Derived.Test.YtbhnfnbnngclmaaGreatDoorER
import Derived.Test.YtbhnfnbnngclmaaGreatDoorBD
import Derived.Test.YtbhnfnbnngclmaaGreatDoorBE
import Derived.Test.YtbhnfnbnngclmaaGreatDoorDP
/- Tokens, by what its rounds are given. -/
namespace Go.Proofs.YtbhnfnbnngclmaaGreatDoor
open Go.RowKit Go.Sort Go.BigFrame
set_option maxRecDepth 100000

/-- What one round is given: the cursor, and a sign's call or the three calls of a text. -/
def Rnd (c : Nat) (s : ByteArray) (w : World) (J : World → Prop) : Prop :=
  ∃ (a : Nat) (vo : Value), Cur w c s a vo (.slice none 0 0) ∧ ∃ ha : a < s.size,
    ((s[a] = 60 ∧ Calls Tryz.prog 19 #[.pointer (some ⟨c, 0, none⟩)] w fun e w' => e = .returned (.tuple #[]) ∧ J w') ∨
    (s[a] ≠ 60 ∧ Calls Tryz.prog 20 #[.pointer (some ⟨c, 0, none⟩), .func (.func 21) #[] #[]] w fun e w1 => ∃ x, e = .returned (.string x) ∧
      Calls Tryz.prog 23 #[.pointer (some ⟨c, 0, none⟩), .string x, .int .i64 a] w1 fun e w2 => ∃ y, e = .returned (.string y) ∧
      Calls Tryz.prog 22 #[.pointer (some ⟨c, 0, none⟩), .agg #[.int .i64 1, .string ⟨#[]⟩, .string y, .slice none 0 0, .bool false]] w2 fun e w3 => e = .returned (.tuple #[]) ∧ J w3))
set_option maxHeartbeats 4000000 in
theorem tokens_any (s : ByteArray) (N : Nat) (I : Nat → World → Prop) (P : Value → World → Prop) (w : World) (hs : s.size ≤ 20000)
    (h0 : ∀ w', Cur w' w.heap.size s 0 (.slice none 0 0) (.slice none 0 0) → Below w.heap.size w w' → I N w')
    (hst : ∀ k w', I (k + 1) w' → Rnd w.heap.size s w' (I k))
    (hend : ∀ w', I 0 w' → ∃ A n c, Cur w' w.heap.size s s.size (.slice A n c) (.slice none 0 0) ∧ P (.slice A n c) w') :
    Calls Tryz.prog 13 #[.string s] w fun e w' => ∃ vo w0, e = .returned (.tuple #[vo, .slice none 0 0, .int .i64 0]) ∧ P vo w0 ∧ Below w0.heap.size w0 w' := by
  have hbA := below_alloc' w (.cells #[.string s, .int .i64 0, .slice none 0 0, .slice none 0 0] 70)
  have hrA : Cur _ w.heap.size s 0 (.slice none 0 0) (.slice none 0 0) := heap_alloc_new w (.cells #[.string s, .int .i64 0, .slice none 0 0, .slice none 0 0] 70)
  obtain ⟨W, hW⟩ : ∃ W, W = w.alloc (.cells #[.string s, .int .i64 0, .slice none 0 0, .slice none 0 0] 70) := ⟨_, rfl⟩
  rw [← hW] at hbA hrA
  have HW := Lib.hid hW
  have HI := Lib.hid (h0 W hrA hbA)
  have HS := Lib.hid hst
  have HE := Lib.hid hend
  have l1 : decide ((s.size : Int) > 20000) = false := by simp; omega
  have l2 : ¬ ((20000 : Int) < (s.size : Int)) := by omega
  obtain ⟨c, hc⟩ : ∃ c, c = w.heap.size := ⟨_, rfl⟩
  rw [← hc] at HS HE
  have HCC := Lib.hid hc
  clear hW hbA hrA h0 hst hend hc hs
  go_enter Tryz.func13, Tryz.ntmps13
  go_upto_region 4 with fail
  rw [← HW.out, ← HCC.out]
  clear l1 l2
  go_loopg [] N (fun gk wr => Hid (I gk wr))
  case atStart => exact HI.out
  case round =>
    match gk, hrel with
    | 0, hrel =>
      obtain ⟨A, n, cp, hcur, hP⟩ := HE.out _ hrel.out
      have c0 := hcur.c0
      have c1 := hcur.c1
      have c2 := hcur.c2
      have c3 := hcur.c3
      have HP := Lib.hid hP
      clear hcur hP
      go_wp2_with fail
      go_quiet (fail)
      go_wp2_with fail
      exact bodyPost_ret (v := .tuple #[.slice A n cp, .slice none 0 0, .int .i64 0]) (by simp [results, Tryz.results13, go_sem]) rfl ⟨_, wr, rfl, HP.out, below_drewN' _ _⟩
    | k + 1, hrel =>
      obtain ⟨a, vo, hcur, ha, hor⟩ := HS.out _ _ hrel.out
      have c1 := hcur.c1
      have d1 : decide ((a : Int) < (s.size : Int)) = true := by simpa using ha
      rcases hor with ⟨hat, hcal⟩ | ⟨hq, hcal⟩
      · have HCAL := Lib.hid hcal
        clear hcal hcur
        go_wp2_with fail
        with_reducible refine HCAL.out.mono ?_
        rintro e w1 ⟨rfl, h1⟩
        have H1 := Lib.hid h1
        clear h1 c1
        go_wp2_with fail
        go_roundg k
        case measure => omega
        case rel => exact H1.out
      · have q1 : ((((s[a]'ha).toNat : Nat) : Int) == (60 : Int)) = false := eq_false (by decide) hq
        have HCAL := Lib.hid hcal
        clear hcal hcur
        go_wp2_with fail
        with_reducible refine HCAL.out.mono ?_
        rintro e w1 ⟨x1, rfl, h1⟩
        have H1 := Lib.hid h1
        clear h1 c1
        go_wp2_with fail
        with_reducible refine H1.out.mono ?_
        rintro e w2 ⟨y1, rfl, h2⟩
        have H2 := Lib.hid h2
        clear h2
        go_wp2_with fail
        with_reducible refine H2.out.mono ?_
        rintro e w3 ⟨rfl, h3⟩
        have H3 := Lib.hid h3
        clear h3
        go_wp2_with fail
        go_roundg k
        case measure => omega
        case rel => exact H3.out
end Go.Proofs.YtbhnfnbnngclmaaGreatDoor
/- Tokens: what each round leaves. -/
namespace Go.Proofs.YtbhnfnbnngclmaaGreatDoor
open Go.RowKit Go.Sort Go.BigFrame
set_option maxRecDepth 100000

theorem flat5 : ∀ (L : List (List Value)), (∀ x ∈ L, x.length = 5) → ∀ (i : Nat) (x : List Value), L[i]? = some x → ∀ (j : Nat) (u : Value), x[j]? = some u → L.flatten[i * 5 + j]? = some u := by
  intro L
  induction L with
  | nil => intro _ i x h; simp at h
  | cons y L ih =>
    intro h5 i x hx j u hu
    have hy : y.length = 5 := h5 y (List.mem_cons_self ..)
    rw [List.flatten_cons]
    cases i with
    | zero =>
      have hyx : y = x := by simpa using hx
      subst hyx
      have hj : j < y.length := (List.getElem?_eq_some_iff.1 hu).1
      rw [Nat.zero_mul, Nat.zero_add, List.getElem?_append_left hj]
      exact hu
    | succ i =>
      rw [List.getElem?_append_right (by omega), hy, show (i + 1) * 5 + j - 5 = i * 5 + j by omega]
      exact ih (fun z hz => h5 z (List.mem_cons_of_mem _ hz)) i x (by simpa using hx) j u hu
theorem Ats.keepC {w w' : World} {l : List Nat} {v : Value} {o : Option (ByteArray × ByteArray)} (h : Ats w v o) (hk : Keep l w w') (hl : ∀ k ∈ l, ∃ cs T fr, w.heap[k]? = some (.cells cs T fr) ∧ T ≠ 63) : Ats w' v o := by
  cases o with
  | none => exact h
  | some p =>
    obtain ⟨b, cap, cs, fr, h1, h2, h3, h4⟩ := h
    refine ⟨b, cap, cs, fr, h1, h2, (hk.block b (hlt h3) ?_).trans h3, h4⟩
    intro hm
    obtain ⟨cs', T, fr', e, hT⟩ := hl b hm
    rw [h3] at e
    injection e with e
    injection e with _ e
    exact hT e.symm
/-- The tokens so far. -/
structure TsV (w0 : World) (s : ByteArray) (a : Nat) (ts : List Tk) (vo : Value) (w : World) : Prop where
  cur : Cur w w0.heap.size s a vo (.slice none 0 0)
  emp : ts = [] → vo = .slice none 0 0
  ne : vo.ownBlock ≠ some w0.heap.size
  bel : Below w0.heap.size w0 w
  row : ∃ L : List (List Value), w.ownsRow w0.heap.size 77 5 vo ts.length L.flatten ∧ L.length = ts.length ∧ ∀ (i : Nat) (tk : Tk), ts[i]? = some tk → ∃ va, L[i]? = some (tk.cells va) ∧ Ats w va tk.ats
def Tst (w0 : World) (s : ByteArray) (a : Nat) (ts : List Tk) (w : World) : Prop := ∃ vo, TsV w0 s a ts vo w
theorem TsV.zero {w0 w : World} {s : ByteArray} (h : Cur w w0.heap.size s 0 (.slice none 0 0) (.slice none 0 0)) (hb : Below w0.heap.size w0 w) : Tst w0 s 0 [] w :=
  ⟨_, h, fun _ => rfl, (by intro e; cases e), hb, [], World.ownsRow_nil _ _ _ _, rfl, by intro i tk h; simp at h⟩
theorem ob_typed {w : World} {B n : Nat} {vo : Value} {xs : List Value} (ho : w.ownsRow B 77 5 vo n xs) : ∀ k ∈ ob vo, B ≤ k ∧ ∃ cs T fr, w.heap[k]? = some (.cells cs T fr) ∧ T ≠ 63 := by
  intro k hk
  rcases ho.2 with ⟨rfl, _⟩ | ⟨g, cap, cur, rfl, hb, hg, _⟩
  · simp [ob, Value.ownBlock] at hk
  · have : k = g := by simpa [ob, Value.ownBlock] using hk
    subst this
    exact ⟨hb, _, _, _, hg, by decide⟩
theorem TsV.typed {w0 w : World} {s : ByteArray} {a : Nat} {ts : List Tk} {vo : Value} (h : TsV w0 s a ts vo w) : ∀ k ∈ w0.heap.size :: ob vo, w0.heap.size ≤ k ∧ ∃ cs T fr, w.heap[k]? = some (.cells cs T fr) ∧ T ≠ 63 := by
  intro k hk
  rcases List.mem_cons.1 hk with e | e
  · subst e; exact ⟨Nat.le_refl _, _, _, _, h.cur, by decide⟩
  · obtain ⟨L, ho, _⟩ := h.row
    exact ob_typed ho k e
theorem TsV.move {w0 w w' : World} {s : ByteArray} {a b : Nat} {ts : List Tk} {vo : Value} (h : TsV w0 s a ts vo w) (hc : Cur w' w0.heap.size s b vo (.slice none 0 0)) (hk : Keep [w0.heap.size] w w') : TsV w0 s b ts vo w' := by
  obtain ⟨L, ho, hl, hx⟩ := h.row
  refine ⟨hc, h.emp, h.ne, h.bel.trans (hk.below (fun k hk' => by rw [List.mem_singleton.1 hk']; exact Nat.le_refl _) h.bel.size), L, hk.own ho (fun k hk' hm => h.ne (by rw [hk', List.mem_singleton.1 hm])), hl, fun i tk hi => ?_⟩
  obtain ⟨va, e1, e2⟩ := hx i tk hi
  exact ⟨va, e1, e2.keepC hk fun k hk' => (h.typed k (by rw [List.mem_singleton.1 hk']; exact List.mem_cons_self ..)).2⟩
theorem TsV.next {w0 w w' : World} {s : ByteArray} {a b : Nat} {ts : List Tk} {vo vo' : Value} (h : TsV w0 s a ts vo w) (tk : Tk) (va : Value) (L : List (List Value)) (hl : L.length = ts.length) (hx : ∀ (i : Nat) (tk : Tk), ts[i]? = some tk → ∃ va, L[i]? = some (tk.cells va) ∧ Ats w va tk.ats) (hc : Cur w' w0.heap.size s b vo' (.slice none 0 0)) (ho : w'.ownsRow w0.heap.size 77 5 vo' (ts.length + 1) (L.flatten ++ tk.cells va)) (ha : Ats w' va tk.ats) (hk : Keep (w0.heap.size :: ob vo) w w') : Tst w0 s b (ts ++ [tk]) w' := by
  refine ⟨vo', hc, (by intro e; simp at e), hc.own_ne ho, h.bel.trans (hk.below (fun k hk' => (h.typed k hk').1) h.bel.size), L ++ [tk.cells va], ?_, by simp [hl], fun i tk' hi => ?_⟩
  · rw [List.length_append, List.length_singleton, List.flatten_append, List.flatten_singleton]
    exact ho
  · by_cases hlt : i < ts.length
    · rw [List.getElem?_append_left hlt] at hi
      obtain ⟨va', e1, e2⟩ := hx i tk' hi
      exact ⟨va', by rw [List.getElem?_append_left (by omega)]; exact e1, e2.keepC hk fun k hk' => (h.typed k hk').2⟩
    · have hi2 : i = ts.length := by
        have := (List.getElem?_eq_some_iff.1 hi).1
        simp at this
        omega
      subst hi2
      rw [List.getElem?_append_right (Nat.le_refl _), Nat.sub_self] at hi
      have hi3 : tk = tk' := by simpa using hi
      subst hi3
      exact ⟨va, by rw [← hl, List.getElem?_append_right (Nat.le_refl _), Nat.sub_self]; rfl, ha⟩
theorem TsV.toks {w0 w : World} {s : ByteArray} {a : Nat} {ts : List Tk} {vo : Value} (h : TsV w0 s a ts vo w) : Toks w vo ts := by
  obtain ⟨L, ho, hl, hx⟩ := h.row
  obtain ⟨A, cap, rfl, _, _⟩ := own_form ho
  refine ⟨A, cap, rfl, fun i tk hi => ?_⟩
  obtain ⟨va, e1, e2⟩ := hx i tk hi
  have h5 : ∀ x ∈ L, x.length = 5 := by
    intro x hm
    obtain ⟨k, hk⟩ := List.getElem?_of_mem hm
    have hk' : k < ts.length := by have := (List.getElem?_eq_some_iff.1 hk).1; omega
    obtain ⟨va', f1, _⟩ := hx k _ (List.getElem?_eq_getElem hk')
    rw [hk] at f1
    injection f1 with f1
    rw [f1]
    rfl
  have hnz : 0 < ts.length := by have := (List.getElem?_eq_some_iff.1 hi).1; omega
  obtain ⟨g, rfl⟩ : ∃ g, A = some ⟨g, 0, none⟩ := by
    rcases ho.2 with ⟨hv, h0⟩ | ⟨g, cap', cur, hv, _⟩
    · injection hv with _ hv _
      omega
    · injection hv with hv
      exact ⟨g, hv⟩
  obtain ⟨cur, hg, _, _, _, hcur⟩ := own_block ho
  exact ⟨g, va, rfl, hlt hg, e2, fun j u hu => (cell_row hg _).trans (hcur _ u (flat5 L h5 i _ e1 j u hu))⟩
/-- A beginning of b. -/
theorem rnd_start (w0 : World) (s : ByteArray) (a : Nat) (ts : List Tk) (w : World) (z : List UInt8) (hs : s.size ≤ 20000) (hn : ts.length ≤ 1000) (h : Tst w0 s a ts w) (hr : (s.extract a s.size).data.toList = 60 :: 98 :: 62 :: z) : Rnd w0.heap.size s w (Tst w0 s (a + 3) (ts ++ [.st none])) := by
  obtain ⟨vo, hv⟩ := h
  obtain ⟨hr1, ha1⟩ := ext_succ s a 60 _ hr
  have ha : a < s.size := by omega
  refine ⟨a, vo, hv.cur, ha, .inl ⟨byte_of s a 60 _ hr ha, sign_start w0.heap.size s a vo w (fun _ w' => Tst w0 s (a + 3) (ts ++ [.st none]) w') (by omega) hv.cur (62 :: z) hr fun w1 hc1 hk1 => ?_⟩⟩
  have hv1 := hv.move hc1 hk1
  obtain ⟨L, ho, hl, hx⟩ := hv1.row
  refine (tag_plain w0.heap.size s (a + 1) vo ts.length L.flatten w0.heap.size 2 a z w1 (.inl rfl) hv1.bel.size hn (by omega) hc1 ho hv1.ne hr1).mono ?_
  rintro e w2 ⟨he, vo', hc2, ho2, hk2⟩
  exact ⟨he, hv1.next (.st none) (.slice none 0 0) L hl hx hc2 ho2 rfl hk2⟩
/-- Its end. -/
theorem rnd_end (w0 : World) (s : ByteArray) (a : Nat) (ts : List Tk) (w : World) (z : List UInt8) (hs : s.size ≤ 20000) (hn : ts.length ≤ 1000) (h : Tst w0 s a ts w) (hr : (s.extract a s.size).data.toList = 60 :: 47 :: 98 :: 62 :: z) : Rnd w0.heap.size s w (Tst w0 s (a + 4) (ts ++ [.en])) := by
  obtain ⟨vo, hv⟩ := h
  obtain ⟨hr1, ha1⟩ := ext_succ s a 60 _ hr
  obtain ⟨hr2, ha2⟩ := ext_succ s (a + 1) 47 _ hr1
  have ha : a < s.size := by omega
  refine ⟨a, vo, hv.cur, ha, .inl ⟨byte_of s a 60 _ hr ha, sign_end w0.heap.size s a vo w (fun _ w' => Tst w0 s (a + 4) (ts ++ [.en]) w') (by omega) hv.cur (62 :: z) hr fun w1 hc1 hk1 => ?_⟩⟩
  have hv1 := hv.move hc1 hk1
  obtain ⟨L, ho, hl, hx⟩ := hv1.row
  refine (tag_plain w0.heap.size s (a + 2) vo ts.length L.flatten w0.heap.size 3 a z w1 (.inr rfl) hv1.bel.size hn (by omega) hc1 ho hv1.ne hr2).mono ?_
  rintro e w2 ⟨he, vo', hc2, ho2, hk2⟩
  exact ⟨he, hv1.next .en (.slice none 0 0) L hl hx hc2 ho2 rfl hk2⟩
/-- A beginning with an attribute. -/
theorem rnd_attr (w0 : World) (s : ByteArray) (a : Nat) (ts : List Tk) (w : World) (l z : List UInt8) (hg : GN w0) (hll : l.length ≤ 100000) (hs : s.size ≤ 20000) (hn : ts.length ≤ 1000) (h : Tst w0 s a ts w) (hr : (s.extract a s.size).data.toList = 60 :: 98 :: 32 :: 120 :: 61 :: 39 :: (En.enc l ++ 39 :: 62 :: z)) : Rnd w0.heap.size s w (Tst w0 s (a + (En.enc l).length + 8) (ts ++ [.st (some (⟨#[120]⟩, ⟨l.toArray⟩))])) := by
  obtain ⟨vo, hv⟩ := h
  obtain ⟨hr1, ha1⟩ := ext_succ s a 60 _ hr
  have ha : a < s.size := by omega
  have h2 : 2 ≤ w0.heap.size := hg.one
  refine ⟨a, vo, hv.cur, ha, .inl ⟨byte_of s a 60 _ hr ha, sign_start w0.heap.size s a vo w (fun _ w' => Tst w0 s (a + (En.enc l).length + 8) (ts ++ [.st (some (⟨#[120]⟩, ⟨l.toArray⟩))]) w') (by omega) hv.cur _ hr fun w1 hc1 hk1 => ?_⟩⟩
  have hv1 := hv.move hc1 hk1
  obtain ⟨L, ho, hl, hx⟩ := hv1.row
  refine (tag_attr w0.heap.size s (a + 1) vo ts.length L.flatten w0.heap.size a l z w1 (hg.below hv1.bel) hll h2 hv1.bel.size hn (by omega) hc1 ho hv1.ne hr1).mono ?_
  rintro e w2 ⟨he, vo', gg, cap, hc2, ho2, ha2, hk2⟩
  rw [show a + 1 + (En.enc l).length + 7 = a + (En.enc l).length + 8 by omega] at hc2
  exact ⟨he, hv1.next (.st (some (⟨#[120]⟩, ⟨l.toArray⟩))) _ L hl hx hc2 ho2 ha2 hk2⟩
theorem far_text (s : ByteArray) (a : Nat) (y r : List UInt8) (h : (s.extract a s.size).data.toList = y ++ r) (h60 : (60 : UInt8) ∉ y) (hr : ∀ x z, r = x :: z → x = 60) : far (fun c => c != 60) s a = a + y.length ∧ s.extract a (a + y.length) = ⟨y.toArray⟩ := by
  rw [Lib.extract_data, List.take_of_length_le (by rw [List.length_drop, size_len]; omega)] at h
  refine ⟨?_, ba_ext ?_⟩
  · unfold far
    rw [h, List.takeWhile_append_of_pos (by intro x hx; simp; rintro rfl; exact h60 hx)]
    cases r with
    | nil => simp
    | cons x z =>
      obtain rfl := hr x z rfl
      simp
  · rw [Lib.extract_data, h, Nat.add_sub_cancel_left, List.take_append_of_le_length (Nat.le_refl _), List.take_length]
/-- A text, encoded, none told yet or behind a beginning. -/
theorem rnd_text (w0 : World) (s : ByteArray) (a : Nat) (ts : List Tk) (w : World) (l r : List UInt8) (hg : GN w0) (hll : l.length ≤ 100000) (hs : s.size ≤ 20000) (hts : ts = [] ∨ ∃ q, ts = [.st q]) (h : Tst w0 s a ts w) (hne : l ≠ []) (hr : (s.extract a s.size).data.toList = En.enc l ++ r) (hr60 : ∀ x z, r = x :: z → x = 60) : Rnd w0.heap.size s w (Tst w0 s (a + (En.enc l).length) (ts ++ [.tx ⟨l.toArray⟩])) := by
  obtain ⟨vo, hv⟩ := h
  obtain ⟨f1, f2⟩ := far_text s a (En.enc l) r hr (En.enc_no60 l) hr60
  obtain ⟨x, y, hxy⟩ : ∃ x y, En.enc l = x :: y := by
    cases hE : En.enc l with
    | nil => exact absurd (En.enc_empty.1 hE) hne
    | cons x y => exact ⟨x, y, rfl⟩
  have hrx : (s.extract a s.size).data.toList = x :: (y ++ r) := by rw [hr, hxy]; rfl
  obtain ⟨_, ha1⟩ := ext_succ s a x _ hrx
  have ha : a < s.size := by omega
  have hx60 : x ≠ 60 := by
    intro e
    refine En.enc_no60 l ?_
    rw [hxy, e]
    exact List.mem_cons_self ..
  have h2 : 2 ≤ w0.heap.size := hg.one
  refine ⟨a, vo, hv.cur, ha, .inr ⟨by rw [byte_of s a x _ hrx ha]; exact hx60, ?_⟩⟩
  refine (take_any 21 _ says_lt (by intro args w'; rfl) w0.heap.size s a vo (.slice none 0 0) w (by omega) (by omega) hv.cur).mono ?_
  rintro e w1 ⟨rfl, hc1, hk1⟩
  rw [f1] at hc1 ⊢
  rw [f2]
  have hv1 := hv.move hc1 hk1
  refine ⟨_, rfl, (decoded_any w0.heap.size l a w1 hll (hg.below hv1.bel)).mono ?_⟩
  rintro e w2 ⟨rfl, hb2⟩
  have hv2 := hv1.move (hc1.below hb2) (Keep.of_below hb2)
  obtain ⟨L, ho, hl, hx⟩ := hv2.row
  have hdl : (⟨l.toArray⟩ : ByteArray).toList ≠ [] := by
    intro e
    apply hne
    have h1 : (⟨l.toArray⟩ : ByteArray).toList = l := by simp [ByteArray.toList_eq]
    rw [← h1, e]
  rcases hts with rfl | ⟨q, rfl⟩
  · obtain rfl := hv2.emp rfl
    refine ⟨_, rfl, (tell_text0 w0.heap.size s (a + (En.enc l).length) (.slice none 0 0) w0.heap.size ⟨#[]⟩ ⟨l.toArray⟩ none 0 0 false w2 hdl hv2.bel.size hv2.cur).mono ?_⟩
    rintro e w3 ⟨he, vo', hc3, ho3, hk3⟩
    have hL : L = [] := List.length_eq_zero_iff.1 hl
    subst hL
    exact ⟨he, hv2.next (.tx ⟨l.toArray⟩) (.slice none 0 0) [] rfl hx hc3 ho3 rfl (hk3.mono (fun k hk => by rw [List.mem_singleton.1 hk]; exact List.mem_cons_self ..))⟩
  · obtain ⟨va, hL0, hva⟩ := hx 0 (.st q) rfl
    obtain ⟨L0, rfl⟩ : ∃ L0, L = [L0] := List.length_eq_one_iff.1 hl
    obtain rfl : L0 = (Tk.st q).cells va := by simpa using hL0
    have ho' : w2.ownsRow w0.heap.size 77 5 vo 1 [.int .i64 2, .string ⟨#[98]⟩, .string ⟨#[]⟩, va, .bool false] := ho
    refine ⟨_, rfl, (tell_text1 w0.heap.size s (a + (En.enc l).length) vo (.slice none 0 0) 2 _ _ _ _ w0.heap.size ⟨#[]⟩ ⟨l.toArray⟩ none 0 0 false w2 (by decide) hdl hv2.bel.size hv2.cur ho' hv2.ne).mono ?_⟩
    rintro e w3 ⟨he, vo', hc3, ho3, hk3⟩
    exact ⟨he, hv2.next (.tx ⟨l.toArray⟩) (.slice none 0 0) _ rfl hx hc3 ho3 rfl hk3⟩
end Go.Proofs.YtbhnfnbnngclmaaGreatDoor
/- Tokens at the three shapes; page. -/
namespace Go.Proofs.YtbhnfnbnngclmaaGreatDoor
open Go.RowKit Go.Sort Go.BigFrame
set_option maxRecDepth 100000

theorem Rnd.mono {c : Nat} {s : ByteArray} {w : World} {J K : World → Prop} (h : Rnd c s w J) (hj : ∀ w', J w' → K w') : Rnd c s w K := by
  obtain ⟨a, vo, hc, ha, h⟩ := h
  refine ⟨a, vo, hc, ha, ?_⟩
  rcases h with ⟨h1, h2⟩ | ⟨h1, h2⟩
  · exact .inl ⟨h1, h2.mono fun _ _ h => ⟨h.1, hj _ h.2⟩⟩
  · refine .inr ⟨h1, h2.mono ?_⟩
    rintro e w1 ⟨x, e1, h3⟩
    refine ⟨x, e1, h3.mono ?_⟩
    rintro e w2 ⟨y, e2, h4⟩
    exact ⟨y, e2, h4.mono fun _ _ h => ⟨h.1, hj _ h.2⟩⟩
/-- What Tokens hands back. -/
def OutTok (ts : List Tk) (w : World) (e : Ending) (w' : World) : Prop := ∃ v, e = .returned (.tuple #[v, .slice none 0 0, .int .i64 0]) ∧ Toks w' v ts ∧ Below w.heap.size w w'
theorem tokens_run (s : ByteArray) (N : Nat) (A : Nat → Nat) (T : Nat → List Tk) (w : World) (hs : s.size ≤ 20000) (ha : A N = 0) (ht : T N = []) (hz : A 0 = s.size)
    (hst : ∀ k w', k < N → Tst w s (A (k + 1)) (T (k + 1)) w' → Rnd w.heap.size s w' (Tst w s (A k) (T k))) : Calls Tryz.prog 13 #[.string s] w (OutTok (T 0) w) := by
  refine (tokens_any s N (fun k w' => k ≤ N ∧ Tst w s (A k) (T k) w') (fun v w' => Toks w' v (T 0) ∧ Below w.heap.size w w') w hs ?_ ?_ ?_).mono ?_
  · intro w' hc hb
    refine ⟨Nat.le_refl _, ?_⟩
    rw [ha, ht]
    exact TsV.zero hc hb
  · intro k w' h
    exact (hst k w' h.1 h.2).mono fun w'' h' => ⟨by omega, h'⟩
  · rintro w' ⟨_, vo, hv⟩
    obtain ⟨L, ho, _⟩ := hv.row
    obtain ⟨a, c, rfl, _⟩ := own_form ho
    exact ⟨a, _, c, by rw [← hz]; exact hv.cur, hv.toks, hv.bel⟩
  · rintro e w' ⟨vo, w0, he, ⟨h1, h2⟩, hb⟩
    exact ⟨vo, he, h1.below hb, h2.trans (hb.mono h2.size)⟩
theorem ext_all (L : List UInt8) (k : Nat) (x y : List UInt8) (h : L = x ++ y) (hk : k = x.length) : ((⟨L.toArray⟩ : ByteArray).extract k (⟨L.toArray⟩ : ByteArray).size).data.toList = y := by
  exact ext_from _ k x y (by simpa using h) hk
theorem enc_len (l : List UInt8) (hl : l.length ≤ 1500) : (En.enc l).length ≤ 9000 := by have := En.enc_le l; omega
/-- The first shape: a text alone. -/
def ts1 (l : List UInt8) : List Tk := if l = [] then [] else [.tx ⟨l.toArray⟩]
theorem tokens_1 (l : List UInt8) (hl : l.length ≤ 1500) (w : World) (hg : GN w) : Calls Tryz.prog 13 #[.string ⟨(En.enc l).toArray⟩] w (OutTok (ts1 l) w) := by
  have hE := enc_len l hl
  have hsz : (⟨(En.enc l).toArray⟩ : ByteArray).size = (En.enc l).length := by simp [ByteArray.size]
  unfold ts1
  by_cases h0 : l = []
  · subst h0
    exact tokens_run _ 0 (fun _ => 0) (fun _ => []) w (by omega) rfl rfl (by rw [hsz]; rfl) (by intro k w' h; omega)
  · rw [if_neg h0]
    refine tokens_run _ 1 (fun k => if k = 0 then (En.enc l).length else 0) (fun k => if k = 0 then [.tx ⟨l.toArray⟩] else []) w (by omega) rfl rfl hsz.symm ?_
    intro k w' hk h
    obtain rfl : k = 0 := by omega
    have := rnd_text w ⟨(En.enc l).toArray⟩ 0 [] w' l [] hg (by omega) (by omega) (.inl rfl) h h0 (ext_all _ 0 [] _ (by simp) rfl) (by intro x z h; cases h)
    rw [Nat.zero_add] at this
    exact this
/-- The second: within an element. -/
def txt (l : List UInt8) : List Tk := if l = [] then [] else [.tx ⟨l.toArray⟩]
def sh2 (l : List UInt8) : List UInt8 := 60 :: 98 :: 62 :: (En.enc l ++ [60, 47, 98, 62])
theorem tokens_2 (l : List UInt8) (hl : l.length ≤ 1500) (w : World) (hg : GN w) : Calls Tryz.prog 13 #[.string ⟨(sh2 l).toArray⟩] w (OutTok (.st none :: (txt l ++ [.en])) w) := by
  have hE := enc_len l hl
  have hsz : (⟨(sh2 l).toArray⟩ : ByteArray).size = (En.enc l).length + 7 := by simp [ByteArray.size, sh2]
  have r0 := ext_all (sh2 l) 0 [] (60 :: 98 :: 62 :: (En.enc l ++ [60, 47, 98, 62])) rfl rfl
  have r1 := ext_all (sh2 l) 3 [60, 98, 62] (En.enc l ++ [60, 47, 98, 62]) rfl rfl
  have r2 := ext_all (sh2 l) (3 + (En.enc l).length) (60 :: 98 :: 62 :: En.enc l) [60, 47, 98, 62] rfl (by simp; omega)
  obtain ⟨M, hM⟩ : ∃ M, M = (En.enc l).length := ⟨_, rfl⟩
  unfold txt
  by_cases h0 : l = []
  · subst h0
    refine tokens_run _ 2 (fun k => if k = 0 then 7 else if k = 1 then 3 else 0) (fun k => if k = 0 then [.st none, .en] else if k = 1 then [.st none] else []) w (by omega) rfl rfl (by rw [hsz]; rfl) ?_
    intro k w' hk h
    match k, hk with
    | 0, _ => exact rnd_end w _ 3 [.st none] w' [] (by omega) (by decide) h r1
    | 1, _ => exact rnd_start w _ 0 [] w' _ (by omega) (by decide) h r0
  · rw [if_neg h0]
    refine tokens_run _ 3 (fun k => if k = 0 then M + 7 else if k = 1 then M + 3 else if k = 2 then 3 else 0) (fun k => if k = 0 then [.st none, .tx ⟨l.toArray⟩, .en] else if k = 1 then [.st none, .tx ⟨l.toArray⟩] else if k = 2 then [.st none] else []) w (by omega) rfl rfl (by rw [hsz, hM]; rfl) ?_
    intro k w' hk h
    match k, hk with
    | 0, _ => exact rnd_end w _ (M + 3) [.st none, .tx ⟨l.toArray⟩] w' [] (by omega) (by simp) h (by rw [hM, Nat.add_comm]; exact r2)
    | 1, _ =>
      have := rnd_text w ⟨(sh2 l).toArray⟩ 3 [.st none] w' l [60, 47, 98, 62] hg (by omega) (by omega) (.inr ⟨_, rfl⟩) h h0 r1 (by intro x z h; injection h with h; exact h.symm)
      rw [← hM, Nat.add_comm] at this
      exact this
    | 2, _ => exact rnd_start w _ 0 [] w' _ (by omega) (by decide) h r0
/-- The third: an attribute's value. -/
def sh3 (l : List UInt8) : List UInt8 := 60 :: 98 :: 32 :: 120 :: 61 :: 39 :: (En.enc l ++ [39, 62, 121, 60, 47, 98, 62])
theorem tokens_3 (l : List UInt8) (hl : l.length ≤ 1500) (w : World) (hg : GN w) : Calls Tryz.prog 13 #[.string ⟨(sh3 l).toArray⟩] w (OutTok [.st (some (⟨#[120]⟩, ⟨l.toArray⟩)), .tx ⟨#[121]⟩, .en] w) := by
  have hE := enc_len l hl
  have hsz : (⟨(sh3 l).toArray⟩ : ByteArray).size = (En.enc l).length + 13 := by simp [ByteArray.size, sh3]
  have r0 := ext_all (sh3 l) 0 [] (60 :: 98 :: 32 :: 120 :: 61 :: 39 :: (En.enc l ++ [39, 62, 121, 60, 47, 98, 62])) rfl rfl
  have r1 := ext_all (sh3 l) ((En.enc l).length + 8) (60 :: 98 :: 32 :: 120 :: 61 :: 39 :: (En.enc l ++ [39, 62])) [121, 60, 47, 98, 62] (by simp [sh3]) (by simp)
  have r2 := ext_all (sh3 l) ((En.enc l).length + 9) (60 :: 98 :: 32 :: 120 :: 61 :: 39 :: (En.enc l ++ [39, 62, 121])) [60, 47, 98, 62] (by simp [sh3]) (by simp)
  obtain ⟨M, hM⟩ : ∃ M, M = (En.enc l).length := ⟨_, rfl⟩
  rw [← hM] at r1 r2 hsz
  refine tokens_run _ 3 (fun k => if k = 0 then M + 13 else if k = 1 then M + 9 else if k = 2 then M + 8 else 0) (fun k => if k = 0 then [.st (some (⟨#[120]⟩, ⟨l.toArray⟩)), .tx ⟨#[121]⟩, .en] else if k = 1 then [.st (some (⟨#[120]⟩, ⟨l.toArray⟩)), .tx ⟨#[121]⟩] else if k = 2 then [.st (some (⟨#[120]⟩, ⟨l.toArray⟩))] else []) w (by omega) rfl rfl (by rw [hsz]; rfl) ?_
  intro k w' hk h
  match k, hk with
  | 0, _ => exact rnd_end w _ (M + 9) [.st (some (⟨#[120]⟩, ⟨l.toArray⟩)), .tx ⟨#[121]⟩] w' [] (by omega) (by simp) h r2
  | 1, _ => exact rnd_text w ⟨(sh3 l).toArray⟩ (M + 8) [.st (some (⟨#[120]⟩, ⟨l.toArray⟩))] w' [121] [60, 47, 98, 62] hg (by simp) (by omega) (.inr ⟨_, rfl⟩) h (by simp) r1 (by intro x z h; injection h with h; exact h.symm)
  | 2, _ =>
    have := rnd_attr w ⟨(sh3 l).toArray⟩ 0 [] w' l [121, 60, 47, 98, 62] hg (by omega) (by omega) (by simp) h r0
    rw [← hM, Nat.zero_add] at this
    exact this
end Go.Proofs.YtbhnfnbnngclmaaGreatDoor
/- page. -/
namespace Go.Proofs.YtbhnfnbnngclmaaGreatDoor
open Go.RowKit Go.Sort Go.BigFrame
set_option maxRecDepth 100000

/-- What page hands back. -/
def OutPg (l : List Kd) (w : World) (e : Ending) (w' : World) : Prop := ∃ v, e = .returned (.tuple #[.agg #[v], .bool true]) ∧ (∃ A n c, v = .slice A n c) ∧ Doc w' (.agg #[v]) l l.length ∧ Good l l.length ∧ Below w.heap.size w w'
set_option maxHeartbeats 4000000 in
theorem pg_any (s : ByteArray) (ts : List Tk) (sts : Nat → List Kd × List (Nat × ByteArray)) (l : List Kd) (w : World) (hg : GN w) (htk : ∀ w', GN w' → Calls Tryz.prog 13 #[.string s] w' (OutTok ts w')) (hn : ts.length ≤ 100)
    (h0 : sts 0 = ([.root], [(0, ⟨#[]⟩)])) (hstep : ∀ j tk, ts[j]? = some tk → Stp (sts j) tk (sts (j + 1))) (hend : sts ts.length = (l, [(0, ⟨#[]⟩)])) : Calls Tryz.prog 6 #[.string s] w (OutPg l w) := by
  have cp := fun tv w' h => page_any tv ts sts l w' h hn h0 hstep hend
  have hb1 := below_alloc' w (.cells #[.slice none 0 0] 26)
  have hr1 := heap_alloc_new w (.cells #[.slice none 0 0] 26)
  obtain ⟨W, hW⟩ : ∃ W, W = w.alloc (.cells #[.slice none 0 0] 26) := ⟨_, rfl⟩
  rw [← hW] at hb1 hr1
  have HW := Lib.hid hW
  have HB := Lib.hid hb1
  have HR := Lib.hid hr1
  have HT := Lib.hid (htk W (hg.below hb1))
  have HP := Lib.hid cp
  clear hW hb1 hr1 htk cp h0 hstep hend hn hg
  go_enter Tryz.func6, Tryz.ntmps6
  go_upto_region 1 with fail
  rw [← HW.out]
  go_wp2_with fail
  with_reducible refine HT.out.mono ?_
  rintro e w1 ⟨tv, rfl, ht, hb1⟩
  have htv : ∃ A n c, tv = .slice A n c := by obtain ⟨A, cap, h, _⟩ := ht; exact ⟨_, _, _, h⟩
  obtain ⟨tA, tn, tc, rfl⟩ := htv
  have hR1 := (hb1.block _ (hlt HR.out)).trans HR.out
  have HR1 := Lib.hid hR1
  have HT1 := Lib.hid ht
  have HB1 := Lib.hid (nx HB.out hb1)
  clear hR1 ht hb1
  go_wp2_with fail
  with_reducible refine (HP.out _ _ HT1.out).mono ?_
  rintro e w2 ⟨v, rfl, ⟨vA, vn, vc, rfl⟩, hd2, hg2, hb2⟩
  have hR2 := (hb2.block _ (hlt HR1.out)).trans HR1.out
  have hb3 := below_alloc' w2 (.cells #[.slice vA vn vc] 26)
  have hr3 := heap_alloc_new w2 (.cells #[.slice vA vn vc] 26)
  have hR3 := (hb3.block _ (hlt hR2)).trans hR2
  have HD3 := Lib.hid (hd2.below hb3)
  have HB3 := Lib.hid ((nx HB1.out hb2).trans (hb3.mono (nx HB1.out hb2).size))
  obtain ⟨w3, hw3⟩ : ∃ w3, w3 = w2.alloc (.cells #[.slice vA vn vc] 26) := ⟨_, rfl⟩
  rw [← hw3] at hr3 hR3 HD3 HB3
  have t0 := cell_row hR3 0
  simp at t0
  have tf := free_of (k := 0) hR3
  have u0 := cell_row hr3 0
  simp at u0
  have HW3 := Lib.hid hw3
  have HG := Lib.hid hg2
  have HR3 := Lib.hid hR3
  clear hw3 hR2 hR3 hr3 hb2 hb3 hd2 hg2
  go_upto_region 3 with fail
  rw [← HW3.out]
  go_wp2_with fail
  have hk4 := keep_set w3 w.heap.size 0 (.slice vA vn vc)
  have hr4 := set_same (k := 0) (u := .slice vA vn vc) HR3.out
  have hd4 := HD3.out.keepT hk4 HR3.out ⟨by decide, by decide, by decide⟩
  have hb4 : Below w.heap.size w (w3.setCell ⟨w.heap.size, 0, none⟩ (.slice vA vn vc)) := HB3.out.setCell (by exact Nat.le_refl _) _
  obtain ⟨w4, hw4⟩ : ∃ w4, w4 = w3.setCell ⟨w.heap.size, 0, none⟩ (.slice vA vn vc) := ⟨_, rfl⟩
  rw [← hw4] at hr4 hd4 hb4 ⊢
  have c4 : w4.cell? ⟨w.heap.size, 0, none⟩ = some (.slice vA vn vc) := cell_row hr4 0
  exact bodyPost_ret (v := .tuple #[.agg #[.slice vA vn vc], .bool true]) (by simp [results, Tryz.results6, go_sem, c4]) rfl ⟨_, rfl, ⟨_, _, _, rfl⟩, hd4, HG.out, hb4⟩
/-- The pages of the three shapes. -/
def pl1 (l : List UInt8) : List Kd := if l = [] then [.root] else [.root, .tx ⟨l.toArray⟩]
def pl2 (l : List UInt8) : List Kd := if l = [] then [.root, .el none] else [.root, .el none, .tx ⟨l.toArray⟩]
def pl3 (l : List UInt8) : List Kd := [.root, .el (some (⟨#[120]⟩, ⟨l.toArray⟩)), .tx ⟨#[121]⟩]
theorem ba_size (l : List UInt8) : (⟨l.toArray⟩ : ByteArray).size = l.length := by simp [ByteArray.size]
theorem pg_1 (l : List UInt8) (hl : l.length ≤ 1500) (w : World) (hg : GN w) : Calls Tryz.prog 6 #[.string ⟨(En.enc l).toArray⟩] w (OutPg (pl1 l) w) := by
  have ht := fun w' h => tokens_1 l hl w' h
  unfold pl1
  unfold ts1 at ht
  by_cases h0 : l = []
  · rw [if_pos h0] at ht ⊢
    exact pg_any _ [] (fun _ => ([.root], [(0, ⟨#[]⟩)])) _ w hg ht (by simp) rfl (by intro j tk h; simp at h) rfl
  · rw [if_neg h0] at ht ⊢
    refine pg_any _ _ (fun k => if k = 0 then ([.root], [(0, ⟨#[]⟩)]) else ([.root, .tx ⟨l.toArray⟩], [(0, ⟨#[]⟩)])) _ w hg ht (by simp) rfl ?_ rfl
    intro j tk h
    match j, h with
    | 0, h =>
      obtain rfl : Tk.tx ⟨l.toArray⟩ = tk := by simpa using h
      exact Stp.tx [.root] [(0, ⟨#[]⟩)] 0 0 ⟨#[]⟩ ⟨l.toArray⟩ .root rfl rfl (by omega) rfl (by simp) rfl rfl (by rw [ba_size]; omega)
    | j + 1, h => simp at h
theorem pg_2 (l : List UInt8) (hl : l.length ≤ 1500) (w : World) (hg : GN w) : Calls Tryz.prog 6 #[.string ⟨(sh2 l).toArray⟩] w (OutPg (pl2 l) w) := by
  have ht := fun w' h => tokens_2 l hl w' h
  unfold pl2
  unfold txt at ht
  by_cases h0 : l = []
  · rw [if_pos h0] at ht ⊢
    refine pg_any _ [.st none, .en] (fun k => if k = 0 then ([.root], [(0, ⟨#[]⟩)]) else if k = 1 then ([.root, .el none], [(0, ⟨#[]⟩), (1, ⟨#[98]⟩)]) else ([.root, .el none], [(0, ⟨#[]⟩)])) _ w hg ht (by simp) rfl ?_ rfl
    intro j tk h
    match j, h with
    | 0, h =>
      obtain rfl : Tk.st none = tk := by simpa using h
      exact Stp.st [.root] [(0, ⟨#[]⟩)] 0 0 ⟨#[]⟩ .root none rfl rfl (by omega) rfl (by simp) rfl rfl trivial
    | 1, h =>
      obtain rfl : Tk.en = tk := by simpa using h
      exact Stp.en [.root, .el none] 0 1
    | j + 2, h => simp at h
  · rw [if_neg h0] at ht ⊢
    refine pg_any _ [.st none, .tx ⟨l.toArray⟩, .en] (fun k => if k = 0 then ([.root], [(0, ⟨#[]⟩)]) else if k = 1 then ([.root, .el none], [(0, ⟨#[]⟩), (1, ⟨#[98]⟩)]) else if k = 2 then ([.root, .el none, .tx ⟨l.toArray⟩], [(0, ⟨#[]⟩), (1, ⟨#[98]⟩)]) else ([.root, .el none, .tx ⟨l.toArray⟩], [(0, ⟨#[]⟩)])) _ w hg ht (by simp) rfl ?_ rfl
    intro j tk h
    match j, h with
    | 0, h =>
      obtain rfl : Tk.st none = tk := by simpa using h
      exact Stp.st [.root] [(0, ⟨#[]⟩)] 0 0 ⟨#[]⟩ .root none rfl rfl (by omega) rfl (by simp) rfl rfl trivial
    | 1, h =>
      obtain rfl : Tk.tx ⟨l.toArray⟩ = tk := by simpa using h
      exact Stp.tx [.root, .el none] [(0, ⟨#[]⟩), (1, ⟨#[98]⟩)] 1 1 ⟨#[98]⟩ ⟨l.toArray⟩ (.el none) rfl rfl (by omega) rfl (by simp) rfl rfl (by rw [ba_size]; omega)
    | 2, h =>
      obtain rfl : Tk.en = tk := by simpa using h
      exact Stp.en [.root, .el none, .tx ⟨l.toArray⟩] 0 1
    | j + 3, h => simp at h
theorem pg_3 (l : List UInt8) (hl : l.length ≤ 1500) (w : World) (hg : GN w) : Calls Tryz.prog 6 #[.string ⟨(sh3 l).toArray⟩] w (OutPg (pl3 l) w) := by
  have ht := fun w' h => tokens_3 l hl w' h
  unfold pl3
  obtain ⟨q, hq⟩ : ∃ q, q = some ((⟨#[120]⟩ : ByteArray), (⟨l.toArray⟩ : ByteArray)) := ⟨_, rfl⟩
  have hqok : (Kd.el q).ok := by rw [hq]; exact ⟨by show (⟨#[120]⟩ : ByteArray).size ≤ 100000; decide, by show (⟨l.toArray⟩ : ByteArray).size ≤ 100000; rw [ba_size]; omega⟩
  rw [← hq] at ht ⊢
  refine pg_any _ [.st q, .tx ⟨#[121]⟩, .en] (fun k => if k = 0 then ([.root], [(0, ⟨#[]⟩)]) else if k = 1 then ([.root, .el q], [(0, ⟨#[]⟩), (1, ⟨#[98]⟩)]) else if k = 2 then ([.root, .el q, .tx ⟨#[121]⟩], [(0, ⟨#[]⟩), (1, ⟨#[98]⟩)]) else ([.root, .el q, .tx ⟨#[121]⟩], [(0, ⟨#[]⟩)])) _ w hg ht (by simp) rfl ?_ rfl
  intro j tk h
  match j, h with
  | 0, h =>
    obtain rfl : Tk.st q = tk := by simpa using h
    exact Stp.st [.root] [(0, ⟨#[]⟩)] 0 0 ⟨#[]⟩ .root q rfl rfl (by omega) rfl (by simp) rfl rfl hqok
  | 1, h =>
    obtain rfl : Tk.tx ⟨#[121]⟩ = tk := by simpa using h
    exact Stp.tx [.root, .el q] [(0, ⟨#[]⟩), (1, ⟨#[98]⟩)] 1 1 ⟨#[98]⟩ ⟨#[121]⟩ (.el q) rfl rfl (by omega) rfl (by simp) rfl rfl (by decide)
  | 2, h =>
    obtain rfl : Tk.en = tk := by simpa using h
    exact Stp.en [.root, .el q, .tx ⟨#[121]⟩] 0 1
  | j + 3, h => simp at h
end Go.Proofs.YtbhnfnbnngclmaaGreatDoor
/- laid; long at one text. -/
namespace Go.Proofs.YtbhnfnbnngclmaaGreatDoor
open Go.RowKit Go.Sort Go.BigFrame
set_option maxRecDepth 100000

theorem OutPg.form {l : List Kd} {w w' : World} {e : Ending} (h : OutPg l w e w') : ∃ g cap, e = .returned (.tuple #[.agg #[.slice (some ⟨g, 0, none⟩) l.length cap], .bool true]) ∧ Doc w' (.agg #[.slice (some ⟨g, 0, none⟩) l.length cap]) l l.length ∧ Good l l.length ∧ Below w.heap.size w w' := by
  obtain ⟨v, he, _, hd, hg, hb⟩ := h
  have hd' := hd
  obtain ⟨g, cap, e1, _⟩ := hd'
  rw [e1] at hd he
  exact ⟨g, cap, he, hd, hg, hb⟩
set_option maxHeartbeats 2000000 in
theorem long1 (t : ByteArray) (b : Nat) (w : World) (h : w.cell? ⟨b, 0, none⟩ = some (.string t)) : Calls Tryz.prog 4 #[.slice (some ⟨b, 0, none⟩) 1 1] w fun e w' => e = .returned (.bool (decide (1500 < t.size))) ∧ w' = w := by
  by_cases hb : 1500 < t.size
  · have hd : decide (1500 < t.size) = true := decide_eq_true hb
    rw [hd]
    clear hd
    go_enter Tryz.func4, Tryz.ntmps4
    go_wp2_with fail
    refine wp_loop_rounds 1 ?_
    rw [rounds_succ]
    go_wp2_with fail
    go_ret
    exact ⟨rfl, rfl⟩
  · have hd : decide (1500 < t.size) = false := decide_eq_false hb
    rw [hd]
    clear hd
    go_enter Tryz.func4, Tryz.ntmps4
    go_wp2_with fail
    refine wp_loop_rounds 2 ?_
    rw [rounds_succ]
    go_wp2_with fail
    rw [rounds_succ]
    go_wp2_with fail
    go_ret
    exact ⟨rfl, rfl⟩
set_option maxHeartbeats 4000000 in
theorem laid_any (w : World) (hg : GN w) : Calls Tryz.prog 9 #[] w fun e w' => e = .returned (.bool true) ∧ Below w.heap.size w w' := by
  have cp := pg_3 [49] (by decide) w hg
  have e3 : (⟨(sh3 [49]).toArray⟩ : ByteArray) = ⟨#[60, 98, 32, 120, 61, 39, 49, 39, 62, 121, 60, 47, 98, 62]⟩ := by rfl
  rw [e3] at cp
  have ca := fun v w' h hgd => attr_of (pl3 [49]) (pl3 [49]).length 1 (⟨#[120]⟩, ⟨#[49]⟩) v w' h hgd rfl
  have ct := fun v w' h hgd => text_any (pl3 [49]) (pl3 [49]).length 0 v w' h hgd (by decide) (by decide)
  have ea : (⟨(acc (pl3 [49]) 0 ((pl3 [49]).length - 1 - 0 + 1)).toArray⟩ : ByteArray) = ⟨#[121]⟩ := by rfl
  rw [ea] at ct
  obtain ⟨l, hl⟩ : ∃ l, l = pl3 [49] := ⟨_, rfl⟩
  have hl3 : l.length = 3 := by rw [hl]; rfl
  rw [← hl] at cp ca ct
  have ca : ∀ v w', Doc w' v l l.length → Good l l.length → Calls Tryz.prog 7 #[v, .int .i64 1, .string ⟨#[120]⟩] w' fun e w'' => e = .returned (.tuple #[.string ⟨#[49]⟩, .bool true]) ∧ Below w'.heap.size w' w'' := ca
  have ct : ∀ v w', Doc w' v l l.length → Good l l.length → Calls Tryz.prog 8 #[v, .int .i64 0] w' fun e w'' => e = .returned (.string ⟨#[121]⟩) ∧ Below w'.heap.size w' w'' := ct
  have CP := Lib.hid cp
  have CA := Lib.hid ca
  have CT := Lib.hid ct
  clear cp ca ct hl ea e3 hg
  go_enter Tryz.func9, Tryz.ntmps9
  go_wp2_with fail
  with_reducible refine CP.out.mono ?_
  intro e w1 ho
  obtain ⟨g, cap, rfl, hd1, hg1, hb1⟩ := ho.form
  rw [hl3] at hd1 hg1
  have HGD := Lib.hid hg1
  have hbA := below_alloc' w1 (.cells #[.slice (some ⟨g, 0, none⟩) 3 cap] 26)
  have hrA := heap_alloc_new w1 (.cells #[.slice (some ⟨g, 0, none⟩) 3 cap] 26)
  have HD2 := Lib.hid (hd1.below hbA)
  rw [hl3]
  have HB2 := Lib.hid (nx hb1 hbA)
  obtain ⟨w2, hw2⟩ : ∃ w2, w2 = w1.alloc (.cells #[.slice (some ⟨g, 0, none⟩) 3 cap] 26) := ⟨_, rfl⟩
  rw [← hw2] at hbA hrA HD2 HB2
  have x0 := cell_row hrA 0
  simp at x0
  have HW2 := Lib.hid hw2
  rw [hl3] at CA CT
  clear hw2 hbA hrA hd1 hg1 hb1 ho
  go_upto_region 2 with fail
  rw [← HW2.out]
  go_wp2_with fail
  with_reducible refine (CA.out _ _ HD2.out HGD.out).mono ?_
  rintro e w3 ⟨rfl, hb3⟩
  have x3 := (hb3.cell (p := ⟨w1.heap.size, 0, none⟩) (block_lt_of_cell x0)).trans x0
  have HD3 := Lib.hid (HD2.out.below hb3)
  have HB3 := Lib.hid (nx HB2.out hb3)
  clear x0 hb3
  go_wp2_with fail
  with_reducible refine (CT.out _ _ HD3.out HGD.out).mono ?_
  rintro e w4 ⟨rfl, hb4⟩
  have HB4 := Lib.hid (nx HB3.out hb4)
  clear hb4
  go_wp2_with fail
  go_ret
  exact ⟨rfl, HB4.out⟩
end Go.Proofs.YtbhnfnbnngclmaaGreatDoor
/- The law. -/
namespace Go.Proofs.YtbhnfnbnngclmaaGreatDoor
open Go.RowKit Go.Sort Go.BigFrame
set_option maxRecDepth 100000

theorem acc1 (l : List UInt8) : acc (pl1 l) 0 ((pl1 l).length - 1 - 0 + 1) = l := by
  unfold pl1
  by_cases h : l = []
  · rw [if_pos h, h]; rfl
  · rw [if_neg h]; simp [acc, dat]
theorem acc2 (l : List UInt8) : acc (pl2 l) 1 ((pl2 l).length - 1 - 1 + 1) = l := by
  unfold pl2
  by_cases h : l = []
  · rw [if_pos h, h]; rfl
  · rw [if_neg h]; simp [acc, dat]
theorem len1 (l : List UInt8) : 0 < (pl1 l).length ∧ (pl1 l).length ≤ 2 := by
  unfold pl1; split <;> simp
theorem len2 (l : List UInt8) : 1 < (pl2 l).length ∧ (pl2 l).length ≤ 3 := by
  unfold pl2; split <;> simp
set_option maxHeartbeats 8000000 in
theorem law_any (t : ByteArray) (w : World) (hg : GN w) : Calls Tryz.prog 3 #[.string t] w fun e w' => e = .returned (.bool true) ∧ Below w.heap.size w w' := by
  have hbA := below_alloc' w (.cells #[.string t] 9)
  have hrA := heap_alloc_new w (.cells #[.string t] 9)
  obtain ⟨W, hW⟩ : ∃ W, W = w.alloc (.cells #[.string t] 9) := ⟨_, rfl⟩
  rw [← hW] at hbA hrA
  have HW := Lib.hid hW
  have HB := Lib.hid hbA
  have HG := Lib.hid hg
  have HGW := Lib.hid (hg.below hbA)
  have cl := long1 t w.heap.size W (by have := cell_row hrA 0; simpa using this)
  obtain ⟨b, hb⟩ : ∃ b, b = decide (1500 < t.size) := ⟨_, rfl⟩
  rw [← hb] at cl
  have CL := Lib.hid cl
  have HLB := Lib.hid hb
  clear hW hbA hrA cl hb hg
  go_enter Tryz.func3, Tryz.ntmps3
  go_wp2_with fail
  rw [← HW.out]
  with_reducible refine CL.out.mono ?_
  rintro e w1 ⟨rfl, hw1⟩
  obtain rfl : W = w1 := hw1.symm
  cases b
  · have hsz : t.size ≤ 1500 := by have := HLB.out; simpa using this.symm
    obtain ⟨l, hl⟩ : ∃ l, l = t.data.toList := ⟨_, rfl⟩
    have hll : l.length ≤ 1500 := by rw [hl, size_len]; exact hsz
    have htl : (⟨l.toArray⟩ : ByteArray) = t := by rw [hl]
    have ce := encode_any t (by omega) W HGW.out
    rw [← hl] at ce
    obtain ⟨E, hE⟩ : ∃ E : ByteArray, E = ⟨(En.enc l).toArray⟩ := ⟨_, rfl⟩
    have hEs : E.size ≤ 9000 := by rw [hE, ba_size]; exact enc_len l hll
    have c1 := fun w' h => pg_1 l hll w' h
    have c2 := fun w' h => pg_2 l hll w' h
    have c3 := fun w' h => pg_3 l hll w' h
    have e2 : (⟨(sh2 l).toArray⟩ : ByteArray) = ⟨#[60, 98, 62]⟩ ++ E ++ ⟨#[60, 47, 98, 62]⟩ := by
      apply ba_ext
      rw [cat_data, cat_data, hE]
      simp [sh2]
    have e3 : (⟨(sh3 l).toArray⟩ : ByteArray) = ⟨#[60, 98, 32, 120, 61, 39]⟩ ++ E ++ ⟨#[39, 62, 121, 60, 47, 98, 62]⟩ := by
      apply ba_ext
      rw [cat_data, cat_data, hE]
      simp [sh3]
    rw [e2] at c2
    rw [e3] at c3
    rw [← hE] at ce c1
    have hs2 : (⟨#[60, 98, 62]⟩ ++ E : ByteArray).size ≤ 9003 := by rw [ByteArray.size_append]; show 3 + E.size ≤ 9003; omega
    have hs3 : (⟨#[60, 98, 32, 120, 61, 39]⟩ ++ E : ByteArray).size ≤ 9006 := by rw [ByteArray.size_append]; show 6 + E.size ≤ 9006; omega
    have ct1 := fun v w' h hgd => text_any (pl1 l) (pl1 l).length 0 v w' h hgd (len1 l).1 (len1 l).1
    have ct2 := fun v w' h hgd => text_any (pl2 l) (pl2 l).length 1 v w' h hgd (len2 l).1 (len2 l).1
    rw [acc1, htl] at ct1
    rw [acc2, htl] at ct2
    have ca := fun v w' h hgd => attr_of (pl3 l) 3 1 (⟨#[120]⟩, ⟨l.toArray⟩) v w' h hgd rfl
    rw [htl] at ca
    have hl3 : (pl3 l).length = 3 := rfl
    have p1 : (pl3 l)[1]? = some (.el (some (⟨#[120]⟩, ⟨l.toArray⟩))) := rfl
    obtain ⟨l1, h1⟩ : ∃ l1, l1 = pl1 l := ⟨_, rfl⟩
    obtain ⟨l2, h2⟩ : ∃ l2, l2 = pl2 l := ⟨_, rfl⟩
    obtain ⟨l3, h3⟩ : ∃ l3, l3 = pl3 l := ⟨_, rfl⟩
    have hn1 := (len1 l).2
    have hn2 := (len2 l).2
    rw [← h1] at c1 ct1 hn1
    rw [← h2] at c2 ct2 hn2
    rw [← h3] at c3 ca hl3 p1
    have ca : ∀ v w', Doc w' v l3 3 → Good l3 3 → Calls Tryz.prog 7 #[v, .int .i64 1, .string ⟨#[120]⟩] w' fun e w'' => e = .returned (.tuple #[.string t, .bool true]) ∧ Below w'.heap.size w' w'' := ca
    obtain ⟨n1, hn1e⟩ : ∃ n1, n1 = l1.length := ⟨_, rfl⟩
    obtain ⟨n2, hn2e⟩ : ∃ n2, n2 = l2.length := ⟨_, rfl⟩
    have ct1 : ∀ v w', Doc w' v l1 n1 → Good l1 n1 → Calls Tryz.prog 8 #[v, .int .i64 0] w' fun e w'' => e = .returned (.string t) ∧ Below w'.heap.size w' w'' := by rw [hn1e]; exact ct1
    have ct2 : ∀ v w', Doc w' v l2 n2 → Good l2 n2 → Calls Tryz.prog 8 #[v, .int .i64 1] w' fun e w'' => e = .returned (.string t) ∧ Below w'.heap.size w' w'' := by rw [hn2e]; exact ct2
    have q1 : ∀ w', GN w' → Calls Tryz.prog 6 #[.string E] w' fun e w'' => ∃ g cap, e = .returned (.tuple #[.agg #[.slice (some ⟨g, 0, none⟩) n1 cap], .bool true]) ∧ Doc w'' (.agg #[.slice (some ⟨g, 0, none⟩) n1 cap]) l1 n1 ∧ Good l1 n1 ∧ Below w'.heap.size w' w'' := by rw [hn1e]; exact fun w' h => (c1 w' h).mono fun e w'' h => h.form
    have q2 : ∀ w', GN w' → Calls Tryz.prog 6 #[.string (⟨#[60, 98, 62]⟩ ++ E ++ ⟨#[60, 47, 98, 62]⟩)] w' fun e w'' => ∃ g cap, e = .returned (.tuple #[.agg #[.slice (some ⟨g, 0, none⟩) n2 cap], .bool true]) ∧ Doc w'' (.agg #[.slice (some ⟨g, 0, none⟩) n2 cap]) l2 n2 ∧ Good l2 n2 ∧ Below w'.heap.size w' w'' := by rw [hn2e]; exact fun w' h => (c2 w' h).mono fun e w'' h => h.form
    have q3 : ∀ w', GN w' → Calls Tryz.prog 6 #[.string (⟨#[60, 98, 32, 120, 61, 39]⟩ ++ E ++ ⟨#[39, 62, 121, 60, 47, 98, 62]⟩)] w' fun e w'' => ∃ g cap, e = .returned (.tuple #[.agg #[.slice (some ⟨g, 0, none⟩) 3 cap], .bool true]) ∧ Doc w'' (.agg #[.slice (some ⟨g, 0, none⟩) 3 cap]) l3 3 ∧ Good l3 3 ∧ Below w'.heap.size w' w'' := by rw [← hl3]; exact fun w' h => (c3 w' h).mono fun e w'' h => h.form
    have b1 : ¬ ((2 : Int) < (n1 : Int)) := by omega
    have b1' : decide ((n1 : Int) > 2) = false := by simp; omega
    have b2 : ¬ ((3 : Int) < (n2 : Int)) := by omega
    have b2' : decide ((n2 : Int) > 3) = false := by simp; omega
    have CE := Lib.hid ce
    have Q1 := Lib.hid q1
    have Q2 := Lib.hid q2
    have Q3 := Lib.hid q3
    have CA := Lib.hid ca
    have CT1 := Lib.hid ct1
    have CT2 := Lib.hid ct2
    have P1 := Lib.hid p1
    clear ce q1 q2 q3 c1 c2 c3 ca ct1 ct2 p1 hl3 h1 h2 h3 hn1 hn2 hn1e hn2e e2 e3 hE htl hll hl
    go_wp2_with fail
    with_reducible refine CE.out.mono ?_
    rintro e w2 ⟨rfl, hb2⟩
    have HB2 := Lib.hid (nx HB.out hb2)
    clear hb2
    go_wp2_with fail
    with_reducible refine (Q1.out _ (HG.out.below HB2.out)).mono ?_
    rintro e w3 ⟨g4, k4, rfl, hd4, hg4, hb3⟩
    have hbX := below_alloc' w3 (.cells #[.slice (some ⟨g4, 0, none⟩) n1 k4] 26)
    have hrX := heap_alloc_new w3 (.cells #[.slice (some ⟨g4, 0, none⟩) n1 k4] 26)
    obtain ⟨X, hX⟩ : ∃ X, X = w3.alloc (.cells #[.slice (some ⟨g4, 0, none⟩) n1 k4] 26) := ⟨_, rfl⟩
    rw [← hX] at hbX hrX
    have x4 := cell_row hrX 0
    simp at x4
    have HX := Lib.hid hX
    have HD4 := Lib.hid (hd4.below hbX)
    have HG4 := Lib.hid hg4
    have HBX := Lib.hid ((nx HB2.out hb3).trans (hbX.mono (nx HB2.out hb3).size))
    clear hX hbX hrX hd4 hg4 hb3
    go_upto_region 5 with fail
    rw [← HX.out]
    go_wp2_with fail
    with_reducible refine (Q2.out _ (HG.out.below HBX.out)).mono ?_
    rintro e w4 ⟨g6, k6, rfl, hd6, hg6, hb4⟩
    have hbY := below_alloc' w4 (.cells #[.slice (some ⟨g6, 0, none⟩) n2 k6] 26)
    have hrY := heap_alloc_new w4 (.cells #[.slice (some ⟨g6, 0, none⟩) n2 k6] 26)
    obtain ⟨Y, hY⟩ : ∃ Y, Y = w4.alloc (.cells #[.slice (some ⟨g6, 0, none⟩) n2 k6] 26) := ⟨_, rfl⟩
    rw [← hY] at hbY hrY
    have y6 := cell_row hrY 0
    simp at y6
    have hXY := nx hb4 hbY
    have y4 := (hXY.cell (p := ⟨w3.heap.size, 0, none⟩) (block_lt_of_cell x4)).trans x4
    have HY := Lib.hid hY
    have HD4' := Lib.hid (HD4.out.below hXY)
    have HD6 := Lib.hid (hd6.below hbY)
    have HG6 := Lib.hid hg6
    have HBY := Lib.hid (nx HBX.out hXY)
    clear hY hbY hrY hd6 hg6 hb4 hXY x4
    go_upto_region 6 with fail
    rw [← HY.out]
    go_wp2_with fail
    with_reducible refine (Q3.out _ (HG.out.below HBY.out)).mono ?_
    rintro e w5 ⟨g8, k8, rfl, hd8, hg8, hb5⟩
    have hbZ := below_alloc' w5 (.cells #[.slice (some ⟨g8, 0, none⟩) 3 k8] 26)
    have hrZ := heap_alloc_new w5 (.cells #[.slice (some ⟨g8, 0, none⟩) 3 k8] 26)
    obtain ⟨Z, hZ⟩ : ∃ Z, Z = w5.alloc (.cells #[.slice (some ⟨g8, 0, none⟩) 3 k8] 26) := ⟨_, rfl⟩
    rw [← hZ] at hbZ hrZ
    have z8 := cell_row hrZ 0
    simp at z8
    have hYZ := nx hb5 hbZ
    have z4 := (hYZ.cell (p := ⟨w3.heap.size, 0, none⟩) (block_lt_of_cell y4)).trans y4
    have z6 := (hYZ.cell (p := ⟨w4.heap.size, 0, none⟩) (block_lt_of_cell y6)).trans y6
    have HZ := Lib.hid hZ
    have HZD4 := Lib.hid (HD4'.out.below hYZ)
    have HZD6 := Lib.hid (HD6.out.below hYZ)
    have HZD8 := Lib.hid (hd8.below hbZ)
    have HG8 := Lib.hid hg8
    have HBZ := Lib.hid (nx HBY.out hYZ)
    clear hZ hbZ hrZ hd8 hg8 hb5 hYZ y4 y6
    go_upto_region 7 with fail
    rw [← HZ.out]
    go_wp2_with fail
    with_reducible refine (CA.out _ _ HZD8.out HG8.out).mono ?_
    rintro e w6 ⟨rfl, hb6⟩
    have u4 := (hb6.cell (p := ⟨w3.heap.size, 0, none⟩) (block_lt_of_cell z4)).trans z4
    have u6 := (hb6.cell (p := ⟨w4.heap.size, 0, none⟩) (block_lt_of_cell z6)).trans z6
    have u8 := (hb6.cell (p := ⟨w5.heap.size, 0, none⟩) (block_lt_of_cell z8)).trans z8
    have HUD4 := Lib.hid (HZD4.out.below hb6)
    have HUD6 := Lib.hid (HZD6.out.below hb6)
    have HUD8 := Lib.hid (HZD8.out.below hb6)
    have HBU := Lib.hid (nx HBZ.out hb6)
    clear z4 z6 z8 hb6
    go_wp2_with fail
    with_reducible refine (CT1.out _ _ HUD4.out HG4.out).mono ?_
    rintro e w7 ⟨rfl, hb7⟩
    have v6 := (hb7.cell (p := ⟨w4.heap.size, 0, none⟩) (block_lt_of_cell u6)).trans u6
    have v8 := (hb7.cell (p := ⟨w5.heap.size, 0, none⟩) (block_lt_of_cell u8)).trans u8
    have HVD6 := Lib.hid (HUD6.out.below hb7)
    have HVD8 := Lib.hid (HUD8.out.below hb7)
    have HBV := Lib.hid (nx HBU.out hb7)
    clear u4 u6 u8 hb7
    go_wp2_with fail
    with_reducible refine (CT2.out _ _ HVD6.out HG6.out).mono ?_
    rintro e w8 ⟨rfl, hb8⟩
    have s8 := (hb8.cell (p := ⟨w5.heap.size, 0, none⟩) (block_lt_of_cell v8)).trans v8
    have HSD8 := Lib.hid (HVD8.out.below hb8)
    have HBS := Lib.hid (nx HBV.out hb8)
    clear v6 v8 hb8
    go_wp2_with fail
    with_reducible refine (laid_any _ (HG.out.below HBS.out)).mono ?_
    rintro e w9 ⟨rfl, hb9⟩
    have r8 := (hb9.cell (p := ⟨w5.heap.size, 0, none⟩) (block_lt_of_cell s8)).trans s8
    have hd9 := HSD8.out.below hb9
    have HB9 := Lib.hid (nx HBS.out hb9)
    obtain ⟨g', c', e1, _, hn'⟩ := hd9
    injection e1 with e1
    have e1' := congrArg (fun a : Array Value => a[0]?) e1
    simp at e1'
    obtain ⟨e2, e3⟩ := e1'
    subst e2
    obtain ⟨va, vk, ha, hk, hra⟩ := hn'.at_ 1 _ P1.out
    obtain ⟨ga, ca, cs, fr, rfl, _⟩ := ha
    have r11 : w9.cell? ⟨g8, 11, none⟩ = some (.slice (some ⟨ga, 0, none⟩) 1 ca) := hra 3 _ rfl
    clear s8 hb9 hn' hk hra e3 e1
    go_wp2_with fail
    go_ret
    exact ⟨rfl, HB9.out⟩
  · go_wp2_with fail
    go_ret
    exact ⟨rfl, HB.out⟩
end Go.Proofs.YtbhnfnbnngclmaaGreatDoor
