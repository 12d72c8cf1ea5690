/- Makers in memory of their own; what policies say of a name: lets. -/
import Derived.Test.YtpjakdekaolmeaaDoorRD
namespace Go.Proofs.YtpjakdekaolmeaaDoor
open Go.RowKit Go.Shelf

theorem maker_row : (Tryd.prog.info? 39).map (fun i => (i.zero, i.size, i.bytes)) = some (some (.agg #[.string ⟨#[]⟩]), 1, 16) := by kernel_rfl
/-- append(own, l...): a slice's texts behind, whatever slice it is. -/
theorem wpList_append_any_makers {ops : Array Oper} {rest : List Oper} {o : Oper} {a : Act} {Q : Exit → Act → World → Prop} (hgd : o.guard = none) (s x : Operand)
    (ho : o.op = .call { callee := .builtin .append, args := #[s, x], argTypes := #[23, 23] }) (W w0 : World) (base : Nat) (v : Value) (n : Nat) (l m : List ByteArray) (A : Option Addr) (k c : Nat)
    (hs : a.eval s = v) (hx : a.eval x = .slice A k c) (hown : W.ownsRow base 39 1 v n (l.map Value.string)) (hm : Texts W A k m) (hz : A = none → k = 0 ∧ c = 0) (hb : Below base w0 W) (hB : base ≤ W.heap.size) (hn : n + k ≤ 1000000000000)
    (h : ∀ v' w', w'.ownsRow base 39 1 v' (n + k) ((l ++ m).map Value.string) → Below base w0 w' → wpList Tryd.prog ops Q rest (a.put o.dst v') w') :
    wpList Tryd.prog ops Q (o :: rest) a W := by
  obtain ⟨i0, hi, hz0, hz1, hz2⟩ := info_parts maker_row
  cases A with
  | none =>
    obtain ⟨rfl, rfl⟩ := hz rfl
    have hm0 : m = [] := List.eq_nil_of_length_eq_zero hm.1
    subst hm0
    refine wpList_append_own_none hgd s x 23 ho base 39 i0 1 Tryd.underlying23 hi v n _ hs hown hx (h v W ?_ hb)
    rw [List.append_nil]; exact hown
  | some ad =>
    refine wpList_append_own _ hgd s x 23 ho base 39 i0 (.agg #[.string ⟨#[]⟩]) 1 16 Tryd.underlying23 hi hz0 hz1 hz2 rfl (by decide) v n _ hs hown ad k c (m.map Value.string) hx (by rw [List.length_map, hm.1]; omega)
      (fun j u hj => ?_) (fun u hu => by simp at hu; obtain ⟨_, _, rfl⟩ := hu; rfl) (by unfold maxLen; omega) (by omega) hB ?_
    · have hj' : j < m.length := by have := (List.getElem?_eq_some_iff.1 hj).1; rwa [List.length_map] at this
      obtain ⟨ad', e, _, hc⟩ := hm.2 (by have := hm.1; omega)
      injection e with e; subst e
      rw [hc j hj', ← hj]
      simp [List.getElem?_eq_getElem hj']
    · intro v' w' h1 h2 _
      rw [← List.map_append] at h1
      exact h v' w' h1 (hb.grown h2 hB (fun q hq => (hown.lt q hq).1))
/-- A result that is a row of makers of the call's own. -/
def OutMakers (ms : List ByteArray) (w : World) (e : Ending) (w' : World) : Prop := ∃ v, e = .returned v ∧ w'.ownsRow w.heap.size 39 1 v ms.length (ms.map Value.string) ∧ Below w.heap.size w w'
theorem Texts.of_makers {w : World} {base n : Nat} {A : Option Addr} {c : Nat} {ss : List ByteArray} (h : w.ownsRow base 39 1 (.slice A n c) n (ss.map Value.string)) : Texts w A n ss := by
  have hl : ss.length = n := by have := h.1; simpa using this
  refine ⟨hl, fun hn => ?_⟩
  rcases h.2 with ⟨hv, h0⟩ | ⟨g, cap, cur, hv, _, hg, _⟩
  · omega
  · injection hv with hA
    subst hA
    refine ⟨_, rfl, (Array.getElem?_eq_some_iff.1 hg).1, fun j hj => ?_⟩
    exact h.cells (g := g) rfl j (.string ss[j]) (by simp [List.getElem?_eq_getElem hj])
/-- The reference's Own. -/
theorem ownm_any (A : Option Addr) (n c : Nat) (ms : List ByteArray) (w : World) (ht : Texts w A n ms) (hz : A = none → n = 0 ∧ c = 0) (hn : n ≤ 10000000) : Calls Tryd.prog 10 #[.slice A n c] w (OutMakers ms w) := by
  have hl := ht.1
  go_enter Tryd.func10, Tryd.ntmps10
  go_wp2_with (at_builtin; refine wpList_append_any_makers rfl (.tmp 4) (.tmp 5) rfl _ w w.heap.size _ 0 [] ms A n c rfl rfl (World.ownsRow_nil _ _ _ _) ht hz (Below.refl _ _) (Nat.le_refl _) (by omega) ?_; intro v w1 hown hb1)
  go_ret
  rw [Nat.zero_add, List.nil_append] at hown
  subst hl
  exact ⟨_, rfl, hown, hb1⟩
theorem own_none (w : World) (base : Nat) (hb : base ≤ w.heap.size) (T : TypeId) : (w.alloc (.cells #[] T)).ownsRow base T 1 (.slice (some ⟨w.heap.size, 0, none⟩) 0 0) 0 (([] : List ByteArray).map Value.string) :=
  ⟨rfl, .inr ⟨w.heap.size, 0, #[], rfl, hb, heap_alloc_new w _, Nat.le_refl _, Nat.zero_le _, rfl, rfl⟩⟩
set_option maxRecDepth 100000 in
/-- slices.Clone of makers. -/
theorem clonem_any (A : Option Addr) (n c : Nat) (ms : List ByteArray) (w : World) (ht : Texts w A n ms) (hz : A = none → n = 0 ∧ c = 0) (hn : n ≤ 10000000) : Calls Tryd.prog 31 #[.slice A n c] w (OutMakers ms w) := by
  have hl := ht.1
  have q23 : ∀ (w : World) (a : Option Addr) (n c n' c' : Nat), (binOp .eql 23 (.slice a n c) (.slice none n' c')).run Tryd.prog w = .ok (.bool a.isNone) w := fun w a n c n' c' => Lib.run_eql_slice_nil w _ _ a n c n' c' Tryd.underlying23
  cases A with
  | none =>
    obtain ⟨rfl, rfl⟩ := hz rfl
    have hm0 : ms = [] := List.eq_nil_of_length_eq_zero hl
    subst hm0
    clear ht hl hz
    go_enter Tryd.func31, Tryd.ntmps31
    go_wp2_with fail
    go_ret
    exact ⟨_, rfl, World.ownsRow_nil _ _ _ _, Below.refl _ _⟩
  | some ad =>
    have HL := Lib.hid hl
    have HT := Lib.hid ht
    have HOW := Lib.hid (own_none w w.heap.size (Nat.le_refl _) 39)
    clear hl ht hz
    go_enter Tryd.func31, Tryd.ntmps31
    go_wp2_with (at_builtin; refine wpList_append_any_makers rfl (.tmp 5) (.tmp 6) rfl _ w w.heap.size _ 0 [] ms (some ad) n c rfl rfl HOW.out (HT.out.below (below_alloc' w _)) (fun e => by cases e) (below_alloc' w _) (by simp) (by omega) ?_; intro v w1 hown hb1)
    go_ret
    rw [Nat.zero_add, List.nil_append] at hown
    have hl := HL.out
    subst hl
    exact ⟨_, rfl, hown, hb1⟩

/-- fold.Same. -/
theorem same_any (s t : ByteArray) (w : World) (hs : s.size ≤ 10000000) (ht : t.size ≤ 10000000) : Calls Tryd.prog 40 #[.string s, .string t] w fun e w' => e = .returned (.bool (decide (Fo.lower s.data.toList = Fo.lower t.data.toList))) ∧ Below w.heap.size w w' := by
  obtain ⟨A, hA⟩ : ∃ A : ByteArray, A = ⟨(Fo.lower s.data.toList).toArray⟩ := ⟨_, rfl⟩
  obtain ⟨B, hB⟩ : ∃ B : ByteArray, B = ⟨(Fo.lower t.data.toList).toArray⟩ := ⟨_, rfl⟩
  have cs := Lib.hid (fun w' => lower_any s w' hs)
  have ct := Lib.hid (fun w' => lower_any t w' ht)
  rw [← hA] at cs
  rw [← hB] at ct
  have he : (A.toList == B.toList) = decide (Fo.lower s.data.toList = Fo.lower t.data.toList) := by
    rw [Lib.toList_data, Lib.toList_data, hA, hB, Bool.eq_iff_iff]
    simp
  have HE := Lib.hid he; clear he hA hB
  go_enter Tryd.func40, Tryd.ntmps40
  go_wp2_with fail
  with_reducible refine (cs.out w).mono ?_
  rintro e w1 ⟨rfl, hb1⟩
  go_wp2_with fail
  with_reducible refine (ct.out w1).mono ?_
  rintro e w2 ⟨rfl, hb2⟩
  go_wp2
  go_ret
  exact ⟨ret_bool HE.out, nx hb1 hb2⟩
/-- lets' two questions. -/
theorem ask1_any (b : Nat) (n x : ByteArray) (w : World) (hb : w.cell? ⟨b, 0, none⟩ = some (.string n)) : Calls Tryd.prog 38 #[.string x, .pointer (some ⟨b, 0, none⟩)] w fun e w' => e = .returned (.bool (decide (x = starB) || decide (x = n))) ∧ Below w.heap.size w w' := by
  by_cases h1 : x = starB
  · have hq : (x.toList == [42]) = true := by rw [h1, Lib.toList_data]; rfl
    have H1 := Lib.hid h1
    clear h1
    go_enter Tryd.func38, Tryd.ntmps38
    go_wp2_with fail
    go_ret
    exact ⟨ret_bool (by simp [H1.out]), Below.refl _ _⟩
  · have hq : (x.toList == [42]) = false := by
      rw [beq_eq_false_iff_ne, Lib.toList_data]
      exact fun e => h1 (ByteArray.ext (Array.toList_inj.1 e))
    have H1 := Lib.hid h1
    clear h1
    by_cases h2 : x = n
    · have hq2 := str_eq h2
      have H2 := Lib.hid h2
      clear h2
      go_enter Tryd.func38, Tryd.ntmps38
      go_wp2_with fail
      go_ret
      exact ⟨ret_bool (by simp [H2.out]), Below.refl _ _⟩
    · have hq2 := str_ne h2
      have H2 := Lib.hid h2
      clear h2
      go_enter Tryd.func38, Tryd.ntmps38
      go_wp2_with fail
      go_ret
      exact ⟨ret_bool (by simp [H1.out, H2.out]), Below.refl _ _⟩
theorem dup_low : Fo.lower dupB = dupB := by decide +kernel
theorem ask2_any (x : ByteArray) (w : World) (hx : x.size ≤ 10000000) : Calls Tryd.prog 39 #[.string x] w fun e w' => e = .returned (.bool (decide (Fo.lower x.data.toList = dupB))) ∧ Below w.heap.size w w' := by
  have c := same_any x ⟨#[39, 97, 108, 108, 111, 119, 45, 100, 117, 112, 108, 105, 99, 97, 116, 101, 115, 39]⟩ w hx (by decide)
  rw [show Fo.lower (⟨#[39, 97, 108, 108, 111, 119, 45, 100, 117, 112, 108, 105, 99, 97, 116, 101, 115, 39]⟩ : ByteArray).data.toList = dupB from dup_low] at c
  obtain ⟨r, hr⟩ : ∃ r, r = decide (Fo.lower x.data.toList = dupB) := ⟨_, rfl⟩
  rw [← hr] at c ⊢
  have C := Lib.hid c
  clear c hr
  go_enter Tryd.func39, Tryd.ntmps39
  go_wp2_with fail
  with_reducible refine C.out.mono ?_
  rintro e w1 ⟨rfl, hb1⟩
  go_wp2
  go_ret
  exact ⟨rfl, hb1⟩
/-- The first place of which something is so. -/
def placeOf (p : ByteArray → Bool) (k : Nat) : List ByteArray → Int
  | [] => -1
  | x :: r => if p x then k else placeOf p (k + 1) r
theorem placeOf_any (p : ByteArray → Bool) : ∀ (l : List ByteArray) (k : Nat), decide (0 ≤ placeOf p k l) = l.any p
  | [], _ => rfl
  | x :: r, k => by
    unfold placeOf
    rw [List.any_cons]
    cases h : p x
    · rw [if_neg (by simp), placeOf_any p r (k + 1)]; rfl
    · rw [if_pos rfl]; simp
set_option maxHeartbeats 4000000 in
theorem indexf_any (g : FuncId) (hg : g = 38 ∨ g = 39) (lb : Array Value) (p : ByteArray → Bool) (A : Option Addr) (N c : Nat) (ss : List ByteArray) (w : World) (ht : Texts w A N ss) (hn : N ≤ 10000000)
    (hp : ∀ x ∈ ss, ∀ W, Below w.heap.size w W → Calls Tryd.prog g (#[.string x] ++ lb) W fun e w' => e = .returned (.bool (p x)) ∧ Below W.heap.size W w') :
    Calls Tryd.prog 54 #[.slice A N c, .func (.func g) #[] lb] w fun e w' => e = .returned (.int .i64 (placeOf p 0 ss)) ∧ Below w.heap.size w w' := by
  have hl := ht.1
  have HT := Lib.hid ht
  have HL := Lib.hid hl
  have HP := Lib.hid hp
  clear ht hl hp
  have e38 : ∀ args w, (callFunc 38 args).run Tryd.prog w = .ok (.enter 38 args) w := enters_of Tryd.func38 (by kernel_rfl) rfl
  have e39 : ∀ args w, (callFunc 39 args).run Tryd.prog w = .ok (.enter 39 args) w := enters_of Tryd.func39 (by kernel_rfl) rfl
  rcases hg with rfl | rfl
  all_goals
    go_enter Tryd.func54, Tryd.ntmps54
    go_wp2_with fail
    go_loopg [8] N (fun gk i wr => ∃ k : Nat, k + gk = N ∧ i = .int .i64 k ∧ Hid (placeOf p 0 ss = placeOf p k (ss.drop k)) ∧ Hid (Below w.heap.size w wr))
    case atStart => exact ⟨0, by omega, rfl, rfl, Below.refl _ _⟩
    case round =>
      obtain ⟨k, hk, rfl, HA, HB⟩ := hrel
      have HK := Lib.hid hk; clear hk
      by_cases hlt : k < N
      · have hkl : k < ss.length := by rw [HL.out]; exact hlt
        obtain ⟨b, off, rfl, hbl, hcc⟩ := (HT.out.below HB.out).row (by omega)
        have hck := hcc k hkl
        have ha := HA.out
        rw [List.drop_eq_getElem_cons hkl, placeOf] at ha
        have hpx := HP.out ss[k] (List.getElem_mem hkl) wr HB.out
        obtain ⟨x, hx⟩ : ∃ x, x = ss[k] := ⟨_, rfl⟩
        rw [← hx] at hck ha hpx
        obtain ⟨PX, hPX⟩ : ∃ b, b = p x := ⟨_, rfl⟩
        rw [← hPX] at hpx ha
        have HPX := Lib.hid hpx
        have HA2 := Lib.hid ha
        clear hcc ha hpx hx hPX
        go_wp2_with fail
        refine HPX.out.mono ?_
        rintro e w1 ⟨rfl, hb1⟩
        cases PX
        · go_wp2_with fail
          go_roundg (gk - 1)
          case measure => have := HK.out; omega
          case rel => have := HK.out; exact ⟨k + 1, by omega, by go_num, HA2.out, nx HB.out hb1⟩
        · go_wp2_with fail
          go_ret
          exact ⟨ret_int HA2.out.symm, nx HB.out hb1⟩
      · have ha := HA.out
        rw [List.drop_eq_nil_of_le (by rw [HL.out]; omega)] at ha
        have HA2 := Lib.hid ha
        clear ha
        go_wp2_with fail
        go_ret
        exact ⟨ret_int HA2.out.symm, HB.out⟩
theorem some_any (g : FuncId) (hg : g = 38 ∨ g = 39) (lb : Array Value) (p : ByteArray → Bool) (A : Option Addr) (N c : Nat) (ss : List ByteArray) (w : World) (ht : Texts w A N ss) (hn : N ≤ 10000000)
    (hp : ∀ x ∈ ss, ∀ W, Below w.heap.size w W → Calls Tryd.prog g (#[.string x] ++ lb) W fun e w' => e = .returned (.bool (p x)) ∧ Below W.heap.size W w') :
    Calls Tryd.prog 37 #[.slice A N c, .func (.func g) #[] lb] w fun e w' => e = .returned (.bool (ss.any p)) ∧ Below w.heap.size w w' := by
  have c54 := indexf_any g hg lb p A N c ss w ht hn hp
  have hr := placeOf_any p ss 0
  obtain ⟨r, hr2⟩ : ∃ r, r = ss.any p := ⟨_, rfl⟩
  obtain ⟨x, hx⟩ : ∃ x, x = placeOf p 0 ss := ⟨_, rfl⟩
  rw [← hr2, ← hx] at hr
  rw [← hr2]
  rw [← hx] at c54
  have c45 : Calls Tryd.prog 45 #[.slice A N c, .func (.func g) #[] lb] w fun e w' => e = .returned (.bool r) ∧ Below w.heap.size w w' := by
    have C54 := Lib.hid c54
    have HR := Lib.hid hr
    clear c54 hr hr2 hx ht hp
    go_enter Tryd.func45, Tryd.ntmps45
    go_wp2_with fail
    with_reducible refine C54.out.mono ?_
    rintro e w1 ⟨rfl, hb1⟩
    go_wp2_with fail
    go_ret
    exact ⟨ret_bool HR.out, hb1⟩
  have C45 := Lib.hid c45
  clear c45 c54 hr hr2 hx ht hp
  go_enter Tryd.func37, Tryd.ntmps37
  go_wp2_with fail
  with_reducible refine C45.out.mono ?_
  rintro e w1 ⟨rfl, hb1⟩
  go_wp2_with fail
  go_ret
  exact ⟨rfl, hb1⟩
end Go.Proofs.YtpjakdekaolmeaaDoor
