import Derived.Test.YtfhkjegmhnpgeaaDoorC
namespace Go.Proofs.YtfhkjegmhnpgeaaDoor
open Go.RowKit

def ic (l : List Int) : List Value := l.map (Value.int .i64)
theorem ic_append (a b : List Int) : ic (a ++ b) = ic a ++ ic b := by simp [ic]
theorem ic_length (a : List Int) : (ic a).length = a.length := by simp [ic]
/-- A slice of cells that reads as a list (nil too), in blocks that were there. -/
def Row (w : World) (A : Option Addr) (n : Nat) (vs : List Value) : Prop :=
  vs.length = n ∧ (0 < n → ∃ ad, A = some ad ∧ ad.block < w.heap.size ∧ ∀ j u, vs[j]? = some u → w.cell? (ad.add j) = some u)
theorem Row.at_ {w w' : World} {A : Option Addr} {n : Nat} {vs : List Value} (h : Row w A n vs) (hb : Below w.heap.size w w') (k : Nat) (u : Value) (hk : vs[k]? = some u) : ∃ ad, A = some ad ∧ w'.cell? (ad.add k) = some u := by
  have hl : k < vs.length := (List.getElem?_eq_some_iff.1 hk).1
  obtain ⟨ad, e, hlt, hc⟩ := h.2 (by have := h.1; omega)
  exact ⟨ad, e, (hb.cell (by rw [add_block]; exact hlt)).trans (hc k u hk)⟩
theorem Row.below {w w' : World} {A : Option Addr} {n : Nat} {vs : List Value} (h : Row w A n vs) (hb : Below w.heap.size w w') : Row w' A n vs :=
  ⟨h.1, fun hn => by
    obtain ⟨ad, e, hlt, hc⟩ := h.2 hn
    exact ⟨ad, e, Nat.lt_of_lt_of_le hlt hb.size, fun j u hj => (hb.cell (by rw [add_block]; exact hlt)).trans (hc j u hj)⟩⟩
theorem Row.of_own {w : World} {base e n : Nat} {A : Option Addr} {c : Nat} {vs : List Value} (h : w.ownsRow base e 1 (.slice A n c) n vs) : Row w A n vs := by
  refine ⟨by have := h.1; simpa using this, fun hn => ?_⟩
  rcases h.2 with ⟨hv, h0⟩ | ⟨g, cap, cur, hv, _, hg, _⟩
  · omega
  · injection hv with hA
    subst hA
    exact ⟨_, rfl, (Array.getElem?_eq_some_iff.1 hg).1, h.cells (g := g) rfl⟩
theorem own_below {w w1 : World} {base e s n : Nat} {v : Value} {xs : List Value} (h : w.ownsRow base e s v n xs) (hb : Below w.heap.size w w1) : w1.ownsRow base e s v n xs :=
  h.kept (row := none) ⟨hb.os, hb.tape, hb.output, hb.size, fun i hi _ => hb.block i hi⟩ (by cases v.ownBlock <;> simp)

theorem int_info : (Tryd.prog.info? 3).map (fun i => (i.zero, i.size, i.bytes)) = some (some (.int .i64 0), 1, 8) := by kernel_rfl
/-- append(l, n): one number more. -/
theorem wpList_append_int {ops : Array Oper} {rest : List Oper} {o : Oper} {a : Act} {Q : Exit → Act → World → Prop} (hgd : o.guard = none) (s x : Operand)
    (ho : o.op = .call { callee := .builtin .append, args := #[s, x], argTypes := #[27, 27] }) (W w0 : World) (base : Nat) (v : Value) (n : Nat) (l : List Int) (e : Int)
    (hs : a.eval s = v) (hx : a.eval x = .slice (some ⟨W.heap.size, 0, none⟩) 1 1) (hown : W.ownsRow base 3 1 v n (ic l)) (hb : Below base w0 W) (hB : base ≤ W.heap.size) (hn : n ≤ 1000000000000)
    (h : ∀ v' w', w'.ownsRow base 3 1 v' (n + 1) (ic (l ++ [e])) → Below base w0 w' → wpList Tryd.prog ops Q rest (a.put o.dst v') w') :
    wpList Tryd.prog ops Q (o :: rest) a (W.alloc (.cells #[.int .i64 e] 3)) := by
  obtain ⟨i0, hi, hz0, hz1, hz2⟩ := info_parts int_info
  refine wpList_append_own _ hgd s x 27 ho base 3 i0 (.int .i64 0) 1 8 Tryd.underlying27 hi hz0 hz1 hz2 rfl (by decide) v n _ hs (hown.alloc _) ⟨W.heap.size, 0, none⟩ 1 1 (ic [e]) hx rfl
    (cells_new W _ 3) (by simp [ic, Value.oneCell']) (by unfold maxLen; omega) (by omega) (by simp; omega) ?_
  intro v' w' h1 h2 _
  rw [← ic_append] at h1
  exact h v' w' h1 ((hb.alloc hB _).grown h2 (by simp; omega) (fun q hq => (hown.lt q hq).1))

/-- A result that is a slice of numbers. -/
def OutInts (p : List Int) (w : World) (e : Ending) (w' : World) : Prop :=
  ∃ A' c', e = .returned (.slice A' p.length c') ∧ p.length ≤ c' ∧ Row w' A' p.length (ic p) ∧ Below w.heap.size w w'
theorem OutInts.of_own {p : List Int} {w w' : World} {v : Value} {n : Nat} (h : w'.ownsRow w.heap.size 3 1 v n (ic p)) (hb : Below w.heap.size w w') : OutInts p w (.returned v) w' := by
  have hn : p.length = n := by have := h.1; rw [ic_length] at this; omega
  subst hn
  obtain ⟨A, c, rfl, h1, _⟩ := own_form h
  exact ⟨A, c, rfl, h1, Row.of_own h, hb⟩
def zs (p : List Nat) : List Int := p.map Int.ofNat

set_option maxHeartbeats 2000000 in
theorem ref_points_any (s : ByteArray) (w : World) (hs : s.size ≤ 100000) : Calls Tryd.prog 15 #[.string s] w (OutInts (zs (Ut.pts s.data.toList)) w) := by
  go_enter Tryd.func15, Tryd.ntmps15
  go_wp2
  go_loopg [3, 4] s.size (fun gk v i wr => ∃ (k n : Nat) (acc : List Nat), i = .int .i64 k ∧ k ≤ s.size ∧ s.size ≤ k + gk ∧ n ≤ k ∧ Hid (acc ++ Ut.pts (s.data.toList.drop k) = Ut.pts s.data.toList) ∧ wr.ownsRow w.heap.size 3 1 v n (ic (zs acc)) ∧ Below w.heap.size w wr)
  case atStart => exact ⟨0, 0, [], rfl, Nat.zero_le _, by omega, Nat.le_refl _, List.nil_append _, World.ownsRow_nil _ _ _ _, Below.refl _ _⟩
  case round =>
    obtain ⟨k, n, acc, rfl, hk, hgk, hnk, HA, hown, hbw⟩ := hrel
    have hsz := hbw.size
    by_cases hlt : k < s.size
    · have hdl : (s.extract k s.size).data.toList = s.data.toList.drop k := by
        rw [Lib.extract_data, List.take_of_length_le (by rw [List.length_drop, size_len]; exact Nat.le_refl _)]
      have hds : (s.extract k s.size).size = s.size - k := by rw [← size_len, hdl, List.length_drop, size_len]
      obtain ⟨l, hl⟩ : ∃ l, l = s.data.toList.drop k := ⟨_, rfl⟩
      have hll : l.length = s.size - k := by rw [hl, List.length_drop, size_len]
      have hne : l ≠ [] := fun e => by rw [e] at hll; simp at hll; omega
      have hf : ∀ w, Calls Tryd.prog 27 #[.string (s.extract k s.size)] w (PairB (rf l).1 (rf l).2 w) := by
        intro w
        have := first_any (s.extract k s.size) w (by omega) (by omega)
        rwa [hdl, ← hl] at this
      have hpos := Ut.dN_pos l hne
      have hcons := Ut.pts_cons l hne
      have hrf := rf_eq l hne
      rw [hl, List.drop_drop, ← hl] at hcons
      rw [hll] at hpos
      obtain ⟨r, hr⟩ : ∃ r, r = (Ut.dN l).1 := ⟨_, rfl⟩
      obtain ⟨m, hm⟩ : ∃ m, m = (Ut.dN l).2 := ⟨_, rfl⟩
      have hrm : Ut.dN l = (r, m) := by rw [hr, hm]
      rw [hrm] at hpos hcons hrf
      simp only at hpos hcons
      have hsum : (acc ++ [r]) ++ Ut.pts (s.data.toList.drop (k + m)) = Ut.pts s.data.toList := by rw [← HA.out, ← hl, hcons, List.append_assoc]; rfl
      have HS := Lib.hid hsum; clear hsum hcons
      have HF := Lib.hid hf; clear hf
      clear hrm hr hm hll hne hl hdl hds HA
      have hn12 : n ≤ 1000000000000 := by omega
      have hz : ic (zs acc ++ [(r : Int)]) = ic (zs (acc ++ [r])) := by simp [zs]
      have HZ := Lib.hid hz; clear hz
      by_cases hbad : r = 65533 ∧ m = 1
      · obtain ⟨rfl, rfl⟩ := hbad
        rw [if_pos rfl] at hrf
        rw [hrf] at HF
        go_wp2_with fail
        refine (HF.out _).mono ?_
        rintro e w1 ⟨rfl, hb1⟩
        have hown1 := own_below hown hb1
        have hbw1 := hbw.trans (hb1.mono hsz)
        have hsz1 := hbw1.size
        go_wp2_with (at_builtin; refine wpList_append_int rfl (.tmp 20) (.tmp 22) rfl w1 w w.heap.size _ n _ _ rfl rfl hown1 hbw1 hsz1 hn12 ?_; intro v' w2 hown2 hbw2)
        go_roundg (gk - 1)
        case rel => exact ⟨k + 1, n + 1, acc ++ [65533], by go_num, by omega, by omega, by omega, HS.out, by rw [← HZ.out]; exact hown2, hbw2⟩
        case measure => omega
      · rw [if_neg (fun e => by injection e with e1 e2; exact hbad ⟨e1, e2⟩)] at hrf
        rw [hrf] at HF
        have hm0 : ((m : Int) == 0) = false := by rw [beq_eq_false_iff_ne]; omega
        clear hbad
        go_wp2_with fail
        refine (HF.out _).mono ?_
        rintro e w1 ⟨rfl, hb1⟩
        have hown1 := own_below hown hb1
        have hbw1 := hbw.trans (hb1.mono hsz)
        have hsz1 := hbw1.size
        go_wp2_with (at_builtin; refine wpList_append_int rfl (.tmp 20) (.tmp 22) rfl w1 w w.heap.size _ n _ _ rfl rfl hown1 hbw1 hsz1 hn12 ?_; intro v' w2 hown2 hbw2)
        go_roundg (gk - 1)
        case rel => exact ⟨k + m, n + 1, acc ++ [r], by go_num, by omega, by omega, by omega, HS.out, by rw [← HZ.out]; exact hown2, hbw2⟩
        case measure => omega
    · obtain rfl : k = s.size := by omega
      have hnil : s.data.toList.drop s.size = [] := List.drop_eq_nil_of_le (by rw [size_len]; exact Nat.le_refl _)
      have hfin : acc = Ut.pts s.data.toList := by have := HA.out; rw [hnil, Ut.pts_nil, List.append_nil] at this; exact this
      have HF := Lib.hid hfin; clear hfin hnil HA
      go_wp2
      go_ret
      rw [← HF.out]
      exact OutInts.of_own hown hbw
end Go.Proofs.YtfhkjegmhnpgeaaDoor
