import Derived.Test.YtajokmcdhhiahaaGreatDoorHA
namespace Go.Proofs.YtajokmcdhhiahaaGreatDoor
open Go.RowKit

set_option maxRecDepth 100000 in
/-- append(own, l...): a slice's texts behind, whatever slice it is. -/
theorem wpList_append_any_texts {ops : Array Oper} {rest : List Oper} {o : Oper} {a : Act} {Q : Exit → Act → World → Prop} (hgd : o.guard = none) (s x : Operand)
    (ho : o.op = .call { callee := .builtin .append, args := #[s, x], argTypes := #[33, 33] }) (W w0 : World) (base : Nat) (v : Value) (n : Nat) (l m : List ByteArray) (A : Option Addr) (k c : Nat)
    (hs : a.eval s = v) (hx : a.eval x = .slice A k c) (hown : W.ownsRow base 9 1 v n (l.map Value.string)) (hm : Texts W A k m) (hz : A = none → k = 0 ∧ c = 0) (hb : Below base w0 W) (hB : base ≤ W.heap.size) (hn : n + k ≤ 1000000000000)
    (h : ∀ v' w', w'.ownsRow base 9 1 v' (n + k) ((l ++ m).map Value.string) → Below base w0 w' → wpList Tryz.prog ops Q rest (a.put o.dst v') w') :
    wpList Tryz.prog ops Q (o :: rest) a W := by
  obtain ⟨i0, hi, hz0, hz1, hz2⟩ := info_parts text_row
  cases A with
  | none =>
    obtain ⟨rfl, rfl⟩ := hz rfl
    have hm0 : m = [] := List.eq_nil_of_length_eq_zero hm.1
    subst hm0
    refine wpList_append_own_none hgd s x 33 ho base 9 i0 1 Tryz.underlying33 hi v n _ hs hown hx (h v W ?_ hb)
    rw [List.append_nil]; exact hown
  | some ad =>
    refine wpList_append_own _ hgd s x 33 ho base 9 i0 (.string ⟨#[]⟩) 1 16 Tryz.underlying33 hi hz0 hz1 hz2 rfl (by decide) v n _ hs hown ad k c (m.map Value.string) hx (by rw [List.length_map, hm.1]; omega)
      (fun j u hj => ?_) (fun u hu => by simp at hu; obtain ⟨_, _, rfl⟩ := hu; rfl) (by unfold maxLen; omega) (by omega) hB ?_
    · have hj' : j < m.length := by have := (List.getElem?_eq_some_iff.1 hj).1; rwa [List.length_map] at this
      obtain ⟨ad', e, _, hc⟩ := hm.2 (by have := hm.1; omega)
      injection e with e; subst e
      rw [hc j hj', ← hj]
      simp [List.getElem?_eq_getElem hj']
    · intro v' w' h1 h2 _
      rw [← List.map_append] at h1
      exact h v' w' h1 (hb.grown h2 hB (fun q hq => (hown.lt q hq).1))
theorem own_lower {w : World} {base base' T sz n : Nat} {v : Value} {xs : List Value} (h : w.ownsRow base T sz v n xs) (hb : base' ≤ base) : w.ownsRow base' T sz v n xs := by
  rcases h with ⟨h1, h2⟩
  refine ⟨h1, ?_⟩
  rcases h2 with h2 | ⟨g, cap, cur, a, b, c⟩
  · exact .inl h2
  · exact .inr ⟨g, cap, cur, a, Nat.le_trans hb b, c⟩
/-- A result that is a row of texts of the call's own. -/
def OutRow (ss : List ByteArray) (w : World) (e : Ending) (w' : World) : Prop := ∃ v, e = .returned v ∧ w'.ownsRow w.heap.size 9 1 v ss.length (ss.map Value.string) ∧ Below w.heap.size w w'
theorem OutRow.texts {ss : List ByteArray} {w w' : World} {e : Ending} (h : OutRow ss w e w') : OutTexts ss w e w' := by
  obtain ⟨v, rfl, hown, hb⟩ := h
  exact OutTexts.of_own hown hb
/-- slices.Clone of texts. -/
theorem clone_own (A : Option Addr) (n c : Nat) (ss : List ByteArray) (w : World) (ht : Texts w A n ss) (hz : A = none → n = 0 ∧ c = 0) (hn : n ≤ 10000000) : Calls Tryz.prog 62 #[.slice A n c] w (OutRow ss w) := by
  cases A with
  | none =>
    obtain ⟨rfl, rfl⟩ := hz rfl
    have hs0 : ss = [] := List.eq_nil_of_length_eq_zero ht.1
    subst hs0
    exact (Tryz.slices_Clone_string_nil 0 0 w).mono fun e w' ⟨he, hw⟩ => by subst hw; exact ⟨_, he, World.ownsRow_nil _ _ _ _, Below.refl _ _⟩
  | some ad =>
    rcases Nat.eq_zero_or_pos n with h0 | h0
    · subst h0
      have hs0 : ss = [] := List.eq_nil_of_length_eq_zero ht.1
      subst hs0
      exact (Tryz.slices_Clone_string_zero ad c w).mono fun e w' ⟨v, he, hown, _, hb⟩ => by subst he; exact ⟨_, rfl, hown, hb⟩
    · obtain ⟨ad', e, _, hc⟩ := ht.2 h0
      injection e with e; subst e
      have hl := ht.1
      obtain ⟨b, off, sp⟩ := ad
      have hsp := World.cell?_spot (hc 0 (by omega))
      simp [Addr.add] at hsp
      subst hsp
      refine (Tryz.slices_Clone_string b off n c ss w (by omega) (by omega) (fun j hj => ?_)).mono fun e w' ⟨v, he, hown, _, hb⟩ => ?_
      · have := hc j hj
        rw [add_at] at this
        rw [this, List.getD_eq_getElem?_getD, List.getElem?_eq_getElem hj]; rfl
      · subst he
        rw [List.take_of_length_le (by omega)] at hown
        subst hl
        exact ⟨_, rfl, hown, hb⟩

/-- A value that is a slice of texts. -/
def TextsV (w : World) (v : Value) (ss : List ByteArray) : Prop := ∃ A c, v = .slice A ss.length c ∧ ss.length ≤ c ∧ (A = none → c = 0) ∧ Texts w A ss.length ss
theorem TextsV.below {w w' : World} {v : Value} {ss : List ByteArray} (h : TextsV w v ss) (hb : Below w.heap.size w w') : TextsV w' v ss := by
  obtain ⟨A, c, h1, h2, h3, h4⟩ := h
  exact ⟨A, c, h1, h2, h3, h4.below hb⟩
/-- A value that is a slice of directives: each one's name, and its words. -/
def DirsV (w : World) (v : Value) (ds : List (ByteArray × List ByteArray)) : Prop := ∃ A c, v = .slice A ds.length c ∧ ds.length ≤ c ∧ (A = none → c = 0) ∧
  (0 < ds.length → ∃ g off, A = some ⟨g, off, none⟩ ∧ g < w.heap.size ∧ ∀ j (h : j < ds.length), w.cell? ⟨g, off + j * 2, none⟩ = some (.string ds[j].1) ∧ ∃ wv, w.cell? ⟨g, off + j * 2 + 1, none⟩ = some wv ∧ TextsV w wv ds[j].2)
theorem DirsV.below {w w' : World} {v : Value} {ds : List (ByteArray × List ByteArray)} (h : DirsV w v ds) (hb : Below w.heap.size w w') : DirsV w' v ds := by
  obtain ⟨A, c, h1, h2, h3, h4⟩ := h
  refine ⟨A, c, h1, h2, h3, fun hn => ?_⟩
  obtain ⟨g, off, e, hlt, hc⟩ := h4 hn
  refine ⟨g, off, e, Nat.lt_of_lt_of_le hlt hb.size, fun j hj => ?_⟩
  obtain ⟨c1, wv, c2, c3⟩ := hc j hj
  exact ⟨(hb.cell hlt).trans c1, wv, (hb.cell hlt).trans c2, c3.below hb⟩
/-- What Find answers. -/
def OutFind (r : Option (List ByteArray)) (w : World) (e : Ending) (w' : World) : Prop := ∃ v, e = .returned (.tuple #[v, .bool r.isSome]) ∧ TextsV w' v (r.getD []) ∧ Below w.heap.size w w'
/-- The same, in a row of the call's own. -/
def OutFindO (r : Option (List ByteArray)) (w : World) (e : Ending) (w' : World) : Prop := ∃ v, e = .returned (.tuple #[v, .bool r.isSome]) ∧ w'.ownsRow w.heap.size 9 1 v (r.getD []).length ((r.getD []).map Value.string) ∧ Below w.heap.size w w'
theorem TextsV.of_own {w : World} {base n : Nat} {v : Value} {ss : List ByteArray} (h : w.ownsRow base 9 1 v n (ss.map Value.string)) : TextsV w v ss := by
  have hl : ss.length = n := by have := h.1; simpa using this
  subst hl
  obtain ⟨A, c, rfl, h1, h2⟩ := own_form h
  exact ⟨A, c, rfl, h1, h2, Texts.of_own h⟩
theorem OutFindO.find {r : Option (List ByteArray)} {w w' : World} {e : Ending} (h : OutFindO r w e w') : OutFind r w e w' := by
  obtain ⟨v, rfl, hown, hb⟩ := h
  exact ⟨v, rfl, TextsV.of_own hown, hb⟩
def findB (ds : List (ByteArray × List ByteArray)) (n : List UInt8) : Option (List ByteArray) := (ds.find? fun d => d.1.data.toList == n).map (·.2)

set_option maxHeartbeats 2000000 in
/-- Find. -/
theorem find_own (dv : Value) (r : Bool) (ds : List (ByteArray × List ByteArray)) (s : ByteArray) (w : World) (hd : DirsV w dv ds) (hs : s.size ≤ 10000000) (hn : ds.length ≤ 100000000) (hw : ∀ d ∈ ds, d.2.length ≤ 10000000) :
    Calls Tryz.prog 34 #[.agg #[dv, .bool r], .string s] w (OutFindO (findB ds (Fo.lower s.data.toList)) w) := by
  obtain ⟨A, c, rfl, hc, hz, hcell⟩ := hd
  obtain ⟨D, hD⟩ : ∃ D : ByteArray, D = ⟨(Fo.lower s.data.toList).toArray⟩ := ⟨_, rfl⟩
  have hDd : D.data.toList = Fo.lower s.data.toList := by rw [hD]
  have c28 := fun w' => lower_any s w' hs
  rw [← hD] at c28
  rw [← hDd]
  have C28 := Lib.hid c28; clear c28 hD hDd
  obtain ⟨N, hN⟩ : ∃ N, N = ds.length := ⟨_, rfl⟩
  rw [← hN] at hc hn
  have HN := Lib.hid hN
  have HC := Lib.hid hcell; clear hcell
  have HW := Lib.hid hw; clear hw
  go_enter Tryz.func34, Tryz.ntmps34
  rw [← hN]
  clear hN
  go_wp2_with fail
  refine (C28.out _).mono ?_
  rintro e w1 ⟨rfl, hb1⟩
  have hb10 : Below w.heap.size w w1 := (below_alloc' w _).trans (hb1.mono (by simp))
  have HB1 := Lib.hid hb10; clear hb10
  have hbox : w1.cell? ⟨w.heap.size, 0, none⟩ = some (.slice A N c) := (hb1.cell (by simp)).trans (by rw [cell_of_row _ w.heap.size 0 _ 56 (0, 0) (heap_alloc_new w _)]; rfl)
  have hsz1 := HB1.out.size
  clear hb1
  go_wp2_with fail
  go_loopg [13] N (fun gk v wr => ∃ k : Nat, k + gk = N ∧ v = .int .i64 k ∧ Hid (∀ j (h : j < ds.length), j < k → ds[j].1.data.toList ≠ D.data.toList) ∧ Below w.heap.size w wr)
  case atStart => exact ⟨0, by omega, rfl, (fun j _ h => absurd h (by omega)), HB1.out⟩
  case round =>
    obtain ⟨k, hk, rfl, HA, hbw⟩ := hrel
    have HK := Lib.hid hk; clear hk
    have hsz := hbw.size
    by_cases hlt : k < N
    · have hkl : k < ds.length := by rw [← HN.out]; exact hlt
      obtain ⟨g, off, rfl, hgl, hcc⟩ := HC.out (by omega)
      obtain ⟨q1, wv, q2, q3⟩ := hcc k hkl
      obtain ⟨x, hx⟩ : ∃ x, x = ds[k].1 := ⟨_, rfl⟩
      obtain ⟨ys, hys⟩ : ∃ ys, ys = ds[k].2 := ⟨_, rfl⟩
      rw [← hx] at q1
      rw [← hys] at q3
      have r1 : wr.cell? ⟨g, off + k * 2, none⟩ = some (.string x) := (hbw.cell hgl).trans q1
      have r2 : wr.cell? ⟨g, off + k * 2 + 1, none⟩ = some wv := (hbw.cell hgl).trans q2
      have r3 := q3.below hbw
      have hyl : ys.length ≤ 10000000 := by rw [hys]; exact HW.out _ (List.getElem_mem hkl)
      obtain ⟨WA, wc, rfl, hwc, hwz, hwt⟩ := r3
      have HX := Lib.hid hx
      have HYS := Lib.hid hys
      clear q1 q2 q3 hcc hx hys
      by_cases hq : x = D
      · have hqi : (x.toList == D.toList) = true := by rw [hq]; simp
        have HQ := Lib.hid hq
        have c29 := clone_own WA ys.length wc ys _ (hwt.below (below_alloc' wr (.cells #[.string x, .slice WA ys.length wc] 66))) (fun e => ⟨by have := hwz e; omega, hwz e⟩) hyl
        have C29 := Lib.hid c29; clear c29 hq
        go_wp2_with fail
        refine C29.out.mono ?_
        rintro e w5 ⟨v5, rfl, hown5, hb5⟩
        obtain ⟨A5, c5, rfl, hc5, hz5⟩ := own_form hown5
        have hfi : findB ds D.data.toList = some ys := by
          unfold findB
          have hff : (ds.find? fun d => d.1.data.toList == D.data.toList) = some ds[k] := by
            rw [List.find?_eq_some_iff_getElem]
            refine ⟨by rw [← HX.out, HQ.out]; simp, k, hkl, rfl, fun j hj => ?_⟩
            have := HA.out j (by omega) hj
            rw [show (ds[j].1.data.toList == D.data.toList) = false from beq_eq_false_iff_ne.2 this]; rfl
          rw [hff, HYS.out]; rfl
        have HF := Lib.hid hfi; clear hfi
        go_wp2
        go_ret2
        unfold OutFindO
        rw [HF.out]
        exact ⟨_, rfl, own_lower hown5 (by simp; omega), hbw.trans (((below_alloc' wr _).trans (hb5.mono (by simp))).mono hsz)⟩
      · have hqi : (x.toList == D.toList) = false := by
          rw [beq_eq_false_iff_ne, Lib.toList_data, Lib.toList_data]
          exact fun e => hq (ByteArray.ext (Array.toList_inj.1 e))
        have HQ := Lib.hid hq; clear hq
        go_wp2
        go_roundg (gk - 1)
        case rel =>
          have := HK.out
          refine ⟨k + 1, by omega, by go_num, fun j h hj e => ?_, hbw.trans ((below_alloc' wr _).mono hsz)⟩
          rcases Nat.lt_or_ge j k with h' | h'
          · exact HA.out j h h' e
          · obtain rfl : j = k := by omega
            rw [← HX.out] at e
            exact HQ.out (ByteArray.ext (Array.toList_inj.1 e))
        case measure => have := HK.out; omega
    · have hfi : findB ds D.data.toList = none := by
        unfold findB
        have hff : (ds.find? fun d => d.1.data.toList == D.data.toList) = none := by
          rw [List.find?_eq_none]
          intro d hd
          obtain ⟨j, hj, rfl⟩ := List.getElem_of_mem hd
          have := HA.out j hj (by have := HN.out; omega)
          rw [show (ds[j].1.data.toList == D.data.toList) = false from beq_eq_false_iff_ne.2 this]
          exact Bool.false_ne_true
        rw [hff]; rfl
      have HF := Lib.hid hfi; clear hfi
      go_wp2
      go_ret2
      unfold OutFindO
      rw [HF.out]
      exact ⟨_, rfl, World.ownsRow_nil _ _ _ _, hbw⟩
theorem find_any (dv : Value) (r : Bool) (ds : List (ByteArray × List ByteArray)) (s : ByteArray) (w : World) (hd : DirsV w dv ds) (hs : s.size ≤ 10000000) (hn : ds.length ≤ 100000000) (hw : ∀ d ∈ ds, d.2.length ≤ 10000000) :
    Calls Tryz.prog 34 #[.agg #[dv, .bool r], .string s] w (OutFind (findB ds (Fo.lower s.data.toList)) w) := (find_own dv r ds s w hd hs hn hw).mono fun _ _ h => h.find
end Go.Proofs.YtajokmcdhhiahaaGreatDoor
