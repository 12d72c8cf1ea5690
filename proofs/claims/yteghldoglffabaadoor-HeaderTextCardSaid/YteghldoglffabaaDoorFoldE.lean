import Derived.Test.YteghldoglffabaaDoorFoldD
namespace Go.Proofs.YteghldoglffabaaDoor
open Go.RowKit

set_option maxHeartbeats 1000000 in
/-- Texts: are two rows the same? -/
theorem texts_q (A B : Option Addr) (n m c d : Nat) (p q : List ByteArray) (w : World) (hp : Texts w A n p) (hq : Texts w B m q) (hn : n ≤ 10000000) (hm : m ≤ 10000000) :
    Calls Tryd.prog 19 #[.slice A n c, .slice B m d] w fun e w' => e = .returned (.bool (decide (p = q))) ∧ ∃ n, w' = w.drewN n := by
  have hlp : p.length = n := hp.1
  have hlq : q.length = m := hq.1
  by_cases hnm : n = m
  · subst hnm
    have HP := Lib.hid hlp; clear hlp
    have HQ := Lib.hid hlq; clear hlq
    go_enter Tryd.func19, Tryd.ntmps19
    go_wp2
    go_loopg [5] n (fun gk i wr => ∃ k : Nat, k + gk = n ∧ i = .int .i64 k ∧ Hid (p.take k = q.take k) ∧ ∃ dn, wr = w.drewN dn)
    case atStart => exact ⟨0, by omega, rfl, rfl, 0, rfl⟩
    case round =>
      obtain ⟨k, hk, rfl, HA, dn, rfl⟩ := hrel
      have hbw := below_drewN' w dn
      have HK := Lib.hid hk; clear hk
      have hsz := hbw.size
      by_cases hlt : k < n
      · have hkp : k < p.length := by rw [HP.out]; exact hlt
        have hkq : k < q.length := by rw [HQ.out]; exact hlt
        obtain ⟨a1, rfl, hc1⟩ := hp.at_ hbw k hkp
        obtain ⟨a2, rfl, hc2⟩ := hq.at_ hbw k hkq
        rw [World.cell?_drewN] at hc1 hc2
        have ht1 : p.take (k + 1) = p.take k ++ [p[k]] := List.take_succ_eq_append_getElem hkp
        have ht2 : q.take (k + 1) = q.take k ++ [q[k]] := List.take_succ_eq_append_getElem hkq
        obtain ⟨x, hx⟩ : ∃ x, x = p[k] := ⟨_, rfl⟩
        obtain ⟨y, hy⟩ : ∃ y, y = q[k] := ⟨_, rfl⟩
        rw [← hx] at hc1 ht1
        rw [← hy] at hc2 ht2
        have H1 := Lib.hid ht1; clear ht1
        have H2 := Lib.hid ht2; clear ht2
        by_cases hxy : x = y
        · have hne : (x.toList == y.toList) = true := by rw [hxy]; simp
          have HXY := Lib.hid hxy
          clear hxy hx hy
          go_wp2_with fail
          go_quiet (fail)
          go_wp2
          go_roundg (gk - 1)
          case rel =>
            have hk := HK.out
            exact ⟨k + 1, by omega, by go_num, by show _ = _; rw [H1.out, H2.out, HA.out, HXY.out], _, rfl⟩
          case measure => have := HK.out; omega
        · have hne : (x.toList == y.toList) = false := by
            rw [beq_eq_false_iff_ne, Lib.toList_data, Lib.toList_data]
            exact fun e => hxy (ByteArray.ext (Array.toList_inj.1 e))
          have hpq : decide (p = q) = false := by
            rw [decide_eq_false_iff_not]
            intro e
            apply hxy
            rw [hx, hy]
            subst e; rfl
          have HPQ := Lib.hid hpq
          clear hxy hx hy hpq
          go_wp2_with fail
          go_quiet (fail)
          go_wp2
          go_ret
          exact ⟨ret_bool HPQ.out.symm, dn + _, World.drewN_drewN ..⟩
      · obtain rfl : k = n := by have := HK.out; omega
        have hpq : decide (p = q) = true := by
          have e1 : p.take k = p := List.take_of_length_le (by rw [HP.out]; exact Nat.le_refl _)
          have e2 : q.take k = q := List.take_of_length_le (by rw [HQ.out]; exact Nat.le_refl _)
          rw [decide_eq_true_eq, ← e1, ← e2]; exact HA.out
        have HPQ := Lib.hid hpq; clear hpq
        go_wp2
        go_ret
        exact ⟨ret_bool HPQ.out.symm, _, rfl⟩
  · have hpq : decide (p = q) = false := by
      rw [decide_eq_false_iff_not]
      intro e; apply hnm; rw [← hlp, ← hlq, e]
    have hni : ((n : Int) != (m : Int)) = true := by rw [bne_iff_ne]; omega
    have HPQ := Lib.hid hpq
    clear hpq hlp hlq
    go_enter Tryd.func19, Tryd.ntmps19
    go_wp2
    go_ret
    exact ⟨ret_bool HPQ.out.symm, 0, rfl⟩
theorem texts_any (A B : Option Addr) (n m c d : Nat) (p q : List ByteArray) (w : World) (hp : Texts w A n p) (hq : Texts w B m q) (hn : n ≤ 10000000) (hm : m ≤ 10000000) :
    Calls Tryd.prog 19 #[.slice A n c, .slice B m d] w fun e w' => e = .returned (.bool (decide (p = q))) ∧ Below w.heap.size w w' :=
  (texts_q A B n m c d p q w hp hq hn hm).mono fun e w' ⟨he, k, hk⟩ => by subst hk; exact ⟨he, below_drewN' w k⟩

theorem bs_snoc (l : List (List UInt8)) (x : List UInt8) (t : ByteArray) (h : t.data.toList = x) : bs (l ++ [x]) = bs l ++ [t] := by
  subst h; simp [bs]
theorem OutTexts.of_own {ss : List ByteArray} {w w' : World} {v : Value} {n : Nat} (h : w'.ownsRow w.heap.size 9 1 v n (ss.map Value.string)) (hb : Below w.heap.size w w') : OutTexts ss w (.returned v) w' := by
  have hn : ss.length = n := by have := h.1; simpa using this
  subst hn
  obtain ⟨A, c, rfl, h1, h2⟩ := own_form h
  exact ⟨A, c, rfl, h1, h2, Texts.of_own h, hb⟩

set_option maxHeartbeats 2000000 in
/-- The reference's Words. -/
theorem ref_words_any (s : ByteArray) (w : World) (hs : s.size ≤ 10000000) : Calls Tryd.prog 42 #[.string s] w (OutTexts (bs (Fo.words s.data.toList)) w) := by
  obtain ⟨l, hl⟩ : ∃ l, l = s.data.toList := ⟨_, rfl⟩
  have hll : l.length = s.size := by rw [hl, size_len]
  have HL := Lib.hid hll; clear hll
  have HLS := Lib.hid hl; rw [← hl]; clear hl
  go_enter Tryd.func42, Tryd.ntmps42
  go_wp2
  go_loopg [3, 4, 5] (s.size + 1) (fun gk v fv i wr => ∃ (k f : Nat) (acc : List (List UInt8)), k + gk = s.size + 1 ∧ i = .int .i64 k ∧ fv = .int .i64 f ∧ acc.length ≤ k ∧ f ≤ k ∧
    Hid ((k ≤ s.size ∧ acc ++ Fo.wgo ((l.take k).drop f) (l.drop k) = Fo.words l) ∨ (k = s.size + 1 ∧ acc = Fo.words l)) ∧ wr.ownsRow w.heap.size 9 1 v acc.length ((bs acc).map Value.string) ∧ Below w.heap.size w wr)
  case atStart => exact ⟨0, 0, [], by omega, rfl, rfl, by simp, by omega, Or.inl ⟨by omega, rfl⟩, World.ownsRow_nil _ _ _ _, Below.refl _ _⟩
  case round =>
    obtain ⟨k, f, acc, hk, rfl, rfl, hal, hfk, HA, hown, hbw⟩ := hrel
    have HK := Lib.hid hk; clear hk
    have hsz := hbw.size
    by_cases hle : k ≤ s.size
    · have HA1 : Hid (acc ++ Fo.wgo ((l.take k).drop f) (l.drop k) = Fo.words l) := by
        rcases HA.out with h | h
        · exact h.2
        · exact absurd h.1 (by omega)
      clear HA
      have hex : (s.extract f k).data.toList = (l.take k).drop f := by rw [slice_data, HLS.out]
      have HEX := Lib.hid hex; clear hex
      by_cases hlt : k < s.size
      · have hd : l.drop k = s[k] :: l.drop (k + 1) := by rw [HLS.out]; exact drop_cons s k hlt
        have htk : l.take (k + 1) = l.take k ++ [s[k]] := by rw [HLS.out]; exact take_snoc s k hlt
        have HD := Lib.hid hd; clear hd
        have HTK := Lib.hid htk; clear htk
        cases hb : Fo.bl s[k] with
        | false =>
          have C := Lib.hid (ref_blank_any s[k])
          rw [hb] at C
          have HB := Lib.hid hb; clear hb
          go_wp2_with fail
          refine (C.out _).mono ?_
          rintro e w1 ⟨rfl, rfl⟩
          go_wp2
          go_roundg (gk - 1)
          case rel =>
            have := HK.out
            refine ⟨k + 1, f, acc, by omega, by go_num, rfl, by omega, by omega, Or.inl ⟨by omega, ?_⟩, hown, hbw⟩
            rw [← HA1.out, HD.out, Fo.wgo, if_neg (by rw [HB.out]; simp), HTK.out, List.drop_append_of_le_length (by rw [List.length_take, HL.out]; omega)]
          case measure => have := HK.out; omega
        | true =>
          have C := Lib.hid (ref_blank_any s[k])
          rw [hb] at C
          have HB := Lib.hid hb; clear hb
          by_cases hfk2 : f < k
          · have hfi : (f : Int) < (k : Int) := by omega
            go_wp2_with fail
            refine (C.out _).mono ?_
            rintro e w1 ⟨rfl, rfl⟩
            go_wp2_with (at_builtin; refine wpList_append_text rfl (.tmp 26) (.tmp 31) rfl w1 w w.heap.size _ acc.length (bs acc) (s.extract f k) rfl rfl hown hbw hsz (by omega) ?_; intro v' w2 hown2 hbw2)
            go_roundg (gk - 1)
            case rel =>
              have := HK.out
              refine ⟨k + 1, k + 1, acc ++ [(l.take k).drop f], by omega, by go_num, by go_num, by simp; omega, by omega, Or.inl ⟨by omega, ?_⟩, by rw [List.length_append, bs_snoc _ _ _ HEX.out]; exact hown2, hbw2⟩
              rw [← HA1.out, HD.out, Fo.wgo, if_pos HB.out, if_neg (fun e => by have := congrArg List.length e; rw [List.length_drop, List.length_take, HL.out] at this; simp at this; omega)]
              have e0 : (l.take (k + 1)).drop (k + 1) = [] := List.drop_eq_nil_of_le (by rw [List.length_take]; omega)
              rw [e0, List.append_assoc]; rfl
            case measure => have := HK.out; omega
          · obtain rfl : f = k := by omega
            have hfi : ¬ (f : Int) < (f : Int) := by omega
            go_wp2_with fail
            refine (C.out _).mono ?_
            rintro e w1 ⟨rfl, rfl⟩
            go_wp2
            go_roundg (gk - 1)
            case rel =>
              have := HK.out
              refine ⟨f + 1, f + 1, acc, by omega, by go_num, by go_num, by omega, by omega, Or.inl ⟨by omega, ?_⟩, hown, hbw⟩
              rw [← HA1.out, HD.out, Fo.wgo, if_pos HB.out, if_pos (List.drop_eq_nil_of_le (by rw [List.length_take]; omega)), List.drop_eq_nil_of_le (by rw [List.length_take]; omega)]
            case measure => have := HK.out; omega
      · obtain rfl : k = s.size := by omega
        have hnil : l.drop s.size = [] := List.drop_eq_nil_of_le (by rw [HL.out]; exact Nat.le_refl _)
        have HN := Lib.hid hnil; clear hnil
        by_cases hfk2 : f < s.size
        · have hfi : (f : Int) < (s.size : Int) := by omega
          go_wp2_with (at_builtin; refine wpList_append_text rfl (.tmp 26) (.tmp 31) rfl wr w w.heap.size _ acc.length (bs acc) (s.extract f s.size) rfl rfl hown hbw hsz (by omega) ?_; intro v' w2 hown2 hbw2)
          go_roundg (gk - 1)
          case rel =>
            have := HK.out
            refine ⟨s.size + 1, s.size + 1, acc ++ [(l.take s.size).drop f], by omega, by go_num, by go_num, by simp; omega, by omega, Or.inr ⟨rfl, ?_⟩, by rw [List.length_append, bs_snoc _ _ _ HEX.out]; exact hown2, hbw2⟩
            rw [← HA1.out, HN.out, Fo.wgo, if_neg (fun e => by have := congrArg List.length e; rw [List.length_drop, List.length_take, HL.out] at this; simp at this; omega)]
          case measure => have := HK.out; omega
        · obtain rfl : f = s.size := by omega
          go_wp2
          go_roundg (gk - 1)
          case rel =>
            have := HK.out
            refine ⟨s.size + 1, s.size + 1, acc, by omega, by go_num, by go_num, by omega, by omega, Or.inr ⟨rfl, ?_⟩, hown, hbw⟩
            rw [← HA1.out, HN.out, Fo.wgo, if_pos (List.drop_eq_nil_of_le (by rw [List.length_take]; omega)), List.append_nil]
          case measure => have := HK.out; omega
    · have hfin : acc = Fo.words l := by
        rcases HA.out with h | h
        · exact absurd h.1 hle
        · exact h.2
      have HF := Lib.hid hfin
      clear HA hfin
      go_wp2
      go_ret
      rw [← HF.out]
      exact OutTexts.of_own hown hbw
end Go.Proofs.YteghldoglffabaaDoor
