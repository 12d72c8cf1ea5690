import Derived.Test.YteghldoglffabaaDoorFoldE
namespace Go.Proofs.YteghldoglffabaaDoor
open Go.RowKit

theorem own_below {w w1 : World} {base e s n : Nat} {v : Value} {xs : List Value} (h : w.ownsRow base e s v n xs) (hb : Below w.heap.size w w1) : w1.ownsRow base e s v n xs :=
  h.kept (row := none) ⟨hb.os, hb.tape, hb.output, hb.size, fun i hi _ => hb.block i hi⟩ (by cases v.ownBlock <;> simp)
/-- A result that is a row of texts of the call's own. -/
def OutOwn (ss : List ByteArray) (w : World) (e : Ending) (w' : World) : Prop := ∃ v, e = .returned v ∧ w'.ownsRow w.heap.size 9 1 v ss.length (ss.map Value.string) ∧ Below w.heap.size w w'
set_option maxHeartbeats 2000000 in
/-- The reference's Parts. -/
theorem ref_parts_own (s : ByteArray) (sep : UInt8) (w : World) (hs : s.size ≤ 10000000) : Calls Tryd.prog 24 #[.string s, .int .u8 sep.toNat] w (OutOwn (bs (Fo.parts sep s.data.toList)) w) := by
  obtain ⟨l, hl⟩ : ∃ l, l = s.data.toList := ⟨_, rfl⟩
  have hll : l.length = s.size := by rw [hl, size_len]
  have HL := Lib.hid hll; clear hll
  have HLS := Lib.hid hl; rw [← hl]; clear hl
  go_enter Tryd.func24, Tryd.ntmps24
  go_wp2
  go_loopg [5, 6, 7] (s.size + 1) (fun gk v fv i wr => ∃ (k f : Nat) (acc : List (List UInt8)), k + gk = s.size + 1 ∧ i = .int .i64 k ∧ fv = .int .i64 f ∧ acc.length ≤ k ∧ f ≤ k ∧
    Hid ((k ≤ s.size ∧ acc ++ (Fo.sgo sep ((l.take k).drop f) (l.drop k)).map Fo.trim = Fo.parts sep l) ∨ (k = s.size + 1 ∧ acc = Fo.parts sep l)) ∧ wr.ownsRow w.heap.size 9 1 v acc.length ((bs acc).map Value.string) ∧ Below w.heap.size w wr)
  case atStart => exact ⟨0, 0, [], by omega, rfl, rfl, by simp, by omega, Or.inl ⟨by omega, rfl⟩, World.ownsRow_nil _ _ _ _, Below.refl _ _⟩
  case round =>
    obtain ⟨k, f, acc, hk, rfl, rfl, hal, hfk, HA, hown, hbw⟩ := hrel
    have HK := Lib.hid hk; clear hk
    have hsz := hbw.size
    by_cases hle : k ≤ s.size
    · have HA1 : Hid (acc ++ (Fo.sgo sep ((l.take k).drop f) (l.drop k)).map Fo.trim = Fo.parts sep l) := by
        rcases HA.out with h | h
        · exact h.2
        · exact absurd h.1 (by omega)
      clear HA
      have hex : (s.extract f k).data.toList = (l.take k).drop f := by rw [slice_data, HLS.out]
      have c11 := fun w' => ref_trim_any (s.extract f k) w' (by rw [← size_len, slice_data, List.length_drop, List.length_take, size_len]; omega)
      rw [hex] at c11
      obtain ⟨T, hT⟩ : ∃ T : ByteArray, T = ⟨(Fo.trim ((l.take k).drop f)).toArray⟩ := ⟨_, rfl⟩
      rw [← hT] at c11
      have hTd : T.data.toList = Fo.trim ((l.take k).drop f) := by rw [hT]
      have HTD := Lib.hid hTd; clear hTd
      have C11 := Lib.hid c11; clear c11 hT hex
      by_cases hlt : k < s.size
      · have hd : l.drop k = s[k] :: l.drop (k + 1) := by rw [HLS.out]; exact drop_cons s k hlt
        have htk : l.take (k + 1) = l.take k ++ [s[k]] := by rw [HLS.out]; exact take_snoc s k hlt
        have HD := Lib.hid hd; clear hd
        have HTK := Lib.hid htk; clear htk
        have hki : ((k : Int) == (s.size : Int)) = false := by rw [beq_eq_false_iff_ne]; omega
        by_cases hsep : s[k] = sep
        · have hse : ((s[k].toNat : Int) == (sep.toNat : Int)) = true := by rw [hsep]; simp
          have HS := Lib.hid hsep; clear hsep
          go_wp2_with fail
          refine (C11.out _).mono ?_
          rintro e w1 ⟨rfl, rfl⟩
          go_wp2_with (at_builtin; refine wpList_append_text rfl (.tmp 25) (.tmp 31) rfl w1 w w.heap.size _ acc.length (bs acc) T rfl rfl hown hbw hsz (by omega) ?_; intro v' w2 hown2 hbw2)
          go_roundg (gk - 1)
          case rel =>
            have := HK.out
            refine ⟨k + 1, k + 1, acc ++ [Fo.trim ((l.take k).drop f)], by omega, by go_num, by go_num, by simp; omega, by omega, Or.inl ⟨by omega, ?_⟩, by rw [List.length_append, bs_snoc _ _ _ HTD.out]; exact hown2, hbw2⟩
            have e0 : (l.take (k + 1)).drop (k + 1) = [] := List.drop_eq_nil_of_le (by rw [List.length_take]; omega)
            rw [← HA1.out, HD.out, Fo.sgo, if_pos HS.out, e0, List.append_assoc]; rfl
          case measure => have := HK.out; omega
        · have hse : ((s[k].toNat : Int) == (sep.toNat : Int)) = false := by rw [beq_eq_false_iff_ne]; intro e; exact hsep (UInt8.toNat_inj.1 (by omega))
          have HS := Lib.hid hsep; clear hsep
          go_wp2
          go_roundg (gk - 1)
          case rel =>
            have := HK.out
            refine ⟨k + 1, f, acc, by omega, by go_num, rfl, by omega, by omega, Or.inl ⟨by omega, ?_⟩, hown, hbw⟩
            rw [← HA1.out, HD.out, Fo.sgo, if_neg HS.out, HTK.out, List.drop_append_of_le_length (by rw [List.length_take, HL.out]; omega)]
          case measure => have := HK.out; omega
      · obtain rfl : k = s.size := by omega
        have hnil : l.drop s.size = [] := List.drop_eq_nil_of_le (by rw [HL.out]; exact Nat.le_refl _)
        have HN := Lib.hid hnil; clear hnil
        go_wp2_with fail
        refine (C11.out _).mono ?_
        rintro e w1 ⟨rfl, rfl⟩
        go_wp2_with (at_builtin; refine wpList_append_text rfl (.tmp 25) (.tmp 31) rfl w1 w w.heap.size _ acc.length (bs acc) T rfl rfl hown hbw hsz (by omega) ?_; intro v' w2 hown2 hbw2)
        go_roundg (gk - 1)
        case rel =>
          have := HK.out
          refine ⟨s.size + 1, s.size + 1, acc ++ [Fo.trim ((l.take s.size).drop f)], by omega, by go_num, by go_num, by simp; omega, by omega, Or.inr ⟨rfl, ?_⟩, by rw [List.length_append, bs_snoc _ _ _ HTD.out]; exact hown2, hbw2⟩
          rw [← HA1.out, HN.out, Fo.sgo]; rfl
        case measure => have := HK.out; omega
    · have hfin : acc = Fo.parts sep l := by
        rcases HA.out with h | h
        · exact absurd h.1 hle
        · exact h.2
      have HF := Lib.hid hfin
      clear HA hfin
      go_wp2
      go_ret
      rw [← HF.out]
      exact ⟨_, rfl, by rw [bs_length]; exact hown, hbw⟩
theorem ref_parts_any (s : ByteArray) (sep : UInt8) (w : World) (hs : s.size ≤ 10000000) : Calls Tryd.prog 24 #[.string s, .int .u8 sep.toNat] w (OutTexts (bs (Fo.parts sep s.data.toList)) w) :=
  (ref_parts_own s sep w hs).mono fun e w' h => by
    obtain ⟨v, rfl, hown, hb⟩ := h
    exact OutTexts.of_own hown hb

theorem index_at (t : ByteArray) (sep : UInt8) (w : World) : Calls Tryd.prog 33 #[.string t, .int .u8 sep.toNat] w fun e w' => e = .returned (.int .i64 (Lib.indexByte t.data.toList sep)) ∧ w' = w := by
  have := Tryd.strings_IndexByte t sep.toNat w
  rwa [show ((sep.toNat : Int)).toNat.toUInt8 = sep from UInt8.ofNat_toNat] at this
set_option maxHeartbeats 2000000 in
/-- Parts. -/
theorem parts_own (s : ByteArray) (sep : UInt8) (w : World) (hs : s.size ≤ 10000000) : Calls Tryd.prog 22 #[.string s, .int .u8 sep.toNat] w (OutOwn (bs (Fo.parts sep s.data.toList)) w) := by
  go_enter Tryd.func22, Tryd.ntmps22
  go_wp2
  go_loopg [0, 5] s.size (fun gk sv v wr => ∃ (t : ByteArray) (acc : List (List UInt8)), sv = .string t ∧ t.size ≤ gk ∧ acc.length + t.size ≤ s.size ∧
    Hid (acc ++ Fo.parts sep t.data.toList = Fo.parts sep s.data.toList) ∧ wr.ownsRow w.heap.size 9 1 v acc.length ((bs acc).map Value.string) ∧ Below w.heap.size w wr)
  case atStart => exact ⟨s, [], rfl, Nat.le_refl _, by simp, rfl, World.ownsRow_nil _ _ _ _, Below.refl _ _⟩
  case round =>
    obtain ⟨t, acc, rfl, htg, hal, HA, hown, hbw⟩ := hrel
    have hsz := hbw.size
    by_cases hm : sep ∈ t.data.toList
    · obtain ⟨a, r, hl, ha⟩ := List.eq_append_cons_of_mem hm
      have hI := index_some a r sep ha
      rw [← hl] at hI
      have hlen : t.size = a.length + (r.length + 1) := by rw [← size_len, hl]; simp
      have C24 := index_at t sep
      rw [hI] at C24
      have hx1 : (t.extract 0 a.length).data.toList = a := by rw [slice_data, hl, List.take_left]; rfl
      have hx2 : (t.extract (a.length + 1) t.size).data.toList = r := by
        rw [slice_data, hl, List.take_of_length_le (by rw [← hl, size_len]; exact Nat.le_refl _)]
        simp
      have c10 := fun w' => trim_any (t.extract 0 a.length) w' (by rw [← size_len, hx1]; omega)
      rw [hx1] at c10
      obtain ⟨T, hT⟩ : ∃ T : ByteArray, T = ⟨(Fo.trim a).toArray⟩ := ⟨_, rfl⟩
      rw [← hT] at c10
      have hTd : T.data.toList = Fo.trim a := by rw [hT]
      have hpa : Fo.parts sep t.data.toList = Fo.trim a :: Fo.parts sep r := by unfold Fo.parts; rw [hl, Fo.split_one sep a r ha]; rfl
      have hr2 : (t.extract (a.length + 1) t.size).size = r.length := by rw [← size_len, hx2]
      have HPA := Lib.hid hpa
      have HTD := Lib.hid hTd
      have C10 := Lib.hid c10
      have CC24 := Lib.hid C24
      have HX2 := Lib.hid hx2
      have HR2 := Lib.hid hr2
      clear hpa hTd c10 C24 hx2 hx1 hT hI hl ha hm hr2
      obtain ⟨m, hmm⟩ : ∃ m, m = a.length := ⟨_, rfl⟩
      rw [← hmm] at CC24 C10 HX2 HR2 hlen
      clear hmm
      have hm1 : (m : Int) + 1 ≤ (t.size : Int) := by omega
      have hm0 : ¬ (m : Int) < 0 := by omega
      have HLEN := Lib.hid hlen; clear hlen
      go_wp2_with fail
      refine (CC24.out _).mono ?_
      rintro e w1 ⟨rfl, rfl⟩
      go_wp2_with fail
      refine (C10.out _).mono ?_
      rintro e w2 ⟨rfl, hb2⟩
      have hown2 := own_below (w1 := w2) hown hb2
      have hbw2 := hbw.trans (hb2.mono hsz)
      have hsz2 := hbw2.size
      go_wp2_with (at_builtin; refine wpList_append_text rfl (.tmp 17) (.tmp 22) rfl w2 w w.heap.size _ acc.length (bs acc) T rfl rfl hown2 hbw2 hsz2 (by omega) ?_; intro v' w3 hown3 hbw3)
      go_roundg (gk - 1)
      case rel =>
        have hr := HR2.out
        have hlen := HLEN.out
        refine ⟨_, acc ++ [Fo.trim a], rfl, by omega, by simp; omega, ?_, by rw [List.length_append, bs_snoc _ _ _ HTD.out]; exact hown3, hbw3⟩
        show _ = _
        rw [HX2.out, ← HA.out, HPA.out, List.append_assoc]; rfl
      case measure => have hlen := HLEN.out; omega
    · have hI := index_none _ _ hm
      have C24 := index_at t sep
      rw [hI] at C24
      have c10 := fun w' => trim_any t w' (by omega)
      obtain ⟨T, hT⟩ : ∃ T : ByteArray, T = ⟨(Fo.trim t.data.toList).toArray⟩ := ⟨_, rfl⟩
      rw [← hT] at c10
      have hTd : T.data.toList = Fo.trim t.data.toList := by rw [hT]
      have hpa : Fo.parts sep t.data.toList = [Fo.trim t.data.toList] := by unfold Fo.parts; rw [Fo.split_none sep _ hm]; rfl
      have hfin : acc ++ [Fo.trim t.data.toList] = Fo.parts sep s.data.toList := by rw [← HA.out, hpa]
      have HF := Lib.hid hfin
      have HTD := Lib.hid hTd
      have C10 := Lib.hid c10
      have CC24 := Lib.hid C24
      clear hfin hpa hTd c10 C24 hT hI hm
      go_wp2_with fail
      refine (CC24.out _).mono ?_
      rintro e w1 ⟨rfl, rfl⟩
      go_wp2_with fail
      refine (C10.out _).mono ?_
      rintro e w2 ⟨rfl, hb2⟩
      have hown2 := own_below (w1 := w2) hown hb2
      have hbw2 := hbw.trans (hb2.mono hsz)
      have hsz2 := hbw2.size
      go_wp2_with (at_builtin; refine wpList_append_text rfl (.tmp 12) (.tmp 15) rfl w2 w w.heap.size _ acc.length (bs acc) T rfl rfl hown2 hbw2 hsz2 (by omega) ?_; intro v' w3 hown3 hbw3)
      go_ret
      rw [← HF.out]
      rw [← bs_snoc _ _ _ HTD.out] at hown3
      have hl3 := hown3.1
      rw [List.length_map, Nat.mul_one] at hl3
      rw [← hl3] at hown3
      exact ⟨_, rfl, hown3, hbw3⟩
theorem parts_any (s : ByteArray) (sep : UInt8) (w : World) (hs : s.size ≤ 10000000) : Calls Tryd.prog 22 #[.string s, .int .u8 sep.toNat] w (OutTexts (bs (Fo.parts sep s.data.toList)) w) :=
  (parts_own s sep w hs).mono fun e w' ⟨v, he, hown, hb⟩ => by subst he; exact OutTexts.of_own hown hb
end Go.Proofs.YteghldoglffabaaDoor
