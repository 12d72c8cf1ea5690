/- allow's has, text, Nonce, Hash, Loose, Inline at a list of one kept word's source. -/
import Derived.Test.YtajokmcdhhiahaaGreatDoorAA
namespace Go.Proofs.YtajokmcdhhiahaaGreatDoor
open Go.RowKit
set_option maxRecDepth 100000

theorem has1_any (K k : Int) (v : Value) (L : Nat) (w : World) (hv : SrcV w v K) (hL : w.cell? ⟨L, 0, none⟩ = some v) : Calls Tryz.prog 104 #[.int .i64 k, .pointer (some ⟨L, 0, none⟩)] w (Ret (K == k) w) := by
  have hb := below_alloc' w (.cells #[.int .i64 k] 110)
  have hL2 := (hb.cell (p := ⟨L, 0, none⟩) (World.block_lt_of_cell? w _ hL)).trans hL
  have hK2 : (w.alloc (.cells #[.int .i64 k] 110)).cell? ⟨w.heap.size, 0, none⟩ = some (.int .i64 k) := by
    have := cell_row (heap_alloc_new w (.cells #[.int .i64 k] 110)) 0
    exact this
  have hKlt : w.heap.size < (w.alloc (.cells #[.int .i64 k] 110)).heap.size := World.block_lt_of_cell? _ _ hK2
  have c105 := some1_any 106 (Or.inl rfl) #[.pointer (some ⟨w.heap.size, 0, none⟩)] (K == k) K v _ (hv.below hb) (fun W hW => has11_any K k w.heap.size W ((hW.cell (p := ⟨w.heap.size, 0, none⟩) hKlt).trans hK2))
  obtain ⟨b, c, rfl, -⟩ := hv.is
  obtain ⟨r, hr⟩ : ∃ r, r = (K == k) := ⟨_, rfl⟩
  rw [← hr] at c105 ⊢
  have C105 := Lib.hid c105
  have HB := Lib.hid hb
  clear c105 hb hv hL hK2 hKlt hr
  go_enter Tryz.func104, Tryz.ntmps104
  go_wp2_with fail
  refine C105.out.mono ?_
  rintro e w1 ⟨rfl, hb1⟩
  go_wp2
  go_ret
  exact ⟨rfl, nx HB.out hb1⟩
set_option maxHeartbeats 4000000 in
theorem somek_any (K : Int) (v : Value) (L : Nat) (b N c : Nat) (ks : List Int) (w : World) (hv : SrcV w v K) (hL : w.cell? ⟨L, 0, none⟩ = some v) (hN : N = ks.length) (hN2 : N ≤ 1000) (hks : ∀ j (h : j < ks.length), w.cell? ⟨b, 0 + j, none⟩ = some (.int .i64 ks[j])) :
    Calls Tryz.prog 103 #[.slice (some ⟨b, 0, none⟩) N c, .func (.func 104) #[] #[.pointer (some ⟨L, 0, none⟩)]] w (Ret (ks.any fun k => K == k) w) := by
  have HN := Lib.hid hN
  have HKS := Lib.hid hks
  have HV := Lib.hid hv
  have HL := Lib.hid hL
  clear hN hks hv hL
  obtain ⟨r, hr⟩ : ∃ r, r = ks.any fun k => K == k := ⟨_, rfl⟩
  rw [← hr]
  have HR := Lib.hid hr
  clear hr
  go_enter Tryz.func103, Tryz.ntmps103
  go_wp2_with fail
  go_loopg [9] N (fun gk i wr => ∃ k : Nat, k + gk = N ∧ i = .int .i64 k ∧ Hid ((ks.take k).any (fun k => K == k) = false) ∧ Hid (Below w.heap.size w wr))
  case atStart => exact ⟨0, by omega, rfl, rfl, Below.refl _ _⟩
  case round =>
    obtain ⟨k, hk, rfl, HA, HB⟩ := hrel
    have HK := Lib.hid hk; clear hk
    by_cases hlt : k < N
    · have hkl : k < ks.length := by rw [← HN.out]; exact hlt
      have hc0 := HKS.out k hkl
      have hck := (HB.out.cell (p := ⟨b, 0 + k, none⟩) (World.block_lt_of_cell? w ⟨b, 0 + k, none⟩ hc0)).trans hc0
      rw [Nat.zero_add] at hck
      have ht1 : ks.take (k + 1) = ks.take k ++ [ks[k]] := List.take_succ_eq_append_getElem hkl
      have hmem : ks[k] ∈ ks := List.getElem_mem hkl
      obtain ⟨x, hx⟩ : ∃ x, x = ks[k] := ⟨_, rfl⟩
      rw [← hx] at hck ht1 hmem
      have hLc := (HB.out.cell (p := ⟨L, 0, none⟩) (World.block_lt_of_cell? w _ HL.out)).trans HL.out
      have c104 := has1_any K x v L wr (HV.out.below HB.out) hLc
      have C104 := Lib.hid c104
      have HT := Lib.hid ht1
      have HM := Lib.hid hmem
      clear ht1 hmem hx c104 hLc hc0
      cases hq : (K == x)
      · rw [hq] at C104
        go_wp2_with fail
        refine C104.out.mono ?_
        rintro e w1 ⟨rfl, hb1⟩
        go_wp2_with fail
        go_roundg (gk - 1)
        case measure => have := HK.out; omega
        case rel =>
          have := HK.out
          refine ⟨k + 1, by omega, by go_num, ?_, nx HB.out hb1⟩
          show _ = _
          rw [HT.out, List.any_append, HA.out]
          simp only [List.any_cons, List.any_nil, Bool.or_false, Bool.false_or]
          exact hq
      · rw [hq] at C104
        have hrt : r = true := by rw [HR.out]; exact List.any_eq_true.2 ⟨x, HM.out, hq⟩
        have HRT := Lib.hid hrt
        clear hrt
        go_wp2_with fail
        refine C104.out.mono ?_
        rintro e w1 ⟨rfl, hb1⟩
        go_wp2_with fail
        go_ret
        exact ⟨ret_bool HRT.out.symm, nx HB.out hb1⟩
    · have ha := HA.out
      rw [List.take_of_length_le (by rw [← HN.out]; omega), ← HR.out] at ha
      have HF := Lib.hid ha
      clear ha
      go_wp2_with fail
      go_ret
      exact ⟨ret_bool HF.out.symm, HB.out⟩
theorem ahas_any (K : Int) (v : Value) (b N c : Nat) (ks : List Int) (w : World) (hv : SrcV w v K) (hN : N = ks.length) (hN2 : N ≤ 1000) (hks : ∀ j (h : j < ks.length), w.cell? ⟨b, 0 + j, none⟩ = some (.int .i64 ks[j])) (hbl : b < w.heap.size) :
    Calls Tryz.prog 76 #[v, .slice (some ⟨b, 0, none⟩) N c] w (Ret (ks.any fun k => K == k) w) := by
  have hb := below_alloc' w (.cells #[v] 89)
  have hK2 : (w.alloc (.cells #[v] 89)).cell? ⟨w.heap.size, 0, none⟩ = some v := by
    have := cell_row (heap_alloc_new w (.cells #[v] 89)) 0
    exact this
  have c103 := somek_any K v w.heap.size b N c ks _ (hv.below hb) hK2 hN hN2 (fun j hj => (hb.cell (p := ⟨b, 0 + j, none⟩) hbl).trans (hks j hj))
  obtain ⟨b', c', rfl, -⟩ := hv.is
  obtain ⟨r, hr⟩ : ∃ r, r = ks.any fun k => K == k := ⟨_, rfl⟩
  rw [← hr] at c103 ⊢
  have C103 := Lib.hid c103
  have HB := Lib.hid hb
  clear c103 hb hK2 hv hN hks hr
  go_enter Tryz.func76, Tryz.ntmps76
  go_wp2_with fail
  refine C103.out.mono ?_
  rintro e w1 ⟨rfl, hb1⟩
  go_wp2
  go_ret
  exact ⟨rfl, nx HB.out hb1⟩
/-- text, of another kind. -/
theorem atext_any (K k : Int) (hk : (K == k) = false) (v : Value) (t : ByteArray) (w : World) (hv : SrcV w v K) : Calls Tryz.prog 102 #[v, .int .i64 k, .string t] w (Ret false w) := by
  have hb : Below w.heap.size w ((w.alloc (.cells #[.int .i64 k] 110)).alloc (.cells #[.string t] 9)) := ((Below.refl _ w).alloc (Nat.le_refl _) _).alloc (by simp) _
  have h1 : ((w.alloc (.cells #[.int .i64 k] 110)).alloc (.cells #[.string t] 9)).cell? ⟨w.heap.size, 0, none⟩ = some (.int .i64 k) := by
    have := cell_row ((heap_alloc_old (w.alloc (.cells #[.int .i64 k] 110)) (.cells #[.string t] 9) (by simp)).trans (heap_alloc_new w (.cells #[.int .i64 k] 110))) 0
    exact this
  have h2 : ((w.alloc (.cells #[.int .i64 k] 110)).alloc (.cells #[.string t] 9)).cell? ⟨w.heap.size + 1, 0, none⟩ = some (.string t) := by
    have := heap_alloc_new (w.alloc (.cells #[.int .i64 k] 110)) (.cells #[.string t] 9)
    rw [World.size_alloc] at this
    have := cell_row this 0
    exact this
  have c105 := some1_any 121 (Or.inr (Or.inl rfl)) #[.pointer (some ⟨w.heap.size, 0, none⟩), .pointer (some ⟨w.heap.size + 1, 0, none⟩)] false K v _ (hv.below hb)
    (fun W hW => text1_any K k hk w.heap.size (w.heap.size + 1) t W ((hW.cell (p := ⟨w.heap.size, 0, none⟩) (World.block_lt_of_cell? _ _ h1)).trans h1) ((hW.cell (p := ⟨w.heap.size + 1, 0, none⟩) (World.block_lt_of_cell? _ _ h2)).trans h2))
  obtain ⟨b', c', rfl, -⟩ := hv.is
  have C105 := Lib.hid c105
  have HB := Lib.hid hb
  clear c105 hb h1 h2 hv hk
  go_enter Tryz.func102, Tryz.ntmps102
  go_wp2_with fail
  refine C105.out.mono ?_
  rintro e w1 ⟨rfl, hb1⟩
  go_wp2
  go_ret
  exact ⟨rfl, nx HB.out hb1⟩
/-- Nonce, without one. -/
theorem anonce_any (v : Value) (w : World) : Calls Tryz.prog 75 #[v, .string ⟨#[]⟩] w (Ret false w) := by
  go_enter Tryz.func75, Tryz.ntmps75
  go_wp2_with fail
  go_ret
  exact ⟨rfl, Below.refl _ _⟩
theorem ahash_any (K : Int) (hk : (K == 10) = false) (v : Value) (t : ByteArray) (ht : t.size ≤ 1000000) (w : World) (hg : Gl w) (hv : SrcV w v K) : Calls Tryz.prog 79 #[v, .string t] w (Ret false w) := by
  have hb := below_alloc' w (.cells #[.string t] 9)
  have hgA := hg.below hb
  have c109 := of_any (some ⟨w.heap.size, 0, none⟩) 1 1 [t] (w.alloc (.cells #[.string t] 9)) (Texts.lit w [t]) (by omega) (by simp [cat, size_len]; omega) hgA.s0 hgA.s1
  have hvA := hv.below hb
  obtain ⟨M, hM⟩ : ∃ M : ByteArray, M = ⟨(Mk.mark (cat [t])).toArray⟩ := ⟨_, rfl⟩
  rw [← hM] at c109
  have c102 := fun w' (h : SrcV w' v K) => atext_any K 10 hk v M w' h
  obtain ⟨b', c', rfl, -⟩ := hv.is
  have C109 := Lib.hid c109
  have C102 := Lib.hid c102
  have HB := Lib.hid hb
  have HV := Lib.hid hvA
  clear c109 c102 hb hvA hM hgA hg hv hk
  go_enter Tryz.func79, Tryz.ntmps79
  go_wp2_with fail
  with_reducible refine C109.out.mono ?_
  rintro e w1 ⟨rfl, hb1⟩
  have HV1 := Lib.hid (HV.out.below hb1)
  have HB1 := Lib.hid (nx HB.out hb1)
  clear hb1
  go_wp2_with fail
  with_reducible refine (C102.out _ HV1.out).mono ?_
  rintro e w2 ⟨rfl, hb2⟩
  go_wp2
  go_ret
  exact ⟨rfl, nx HB1.out hb2⟩
end Go.Proofs.YtajokmcdhhiahaaGreatDoor
