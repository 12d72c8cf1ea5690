/- The law RegistryKeeps. -/
import Derived.Test.YtpjakdekaolmeaaDoorRQ
namespace Go.Proofs.YtpjakdekaolmeaaDoor
open Go.RowKit Go.Shelf

theorem field_verdict (b : Bool) (v : Value) (w : World) : (Instr.field 32 (.agg #[.bool b, v]) 0).run Tryd.prog w = .ok (.bool b) w := by
  rw [Instr.field]
  simp only [Sem.run_bind, run_underlying Tryd.underlying32, Result.andThen_ok]
  simp [part, asAgg, go_sem]
theorem Texts.init {w : World} {A : Option Addr} {N : Nat} {ms : List ByteArray} {n : ByteArray} (h : Texts w A (N + 1) (ms ++ [n])) (hN : ms.length = N) : Texts w A N ms := by
  refine ⟨hN, fun _ => ?_⟩
  obtain ⟨ad, e, hlt, hc⟩ := h.2 (Nat.succ_pos N)
  refine ⟨ad, e, hlt, fun j hj => ?_⟩
  have := hc j (by simp; omega)
  rwa [List.getElem_append_left hj] at this
/-- What is refused. -/
theorem makeM_bad {ps : List PolB} {ms : List ByteArray} {n : ByteArray} (h : ¬ (mname n.data.toList = true ∧ okM (blocksM 0 ms n ps) = true ∧ ¬ (n = defB ∧ 0 ≤ findM ms n) ∧ ¬ 200 ≤ ms.length)) :
    ∃ o bl en, makeM ps ms n = ([], -1, o, bl, en) ∧ en ≠ 0 ∧ bl.length ≤ ps.length := by
  have hb := blocks_length ms n ps 0
  unfold makeM
  split
  · exact ⟨_, _, _, rfl, by decide, by simp⟩
  · split
    · exact ⟨_, _, _, rfl, by decide, by simp⟩
    · split
      · exact ⟨_, _, _, rfl, by decide, by simp⟩
      · split
        · exact ⟨_, _, _, rfl, by decide, hb⟩
        · rename_i h1 h2 h3 h4
          exact absurd ⟨(by simpa using h1), (by simpa using h4), h2, h3⟩ h
theorem makeM_good {ps : List PolB} {ms : List ByteArray} {n : ByteArray} (h1 : mname n.data.toList = true) (h2 : okM (blocksM 0 ms n ps) = true) (h3 : ¬ (n = defB ∧ 0 ≤ findM ms n)) (h4 : ¬ 200 ≤ ms.length) :
    makeM ps ms n = (ms ++ [n], (ms.length : Int), true, blocksM 0 ms n ps, 0) := by
  unfold makeM
  rw [if_neg (by rw [h1]; decide), if_neg h3, if_neg h4, if_neg (by rw [h2]; decide)]
set_option maxHeartbeats 8000000 in
set_option maxRecDepth 100000 in
theorem law_keeps_any (pv : Value) (ps : List PolB) (A : Option Addr) (N c : Nat) (ms : List ByteArray) (n : ByteArray) (w : World) (hp : PolsV w pv ps) (ht : Texts w A N ms) (hz : A = none → N = 0 ∧ c = 0) :
    Calls Tryd.prog 5 #[pv, .slice A N c, .string n] w (True1 w) := by
  have c9 := large_any pv ps A N c ms n w hp ht
  obtain ⟨LG, hLG⟩ : ∃ b, b = largeM ps ms n := ⟨_, rfl⟩
  rw [← hLG] at c9
  have C9 := Lib.hid c9
  clear c9
  cases LG
  case true =>
    clear hLG hp ht
    go_enter Tryd.func5, Tryd.ntmps5
    go_wp2_with fail
    with_reducible refine C9.out.mono ?_
    rintro e w1 ⟨rfl, hw1⟩
    obtain rfl : w = w1 := hw1.symm
    go_wp2_with fail
    go_ret
    exact ⟨rfl, Below.refl _ _⟩
  obtain ⟨hm, hps, hl, hs⟩ := not_large hLG.symm
  have hln := ht.1
  rw [hln] at hl
  by_cases h200 : 200 ≤ N
  · have h2i : (200 : Int) ≤ N := by omega
    clear hLG hp ht hm hln hl
    go_enter Tryd.func5, Tryd.ntmps5
    go_wp2_with fail
    with_reducible refine C9.out.mono ?_
    rintro e w1 ⟨rfl, hw1⟩
    obtain rfl : w = w1 := hw1.symm
    go_wp2_with fail
    go_ret
    exact ⟨rfl, Below.refl _ _⟩
  have h2i : decide ((200 : Int) ≤ N) = false := by simp; omega
  have c20 := make_any pv ps A N c ms n w hp hm ht hz (by omega) (by omega)
  have c12 := fun w' => name_any n w' (by omega)
  have c14 := fun w' (hb : Below w.heap.size w w') => find19_any A N c ms n w' (ht.below hb) (by omega)
  have c17 := fun w' (hb : Below w.heap.size w w') => allowed_any pv ps A N c ms n w' (hp.below hb) hm (ht.below hb) (by omega)
  have hbad := makeM_bad (ps := ps) (ms := ms) (n := n)
  have hgood := makeM_good (ps := ps) (ms := ms) (n := n)
  have hbl := blocks_length ms n ps 0
  have hmem : 0 ≤ findM (ms ++ [n]) n := by
    rcases Int.lt_or_le (findM (ms ++ [n]) n) 0 with h | h
    · exact absurd (by simp) ((findM_none _ _).1 h)
    · exact h
  rw [hln] at hbad hgood
  obtain ⟨X, hX⟩ : ∃ X, X = makeM ps ms n := ⟨_, rfl⟩
  obtain ⟨MN, hMN⟩ : ∃ b, b = mname n.data.toList := ⟨_, rfl⟩
  obtain ⟨FM, hFM⟩ : ∃ b, b = findM ms n := ⟨_, rfl⟩
  obtain ⟨bl, hB⟩ : ∃ b, b = blocksM 0 ms n ps := ⟨_, rfl⟩
  obtain ⟨OK, hO⟩ : ∃ b, b = okM bl := ⟨_, rfl⟩
  rw [← hX] at c20 hbad hgood
  rw [← hB] at hbad hgood c17 hbl
  unfold OutVerdict at c17
  rw [← hO] at hbad hgood c17
  rw [← hMN] at hbad hgood c12
  rw [← hFM] at hbad hgood c14
  have C12 := Lib.hid c12
  have C14 := Lib.hid c14
  have C17 := Lib.hid c17
  have C20 := Lib.hid c20
  have HLN := Lib.hid hln
  have HT := Lib.hid ht
  have HME := Lib.hid hmem
  clear c12 c14 c17 c20 hln hLG hp ht hz hX hMN hFM hB hO hmem hm
  have hfv := field_verdict
  cases MN
  · obtain ⟨o, bx, en, rfl, hen, hbx⟩ := hbad (by simp)
    have hen2 : ((en : Int) != 0) = true := by simp; omega
    clear hbad hgood
    go_enter Tryd.func5, Tryd.ntmps5
    go_wp2_with fail
    with_reducible refine C9.out.mono ?_
    rintro e w1 ⟨rfl, hw1⟩
    obtain rfl : w = w1 := hw1.symm
    go_wp2_with fail
    with_reducible refine C20.out.mono ?_
    rintro e w1 ⟨av, bv, rfl, hav, hbv, hb1⟩
    obtain ⟨A2, c2, rfl, -, -⟩ := own_form hbv
    obtain ⟨A3, c3, rfl, hc3, -⟩ := own_form hav
    have hbW := nx hb1 (below_alloc' w1 (.cells #[.bool o, .slice A2 bx.length c2] 32))
    have HAV := Lib.hid (own_below hav (below_alloc' w1 (.cells #[.bool o, .slice A2 bx.length c2] 32)))
    have HBW := Lib.hid hbW
    clear hbv hav hb1 hbW
    go_wp2_with fail
    with_reducible refine (C12.out _).mono ?_
    rintro e wq ⟨rfl, hwq⟩
    obtain rfl : _ = wq := hwq.symm
    clear hwq
    go_wp2_with fail
    with_reducible refine (registers_any _).mono ?_
    rintro e w9 ⟨rfl, hb9⟩
    have hbf := nx HBW.out hb9
    go_wp2_with fail
    go_ret
    exact ⟨rfl, hbf⟩
  · cases OK
    · obtain ⟨o, bx, en, rfl, hen, hbx⟩ := hbad (by simp)
      have hen2 : ((en : Int) != 0) = true := by simp; omega
      clear hbad hgood
      go_enter Tryd.func5, Tryd.ntmps5
      go_wp2_with fail
      with_reducible refine C9.out.mono ?_
      rintro e w1 ⟨rfl, hw1⟩
      obtain rfl : w = w1 := hw1.symm
      go_wp2_with fail
      with_reducible refine C20.out.mono ?_
      rintro e w1 ⟨av, bv, rfl, hav, hbv, hb1⟩
      obtain ⟨A2, c2, rfl, -, -⟩ := own_form hbv
      obtain ⟨A3, c3, rfl, hc3, -⟩ := own_form hav
      have hbW := nx hb1 (below_alloc' w1 (.cells #[.bool o, .slice A2 bx.length c2] 32))
      have HAV := Lib.hid (own_below hav (below_alloc' w1 (.cells #[.bool o, .slice A2 bx.length c2] 32)))
      have HBW := Lib.hid hbW
      clear hbv hav hb1 hbW
      go_wp2_with fail
      with_reducible refine (C12.out _).mono ?_
      rintro e wq ⟨rfl, hwq⟩
      obtain rfl : _ = wq := hwq.symm
      clear hwq
      go_wp2_with fail
      with_reducible refine (C17.out _ HBW.out).mono ?_
      rintro e w2 ⟨bv2, rfl, hbv2, hb2⟩
      obtain ⟨A4, c4, rfl, -, -⟩ := own_form hbv2
      have HB2 := Lib.hid (nx HBW.out hb2)
      have HAV2 := Lib.hid (own_below HAV.out hb2)
      clear hbv2 hb2
      go_wp2_with fail
      with_reducible refine (registers_any _).mono ?_
      rintro e w9 ⟨rfl, hb9⟩
      have hbf := nx HB2.out hb9
      go_wp2_with fail
      go_ret
      exact ⟨rfl, hbf⟩
    · by_cases hd : n = defB
      · have hqd : n.toList = [100, 101, 102, 97, 117, 108, 116] := by rw [hd, Lib.toList_data]; rfl
        by_cases hf : (0 : Int) ≤ FM
        · have hfi : decide (FM < 0) = false := by simp; omega
          obtain ⟨o, bx, en, rfl, hen, hbx⟩ := hbad (by rintro ⟨_, _, h, _⟩; exact h ⟨hd, hf⟩)
          have hen2 : ((en : Int) != 0) = true := by simp; omega
          clear hbad hgood
          clear hd
          go_enter Tryd.func5, Tryd.ntmps5
          go_wp2_with fail
          with_reducible refine C9.out.mono ?_
          rintro e w1 ⟨rfl, hw1⟩
          obtain rfl : w = w1 := hw1.symm
          go_wp2_with fail
          with_reducible refine C20.out.mono ?_
          rintro e w1 ⟨av, bv, rfl, hav, hbv, hb1⟩
          obtain ⟨A2, c2, rfl, -, -⟩ := own_form hbv
          obtain ⟨A3, c3, rfl, hc3, -⟩ := own_form hav
          have hbW := nx hb1 (below_alloc' w1 (.cells #[.bool o, .slice A2 bx.length c2] 32))
          have HAV := Lib.hid (own_below hav (below_alloc' w1 (.cells #[.bool o, .slice A2 bx.length c2] 32)))
          have HBW := Lib.hid hbW
          clear hbv hav hb1 hbW
          go_wp2_with fail
          with_reducible refine (C12.out _).mono ?_
          rintro e wq ⟨rfl, hwq⟩
          obtain rfl : _ = wq := hwq.symm
          clear hwq
          go_wp2_with fail
          with_reducible refine (C17.out _ HBW.out).mono ?_
          rintro e w2 ⟨bv2, rfl, hbv2, hb2⟩
          obtain ⟨A4, c4, rfl, -, -⟩ := own_form hbv2
          have HB2 := Lib.hid (nx HBW.out hb2)
          have HAV2 := Lib.hid (own_below HAV.out hb2)
          clear hbv2 hb2
          go_wp2_with fail
          with_reducible refine (C14.out w2 HB2.out).mono ?_
          rintro e w3 ⟨rfl, hb3⟩
          have HB3 := Lib.hid (nx HB2.out hb3)
          have HAV3 := Lib.hid (own_below HAV2.out hb3)
          clear hb3
          go_wp2_with fail
          with_reducible refine (registers_any _).mono ?_
          rintro e w9 ⟨rfl, hb9⟩
          have hbf := nx HB3.out hb9
          go_wp2_with fail
          go_ret
          exact ⟨rfl, hbf⟩
        · have hfi : FM < 0 := by omega
          have hx := hgood rfl rfl (by rintro ⟨_, h⟩; exact hf h) h200
          subst hx
          have hlx : (ms ++ [n]).length = N + 1 := by simp [HLN.out]
          clear hbad hgood
          clear hd
          go_enter Tryd.func5, Tryd.ntmps5
          go_wp2_with fail
          with_reducible refine C9.out.mono ?_
          rintro e w1 ⟨rfl, hw1⟩
          obtain rfl : w = w1 := hw1.symm
          go_wp2_with fail
          with_reducible refine C20.out.mono ?_
          rintro e w1 ⟨av, bv, rfl, hav, hbv, hb1⟩
          obtain ⟨A2, c2, rfl, -, -⟩ := own_form hbv
          obtain ⟨A3, c3, rfl, hc3, -⟩ := own_form hav
          simp only [hlx] at hav hc3 ⊢
          have hbW := nx hb1 (below_alloc' w1 (.cells #[.bool true, .slice A2 bl.length c2] 32))
          have HAV := Lib.hid (own_below hav (below_alloc' w1 (.cells #[.bool true, .slice A2 bl.length c2] 32)))
          have HBW := Lib.hid hbW
          clear hbv hav hb1 hbW
          go_wp2_with fail
          with_reducible refine (C12.out _).mono ?_
          rintro e wq ⟨rfl, hwq⟩
          obtain rfl : _ = wq := hwq.symm
          clear hwq
          go_wp2_with fail
          with_reducible refine (C17.out _ HBW.out).mono ?_
          rintro e w2 ⟨bv2, rfl, hbv2, hb2⟩
          obtain ⟨A4, c4, rfl, -, -⟩ := own_form hbv2
          have HB2 := Lib.hid (nx HBW.out hb2)
          have HAV2 := Lib.hid (own_below HAV.out hb2)
          clear hbv2 hb2
          go_wp2_with fail
          with_reducible refine (C14.out w2 HB2.out).mono ?_
          rintro e w3 ⟨rfl, hb3⟩
          have HB3 := Lib.hid (nx HB2.out hb3)
          have HAV3 := Lib.hid (own_below HAV2.out hb3)
          clear hb3
          go_wp2_with fail
          with_reducible refine (registers_any _).mono ?_
          rintro e w9 ⟨rfl, hb9⟩
          have HBF := Lib.hid (nx HB3.out hb9)
          have hav9 := own_below HAV3.out hb9
          clear hb9
          have htx := Texts.of_makers hav9
          have hq : N < (ms ++ [n]).length := by omega
          obtain ⟨g, off, rfl, hgl, hcc⟩ := htx.row (Nat.succ_pos N)
          have hcn := hcc N hq
          rw [List.getElem_append_right (by rw [HLN.out]; exact Nat.le_refl _)] at hcn
          simp only [HLN.out, Nat.sub_self, List.getElem_cons_zero] at hcn
          have HTX := Lib.hid htx
          have HCC := Lib.hid hcc
          have HLX := Lib.hid hlx
          have hNl : (N : Int) < 200 := by omega
          clear hav9 htx hcc hlx hq
          go_wp2_with fail
          with_reducible refine (samem_of (some ⟨g, off, none⟩) A N c3 c ms w9 (HTX.out.init HLN.out) (HT.out.below HBF.out) (by omega)).mono ?_
          rintro e w10 ⟨rfl, hb10⟩
          have hcn10 := (bcell' hb10 hgl).trans hcn
          have c14b := find19_any (some ⟨g, off, none⟩) (N + 1) c3 (ms ++ [n]) n w10 (HTX.out.below hb10) (by omega)
          have hme := HME.out
          obtain ⟨FL, hFL⟩ : ∃ f, f = findM (ms ++ [n]) n := ⟨_, rfl⟩
          rw [← hFL] at hme c14b
          have C14B := Lib.hid c14b
          have HB10 := Lib.hid (nx HBF.out hb10)
          clear c14b hFL hb10 hcn
          go_wp2_with fail
          with_reducible refine C14B.out.mono ?_
          rintro e w11 ⟨rfl, hb11⟩
          go_wp2_with fail
          go_ret
          exact ⟨rfl, nx HB10.out hb11⟩
      · have hqd : ¬ n.toList = [100, 101, 102, 97, 117, 108, 116] := by
          have := str_ne hd
          rw [Lib.toList_data defB] at this
          exact beq_eq_false_iff_ne.1 this
        have hx := hgood rfl rfl (by rintro ⟨h, _⟩; exact hd h) h200
        subst hx
        have hlx : (ms ++ [n]).length = N + 1 := by simp [HLN.out]
        clear hbad hgood
        clear hd
        go_enter Tryd.func5, Tryd.ntmps5
        go_wp2_with fail
        with_reducible refine C9.out.mono ?_
        rintro e w1 ⟨rfl, hw1⟩
        obtain rfl : w = w1 := hw1.symm
        go_wp2_with fail
        with_reducible refine C20.out.mono ?_
        rintro e w1 ⟨av, bv, rfl, hav, hbv, hb1⟩
        obtain ⟨A2, c2, rfl, -, -⟩ := own_form hbv
        obtain ⟨A3, c3, rfl, hc3, -⟩ := own_form hav
        simp only [hlx] at hav hc3 ⊢
        have hbW := nx hb1 (below_alloc' w1 (.cells #[.bool true, .slice A2 bl.length c2] 32))
        have HAV := Lib.hid (own_below hav (below_alloc' w1 (.cells #[.bool true, .slice A2 bl.length c2] 32)))
        have HBW := Lib.hid hbW
        clear hbv hav hb1 hbW
        go_wp2_with fail
        with_reducible refine (C12.out _).mono ?_
        rintro e wq ⟨rfl, hwq⟩
        obtain rfl : _ = wq := hwq.symm
        clear hwq
        go_wp2_with fail
        with_reducible refine (C17.out _ HBW.out).mono ?_
        rintro e w2 ⟨bv2, rfl, hbv2, hb2⟩
        obtain ⟨A4, c4, rfl, -, -⟩ := own_form hbv2
        have HB2 := Lib.hid (nx HBW.out hb2)
        have HAV2 := Lib.hid (own_below HAV.out hb2)
        clear hbv2 hb2
        go_wp2_with fail
        with_reducible refine (registers_any _).mono ?_
        rintro e w9 ⟨rfl, hb9⟩
        have HBF := Lib.hid (nx HB2.out hb9)
        have hav9 := own_below HAV2.out hb9
        clear hb9
        have htx := Texts.of_makers hav9
        have hq : N < (ms ++ [n]).length := by omega
        obtain ⟨g, off, rfl, hgl, hcc⟩ := htx.row (Nat.succ_pos N)
        have hcn := hcc N hq
        rw [List.getElem_append_right (by rw [HLN.out]; exact Nat.le_refl _)] at hcn
        simp only [HLN.out, Nat.sub_self, List.getElem_cons_zero] at hcn
        have HTX := Lib.hid htx
        have HCC := Lib.hid hcc
        have HLX := Lib.hid hlx
        have hNl : (N : Int) < 200 := by omega
        clear hav9 htx hcc hlx hq
        go_wp2_with fail
        with_reducible refine (samem_of (some ⟨g, off, none⟩) A N c3 c ms w9 (HTX.out.init HLN.out) (HT.out.below HBF.out) (by omega)).mono ?_
        rintro e w10 ⟨rfl, hb10⟩
        have hcn10 := (bcell' hb10 hgl).trans hcn
        have c14b := find19_any (some ⟨g, off, none⟩) (N + 1) c3 (ms ++ [n]) n w10 (HTX.out.below hb10) (by omega)
        have hme := HME.out
        obtain ⟨FL, hFL⟩ : ∃ f, f = findM (ms ++ [n]) n := ⟨_, rfl⟩
        rw [← hFL] at hme c14b
        have C14B := Lib.hid c14b
        have HB10 := Lib.hid (nx HBF.out hb10)
        clear c14b hFL hb10 hcn
        go_wp2_with fail
        with_reducible refine C14B.out.mono ?_
        rintro e w11 ⟨rfl, hb11⟩
        go_wp2_with fail
        go_ret
        exact ⟨rfl, nx HB10.out hb11⟩
end Go.Proofs.YtpjakdekaolmeaaDoor
