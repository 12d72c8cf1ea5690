/- The law RegistryMakes. -/
import Derived.Test.YtpjakdekaolmeaaDoorRP
namespace Go.Proofs.YtpjakdekaolmeaaDoor
open Go.RowKit Go.Shelf

theorem makeM_length (ps : List PolB) (ms : List ByteArray) (n : ByteArray) : (makeM ps ms n).1.length ≤ ms.length + 1 ∧ (makeM ps ms n).2.2.2.1.length ≤ ps.length := by
  have h := blocks_length ms n ps 0
  unfold makeM
  split
  · simp
  · split
    · simp
    · split
      · simp
      · split
        · simp; exact h
        · simp; exact h
set_option maxHeartbeats 4000000 in
set_option maxRecDepth 100000 in
theorem law_makes_any (pv : Value) (ps : List PolB) (A : Option Addr) (N c : Nat) (ms : List ByteArray) (n : ByteArray) (w : World) (hp : PolsV w pv ps) (ht : Texts w A N ms) (hz : A = none → N = 0 ∧ c = 0) :
    Calls Tryd.prog 4 #[pv, .slice A N c, .string n] w (True1 w) := by
  have c9 := large_any pv ps A N c ms n w hp ht
  obtain ⟨LG, hLG⟩ : ∃ b, b = largeM ps ms n := ⟨_, rfl⟩
  rw [← hLG] at c9
  have C9 := Lib.hid c9
  clear c9
  cases LG
  case true =>
    clear hLG hp ht
    go_enter Tryd.func4, Tryd.ntmps4
    go_wp2_with fail
    with_reducible refine C9.out.mono ?_
    rintro e w1 ⟨rfl, hw1⟩
    obtain rfl : w = w1 := hw1.symm
    go_wp2_with fail
    go_ret
    exact ⟨rfl, Below.refl _ _⟩
  obtain ⟨hm, hps, hl, hs⟩ := not_large hLG.symm
  have hln := ht.1
  rw [hln] at hl
  have c10 := ownm_any A N c ms w ht hz (by omega)
  have c20 := fun w' (hb : Below w.heap.size w w') => make_any pv ps A N c ms n w' (hp.below hb) hm (ht.below hb) hz (by omega) (by omega)
  have c21 := fun B d w' (hb : Below w.heap.size w w') (h : Texts w' B N ms) (hz : B = none → N = 0 ∧ d = 0) => ref_make_any pv ps B N d ms n w' (hp.below hb) hm h hz (by omega) (by omega)
  have c19 := fun B d w' (hb : Below w.heap.size w w') (h : Texts w' B N ms) => samem_of A B N c d ms w' (ht.below hb) h (by omega)
  obtain ⟨hX1, hX2⟩ := makeM_length ps ms n
  obtain ⟨X, hX⟩ : ∃ X, X = makeM ps ms n := ⟨_, rfl⟩
  rw [← hX] at c20 c21 hX1 hX2
  obtain ⟨ml, nn, ok, bl, en⟩ := X
  obtain ⟨M, hM⟩ : ∃ M, M = ml.length := ⟨_, rfl⟩
  simp only [← hM] at hX1 hX2
  have hM1 : M ≤ 300 := by omega
  have hbl2 : bl.length ≤ 10000000 := by omega
  have C10 := Lib.hid c10
  have C19 := Lib.hid c19
  have C20 := Lib.hid c20
  have C21 := Lib.hid c21
  have HLN := Lib.hid hln
  have HM := Lib.hid hM
  have HBL := Lib.hid hbl2
  clear c10 c19 c20 c21 hln hM hX hX1 hX2 hLG hm hp ht hz hbl2 hl
  go_enter Tryd.func4, Tryd.ntmps4
  go_wp2_with fail
  with_reducible refine C9.out.mono ?_
  rintro e w1 ⟨rfl, hw1⟩
  obtain rfl : w = w1 := hw1.symm
  go_wp2_with fail
  with_reducible refine C10.out.mono ?_
  rintro e w1 ⟨ov, rfl, hov, hb1⟩
  rw [HLN.out] at hov
  obtain ⟨B, d, rfl, -, hbz⟩ := own_form hov
  have htB := Texts.of_makers hov
  have HTB := Lib.hid (fun W (hb : Below w1.heap.size w1 W) => htB.below hb)
  have HB1 := Lib.hid hb1
  have hbz2 : B = none → N = 0 ∧ d = 0 := by
    intro e
    refine ⟨?_, hbz e⟩
    rcases hov.2 with ⟨_, h0⟩ | ⟨g, cap, cur, hv, _⟩
    · exact h0
    · injection hv with h1
      rw [e] at h1
      cases h1
  have HBZ := Lib.hid hbz2
  clear hbz2
  clear hov htB hb1 hbz
  go_wp2_with fail
  with_reducible refine (C20.out w1 HB1.out).mono ?_
  rintro e w2 ⟨av, bv2, rfl, hav, hbv2, hb2⟩
  obtain ⟨A2, c2, rfl, -, -⟩ := own_form hbv2
  obtain ⟨A3, c3, rfl, -, -⟩ := own_form hav
  simp only [← HM.out] at hav ⊢
  have hbr2 := BreaksV.of_own hbv2
  have hx2 := heap_alloc_new w2 (.cells #[.bool ok, .slice A2 bl.length c2] 32)
  have hy2 := below_alloc' w2 (.cells #[.bool ok, .slice A2 bl.length c2] 32)
  have hc2 := nx hb2 hy2
  have HAV := Lib.hid (own_below hav hy2)
  have HBR2 := Lib.hid (hbr2.below hy2)
  clear hbv2 hav hb2 hbr2
  go_wp2_with fail
  with_reducible refine (C21.out B d _ (nx HB1.out hc2) (HTB.out _ hc2) HBZ.out).mono ?_
  rintro e w3 ⟨av3, bv3, rfl, hav3, hbv3, hb3⟩
  obtain ⟨A4, c4, rfl, -, -⟩ := own_form hbv3
  obtain ⟨A5, c5, rfl, -, -⟩ := own_form hav3
  simp only [← HM.out] at hav3 ⊢
  have hbr3 := BreaksV.of_own hbv3
  have hx3 := heap_alloc_new w3 (.cells #[.bool ok, .slice A4 bl.length c4] 32)
  have hy3 := below_alloc' w3 (.cells #[.bool ok, .slice A4 bl.length c4] 32)
  have hx23 := carry (carry hx2 hb3) hy3
  have hc3 := nx hc2 (nx hb3 hy3)
  have HA5 := Lib.hid (Texts.of_makers (own_below hav3 hy3))
  have HAV3 := Lib.hid (own_below (own_below HAV.out hb3) hy3)
  have HBR3 := Lib.hid (hbr3.below hy3)
  have HBR23 := Lib.hid (HBR2.out.below (nx hb3 hy3))
  have HC3 := Lib.hid hc3
  have h0 := cell_row hx23 0
  have h1 := cell_row hx23 1
  have k0 := cell_row hx3 0
  have k1 := cell_row hx3 1
  simp at h0 h1 k0 k1
  clear hbv3 hav3 hbr3 hx3 hx23 hc3 hx2 hy2 hc2 hb3 hy3
  go_wp2_with fail
  with_reducible refine (same_of ok _ _ bl _ HBR23.out HBR3.out HBL.out).mono ?_
  rintro e w4 ⟨rfl, hb4⟩
  have HC4 := Lib.hid (nx HC3.out hb4)
  have HAV4 := Lib.hid (own_below HAV3.out hb4)
  have HA54 := Lib.hid (HA5.out.below hb4)
  clear hb4
  have hsm := samem_of A3 A5 M c3 c5 ml w4 (Texts.of_makers HAV4.out) HA54.out (by omega)
  have HSM := Lib.hid hsm
  clear hsm
  go_wp2_with fail
  with_reducible refine HSM.out.mono ?_
  rintro e w5 ⟨rfl, hb5⟩
  have HC5 := Lib.hid (nx HC4.out hb5)
  have hav5 := own_below HAV4.out hb5
  clear hb5
  have fin : ∀ w6, Below w1.heap.size w1 w6 → Calls Tryd.prog 19 #[.slice A N c, .slice B N d] w6 (True1 w6) := fun w6 hb => C19.out B d w6 (nx HB1.out hb) (HTB.out w6 hb)
  have FIN := Lib.hid fin
  clear fin
  have hrow : M = 0 ∨ ∃ g cur, A3 = some ⟨g, 0, none⟩ ∧ w1.heap.size ≤ g ∧ w5.heap[g]? = some (.cells cur 39 (0, 0)) ∧ M ≤ cur.size := by
    rcases hav5.2 with ⟨_, h0⟩ | ⟨g, cap, cur, hv, hg, hh, h1, _, h2, _⟩
    · exact .inl h0
    · injection hv with hv
      exact .inr ⟨g, cur, hv, hg, hh, by omega⟩
  clear hav5
  rcases hrow with rfl | ⟨g, cur, rfl, hg, hh, hcs⟩
  · go_wp2_with fail
    go_loopg [17] 0 (fun gk i wr => i = .int .i64 0 ∧ wr = w5)
    case atStart => exact ⟨rfl, rfl⟩
    case round =>
      obtain ⟨rfl, hwr⟩ := hrel
      obtain rfl : w5 = _ := hwr.symm
      clear hwr
      go_wp2_with fail
      with_reducible refine (registers_any _).mono ?_
      rintro e w6 ⟨rfl, hb6⟩
      have hb7 := nx HC5.out hb6
      go_wp2_with fail
      with_reducible refine (FIN.out w6 hb7).mono ?_
      rintro e w7 ⟨rfl, hb8⟩
      go_wp2_with fail
      go_ret
      exact ⟨rfl, nx HB1.out (nx hb7 hb8)⟩
  · have HH := Lib.hid hh
    go_wp2_with fail
    go_loopg [17] M (fun gk i wr => ∃ (k : Nat) (cu : Array Value), k + gk = M ∧ i = .int .i64 k ∧ Hid (wr.heap[g]? = some (.cells cu 39 (0, 0))) ∧ M ≤ cu.size ∧ Hid (Below w1.heap.size w1 wr))
    case atStart => exact ⟨0, cur, by omega, rfl, HH.out, hcs, HC5.out⟩
    case round =>
      obtain ⟨k, cu, hk, rfl, HX, hcu, HB⟩ := hrel
      have HK := Lib.hid hk; clear hk
      by_cases hlt : k < M
      · have hck := cell_row HX.out k
        have hfz := frozen_row HX.out
        rw [Array.getElem?_eq_getElem (show k < cu.size by omega)] at hck
        obtain ⟨z, hz⟩ : ∃ z, z = cu[k] := ⟨_, rfl⟩
        rw [← hz] at hck
        clear hz
        go_wp2_with fail
        go_roundg (gk - 1)
        case measure => have := HK.out; omega
        case rel =>
          have := HK.out
          have hx := heap_setAt (k := k) HX.out (.string ⟨#[115, 109, 117, 100, 103, 101]⟩)
          exact ⟨k + 1, _, by omega, by go_num, hx, by rw [Array.size_setIfInBounds]; exact hcu, HB.out.setCell (p := ⟨g, k, none⟩) hg _⟩
      · go_wp2_with fail
        with_reducible refine (registers_any _).mono ?_
        rintro e w6 ⟨rfl, hb6⟩
        have hb7 := nx HB.out hb6
        go_wp2_with fail
        with_reducible refine (FIN.out w6 hb7).mono ?_
        rintro e w7 ⟨rfl, hb8⟩
        go_wp2_with fail
        go_ret
        exact ⟨rfl, nx HB1.out (nx hb7 hb8)⟩
end Go.Proofs.YtpjakdekaolmeaaDoor
