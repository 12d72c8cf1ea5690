/- The law RegistryNames. -/
import Derived.Test.YtpjakdekaolmeaaDoorRN
namespace Go.Proofs.YtpjakdekaolmeaaDoor
open Go.RowKit Go.Shelf

theorem same_of (o : Bool) (va vb : Value) (bl : List (Nat × Bool)) (w : World) (hp : BreaksV w va bl) (hq : BreaksV w vb bl) (hn : bl.length ≤ 10000000) : Calls Tryd.prog 16 #[.agg #[.bool o, va], .agg #[.bool o, vb]] w (True1 w) :=
  (vsame_any o o va vb bl bl w hp hq hn hn).mono fun e w' ⟨he, hb⟩ => ⟨by rw [he]; simp, hb⟩
theorem samem_of (A B : Option Addr) (N c d : Nat) (p : List ByteArray) (w : World) (hp : Texts w A N p) (hq : Texts w B N p) (hn : N ≤ 10000000) : Calls Tryd.prog 19 #[.slice A N c, .slice B N d] w (True1 w) :=
  (samem_any A B N N c d p p w hp hq hn hn).mono fun e w' ⟨he, hb⟩ => ⟨by rw [he]; simp, hb⟩

set_option maxHeartbeats 4000000 in
set_option maxRecDepth 100000 in
theorem law_names_any (pv : Value) (ps : List PolB) (A : Option Addr) (N c : Nat) (ms : List ByteArray) (n : ByteArray) (w : World) (hp : PolsV w pv ps) (ht : Texts w A N ms) (hz : A = none → N = 0 ∧ c = 0) :
    Calls Tryd.prog 3 #[pv, .slice A N c, .string n] w (True1 w) := by
  have c9 := large_any pv ps A N c ms n w hp ht
  obtain ⟨LG, hLG⟩ : ∃ b, b = largeM ps ms n := ⟨_, rfl⟩
  rw [← hLG] at c9
  have C9 := Lib.hid c9
  clear c9
  cases LG
  case true =>
    clear hLG hp ht
    go_enter Tryd.func3, Tryd.ntmps3
    go_wp2_with fail
    with_reducible refine C9.out.mono ?_
    rintro e w1 ⟨rfl, hw1⟩
    obtain rfl : w = w1 := hw1.symm
    go_wp2_with fail
    go_ret
    exact ⟨rfl, Below.refl _ _⟩
  obtain ⟨hm, -, hl, hs⟩ := not_large hLG.symm
  have hln := ht.1
  rw [hln] at hl
  have c10 := ownm_any A N c ms w ht hz (by omega)
  have c12 := fun w' => name_any n w' (by omega)
  have c13 := fun w' => ref_mname_any n w' (by omega)
  have c14 := fun w' (hb : Below w.heap.size w w') => find19_any A N c ms n w' (ht.below hb) (by omega)
  have c15 := fun B d w' (h : Texts w' B N ms) => ref_find19_any B N d ms n w' h (by omega)
  have c17 := fun w' (hb : Below w.heap.size w w') => allowed_any pv ps A N c ms n w' (hp.below hb) hm (ht.below hb) (by omega)
  have c18 := fun B d w' (hb : Below w.heap.size w w') (h : Texts w' B N ms) => ref_allowed_any pv ps B N d ms n w' (hp.below hb) hm h (by omega)
  have c19 := fun B d w' (hb : Below w.heap.size w w') (h : Texts w' B N ms) => samem_of A B N c d ms w' (ht.below hb) h (by omega)
  have hbl := blocks_length ms n ps 0
  have hbl2 : (blocksM 0 ms n ps).length ≤ 10000000 := Nat.le_trans hbl hm.1
  obtain ⟨MN, hMN⟩ : ∃ b, b = mname n.data.toList := ⟨_, rfl⟩
  obtain ⟨FM, hFM⟩ : ∃ b, b = findM ms n := ⟨_, rfl⟩
  obtain ⟨bl, hB⟩ : ∃ b, b = blocksM 0 ms n ps := ⟨_, rfl⟩
  obtain ⟨OK, hO⟩ : ∃ b, b = okM bl := ⟨_, rfl⟩
  rw [← hMN] at c12 c13
  rw [← hFM] at c14 c15
  rw [← hB] at c17 c18 hbl2
  unfold OutVerdict at c17 c18
  rw [← hO] at c17 c18
  have C10 := Lib.hid c10
  have C12 := Lib.hid c12
  have C13 := Lib.hid c13
  have C14 := Lib.hid c14
  have C15 := Lib.hid c15
  have C17 := Lib.hid c17
  have C18 := Lib.hid c18
  have C19 := Lib.hid c19
  have HLN := Lib.hid hln
  have HBL := Lib.hid hbl2
  clear c10 c12 c13 c14 c15 c17 c18 c19 hbl hbl2 hMN hFM hB hO hln hLG hm hp ht hz
  go_enter Tryd.func3, Tryd.ntmps3
  go_wp2_with fail
  with_reducible refine C9.out.mono ?_
  rintro e w1 ⟨rfl, hw1⟩
  obtain rfl : w = w1 := hw1.symm
  go_wp2_with fail
  with_reducible refine C10.out.mono ?_
  rintro e w1 ⟨ov, rfl, hov, hb1⟩
  rw [HLN.out] at hov
  obtain ⟨B, d, rfl, -, -⟩ := own_form hov
  have htB := Texts.of_makers hov
  have HTB := Lib.hid (fun W (hb : Below w1.heap.size w1 W) => htB.below hb)
  have HB1 := Lib.hid hb1
  clear hov htB hb1
  go_wp2_with fail
  with_reducible refine (registers_any w1).mono ?_
  rintro e w2 ⟨rfl, hb2⟩
  go_wp2_with fail
  with_reducible refine (C12.out w2).mono ?_
  rintro e w3 ⟨rfl, hw3⟩
  obtain rfl : w2 = w3 := hw3.symm
  go_wp2_with fail
  with_reducible refine (C13.out w2).mono ?_
  rintro e w3 ⟨rfl, hb3⟩
  have hc3 := nx hb2 hb3
  go_wp2_with fail
  with_reducible refine (C14.out w3 (nx HB1.out hc3)).mono ?_
  rintro e w4 ⟨rfl, hb4⟩
  have hc4 := nx hc3 hb4
  go_wp2_with fail
  with_reducible refine (C15.out B d w4 (HTB.out w4 hc4)).mono ?_
  rintro e w5 ⟨rfl, hw5⟩
  obtain rfl : w4 = w5 := hw5.symm
  go_wp2_with fail
  with_reducible refine (C17.out w4 (nx HB1.out hc4)).mono ?_
  rintro e w5 ⟨bv5, rfl, hbv5, hb5⟩
  have hc5 := nx hc4 hb5
  go_wp2_with fail
  with_reducible refine (C18.out B d w5 (nx HB1.out hc5) (HTB.out w5 hc5)).mono ?_
  rintro e w6 ⟨bv6, rfl, hbv6, hb6⟩
  have hc6 := nx hc5 hb6
  go_wp2_with fail
  with_reducible refine (same_of OK bv5 bv6 bl w6 ((BreaksV.of_own hbv5).below hb6) (BreaksV.of_own hbv6) HBL.out).mono ?_
  rintro e w7 ⟨rfl, hb7⟩
  have hc7 := nx hc6 hb7
  go_wp2_with fail
  with_reducible refine (C19.out B d w7 (nx HB1.out hc7) (HTB.out w7 hc7)).mono ?_
  rintro e w8 ⟨rfl, hb8⟩
  go_wp2_with fail
  go_ret
  exact ⟨rfl, nx HB1.out (nx hc7 hb8)⟩
end Go.Proofs.YtpjakdekaolmeaaDoor
