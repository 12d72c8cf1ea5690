/- How a maker is made: the reference's Make. -/
import Derived.Test.YtpjakdekaolmeaaDoorRK
namespace Go.Proofs.YtpjakdekaolmeaaDoor
open Go.RowKit Go.Shelf

set_option maxHeartbeats 4000000 in
set_option maxRecDepth 100000 in
theorem ref_make_any (pv : Value) (ps : List PolB) (A : Option Addr) (N c : Nat) (ms : List ByteArray) (n : ByteArray) (w : World) (hp : PolsV w pv ps) (hm : PMild ps) (ht : Texts w A N ms) (hz : A = none → N = 0 ∧ c = 0) (hn : N ≤ 10000000) (hs : n.size ≤ 10000000) :
    Calls Tryd.prog 21 #[pv, .slice A N c, .string n] w (OutMake (makeM ps ms n) w) := by
  obtain ⟨PA, pc, rfl, -, -, -⟩ := id hp
  have hl := ht.1
  have c13 := fun w' => ref_mname_any n w' hs
  have c15 := fun w' (hb : Below w.heap.size w w') => ref_find19_any A N c ms n w' (ht.below hb) hn
  have c18 := fun w' (hb : Below w.heap.size w w') => ref_allowed_any (.slice PA ps.length pc) ps A N c ms n w' (hp.below hb) hm (ht.below hb) hn
  obtain ⟨X, hX⟩ : ∃ X, X = makeM ps ms n := ⟨_, rfl⟩
  obtain ⟨L, hL⟩ : ∃ L, L = ps.length := ⟨_, rfl⟩
  obtain ⟨bl, hbl⟩ : ∃ bl, bl = blocksM 0 ms n ps := ⟨_, rfl⟩
  obtain ⟨FM, hFM⟩ : ∃ z, z = findM ms n := ⟨_, rfl⟩
  obtain ⟨MN, hMN⟩ : ∃ z, z = mname n.data.toList := ⟨_, rfl⟩
  have hx := hX
  unfold makeM at hx
  rw [← hMN, ← hFM, ← hbl, hl] at hx
  rw [← hX, ← hL]
  rw [← hL] at c18
  rw [← hbl] at c18
  rw [← hFM] at c15
  rw [← hMN] at c13
  have HX := Lib.hid hx
  have C13 := Lib.hid c13
  have C15 := Lib.hid c15
  have C18 := Lib.hid c18
  have HL := Lib.hid hl
  have HT := Lib.hid ht
  have HZ := Lib.hid hz
  clear hx hX hL hbl hFM hMN c13 c15 c18 hp hm ht hl hz
  obtain ⟨i0, hi0, hz0, hz1, hz2⟩ := info_parts maker_row
  have HI0 := Lib.hid hi0
  clear hi0
  cases MN
  · have hx := HX.out
    rw [if_pos rfl] at hx
    subst hx
    go_enter Tryd.func21, Tryd.ntmps21
    go_wp2_with fail
    with_reducible refine (C13.out _).mono ?_
    rintro e w2 ⟨rfl, hb2⟩
    have hb3 := nx (below_alloc' w _) hb2
    have hp2 := carry (heap_alloc_new w (.cells #[.bool false, .slice none 0 0] 32)) hb2
    have h0 := cell_row hp2 0
    have h1 := cell_row hp2 1
    have hfz := frozen_row hp2
    simp at h0 h1
    go_wp2_with fail
    have hx1 := heap_setAt (k := 0) hp2 (.bool false)
    have hx2 := heap_setAt (k := 1) hx1 (.slice none 0 0)
    have hq0 := cell_row hx2 0
    have hq1 := cell_row hx2 1
    simp at hq0 hq1
    exact bodyPost_ret (v := .tuple #[.slice none 0 0, .int .i64 (-1), .agg #[.bool false, .slice none 0 0], .int .i64 190]) (by simp [results, Tryd.results21, go_sem, hq0, hq1]) rfl ⟨_, _, rfl, World.ownsRow_nil _ _ _ _, World.ownsRow_nil _ _ _ _, (hb3.setCell (p := ⟨w.heap.size, 0, none⟩) (Nat.le_refl _) _).setCell (p := ⟨w.heap.size, 1, none⟩) (Nat.le_refl _) _⟩
  · by_cases hd : n = defB
    · have hqd : (n.toList == [100, 101, 102, 97, 117, 108, 116]) = true := by rw [hd, Lib.toList_data]; rfl
      by_cases hf : (0 : Int) ≤ FM
      · have hx := HX.out
        rw [if_neg (by simp), if_pos ⟨hd, hf⟩] at hx
        subst hx
        clear hd
        go_enter Tryd.func21, Tryd.ntmps21
        go_wp2_with fail
        with_reducible refine (C13.out _).mono ?_
        rintro e w2 ⟨rfl, hb2⟩
        have hb3 := nx (below_alloc' w _) hb2
        have hp2 := carry (heap_alloc_new w (.cells #[.bool false, .slice none 0 0] 32)) hb2
        have h0 := cell_row hp2 0
        have h1 := cell_row hp2 1
        have hfz := frozen_row hp2
        simp at h0 h1
        go_wp2_with fail
        with_reducible refine (C15.out _ hb3).mono ?_
        rintro e w9 ⟨rfl, hw9⟩
        obtain rfl : w2 = w9 := hw9.symm
        go_wp2_with fail
        have hx1 := heap_setAt (k := 0) hp2 (.bool false)
        have hx2 := heap_setAt (k := 1) hx1 (.slice none 0 0)
        have hq0 := cell_row hx2 0
        have hq1 := cell_row hx2 1
        simp at hq0 hq1
        exact bodyPost_ret (v := .tuple #[.slice none 0 0, .int .i64 (-1), .agg #[.bool false, .slice none 0 0], .int .i64 191]) (by simp [results, Tryd.results21, go_sem, hq0, hq1]) rfl ⟨_, _, rfl, World.ownsRow_nil _ _ _ _, World.ownsRow_nil _ _ _ _, (hb3.setCell (p := ⟨w.heap.size, 0, none⟩) (Nat.le_refl _) _).setCell (p := ⟨w.heap.size, 1, none⟩) (Nat.le_refl _) _⟩
      · have HNO := Lib.hid (show ¬ (n = defB ∧ 0 ≤ FM) from fun h => hf h.2)
        have hfi : decide ((0 : Int) ≤ FM) = false := by simp; omega
        clear hd
        by_cases h2 : 200 ≤ N
        · have h2i : (200 : Int) ≤ N := by omega
          have hx := HX.out
          rw [if_neg (by simp), if_neg HNO.out, if_pos h2] at hx
          subst hx
          go_enter Tryd.func21, Tryd.ntmps21
          go_wp2_with fail
          with_reducible refine (C13.out _).mono ?_
          rintro e w2 ⟨rfl, hb2⟩
          have hb3 := nx (below_alloc' w _) hb2
          have hp2 := carry (heap_alloc_new w (.cells #[.bool false, .slice none 0 0] 32)) hb2
          have h0 := cell_row hp2 0
          have h1 := cell_row hp2 1
          have hfz := frozen_row hp2
          simp at h0 h1
          go_wp2_with fail
          with_reducible refine (C15.out _ hb3).mono ?_
          rintro e w9 ⟨rfl, hw9⟩
          obtain rfl : w2 = w9 := hw9.symm
          go_wp2_with fail
          have hx1 := heap_setAt (k := 0) hp2 (.bool false)
          have hx2 := heap_setAt (k := 1) hx1 (.slice none 0 0)
          have hq0 := cell_row hx2 0
          have hq1 := cell_row hx2 1
          simp at hq0 hq1
          exact bodyPost_ret (v := .tuple #[.slice none 0 0, .int .i64 (-1), .agg #[.bool false, .slice none 0 0], .int .i64 2]) (by simp [results, Tryd.results21, go_sem, hq0, hq1]) rfl ⟨_, _, rfl, World.ownsRow_nil _ _ _ _, World.ownsRow_nil _ _ _ _, (hb3.setCell (p := ⟨w.heap.size, 0, none⟩) (Nat.le_refl _) _).setCell (p := ⟨w.heap.size, 1, none⟩) (Nat.le_refl _) _⟩
        · have h2i : decide ((200 : Int) ≤ N) = false := by simp; omega
          go_enter Tryd.func21, Tryd.ntmps21
          go_wp2_with fail
          with_reducible refine (C13.out _).mono ?_
          rintro e w2 ⟨rfl, hb2⟩
          have hb3 := nx (below_alloc' w _) hb2
          have hp2 := carry (heap_alloc_new w (.cells #[.bool false, .slice none 0 0] 32)) hb2
          have h0 := cell_row hp2 0
          have h1 := cell_row hp2 1
          have hfz := frozen_row hp2
          simp at h0 h1
          go_wp2_with fail
          with_reducible refine (C15.out _ hb3).mono ?_
          rintro e w9 ⟨rfl, hw9⟩
          obtain rfl : w2 = w9 := hw9.symm
          have HP2 := Lib.hid hp2
          have HB3 := Lib.hid hb3
          have hx := HX.out
          rw [if_neg (by simp), if_neg HNO.out, if_neg h2] at hx
          have HX2 := Lib.hid hx
          clear hx hp2 hb3
          go_wp2_with fail
          with_reducible refine (C18.out _ HB3.out).mono ?_
          rintro e w3 ⟨bv, rfl, hbv, hb4⟩
          obtain ⟨BA, bc, rfl, -, -⟩ := own_form hbv
          obtain ⟨K, hK⟩ : ∃ K, K = bl.length := ⟨_, rfl⟩
          obtain ⟨OK, hOK⟩ : ∃ K, K = okM bl := ⟨_, rfl⟩
          have hx := HX2.out
          rw [← hOK] at hx ⊢
          rw [← hK] at hbv ⊢
          have HOK := Lib.hid hOK
          have HK := Lib.hid hK
          clear hOK hK
          have hp3 := carry HP2.out hb4
          have hb5 := nx HB3.out hb4
          have h2s : w.heap.size < w2.heap.size := (Array.getElem?_eq_some_iff.1 HP2.out).1
          have h23 := hb4.size
          cases OK
          · go_wp2_with fail
            obtain ⟨w4, hw4⟩ : ∃ W, W = w3.alloc (.cells #[.bool false, .slice BA K bc] 32) := ⟨_, rfl⟩
            have hb34 := below_alloc' w3 (.cells #[.bool false, .slice BA K bc] 32)
            have hq4 := heap_alloc_new w3 (.cells #[.bool false, .slice BA K bc] 32)
            rw [← hw4] at hb34 hq4 ⊢
            clear hw4
            have hp4 := carry hp3 hb34
            have HBV := Lib.hid (own_below hbv hb34)
            have HB4 := Lib.hid (nx hb5 hb34)
            have HP4 := Lib.hid hp4
            have HQ4 := Lib.hid hq4
            have HX3 := Lib.hid hx
            have k0 := cell_row hq4 0
            have k1 := cell_row hq4 1
            have r0 := cell_row hp4 0
            have r1 := cell_row hp4 1
            have rf := frozen_row hp4
            have h34 : w3.heap.size < w4.heap.size := (Array.getElem?_eq_some_iff.1 hq4).1
            simp at k0 k1 r0 r1
            clear hbv hb34 hp3 hb4 hb5 hp4 hq4 hx
            go_region
            all_goals
              go_wp2_with fail
              have hx1 := heap_setAt (k := 0) HP4.out (.bool false)
              have hx2 := heap_setAt (k := 1) hx1 (.slice BA K bc)
              have hq0 := cell_row hx2 0
              have hq1 := cell_row hx2 1
              simp at hq0 hq1
              have hkk := HK.out
              subst hkk
              have hx := HX3.out
              rw [if_pos trivial] at hx
              rw [hx]
              have hbf := (HB4.out.setCell (p := ⟨w.heap.size, 0, none⟩) (Nat.le_refl _) (.bool false)).setCell (p := ⟨w.heap.size, 1, none⟩) (Nat.le_refl _) (.slice BA bl.length bc)
              refine bodyPost_ret (v := .tuple #[.slice none 0 0, .int .i64 (-1), .agg #[.bool false, .slice BA bl.length bc], .int .i64 200]) (by simp [results, Tryd.results21, go_sem, hq0, hq1]) rfl ⟨_, _, rfl, World.ownsRow_nil _ _ _ _, own_le (ownsRow_setCell_below (ownsRow_setCell_below HBV.out (a := ⟨w.heap.size, 0, none⟩) h2s (.bool false)) (a := ⟨w.heap.size, 1, none⟩) h2s (.slice BA bl.length bc)) (Nat.le_of_lt h2s), below_drewR hbf⟩
          · obtain ⟨w4, hw4⟩ : ∃ W, W = w3.alloc (.cells #[.bool true, .slice BA K bc] 32) := ⟨_, rfl⟩
            have hb34 := below_alloc' w3 (.cells #[.bool true, .slice BA K bc] 32)
            have hq4 := heap_alloc_new w3 (.cells #[.bool true, .slice BA K bc] 32)
            rw [← hw4] at hb34 hq4
            have HW4 := Lib.hid hw4
            clear hw4
            have hp4 := carry hp3 hb34
            have HBV := Lib.hid (own_below hbv hb34)
            have HB4 := Lib.hid (nx hb5 hb34)
            have HP4 := Lib.hid hp4
            have HQ4 := Lib.hid hq4
            have HX3 := Lib.hid hx
            have k0 := cell_row hq4 0
            have k1 := cell_row hq4 1
            have r0 := cell_row hp4 0
            have r1 := cell_row hp4 1
            have rf := frozen_row hp4
            have h34 : w3.heap.size < w4.heap.size := (Array.getElem?_eq_some_iff.1 hq4).1
            simp at k0 k1 r0 r1
            clear hbv hb34 hp3 hb4 hb5 hp4 hq4 hx
            have h04 : w.heap.size < w4.heap.size := by omega
            have hne3 : w.heap.size ≠ w3.heap.size := by omega
            have hne4 : w3.heap.size ≠ w.heap.size := by omega
            go_wp2_with (first
              | (at_builtin; rw [← HW4.out]; refine wpList_append_any_makers rfl (.tmp 37) (.tmp 38) rfl _ w4 w4.heap.size _ 0 [] ms A N c rfl rfl (World.ownsRow_nil _ _ _ _) (HT.out.below HB4.out) HZ.out (Below.refl _ _) (Nat.le_refl _) (by omega) ?_; intro v5 w5 hown5' hb5; rw [Nat.zero_add, List.nil_append] at hown5'; have HOW5 := Lib.hid hown5'; have hs5 := hb5.size; clear hown5')
              | (at_builtin; refine wpList_append_own _ rfl (.tmp 40) (.tmp 43) 23 rfl w4.heap.size 39 i0 _ 1 16 Tryd.underlying23 HI0.out hz0 hz1 hz2 rfl (by decide) _ N (ms.map Value.string) rfl (HOW5.out.alloc _) ⟨w5.heap.size, 0, none⟩ 1 1 [.string n] rfl rfl (World.news_of_block (cs := #[.string n]) (t := 39) (fr := (0, 0)) (heap_alloc_new w5 _)) (by simp [Value.oneCell']) (by unfold maxLen; omega) (by omega) (by simp; omega) ?_; intro v7 w7 hown7 hgrow _; obtain ⟨VA7, VC7, rfl, _, _⟩ := own_form hown7; have hb7 : Below w4.heap.size w4 w7 := ((hb5.trans ((below_alloc' w5 (.cells #[.string n] 39)).mono hb5.size))).grown hgrow (by simp; omega) (fun q hq => (HOW5.out.lt q hq).1); have hp7 := (hb7.block w.heap.size h04).trans HP4.out; have r70 := cell_row hp7 0; have r71 := cell_row hp7 1; have rf7 := frozen_row hp7; simp at r70 r71; have k70 := (bcell' hb7 h34).trans k0; have k71 := (bcell' hb7 h34).trans k1))
            go_wp2_with fail
            go_region
            all_goals
              go_wp2_with fail
              have hkk := HK.out
              subst hkk
              have hx1 := heap_setAt (k := 0) hp7 (.bool true)
              have hx2 := heap_setAt (k := 1) hx1 (.slice BA bl.length bc)
              have hq0 := cell_row hx2 0
              have hq1 := cell_row hx2 1
              simp at hq0 hq1
              have hx := HX3.out
              rw [if_neg (by simp)] at hx
              rw [hx]
              have hlen : (ms ++ [n]).length = N + 1 := by simp [HL.out]
              have hbf := ((HB4.out.trans (hb7.mono HB4.out.size)).setCell (p := ⟨w.heap.size, 0, none⟩) (Nat.le_refl _) (.bool true)).setCell (p := ⟨w.heap.size, 1, none⟩) (Nat.le_refl _) (.slice BA bl.length bc)
              refine bodyPost_ret (v := .tuple #[.slice VA7 (N + 1) VC7, .int .i64 N, .agg #[.bool true, .slice BA bl.length bc], .int .i64 0]) (by simp [results, Tryd.results21, go_sem, hq0, hq1]) rfl ⟨_, _, rfl, ?_, own_le (ownsRow_setCell_below (ownsRow_setCell_below (own_below HBV.out hb7) (a := ⟨w.heap.size, 0, none⟩) h2s (.bool true)) (a := ⟨w.heap.size, 1, none⟩) h2s (.slice BA bl.length bc)) (Nat.le_of_lt h2s), below_drewR hbf⟩
              rw [hlen, List.map_append]
              exact own_le (ownsRow_setCell_below (ownsRow_setCell_below hown7 (a := ⟨w.heap.size, 0, none⟩) h04 (.bool true)) (a := ⟨w.heap.size, 1, none⟩) h04 (.slice BA bl.length bc)) (Nat.le_of_lt h04)
    · have hqd : (n.toList == [100, 101, 102, 97, 117, 108, 116]) = false := by
        have := str_ne hd
        rwa [Lib.toList_data defB] at this
      have HNO := Lib.hid (show ¬ (n = defB ∧ 0 ≤ FM) from fun h => hd h.1)
      clear hd
      by_cases h2 : 200 ≤ N
      · have h2i : (200 : Int) ≤ N := by omega
        have hx := HX.out
        rw [if_neg (by simp), if_neg HNO.out, if_pos h2] at hx
        subst hx
        go_enter Tryd.func21, Tryd.ntmps21
        go_wp2_with fail
        with_reducible refine (C13.out _).mono ?_
        rintro e w2 ⟨rfl, hb2⟩
        have hb3 := nx (below_alloc' w _) hb2
        have hp2 := carry (heap_alloc_new w (.cells #[.bool false, .slice none 0 0] 32)) hb2
        have h0 := cell_row hp2 0
        have h1 := cell_row hp2 1
        have hfz := frozen_row hp2
        simp at h0 h1
        go_wp2_with fail
        have hx1 := heap_setAt (k := 0) hp2 (.bool false)
        have hx2 := heap_setAt (k := 1) hx1 (.slice none 0 0)
        have hq0 := cell_row hx2 0
        have hq1 := cell_row hx2 1
        simp at hq0 hq1
        exact bodyPost_ret (v := .tuple #[.slice none 0 0, .int .i64 (-1), .agg #[.bool false, .slice none 0 0], .int .i64 2]) (by simp [results, Tryd.results21, go_sem, hq0, hq1]) rfl ⟨_, _, rfl, World.ownsRow_nil _ _ _ _, World.ownsRow_nil _ _ _ _, (hb3.setCell (p := ⟨w.heap.size, 0, none⟩) (Nat.le_refl _) _).setCell (p := ⟨w.heap.size, 1, none⟩) (Nat.le_refl _) _⟩
      · have h2i : decide ((200 : Int) ≤ N) = false := by simp; omega
        go_enter Tryd.func21, Tryd.ntmps21
        go_wp2_with fail
        with_reducible refine (C13.out _).mono ?_
        rintro e w2 ⟨rfl, hb2⟩
        have hb3 := nx (below_alloc' w _) hb2
        have hp2 := carry (heap_alloc_new w (.cells #[.bool false, .slice none 0 0] 32)) hb2
        have h0 := cell_row hp2 0
        have h1 := cell_row hp2 1
        have hfz := frozen_row hp2
        simp at h0 h1
        have HP2 := Lib.hid hp2
        have HB3 := Lib.hid hb3
        have hx := HX.out
        rw [if_neg (by simp), if_neg HNO.out, if_neg h2] at hx
        have HX2 := Lib.hid hx
        clear hx hp2 hb3
        go_wp2_with fail
        with_reducible refine (C18.out _ HB3.out).mono ?_
        rintro e w3 ⟨bv, rfl, hbv, hb4⟩
        obtain ⟨BA, bc, rfl, -, -⟩ := own_form hbv
        obtain ⟨K, hK⟩ : ∃ K, K = bl.length := ⟨_, rfl⟩
        obtain ⟨OK, hOK⟩ : ∃ K, K = okM bl := ⟨_, rfl⟩
        have hx := HX2.out
        rw [← hOK] at hx ⊢
        rw [← hK] at hbv ⊢
        have HOK := Lib.hid hOK
        have HK := Lib.hid hK
        clear hOK hK
        have hp3 := carry HP2.out hb4
        have hb5 := nx HB3.out hb4
        have h2s : w.heap.size < w2.heap.size := (Array.getElem?_eq_some_iff.1 HP2.out).1
        have h23 := hb4.size
        cases OK
        · go_wp2_with fail
          obtain ⟨w4, hw4⟩ : ∃ W, W = w3.alloc (.cells #[.bool false, .slice BA K bc] 32) := ⟨_, rfl⟩
          have hb34 := below_alloc' w3 (.cells #[.bool false, .slice BA K bc] 32)
          have hq4 := heap_alloc_new w3 (.cells #[.bool false, .slice BA K bc] 32)
          rw [← hw4] at hb34 hq4 ⊢
          clear hw4
          have hp4 := carry hp3 hb34
          have HBV := Lib.hid (own_below hbv hb34)
          have HB4 := Lib.hid (nx hb5 hb34)
          have HP4 := Lib.hid hp4
          have HQ4 := Lib.hid hq4
          have HX3 := Lib.hid hx
          have k0 := cell_row hq4 0
          have k1 := cell_row hq4 1
          have r0 := cell_row hp4 0
          have r1 := cell_row hp4 1
          have rf := frozen_row hp4
          have h34 : w3.heap.size < w4.heap.size := (Array.getElem?_eq_some_iff.1 hq4).1
          simp at k0 k1 r0 r1
          clear hbv hb34 hp3 hb4 hb5 hp4 hq4 hx
          go_region
          all_goals
            go_wp2_with fail
            have hx1 := heap_setAt (k := 0) HP4.out (.bool false)
            have hx2 := heap_setAt (k := 1) hx1 (.slice BA K bc)
            have hq0 := cell_row hx2 0
            have hq1 := cell_row hx2 1
            simp at hq0 hq1
            have hkk := HK.out
            subst hkk
            have hx := HX3.out
            rw [if_pos trivial] at hx
            rw [hx]
            have hbf := (HB4.out.setCell (p := ⟨w.heap.size, 0, none⟩) (Nat.le_refl _) (.bool false)).setCell (p := ⟨w.heap.size, 1, none⟩) (Nat.le_refl _) (.slice BA bl.length bc)
            refine bodyPost_ret (v := .tuple #[.slice none 0 0, .int .i64 (-1), .agg #[.bool false, .slice BA bl.length bc], .int .i64 200]) (by simp [results, Tryd.results21, go_sem, hq0, hq1]) rfl ⟨_, _, rfl, World.ownsRow_nil _ _ _ _, own_le (ownsRow_setCell_below (ownsRow_setCell_below HBV.out (a := ⟨w.heap.size, 0, none⟩) h2s (.bool false)) (a := ⟨w.heap.size, 1, none⟩) h2s (.slice BA bl.length bc)) (Nat.le_of_lt h2s), below_drewR hbf⟩
        · obtain ⟨w4, hw4⟩ : ∃ W, W = w3.alloc (.cells #[.bool true, .slice BA K bc] 32) := ⟨_, rfl⟩
          have hb34 := below_alloc' w3 (.cells #[.bool true, .slice BA K bc] 32)
          have hq4 := heap_alloc_new w3 (.cells #[.bool true, .slice BA K bc] 32)
          rw [← hw4] at hb34 hq4
          have HW4 := Lib.hid hw4
          clear hw4
          have hp4 := carry hp3 hb34
          have HBV := Lib.hid (own_below hbv hb34)
          have HB4 := Lib.hid (nx hb5 hb34)
          have HP4 := Lib.hid hp4
          have HQ4 := Lib.hid hq4
          have HX3 := Lib.hid hx
          have k0 := cell_row hq4 0
          have k1 := cell_row hq4 1
          have r0 := cell_row hp4 0
          have r1 := cell_row hp4 1
          have rf := frozen_row hp4
          have h34 : w3.heap.size < w4.heap.size := (Array.getElem?_eq_some_iff.1 hq4).1
          simp at k0 k1 r0 r1
          clear hbv hb34 hp3 hb4 hb5 hp4 hq4 hx
          have h04 : w.heap.size < w4.heap.size := by omega
          have hne3 : w.heap.size ≠ w3.heap.size := by omega
          have hne4 : w3.heap.size ≠ w.heap.size := by omega
          go_wp2_with (first
            | (at_builtin; rw [← HW4.out]; refine wpList_append_any_makers rfl (.tmp 37) (.tmp 38) rfl _ w4 w4.heap.size _ 0 [] ms A N c rfl rfl (World.ownsRow_nil _ _ _ _) (HT.out.below HB4.out) HZ.out (Below.refl _ _) (Nat.le_refl _) (by omega) ?_; intro v5 w5 hown5' hb5; rw [Nat.zero_add, List.nil_append] at hown5'; have HOW5 := Lib.hid hown5'; have hs5 := hb5.size; clear hown5')
            | (at_builtin; refine wpList_append_own _ rfl (.tmp 40) (.tmp 43) 23 rfl w4.heap.size 39 i0 _ 1 16 Tryd.underlying23 HI0.out hz0 hz1 hz2 rfl (by decide) _ N (ms.map Value.string) rfl (HOW5.out.alloc _) ⟨w5.heap.size, 0, none⟩ 1 1 [.string n] rfl rfl (World.news_of_block (cs := #[.string n]) (t := 39) (fr := (0, 0)) (heap_alloc_new w5 _)) (by simp [Value.oneCell']) (by unfold maxLen; omega) (by omega) (by simp; omega) ?_; intro v7 w7 hown7 hgrow _; obtain ⟨VA7, VC7, rfl, _, _⟩ := own_form hown7; have hb7 : Below w4.heap.size w4 w7 := ((hb5.trans ((below_alloc' w5 (.cells #[.string n] 39)).mono hb5.size))).grown hgrow (by simp; omega) (fun q hq => (HOW5.out.lt q hq).1); have hp7 := (hb7.block w.heap.size h04).trans HP4.out; have r70 := cell_row hp7 0; have r71 := cell_row hp7 1; have rf7 := frozen_row hp7; simp at r70 r71; have k70 := (bcell' hb7 h34).trans k0; have k71 := (bcell' hb7 h34).trans k1))
          go_wp2_with fail
          go_region
          all_goals
            go_wp2_with fail
            have hkk := HK.out
            subst hkk
            have hx1 := heap_setAt (k := 0) hp7 (.bool true)
            have hx2 := heap_setAt (k := 1) hx1 (.slice BA bl.length bc)
            have hq0 := cell_row hx2 0
            have hq1 := cell_row hx2 1
            simp at hq0 hq1
            have hx := HX3.out
            rw [if_neg (by simp)] at hx
            rw [hx]
            have hlen : (ms ++ [n]).length = N + 1 := by simp [HL.out]
            have hbf := ((HB4.out.trans (hb7.mono HB4.out.size)).setCell (p := ⟨w.heap.size, 0, none⟩) (Nat.le_refl _) (.bool true)).setCell (p := ⟨w.heap.size, 1, none⟩) (Nat.le_refl _) (.slice BA bl.length bc)
            refine bodyPost_ret (v := .tuple #[.slice VA7 (N + 1) VC7, .int .i64 N, .agg #[.bool true, .slice BA bl.length bc], .int .i64 0]) (by simp [results, Tryd.results21, go_sem, hq0, hq1]) rfl ⟨_, _, rfl, ?_, own_le (ownsRow_setCell_below (ownsRow_setCell_below (own_below HBV.out hb7) (a := ⟨w.heap.size, 0, none⟩) h2s (.bool true)) (a := ⟨w.heap.size, 1, none⟩) h2s (.slice BA bl.length bc)) (Nat.le_of_lt h2s), below_drewR hbf⟩
            rw [hlen, List.map_append]
            exact own_le (ownsRow_setCell_below (ownsRow_setCell_below hown7 (a := ⟨w.heap.size, 0, none⟩) h04 (.bool true)) (a := ⟨w.heap.size, 1, none⟩) h04 (.slice BA bl.length bc)) (Nat.le_of_lt h04)
end Go.Proofs.YtpjakdekaolmeaaDoor
