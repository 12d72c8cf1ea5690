/- How a maker is made: Make. -/
import Derived.Test.YtpjakdekaolmeaaDoorRJ
namespace Go.Proofs.YtpjakdekaolmeaaDoor
open Go.RowKit Go.Shelf

/-- What is made: the makers, the number, whether it is let be, what blocks, what is wrong. -/
def makeM (ps : List PolB) (ms : List ByteArray) (n : ByteArray) : List ByteArray × Int × Bool × List (Nat × Bool) × Nat :=
  if mname n.data.toList = false then ([], -1, false, [], 190)
  else if n = defB ∧ 0 ≤ findM ms n then ([], -1, false, [], 191)
  else if 200 ≤ ms.length then ([], -1, false, [], 2)
  else if okM (blocksM 0 ms n ps) = false then ([], -1, false, blocksM 0 ms n ps, 200)
  else (ms ++ [n], ms.length, true, blocksM 0 ms n ps, 0)
def OutMake (x : List ByteArray × Int × Bool × List (Nat × Bool) × Nat) (w : World) (e : Ending) (w' : World) : Prop := ∃ av bv,
  e = .returned (.tuple #[av, .int .i64 x.2.1, .agg #[.bool x.2.2.1, bv], .int .i64 x.2.2.2.2]) ∧ w'.ownsRow w.heap.size 39 1 av x.1.length (x.1.map Value.string) ∧ w'.ownsRow w.heap.size 56 3 bv x.2.2.2.1.length (flatB x.2.2.2.1) ∧ Below w.heap.size w w'
theorem BreaksV.nil (w : World) : BreaksV w (.slice none 0 0) [] := ⟨none, 0, rfl, Nat.le_refl _, fun _ => rfl, fun h => absurd h (by simp)⟩
set_option maxHeartbeats 4000000 in
set_option maxRecDepth 100000 in
theorem make_any (pv : Value) (ps : List PolB) (A : Option Addr) (N c : Nat) (ms : List ByteArray) (n : ByteArray) (w : World) (hp : PolsV w pv ps) (hm : PMild ps) (ht : Texts w A N ms) (hz : A = none → N = 0 ∧ c = 0) (hn : N ≤ 10000000) (hs : n.size ≤ 10000000) :
    Calls Tryd.prog 20 #[pv, .slice A N c, .string n] w (OutMake (makeM ps ms n) w) := by
  obtain ⟨PA, pc, rfl, -, -, -⟩ := id hp
  have hl := ht.1
  have c12 := fun w' => name_any n w' hs
  have c14 := fun w' (hb : Below w.heap.size w w') => find19_any A N c ms n w' (ht.below hb) hn
  have c17 := fun w' (hb : Below w.heap.size w w') => allowed_any (.slice PA ps.length pc) ps A N c ms n w' (hp.below hb) hm (ht.below hb) hn
  have c31 := fun w' (hb : Below w.heap.size w w') => clonem_any A N c ms w' (ht.below hb) hz hn
  obtain ⟨X, hX⟩ : ∃ X, X = makeM ps ms n := ⟨_, rfl⟩
  obtain ⟨L, hL⟩ : ∃ L, L = ps.length := ⟨_, rfl⟩
  obtain ⟨bl, hbl⟩ : ∃ bl, bl = blocksM 0 ms n ps := ⟨_, rfl⟩
  obtain ⟨FM, hFM⟩ : ∃ z, z = findM ms n := ⟨_, rfl⟩
  obtain ⟨MN, hMN⟩ : ∃ z, z = mname n.data.toList := ⟨_, rfl⟩
  have hx := hX
  unfold makeM at hx
  rw [← hMN, ← hFM, ← hbl, hl] at hx
  rw [← hX, ← hL]
  rw [← hL] at c17
  rw [← hbl] at c17
  rw [← hFM] at c14
  rw [← hMN] at c12
  have HX := Lib.hid hx
  have C12 := Lib.hid c12
  have C14 := Lib.hid c14
  have C17 := Lib.hid c17
  have C31 := Lib.hid c31
  have HL := Lib.hid hl
  clear hx hX hL hbl hFM hMN c12 c14 c17 c31 hp hm ht hl
  obtain ⟨i0, hi0, hz0, hz1, hz2⟩ := info_parts maker_row
  have HI0 := Lib.hid hi0
  clear hi0
  obtain ⟨i0, hi0, hz0, hz1, hz2⟩ := info_parts maker_row
  have HI0 := Lib.hid hi0
  clear hi0
  obtain ⟨i0, hi0, hz0, hz1, hz2⟩ := info_parts maker_row
  have HI0 := Lib.hid hi0
  clear hi0
  obtain ⟨i0, hi0, hz0, hz1, hz2⟩ := info_parts maker_row
  have HI0 := Lib.hid hi0
  clear hi0
  obtain ⟨i0, hi0, hz0, hz1, hz2⟩ := info_parts maker_row
  have HI0 := Lib.hid hi0
  clear hi0
  obtain ⟨i0, hi0, hz0, hz1, hz2⟩ := info_parts maker_row
  have HI0 := Lib.hid hi0
  clear hi0
  cases MN
  · have hx := HX.out
    rw [if_pos rfl] at hx
    subst hx
    go_enter Tryd.func20, Tryd.ntmps20
    go_wp2_with fail
    with_reducible refine (C12.out _).mono ?_
    rintro e w1 ⟨rfl, hw1⟩
    obtain rfl : _ = w1 := hw1.symm
    go_wp2_with fail
    obtain ⟨w2, hw2⟩ : ∃ W, W = w.alloc (.cells #[.bool false, .slice none 0 0] 32) := ⟨_, rfl⟩
    have hb3 := below_alloc' w (.cells #[.bool false, .slice none 0 0] 32)
    have hp2 := heap_alloc_new w (.cells #[.bool false, .slice none 0 0] 32)
    rw [← hw2] at hb3 hp2 ⊢
    clear hw2
    have h0 := cell_row hp2 0
    have h1 := cell_row hp2 1
    have hfz := frozen_row hp2
    simp at h0 h1
    exact bodyPost_ret (v := .tuple #[.slice none 0 0, .int .i64 (-1), .agg #[.bool false, .slice none 0 0], .int .i64 190]) (by simp [results, Tryd.results20, go_sem, h0, h1]) rfl ⟨_, _, rfl, World.ownsRow_nil _ _ _ _, World.ownsRow_nil _ _ _ _, hb3⟩
  · by_cases hd : n = defB
    · have hqd : (n.toList == [100, 101, 102, 97, 117, 108, 116]) = true := by rw [hd, Lib.toList_data]; rfl
      by_cases hf : (0 : Int) ≤ FM
      · have hx := HX.out
        rw [if_neg (by simp), if_pos ⟨hd, hf⟩] at hx
        subst hx
        clear hd
        go_enter Tryd.func20, Tryd.ntmps20
        go_wp2_with fail
        with_reducible refine (C12.out _).mono ?_
        rintro e w1 ⟨rfl, hw1⟩
        obtain rfl : _ = w1 := hw1.symm
        go_wp2_with fail
        with_reducible refine (C14.out _ (below_alloc' w _)).mono ?_
        rintro e w2 ⟨rfl, hb2⟩
        have hb3 := nx (below_alloc' w _) hb2
        have hp2 := carry (heap_alloc_new w (.cells #[.bool false, .slice none 0 0] 32)) hb2
        have h0 := cell_row hp2 0
        have h1 := cell_row hp2 1
        have hfz := frozen_row hp2
        simp at h0 h1
        go_wp2_with fail
        have hx1 := heap_setAt (k := 0) hp2 (.bool false)
        have hx2 := heap_setAt (k := 1) hx1 (.slice none 0 0)
        have hq0 := cell_row hx2 0
        have hq1 := cell_row hx2 1
        simp at hq0 hq1
        exact bodyPost_ret (v := .tuple #[.slice none 0 0, .int .i64 (-1), .agg #[.bool false, .slice none 0 0], .int .i64 191]) (by simp [results, Tryd.results20, go_sem, hq0, hq1]) rfl ⟨_, _, rfl, World.ownsRow_nil _ _ _ _, World.ownsRow_nil _ _ _ _, (hb3.setCell (p := ⟨w.heap.size, 0, none⟩) (Nat.le_refl _) _).setCell (p := ⟨w.heap.size, 1, none⟩) (Nat.le_refl _) _⟩
      · have HNO := Lib.hid (show ¬ (n = defB ∧ 0 ≤ FM) from fun h => hf h.2)
        have hfi : decide ((0 : Int) ≤ FM) = false := by simp; omega
        clear hd
        by_cases h2 : 200 ≤ N
        · have h2i : (200 : Int) ≤ N := by omega
          have hx := HX.out
          rw [if_neg (by simp), if_neg HNO.out, if_pos h2] at hx
          subst hx
          go_enter Tryd.func20, Tryd.ntmps20
          go_wp2_with fail
          with_reducible refine (C12.out _).mono ?_
          rintro e w1 ⟨rfl, hw1⟩
          obtain rfl : _ = w1 := hw1.symm
          go_wp2_with fail
          with_reducible refine (C14.out _ (below_alloc' w _)).mono ?_
          rintro e w2 ⟨rfl, hb2⟩
          have hb3 := nx (below_alloc' w _) hb2
          have hp2 := carry (heap_alloc_new w (.cells #[.bool false, .slice none 0 0] 32)) hb2
          have h0 := cell_row hp2 0
          have h1 := cell_row hp2 1
          have hfz := frozen_row hp2
          simp at h0 h1
          go_wp2_with fail
          have hx1 := heap_setAt (k := 0) hp2 (.bool false)
          have hx2 := heap_setAt (k := 1) hx1 (.slice none 0 0)
          have hq0 := cell_row hx2 0
          have hq1 := cell_row hx2 1
          simp at hq0 hq1
          exact bodyPost_ret (v := .tuple #[.slice none 0 0, .int .i64 (-1), .agg #[.bool false, .slice none 0 0], .int .i64 2]) (by simp [results, Tryd.results20, go_sem, hq0, hq1]) rfl ⟨_, _, rfl, World.ownsRow_nil _ _ _ _, World.ownsRow_nil _ _ _ _, (hb3.setCell (p := ⟨w.heap.size, 0, none⟩) (Nat.le_refl _) _).setCell (p := ⟨w.heap.size, 1, none⟩) (Nat.le_refl _) _⟩
        · have h2i : decide ((200 : Int) ≤ N) = false := by simp; omega
          go_enter Tryd.func20, Tryd.ntmps20
          go_wp2_with fail
          with_reducible refine (C12.out _).mono ?_
          rintro e w1 ⟨rfl, hw1⟩
          obtain rfl : _ = w1 := hw1.symm
          go_wp2_with fail
          with_reducible refine (C14.out _ (below_alloc' w _)).mono ?_
          rintro e w2 ⟨rfl, hb2⟩
          have hb3 := nx (below_alloc' w _) hb2
          have hp2 := carry (heap_alloc_new w (.cells #[.bool false, .slice none 0 0] 32)) hb2
          have h0 := cell_row hp2 0
          have h1 := cell_row hp2 1
          have hfz := frozen_row hp2
          simp at h0 h1
          have HP2 := Lib.hid hp2
          have HB3 := Lib.hid hb3
          have hx := HX.out
          rw [if_neg (by simp), if_neg HNO.out, if_neg h2] at hx
          have HX2 := Lib.hid hx
          clear hx hp2 hb3
          go_wp2_with fail
          with_reducible refine (C17.out _ HB3.out).mono ?_
          rintro e w3 ⟨bv, rfl, hbv, hb4⟩
          obtain ⟨BA, bc, rfl, -, -⟩ := own_form hbv
          obtain ⟨K, hK⟩ : ∃ K, K = bl.length := ⟨_, rfl⟩
          obtain ⟨OK, hOK⟩ : ∃ K, K = okM bl := ⟨_, rfl⟩
          have hx := HX2.out
          rw [← hOK] at hx ⊢
          rw [← hK] at hbv ⊢
          have HOK := Lib.hid hOK
          have HK := Lib.hid hK
          clear hOK hK
          have hp3 := carry HP2.out hb4
          have hb5 := nx HB3.out hb4
          have h2s : w.heap.size < w2.heap.size := (Array.getElem?_eq_some_iff.1 HP2.out).1
          have h23 := hb4.size
          cases OK
          · go_wp2_with fail
            obtain ⟨w4, hw4⟩ : ∃ W, W = w3.alloc (.cells #[.bool false, .slice BA K bc] 32) := ⟨_, rfl⟩
            have hb34 := below_alloc' w3 (.cells #[.bool false, .slice BA K bc] 32)
            have hq4 := heap_alloc_new w3 (.cells #[.bool false, .slice BA K bc] 32)
            rw [← hw4] at hb34 hq4 ⊢
            clear hw4
            have hp4 := carry hp3 hb34
            have HBV := Lib.hid (own_below hbv hb34)
            have HB4 := Lib.hid (nx hb5 hb34)
            have HP4 := Lib.hid hp4
            have HQ4 := Lib.hid hq4
            have HX3 := Lib.hid hx
            have k0 := cell_row hq4 0
            have k1 := cell_row hq4 1
            have r0 := cell_row hp4 0
            have r1 := cell_row hp4 1
            have rf := frozen_row hp4
            have h34 : w3.heap.size < w4.heap.size := (Array.getElem?_eq_some_iff.1 hq4).1
            simp at k0 k1 r0 r1
            clear hbv hb34 hp3 hb4 hb5 hp4 hq4 hx
            go_region
            all_goals
              go_wp2_with fail
              have hx1 := heap_setAt (k := 0) HP4.out (.bool false)
              have hx2 := heap_setAt (k := 1) hx1 (.slice BA K bc)
              have hq0 := cell_row hx2 0
              have hq1 := cell_row hx2 1
              simp at hq0 hq1
              have hkk := HK.out
              subst hkk
              have hx := HX3.out
              rw [if_pos trivial] at hx
              rw [hx]
              have hbf := (HB4.out.setCell (p := ⟨w.heap.size, 0, none⟩) (Nat.le_refl _) (.bool false)).setCell (p := ⟨w.heap.size, 1, none⟩) (Nat.le_refl _) (.slice BA bl.length bc)
              refine bodyPost_ret (v := .tuple #[.slice none 0 0, .int .i64 (-1), .agg #[.bool false, .slice BA bl.length bc], .int .i64 200]) (by simp [results, Tryd.results20, go_sem, hq0, hq1]) rfl ⟨_, _, rfl, World.ownsRow_nil _ _ _ _, own_le (ownsRow_setCell_below (ownsRow_setCell_below HBV.out (a := ⟨w.heap.size, 0, none⟩) h2s (.bool false)) (a := ⟨w.heap.size, 1, none⟩) h2s (.slice BA bl.length bc)) (Nat.le_of_lt h2s), below_drewR hbf⟩
          · go_wp2_with fail
            obtain ⟨w4, hw4⟩ : ∃ W, W = w3.alloc (.cells #[.bool true, .slice BA K bc] 32) := ⟨_, rfl⟩
            have hb34 := below_alloc' w3 (.cells #[.bool true, .slice BA K bc] 32)
            have hq4 := heap_alloc_new w3 (.cells #[.bool true, .slice BA K bc] 32)
            rw [← hw4] at hb34 hq4 ⊢
            clear hw4
            have hp4 := carry hp3 hb34
            have HBV := Lib.hid (own_below hbv hb34)
            have HB4 := Lib.hid (nx hb5 hb34)
            have HP4 := Lib.hid hp4
            have HQ4 := Lib.hid hq4
            have HX3 := Lib.hid hx
            have k0 := cell_row hq4 0
            have k1 := cell_row hq4 1
            have r0 := cell_row hp4 0
            have r1 := cell_row hp4 1
            have rf := frozen_row hp4
            have h34 : w3.heap.size < w4.heap.size := (Array.getElem?_eq_some_iff.1 hq4).1
            simp at k0 k1 r0 r1
            clear hbv hb34 hp3 hb4 hb5 hp4 hq4 hx
            have h04 : w.heap.size < w4.heap.size := by omega
            have hne3 : w.heap.size ≠ w3.heap.size := by omega
            have hne4 : w3.heap.size ≠ w.heap.size := by omega
            have hn0 := heap_alloc_new w4 (.cells #[.string n] 39)
            have ha0 := (bcell' (below_alloc' w4 (.cells #[.string n] 39)) (o := 0) h34).trans k0
            have ha1 := (bcell' (below_alloc' w4 (.cells #[.string n] 39)) (o := 1) h34).trans k1
            go_region_held3 (fun w' => w'.cell? ⟨w3.heap.size, 0, none⟩ = some (.bool true) ∧ w'.cell? ⟨w3.heap.size, 1, none⟩ = some (.slice BA K bc))
              (first | exact ⟨k0, k1⟩ | exact ⟨ha0, ha1⟩ | exact ⟨(bcell' hb5 h34).trans k0, (bcell' hb5 h34).trans k1⟩ | exact ⟨(bcell' hb7 h34).trans k0, (bcell' hb7 h34).trans k1⟩ | go_keep)
              (first
                | (go_at_call 31; refine (C31.out _ (below_drewR HB4.out)).mono ?_; rintro e w5 ⟨v5, rfl, hown5', hb5'⟩; rw [HL.out] at hown5'; have hown5 : w5.ownsRow w4.heap.size 39 1 v5 N (ms.map Value.string) := own_le hown5' (by first | exact Nat.le_refl _ | exact Nat.le_succ _); have hb5 : Below w4.heap.size w4 w5 := ⟨hb5'.os, hb5'.tape, hb5'.output, hb5'.size, hb5'.block⟩)
                | (go_at_call 31; refine (C31.out _ ((below_drewR HB4.out).trans ((below_alloc' w4.drew (.cells #[.string n] 39)).mono HB4.out.size))).mono ?_; rintro e w5 ⟨v5, rfl, hown5', hb5'⟩; rw [HL.out] at hown5'; have hown5 : w5.ownsRow w4.heap.size 39 1 v5 N (ms.map Value.string) := own_le hown5' (Nat.le_of_lt (by simp)); have hbn5 := (hb5'.block w4.heap.size (by simp)).trans (heap_alloc_new w4.drew (.cells #[.string n] 39)); have hb5 : Below w4.heap.size w4 w5 := Below.trans (below_drewR (Below.refl _ w4)) ((below_alloc' w4.drew (.cells #[.string n] 39)).trans (hb5'.mono (by simp))))
                | (refine step_append_lies _ (by rfl) _ _ _ (by rfl) w4.heap.size 39 _ _ 1 16 Tryd.underlying23 HI0.out hz0 hz1 hz2 rfl (by omega) _ N (ms.map Value.string) (by rfl) (hown5.alloc _) ⟨w5.heap.size, 0, none⟩ 1 1 [.string n] (by rfl) (by rfl) (World.news_of_block (cs := #[.string n]) (t := 39) (fr := (0, 0)) (heap_alloc_new w5 _)) (by simp [Value.oneCell']) (by omega) (by unfold maxLen; omega) (by omega) (by have := hb5.size; simp; omega) (w5.heap.size + 1) (by simp) ?_; intro gg cap w7 hown7 hgrow hat hltg; have hb7 : Below w4.heap.size w4 w7 := ((hb5.trans ((below_alloc' w5 (.cells #[.string n] 39)).mono hb5.size))).grown hgrow (by have := hb5.size; simp; omega) (fun q hq => (hown5.lt q hq).1); have hp7 := (hb7.block w.heap.size h04).trans HP4.out; have r70 := cell_row hp7 0; have r71 := cell_row hp7 1; have rf7 := frozen_row hp7; simp at r70 r71; have k70 := (bcell' hb7 h34).trans k0; have k71 := (bcell' hb7 h34).trans k1)
                | (refine step_append_lies _ (by rfl) _ _ _ (by rfl) w4.heap.size 39 _ _ 1 16 Tryd.underlying23 HI0.out hz0 hz1 hz2 rfl (by omega) _ N (ms.map Value.string) (by rfl) hown5 ⟨w4.heap.size, 0, none⟩ 1 1 [.string n] (by rfl) (by rfl) (World.news_of_block (cs := #[.string n]) (t := 39) (fr := (0, 0)) hbn5) (by simp [Value.oneCell']) (by omega) (by unfold maxLen; omega) (by omega) hb5.size w5.heap.size (by simp) ?_; intro gg cap w7 hown7 hgrow hat hltg; have hb7 : Below w4.heap.size w4 w7 := hb5.grown hgrow hb5.size (fun q hq => (hown5.lt q hq).1); have hp7 := (hb7.block w.heap.size h04).trans HP4.out; have r70 := cell_row hp7 0; have r71 := cell_row hp7 1; have rf7 := frozen_row hp7; simp at r70 r71; have k70 := (bcell' hb7 h34).trans k0; have k71 := (bcell' hb7 h34).trans k1))
            all_goals
              go_wp2_with fail
              have hkk := HK.out
              subst hkk
              have hx1 := heap_setAt (k := 0) hp7 (.bool true)
              have hx2 := heap_setAt (k := 1) hx1 (.slice BA bl.length bc)
              have hq0 := cell_row hx2 0
              have hq1 := cell_row hx2 1
              simp at hq0 hq1
              have hx := HX3.out
              rw [if_neg (by simp)] at hx
              rw [hx]
              have hlen : (ms ++ [n]).length = N + 1 := by simp [HL.out]
              have hbf := ((HB4.out.trans (hb7.mono HB4.out.size)).setCell (p := ⟨w.heap.size, 0, none⟩) (Nat.le_refl _) (.bool true)).setCell (p := ⟨w.heap.size, 1, none⟩) (Nat.le_refl _) (.slice BA bl.length bc)
              refine bodyPost_ret (v := .tuple #[.slice (some ⟨gg, 0, none⟩) (N + 1) cap, .int .i64 N, .agg #[.bool true, .slice BA bl.length bc], .int .i64 0]) (by simp [results, Tryd.results20, go_sem, hq0, hq1]) rfl ⟨_, _, rfl, ?_, own_le (ownsRow_setCell_below (ownsRow_setCell_below (own_below HBV.out hb7) (a := ⟨w.heap.size, 0, none⟩) h2s (.bool true)) (a := ⟨w.heap.size, 1, none⟩) h2s (.slice BA bl.length bc)) (Nat.le_of_lt h2s), hbf⟩
              rw [hlen, List.map_append]
              exact own_le (ownsRow_setCell_below (ownsRow_setCell_below hown7 (a := ⟨w.heap.size, 0, none⟩) h04 (.bool true)) (a := ⟨w.heap.size, 1, none⟩) h04 (.slice BA bl.length bc)) (Nat.le_of_lt h04)
    · have hqd : (n.toList == [100, 101, 102, 97, 117, 108, 116]) = false := by
        have := str_ne hd
        rwa [Lib.toList_data defB] at this
      have HNO := Lib.hid (show ¬ (n = defB ∧ 0 ≤ FM) from fun h => hd h.1)
      clear hd
      by_cases h2 : 200 ≤ N
      · have h2i : (200 : Int) ≤ N := by omega
        have hx := HX.out
        rw [if_neg (by simp), if_neg HNO.out, if_pos h2] at hx
        subst hx
        go_enter Tryd.func20, Tryd.ntmps20
        go_wp2_with fail
        with_reducible refine (C12.out _).mono ?_
        rintro e w1 ⟨rfl, hw1⟩
        obtain rfl : _ = w1 := hw1.symm
        go_wp2_with fail
        obtain ⟨w2, hw2⟩ : ∃ W, W = w.alloc (.cells #[.bool false, .slice none 0 0] 32) := ⟨_, rfl⟩
        have hb3 := below_alloc' w (.cells #[.bool false, .slice none 0 0] 32)
        have hp2 := heap_alloc_new w (.cells #[.bool false, .slice none 0 0] 32)
        rw [← hw2] at hb3 hp2 ⊢
        clear hw2
        have h0 := cell_row hp2 0
        have h1 := cell_row hp2 1
        have hfz := frozen_row hp2
        simp at h0 h1
        exact bodyPost_ret (v := .tuple #[.slice none 0 0, .int .i64 (-1), .agg #[.bool false, .slice none 0 0], .int .i64 2]) (by simp [results, Tryd.results20, go_sem, h0, h1]) rfl ⟨_, _, rfl, World.ownsRow_nil _ _ _ _, World.ownsRow_nil _ _ _ _, hb3⟩
      · have h2i : decide ((200 : Int) ≤ N) = false := by simp; omega
        go_enter Tryd.func20, Tryd.ntmps20
        go_wp2_with fail
        with_reducible refine (C12.out _).mono ?_
        rintro e w1 ⟨rfl, hw1⟩
        obtain rfl : _ = w1 := hw1.symm
        go_wp2_with fail
        obtain ⟨w2, hw2⟩ : ∃ W, W = w.alloc (.cells #[.bool false, .slice none 0 0] 32) := ⟨_, rfl⟩
        have hb3 := below_alloc' w (.cells #[.bool false, .slice none 0 0] 32)
        have hp2 := heap_alloc_new w (.cells #[.bool false, .slice none 0 0] 32)
        rw [← hw2] at hb3 hp2 ⊢
        clear hw2
        have h0 := cell_row hp2 0
        have h1 := cell_row hp2 1
        have hfz := frozen_row hp2
        simp at h0 h1
        have HP2 := Lib.hid hp2
        have HB3 := Lib.hid hb3
        have hx := HX.out
        rw [if_neg (by simp), if_neg HNO.out, if_neg h2] at hx
        have HX2 := Lib.hid hx
        clear hx hp2 hb3
        go_wp2_with fail
        with_reducible refine (C17.out _ HB3.out).mono ?_
        rintro e w3 ⟨bv, rfl, hbv, hb4⟩
        obtain ⟨BA, bc, rfl, -, -⟩ := own_form hbv
        obtain ⟨K, hK⟩ : ∃ K, K = bl.length := ⟨_, rfl⟩
        obtain ⟨OK, hOK⟩ : ∃ K, K = okM bl := ⟨_, rfl⟩
        have hx := HX2.out
        rw [← hOK] at hx ⊢
        rw [← hK] at hbv ⊢
        have HOK := Lib.hid hOK
        have HK := Lib.hid hK
        clear hOK hK
        have hp3 := carry HP2.out hb4
        have hb5 := nx HB3.out hb4
        have h2s : w.heap.size < w2.heap.size := (Array.getElem?_eq_some_iff.1 HP2.out).1
        have h23 := hb4.size
        cases OK
        · go_wp2_with fail
          obtain ⟨w4, hw4⟩ : ∃ W, W = w3.alloc (.cells #[.bool false, .slice BA K bc] 32) := ⟨_, rfl⟩
          have hb34 := below_alloc' w3 (.cells #[.bool false, .slice BA K bc] 32)
          have hq4 := heap_alloc_new w3 (.cells #[.bool false, .slice BA K bc] 32)
          rw [← hw4] at hb34 hq4 ⊢
          clear hw4
          have hp4 := carry hp3 hb34
          have HBV := Lib.hid (own_below hbv hb34)
          have HB4 := Lib.hid (nx hb5 hb34)
          have HP4 := Lib.hid hp4
          have HQ4 := Lib.hid hq4
          have HX3 := Lib.hid hx
          have k0 := cell_row hq4 0
          have k1 := cell_row hq4 1
          have r0 := cell_row hp4 0
          have r1 := cell_row hp4 1
          have rf := frozen_row hp4
          have h34 : w3.heap.size < w4.heap.size := (Array.getElem?_eq_some_iff.1 hq4).1
          simp at k0 k1 r0 r1
          clear hbv hb34 hp3 hb4 hb5 hp4 hq4 hx
          go_region
          all_goals
            go_wp2_with fail
            have hx1 := heap_setAt (k := 0) HP4.out (.bool false)
            have hx2 := heap_setAt (k := 1) hx1 (.slice BA K bc)
            have hq0 := cell_row hx2 0
            have hq1 := cell_row hx2 1
            simp at hq0 hq1
            have hkk := HK.out
            subst hkk
            have hx := HX3.out
            rw [if_pos trivial] at hx
            rw [hx]
            have hbf := (HB4.out.setCell (p := ⟨w.heap.size, 0, none⟩) (Nat.le_refl _) (.bool false)).setCell (p := ⟨w.heap.size, 1, none⟩) (Nat.le_refl _) (.slice BA bl.length bc)
            refine bodyPost_ret (v := .tuple #[.slice none 0 0, .int .i64 (-1), .agg #[.bool false, .slice BA bl.length bc], .int .i64 200]) (by simp [results, Tryd.results20, go_sem, hq0, hq1]) rfl ⟨_, _, rfl, World.ownsRow_nil _ _ _ _, own_le (ownsRow_setCell_below (ownsRow_setCell_below HBV.out (a := ⟨w.heap.size, 0, none⟩) h2s (.bool false)) (a := ⟨w.heap.size, 1, none⟩) h2s (.slice BA bl.length bc)) (Nat.le_of_lt h2s), below_drewR hbf⟩
        · go_wp2_with fail
          obtain ⟨w4, hw4⟩ : ∃ W, W = w3.alloc (.cells #[.bool true, .slice BA K bc] 32) := ⟨_, rfl⟩
          have hb34 := below_alloc' w3 (.cells #[.bool true, .slice BA K bc] 32)
          have hq4 := heap_alloc_new w3 (.cells #[.bool true, .slice BA K bc] 32)
          rw [← hw4] at hb34 hq4 ⊢
          clear hw4
          have hp4 := carry hp3 hb34
          have HBV := Lib.hid (own_below hbv hb34)
          have HB4 := Lib.hid (nx hb5 hb34)
          have HP4 := Lib.hid hp4
          have HQ4 := Lib.hid hq4
          have HX3 := Lib.hid hx
          have k0 := cell_row hq4 0
          have k1 := cell_row hq4 1
          have r0 := cell_row hp4 0
          have r1 := cell_row hp4 1
          have rf := frozen_row hp4
          have h34 : w3.heap.size < w4.heap.size := (Array.getElem?_eq_some_iff.1 hq4).1
          simp at k0 k1 r0 r1
          clear hbv hb34 hp3 hb4 hb5 hp4 hq4 hx
          have h04 : w.heap.size < w4.heap.size := by omega
          have hne3 : w.heap.size ≠ w3.heap.size := by omega
          have hne4 : w3.heap.size ≠ w.heap.size := by omega
          have hn0 := heap_alloc_new w4 (.cells #[.string n] 39)
          have ha0 := (bcell' (below_alloc' w4 (.cells #[.string n] 39)) (o := 0) h34).trans k0
          have ha1 := (bcell' (below_alloc' w4 (.cells #[.string n] 39)) (o := 1) h34).trans k1
          go_region_held3 (fun w' => w'.cell? ⟨w3.heap.size, 0, none⟩ = some (.bool true) ∧ w'.cell? ⟨w3.heap.size, 1, none⟩ = some (.slice BA K bc))
            (first | exact ⟨k0, k1⟩ | exact ⟨ha0, ha1⟩ | exact ⟨(bcell' hb5 h34).trans k0, (bcell' hb5 h34).trans k1⟩ | exact ⟨(bcell' hb7 h34).trans k0, (bcell' hb7 h34).trans k1⟩ | go_keep)
            (first
              | (go_at_call 31; refine (C31.out _ (below_drewR HB4.out)).mono ?_; rintro e w5 ⟨v5, rfl, hown5', hb5'⟩; rw [HL.out] at hown5'; have hown5 : w5.ownsRow w4.heap.size 39 1 v5 N (ms.map Value.string) := own_le hown5' (by first | exact Nat.le_refl _ | exact Nat.le_succ _); have hb5 : Below w4.heap.size w4 w5 := ⟨hb5'.os, hb5'.tape, hb5'.output, hb5'.size, hb5'.block⟩)
              | (go_at_call 31; refine (C31.out _ ((below_drewR HB4.out).trans ((below_alloc' w4.drew (.cells #[.string n] 39)).mono HB4.out.size))).mono ?_; rintro e w5 ⟨v5, rfl, hown5', hb5'⟩; rw [HL.out] at hown5'; have hown5 : w5.ownsRow w4.heap.size 39 1 v5 N (ms.map Value.string) := own_le hown5' (Nat.le_of_lt (by simp)); have hbn5 := (hb5'.block w4.heap.size (by simp)).trans (heap_alloc_new w4.drew (.cells #[.string n] 39)); have hb5 : Below w4.heap.size w4 w5 := Below.trans (below_drewR (Below.refl _ w4)) ((below_alloc' w4.drew (.cells #[.string n] 39)).trans (hb5'.mono (by simp))))
              | (refine step_append_lies _ (by rfl) _ _ _ (by rfl) w4.heap.size 39 _ _ 1 16 Tryd.underlying23 HI0.out hz0 hz1 hz2 rfl (by omega) _ N (ms.map Value.string) (by rfl) (hown5.alloc _) ⟨w5.heap.size, 0, none⟩ 1 1 [.string n] (by rfl) (by rfl) (World.news_of_block (cs := #[.string n]) (t := 39) (fr := (0, 0)) (heap_alloc_new w5 _)) (by simp [Value.oneCell']) (by omega) (by unfold maxLen; omega) (by omega) (by have := hb5.size; simp; omega) (w5.heap.size + 1) (by simp) ?_; intro gg cap w7 hown7 hgrow hat hltg; have hb7 : Below w4.heap.size w4 w7 := ((hb5.trans ((below_alloc' w5 (.cells #[.string n] 39)).mono hb5.size))).grown hgrow (by have := hb5.size; simp; omega) (fun q hq => (hown5.lt q hq).1); have hp7 := (hb7.block w.heap.size h04).trans HP4.out; have r70 := cell_row hp7 0; have r71 := cell_row hp7 1; have rf7 := frozen_row hp7; simp at r70 r71; have k70 := (bcell' hb7 h34).trans k0; have k71 := (bcell' hb7 h34).trans k1)
              | (refine step_append_lies _ (by rfl) _ _ _ (by rfl) w4.heap.size 39 _ _ 1 16 Tryd.underlying23 HI0.out hz0 hz1 hz2 rfl (by omega) _ N (ms.map Value.string) (by rfl) hown5 ⟨w4.heap.size, 0, none⟩ 1 1 [.string n] (by rfl) (by rfl) (World.news_of_block (cs := #[.string n]) (t := 39) (fr := (0, 0)) hbn5) (by simp [Value.oneCell']) (by omega) (by unfold maxLen; omega) (by omega) hb5.size w5.heap.size (by simp) ?_; intro gg cap w7 hown7 hgrow hat hltg; have hb7 : Below w4.heap.size w4 w7 := hb5.grown hgrow hb5.size (fun q hq => (hown5.lt q hq).1); have hp7 := (hb7.block w.heap.size h04).trans HP4.out; have r70 := cell_row hp7 0; have r71 := cell_row hp7 1; have rf7 := frozen_row hp7; simp at r70 r71; have k70 := (bcell' hb7 h34).trans k0; have k71 := (bcell' hb7 h34).trans k1))
          all_goals
            go_wp2_with fail
            have hkk := HK.out
            subst hkk
            have hx1 := heap_setAt (k := 0) hp7 (.bool true)
            have hx2 := heap_setAt (k := 1) hx1 (.slice BA bl.length bc)
            have hq0 := cell_row hx2 0
            have hq1 := cell_row hx2 1
            simp at hq0 hq1
            have hx := HX3.out
            rw [if_neg (by simp)] at hx
            rw [hx]
            have hlen : (ms ++ [n]).length = N + 1 := by simp [HL.out]
            have hbf := ((HB4.out.trans (hb7.mono HB4.out.size)).setCell (p := ⟨w.heap.size, 0, none⟩) (Nat.le_refl _) (.bool true)).setCell (p := ⟨w.heap.size, 1, none⟩) (Nat.le_refl _) (.slice BA bl.length bc)
            refine bodyPost_ret (v := .tuple #[.slice (some ⟨gg, 0, none⟩) (N + 1) cap, .int .i64 N, .agg #[.bool true, .slice BA bl.length bc], .int .i64 0]) (by simp [results, Tryd.results20, go_sem, hq0, hq1]) rfl ⟨_, _, rfl, ?_, own_le (ownsRow_setCell_below (ownsRow_setCell_below (own_below HBV.out hb7) (a := ⟨w.heap.size, 0, none⟩) h2s (.bool true)) (a := ⟨w.heap.size, 1, none⟩) h2s (.slice BA bl.length bc)) (Nat.le_of_lt h2s), hbf⟩
            rw [hlen, List.map_append]
            exact own_le (ownsRow_setCell_below (ownsRow_setCell_below hown7 (a := ⟨w.heap.size, 0, none⟩) h04 (.bool true)) (a := ⟨w.heap.size, 1, none⟩) h04 (.slice BA bl.length bc)) (Nat.le_of_lt h04)
end Go.Proofs.YtpjakdekaolmeaaDoor
