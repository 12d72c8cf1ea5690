/- attr: x='..', where the value was encoded. -/
import Derived.Test.YtbhnfnbnngclmaaGreatDoorEO
import Derived.Test.YtbhnfnbnngclmaaGreatDoorDG
import Derived.Deep.RegionHeld3
namespace Go.Proofs.YtbhnfnbnngclmaaGreatDoor
open Go.RowKit Go.Sort Go.BigFrame
set_option maxRecDepth 100000

theorem far_stop (p : UInt8 → Bool) (s : ByteArray) (a : Nat) (y : UInt8) (r : List UInt8) (h : (s.extract a s.size).data.toList = y :: r) (hp : p y = false) : far p s a = a := by
  have h2 := (ext_succ s a y r h).2
  rw [Lib.extract_data, List.take_of_length_le (by rw [List.length_drop, size_len]; omega)] at h
  unfold far
  rw [h, List.takeWhile_cons, hp]
  rfl
theorem ext_self (s : ByteArray) (a : Nat) : (s.extract a a).data.toList = [] := by rw [Lib.extract_data]; simp
theorem ext_head (s : ByteArray) (a : Nat) (y : UInt8) (r : List UInt8) (h : (s.extract a s.size).data.toList = y :: r) : s.extract a (a + 1) = ⟨#[y]⟩ := by
  apply ba_ext
  rw [Lib.extract_data, List.take_of_length_le (by rw [List.length_drop, size_len]; omega)] at h
  rw [Lib.extract_data, h, show a + 1 - a = 1 by omega]
  rfl
/-- A token's block. -/
def Tb (w : World) (b : Nat) (nm : ByteArray) (v : Value) : Prop := w.heap[b]? = some (.cells #[.int .i64 2, .string nm, .string ⟨#[]⟩, v, .bool false] 77)
theorem Tb.below {w w' : World} {b : Nat} {nm : ByteArray} {v : Value} (h : Tb w b nm v) (hb : Below w.heap.size w w') : Tb w' b nm v := (hb.block b (hlt h)).trans h
theorem Tb.keep {w w' : World} {b c : Nat} {nm : ByteArray} {v : Value} (h : Tb w b nm v) (hk : Keep [c] w w') (hne : c ≠ b) : Tb w' b nm v := (hk.block b (hlt h) (fun e => hne (List.mem_singleton.1 e).symm)).trans h
set_option maxHeartbeats 4000000 in
theorem attr_any (c bt : Nat) (s : ByteArray) (a : Nat) (vo vf : Value) (nm : ByteArray) (l z : List UInt8) (w : World) (hg : GN w) (hl : l.length ≤ 100000) (hs : s.size ≤ 1000000) (hc : Cur w c s a vo vf) (hc2 : 2 ≤ c) (hbt2 : 2 ≤ bt) (hcb : c ≠ bt)
    (ht : Tb w bt nm (.slice none 0 0)) (hr : (s.extract a s.size).data.toList = 120 :: 61 :: 39 :: (En.enc l ++ 39 :: z)) :
    Calls Tryz.prog 55 #[.pointer (some ⟨c, 0, none⟩), .pointer (some ⟨bt, 0, none⟩)] w fun e w' => e = .returned (.bool true) ∧ Cur w' c s (a + 3 + (En.enc l).length + 1) vo vf ∧
      (∃ gg cap, Tb w' bt nm (.slice (some ⟨gg, 0, none⟩) 1 cap) ∧ w'.ownsRow w.heap.size 63 2 (.slice (some ⟨gg, 0, none⟩) 1 cap) 1 [.string ⟨#[120]⟩, .string ⟨l.toArray⟩]) ∧ Keep [c, bt] w w' := by
  obtain ⟨hr1, ha1⟩ := ext_succ s a 120 _ hr
  obtain ⟨hr2, ha2⟩ := ext_succ s (a + 1) 61 _ hr1
  have ft1 := far_stop (fun c => !Fo.bl c && !(c == 47 || c == 62 || c == 61)) s (a + 1) 61 _ hr1 (by decide)
  have ft2 := far_stop Fo.bl s (a + 1) 61 _ hr1 (by decide)
  have ft3 := far_stop Fo.bl s (a + 2) 39 _ hr2 (by decide)
  have tk1 := fun w' h => take_any 68 _ says_attr (by intro args w'; rfl) c s (a + 1) vo vf w' hs ha1 h
  have tk2 := fun w' h => take_any 52 _ says_blank (by intro args w'; rfl) c s (a + 1) vo vf w' hs ha1 h
  have tk3 := fun w' h => take_any 52 _ says_blank (by intro args w'; rfl) c s (a + 2) vo vf w' hs ha2 h
  rw [ft1] at tk1
  rw [ft2] at tk2
  rw [ft3] at tk3
  have hx := ext_head s a 120 _ hr
  have cl : ∀ w', Calls Tryz.prog 50 #[.string ⟨#[120]⟩] w' fun e w'' => e = .returned (.string ⟨#[120]⟩) ∧ Below w'.heap.size w' w'' := fun w' => lower_any ⟨#[120]⟩ w' (by decide)
  have cis := fun w' h => is_any c s (a + 1) vo vf ⟨#[61]⟩ w' hs (by decide) ha1 h
  rw [isB_head s (a + 1) 61 61 _ hr1, show decide (Fo.lower [(61 : UInt8)] = Fo.lower [(61 : UInt8)]) = true by decide] at cis
  have cv := fun w' hg' h => value_any c s (a + 2) vo vf l z w' hg' hl hs h hc2 hr2
  have ccn := fun fv w' => contains_nil fv w'
  have i1 : (a : Int) ≤ (a : Int) + 1 := by omega
  have i2 : (a : Int) + 1 ≤ (s.size : Int) := by omega
  have T1 := Lib.hid tk1
  have T2 := Lib.hid tk2
  have T3 := Lib.hid tk3
  have CL := Lib.hid cl
  have CIS := Lib.hid cis
  have CV := Lib.hid cv
  have CCN := Lib.hid ccn
  have HC := Lib.hid hc
  have HG := Lib.hid hg
  have HT := Lib.hid ht
  have hbl := hlt ht
  have hcl := hc.lt
  have c1 := hc.c1
  have f1 := hc.fz 1
  obtain ⟨m1, m2⟩ := hc.move (a + 1)
  have ew : (w.setCell ⟨c, 1, none⟩ (.int .i64 ((a + 1 : Nat) : Int))) = w.setCell ⟨c, 1, none⟩ (.int .i64 ((a : Int) + 1)) := rfl
  rw [ew] at m1 m2
  have HC1 := Lib.hid m1
  have HK1 := Lib.hid m2
  clear tk1 tk2 tk3 cl cis cv ccn hc hg ht hr hr1 hr2 ft1 ft2 ft3 m1 m2 ew
  go_enter Tryz.func55, Tryz.ntmps55
  go_wp2_with fail
  with_reducible refine (T1.out _ HC1.out).mono ?_
  rintro e w2 ⟨rfl, hc2', hk2⟩
  have HC2 := Lib.hid hc2'
  have HK2 := Lib.hid (HK1.out.trans hk2)
  have d0 := hc2'.c0
  have d1 := hc2'.c1
  have hcw := hc2'.lt
  have hsp : ∀ w', Below w2.heap.size w2 w' → (w'.cell? ⟨c, 0, none⟩ = some (.string s) ∧ w'.cell? ⟨c, 1, none⟩ = some (.int .i64 ((a + 1 : Nat) : Int))) := fun w' hb => ⟨(hb.cell (p := ⟨c, 0, none⟩) hcw).trans d0, (hb.cell (p := ⟨c, 1, none⟩) hcw).trans d1⟩
  have HSP := Lib.hid hsp
  clear c1 f1 hc2' hk2 hsp
  go_wp2_with fail
  clear d0 d1
  go_region_held3 (fun w' => w'.cell? ⟨c, 0, none⟩ = some (.string s) ∧ w'.cell? ⟨c, 1, none⟩ = some (.int .i64 ((a + 1 : Nat) : Int)))
    (first | exact HSP.out _ (below_drew' w2) | exact HSP.out _ ((below_alloc' w2 _).drew) | exact HSP.out _ ((below_drew' w2).alloc (by exact Nat.le_refl _) _) | exact HSP.out _ HB3.out | exact HSP.out _ (HB3.out.alloc HB3.out.size _) | exact HSP.out _ (HB3.out.setCell (by exact Nat.le_refl _) _) | exact HSP.out _ ((HB3.out.setCell (by exact Nat.le_refl _) _).setCell (by exact Nat.le_refl _) _))
    (first
      | (go_at_call 50; (with_reducible refine (CL.out (w2.drew)).mono ?_); rintro e w3 ⟨rfl, hb3⟩; have HB3 := Lib.hid (nx (below_drew' w2) hb3); clear hb3)
      | (go_at_call 50; (with_reducible refine (CL.out ((w2.alloc (.cells #[.string ⟨#[]⟩, .string ⟨#[]⟩] 63)).drew)).mono ?_); rintro e w3 ⟨rfl, hb3⟩; have HB3 := Lib.hid (((below_alloc' w2 (.cells #[.string ⟨#[]⟩, .string ⟨#[]⟩] 63)).drew).trans (hb3.mono (by simp))); have hrt := (hb3.block w2.heap.size (by simp)).trans (heap_alloc_new w2 (.cells #[.string ⟨#[]⟩, .string ⟨#[]⟩] 63)); have z0 := cell_row hrt 0; have z1 := cell_row hrt 1; simp at z0 z1; have zf0 := free_of (k := 0) hrt; have zf1 := free_of (k := 1) hrt; have HRT := Lib.hid hrt; clear hb3 hrt))
  · have hT := heap_alloc_new w3 (.cells #[.string ⟨#[120]⟩, .string ⟨#[]⟩] 63)
    have hB4 : Below w2.heap.size w2 (w3.alloc (.cells #[.string ⟨#[120]⟩, .string ⟨#[]⟩] 63)) := HB3.out.alloc HB3.out.size _
    have hTX : w2.heap.size ≤ w3.heap.size := HB3.out.size
    obtain ⟨T, hTe⟩ : ∃ T, T = w3.heap.size := ⟨_, rfl⟩
    obtain ⟨W4, hW4⟩ : ∃ W4, W4 = w3.alloc (.cells #[.string ⟨#[120]⟩, .string ⟨#[]⟩] 63) := ⟨_, rfl⟩
    rw [← hW4] at hT hB4 ⊢
    rw [← hTe] at hT hTX ⊢
    have hK2s : bt < w2.heap.size := Nat.lt_of_lt_of_le hbl HK2.out.size
    have hTc : c ≠ T := by have := hcw; omega
    have hTbt : bt ≠ T := by have := hK2s; omega
    have hC4 := HC2.out.below hB4
    have hTb4 := (HT.out.keep HK2.out hcb).below hB4
    have hcb4 : c < W4.heap.size := hC4.lt
    have b0 : W4.cell? ⟨bt, 0, none⟩ = some (.int .i64 2) := cell_row hTb4 0
    have b3 : W4.cell? ⟨bt, 3, none⟩ = some (.slice none 0 0) := cell_row hTb4 3
    have d1 := hC4.c1
    have HT4 := Lib.hid hT
    have HB4 := Lib.hid hB4
    have HC4 := Lib.hid hC4
    have HTB4 := Lib.hid hTb4
    have HK4 : Hid (Keep [c] w W4) := HK2.out.trans (Keep.of_below hB4)
    clear hT hB4 hC4 hTb4 hTe hW4
    go_wp2_with fail
    with_reducible refine (CCN.out _ _).mono ?_
    rintro e w5 ⟨rfl, hw5⟩
    obtain rfl : W4 = w5 := hw5.symm
    go_wp2_with fail
    with_reducible refine (T2.out _ HC4.out).mono ?_
    rintro e w5 ⟨rfl, hc5, hk5⟩
    have HC5 := Lib.hid hc5
    have HK5 := Lib.hid hk5
    clear hc5 hk5 b0 b3 d1
    go_wp2_with fail
    with_reducible refine (CIS.out _ HC5.out).mono ?_
    rintro e w6 ⟨rfl, hb6⟩
    have hc6 := HC5.out.below hb6
    have e1 := hc6.c1
    have ef := hc6.fz 1
    obtain ⟨m1, m2⟩ := hc6.move (a + 2)
    have ew : (w6.setCell ⟨c, 1, none⟩ (.int .i64 ((a + 2 : Nat) : Int))) = w6.setCell ⟨c, 1, none⟩ (.int .i64 ((a : Int) + 1 + 1)) := by
      rw [show ((a + 2 : Nat) : Int) = (a : Int) + 1 + 1 by omega]
    rw [ew] at m1 m2
    have HC7 := Lib.hid m1
    have HK7 : Hid (Keep [c] W4 (w6.setCell ⟨c, 1, none⟩ (.int .i64 ((a : Int) + 1 + 1)))) := (HK5.out.trans (Keep.of_below hb6)).trans m2
    clear hb6 hc6 m1 m2 ew
    go_wp2_with fail
    with_reducible refine (T3.out _ HC7.out).mono ?_
    rintro e w8 ⟨rfl, hc8, hk8⟩
    have HC8 := Lib.hid hc8
    have HK8 := Lib.hid (HK7.out.trans hk8)
    clear hc8 hk8 e1 ef
    go_wp2_with fail
    have h2c : ∀ k ∈ [c], 2 ≤ k := fun k hk => by rw [List.mem_singleton.1 hk]; exact hc2
    with_reducible refine (CV.out _ ((HK4.out.trans HK8.out).gn HG.out h2c) HC8.out).mono ?_
    rintro e w9 ⟨rfl, hc9, hk9⟩
    have hK9 : Keep [c] W4 w9 := HK8.out.trans hk9
    have hT9 := (hK9.block T (hlt HT4.out) (by intro e; exact hTc (List.mem_singleton.1 e).symm)).trans HT4.out
    have t0 := cell_row hT9 0
    have t1 := cell_row hT9 1
    simp at t0 t1
    have tf := free_of (k := 1) hT9
    have hTb9 := HTB4.out.keep hK9 hcb
    have hk10 := keep_set w9 T 1 (.string ⟨l.toArray⟩)
    have hC10 : Cur (w9.setCell ⟨T, 1, none⟩ (.string ⟨l.toArray⟩)) c s (a + 2 + 1 + (En.enc l).length + 1) vo vf := (hk10.block c hc9.lt (by intro e; exact hTc (List.mem_singleton.1 e))).trans hc9
    have hTb10 : Tb (w9.setCell ⟨T, 1, none⟩ (.string ⟨l.toArray⟩)) bt nm (.slice none 0 0) := (hk10.block bt (hlt hTb9) (by intro e; exact hTbt (List.mem_singleton.1 e))).trans hTb9
    have hT10 := set_same (k := 1) (u := .string ⟨l.toArray⟩) hT9
    have hK10 : Keep [c] w (w9.setCell ⟨T, 1, none⟩ (.string ⟨l.toArray⟩)) := by
      have h1 := HK4.out.trans hK9
      refine ⟨h1.os, h1.tape, h1.output, by simp [World.setCell]; exact h1.size, fun k hk hl => ?_⟩
      rw [set_other (by have := HK2.out.size; omega)]
      exact h1.block k hk hl
    obtain ⟨w10, hw10⟩ : ∃ w10, w10 = w9.setCell ⟨T, 1, none⟩ (.string ⟨l.toArray⟩) := ⟨_, rfl⟩
    rw [← hw10] at hC10 hTb10 hT10 hK10
    have HW10 := Lib.hid hw10
    have x0 : w10.cell? ⟨T, 0, none⟩ = some (.string ⟨#[120]⟩) := cell_row hT10 0
    have x1 : w10.cell? ⟨T, 1, none⟩ = some (.string ⟨l.toArray⟩) := cell_row hT10 1
    have y3 : w10.cell? ⟨bt, 3, none⟩ = some (.slice none 0 0) := cell_row hTb10 3
    have HC10 := Lib.hid hC10
    have HTB10 := Lib.hid hTb10
    have HK10 := Lib.hid hK10
    clear hc9 hk9 hK9 hT9 hTb9 hk10 hC10 hTb10 hT10 hK10 hw10 h2c
    go_upto_region 21 with fail
    rw [← HW10.out]
    clear t0 t1 tf
    obtain ⟨i0, hi, hz0, hz1, hz2⟩ := info_parts clonea_row
    have HI0 := Lib.hid hi
    have hws : w.heap.size ≤ w10.heap.size := HK10.out.size
    have hbtl : bt < w10.heap.size := hlt HTB10.out
    clear hi
    go_region_law (refine step_append_lies _ (by rfl) _ _ _ (by rfl) w.heap.size 63 i0 _ 2 32 Tryz.underlying34 HI0.out hz0 hz1 hz2 rfl (by omega) _ 0 [] (by rfl) (World.ownsRow_nil _ _ _ _) ⟨w10.heap.size, 0, none⟩ 1 1 [.string ⟨#[120]⟩, .string ⟨l.toArray⟩] (by rfl) (by rfl) (World.news_of_block (cs := #[.string ⟨#[120]⟩, .string ⟨l.toArray⟩]) (t := 63) (fr := (0, 0)) (heap_alloc_new w10 _)) (by simp [Value.oneCell']) (by omega) (by unfold maxLen; omega) (by omega) (by simp; omega) (w10.heap.size + 1) (by simp) ?_; intro gg cap w11 hown11 hgrow hat hltg; have hb11 : Below w10.heap.size w10 w11 := ((below_alloc' w10 _).drew).grown hgrow (by simp) (fun k hk => by cases hk); have hTb11 := HTB10.out.below hb11; have HOW11 := Lib.hid hown11; have HB11 := Lib.hid hb11; have HTB11 := Lib.hid hTb11; have p3 : w11.cell? ⟨bt, 3, none⟩ = some (.slice none 0 0) := cell_row hTb11 3; have pf : w11.frozen? ⟨bt, 3, none⟩ = false := free_of hTb11; clear hown11 hgrow hat hltg hb11 hTb11)
    all_goals
      go_wp2_with fail
      go_ret
      have hk12 := keep_set w11 bt 3 (.slice (some ⟨gg, 0, none⟩) (0 + 1) cap)
      have hbt12 : Tb (w11.setCell ⟨bt, 3, none⟩ (.slice (some ⟨gg, 0, none⟩) (0 + 1) cap)) bt nm (.slice (some ⟨gg, 0, none⟩) (0 + 1) cap) := set_same HTB11.out
      have how := HOW11.out
      have hgb : ∀ k, (Value.slice (some ⟨gg, 0, none⟩) (0 + 1) cap).ownBlock = some k → k ∉ [bt] := by
        intro k hk hm
        obtain rfl := List.mem_singleton.1 hm
        injection hk with hk
        obtain ⟨cur, e1, _⟩ := own_block how
        have hk : gg = k := hk
        subst hk
        have h2 := HTB11.out
        unfold Tb at h2
        rw [e1] at h2
        injection h2 with h2
        injection h2 with _ h2
        exact absurd h2 (by decide)
      refine ⟨rfl, ?_, ⟨gg, cap, ?_, ?_⟩, ?_⟩
      · have h := (hk12.block c (HC10.out.below HB11.out).lt (by intro e; exact hcb (List.mem_singleton.1 e))).trans (HC10.out.below HB11.out)
        rw [show a + 3 + (En.enc l).length + 1 = a + 2 + 1 + (En.enc l).length + 1 by omega]
        exact h
      · exact hbt12
      · exact hk12.own how hgb
      · have k1 : Keep [c, bt] w w11 := (HK10.out.trans (Keep.of_below HB11.out)).mono (fun k hk => by rw [List.mem_singleton.1 hk]; exact List.mem_cons_self ..)
        exact k1.trans (hk12.mono (fun k hk => by rw [List.mem_singleton.1 hk]; exact List.mem_cons_of_mem _ (List.mem_singleton.2 rfl)))
  · have hT := set_same (k := 1) (u := .string ⟨#[]⟩) (set_same (k := 0) (u := .string ⟨#[120]⟩) HRT.out)
    have hT : ((w3.setCell ⟨w2.heap.size, 0, none⟩ (.string ⟨#[120]⟩)).setCell ⟨w2.heap.size, 1, none⟩ (.string ⟨#[]⟩)).heap[w2.heap.size]? = some (.cells #[.string ⟨#[120]⟩, .string ⟨#[]⟩] 63) := hT
    have hB4 : Below w2.heap.size w2 ((w3.setCell ⟨w2.heap.size, 0, none⟩ (.string ⟨#[120]⟩)).setCell ⟨w2.heap.size, 1, none⟩ (.string ⟨#[]⟩)) := (HB3.out.setCell (by exact Nat.le_refl _) _).setCell (by exact Nat.le_refl _) _
    obtain ⟨W4, hW4⟩ : ∃ W4, W4 = (w3.setCell ⟨w2.heap.size, 0, none⟩ (.string ⟨#[120]⟩)).setCell ⟨w2.heap.size, 1, none⟩ (.string ⟨#[]⟩) := ⟨_, rfl⟩
    rw [← hW4] at hT hB4 ⊢
    clear z0 z1 zf0 zf1 HRT
    obtain ⟨T, hTe⟩ : ∃ T, T = w2.heap.size := ⟨_, rfl⟩
    rw [← hTe] at hT ⊢
    have hTX : w2.heap.size ≤ T := by omega
    have hK2s : bt < w2.heap.size := Nat.lt_of_lt_of_le hbl HK2.out.size
    have hTc : c ≠ T := by have := hcw; omega
    have hTbt : bt ≠ T := by have := hK2s; omega
    have hC4 := HC2.out.below hB4
    have hTb4 := (HT.out.keep HK2.out hcb).below hB4
    have hcb4 : c < W4.heap.size := hC4.lt
    have b0 : W4.cell? ⟨bt, 0, none⟩ = some (.int .i64 2) := cell_row hTb4 0
    have b3 : W4.cell? ⟨bt, 3, none⟩ = some (.slice none 0 0) := cell_row hTb4 3
    have d1 := hC4.c1
    have HT4 := Lib.hid hT
    have HB4 := Lib.hid hB4
    have HC4 := Lib.hid hC4
    have HTB4 := Lib.hid hTb4
    have HK4 : Hid (Keep [c] w W4) := HK2.out.trans (Keep.of_below hB4)
    clear hT hB4 hC4 hTb4 hTe hW4
    go_wp2_with fail
    with_reducible refine (CCN.out _ _).mono ?_
    rintro e w5 ⟨rfl, hw5⟩
    obtain rfl : W4 = w5 := hw5.symm
    go_wp2_with fail
    with_reducible refine (T2.out _ HC4.out).mono ?_
    rintro e w5 ⟨rfl, hc5, hk5⟩
    have HC5 := Lib.hid hc5
    have HK5 := Lib.hid hk5
    clear hc5 hk5 b0 b3 d1
    go_wp2_with fail
    with_reducible refine (CIS.out _ HC5.out).mono ?_
    rintro e w6 ⟨rfl, hb6⟩
    have hc6 := HC5.out.below hb6
    have e1 := hc6.c1
    have ef := hc6.fz 1
    obtain ⟨m1, m2⟩ := hc6.move (a + 2)
    have ew : (w6.setCell ⟨c, 1, none⟩ (.int .i64 ((a + 2 : Nat) : Int))) = w6.setCell ⟨c, 1, none⟩ (.int .i64 ((a : Int) + 1 + 1)) := by
      rw [show ((a + 2 : Nat) : Int) = (a : Int) + 1 + 1 by omega]
    rw [ew] at m1 m2
    have HC7 := Lib.hid m1
    have HK7 : Hid (Keep [c] W4 (w6.setCell ⟨c, 1, none⟩ (.int .i64 ((a : Int) + 1 + 1)))) := (HK5.out.trans (Keep.of_below hb6)).trans m2
    clear hb6 hc6 m1 m2 ew
    go_wp2_with fail
    with_reducible refine (T3.out _ HC7.out).mono ?_
    rintro e w8 ⟨rfl, hc8, hk8⟩
    have HC8 := Lib.hid hc8
    have HK8 := Lib.hid (HK7.out.trans hk8)
    clear hc8 hk8 e1 ef
    go_wp2_with fail
    have h2c : ∀ k ∈ [c], 2 ≤ k := fun k hk => by rw [List.mem_singleton.1 hk]; exact hc2
    with_reducible refine (CV.out _ ((HK4.out.trans HK8.out).gn HG.out h2c) HC8.out).mono ?_
    rintro e w9 ⟨rfl, hc9, hk9⟩
    have hK9 : Keep [c] W4 w9 := HK8.out.trans hk9
    have hT9 := (hK9.block T (hlt HT4.out) (by intro e; exact hTc (List.mem_singleton.1 e).symm)).trans HT4.out
    have t0 := cell_row hT9 0
    have t1 := cell_row hT9 1
    simp at t0 t1
    have tf := free_of (k := 1) hT9
    have hTb9 := HTB4.out.keep hK9 hcb
    have hk10 := keep_set w9 T 1 (.string ⟨l.toArray⟩)
    have hC10 : Cur (w9.setCell ⟨T, 1, none⟩ (.string ⟨l.toArray⟩)) c s (a + 2 + 1 + (En.enc l).length + 1) vo vf := (hk10.block c hc9.lt (by intro e; exact hTc (List.mem_singleton.1 e))).trans hc9
    have hTb10 : Tb (w9.setCell ⟨T, 1, none⟩ (.string ⟨l.toArray⟩)) bt nm (.slice none 0 0) := (hk10.block bt (hlt hTb9) (by intro e; exact hTbt (List.mem_singleton.1 e))).trans hTb9
    have hT10 := set_same (k := 1) (u := .string ⟨l.toArray⟩) hT9
    have hK10 : Keep [c] w (w9.setCell ⟨T, 1, none⟩ (.string ⟨l.toArray⟩)) := by
      have h1 := HK4.out.trans hK9
      refine ⟨h1.os, h1.tape, h1.output, by simp [World.setCell]; exact h1.size, fun k hk hl => ?_⟩
      rw [set_other (by have := HK2.out.size; omega)]
      exact h1.block k hk hl
    obtain ⟨w10, hw10⟩ : ∃ w10, w10 = w9.setCell ⟨T, 1, none⟩ (.string ⟨l.toArray⟩) := ⟨_, rfl⟩
    rw [← hw10] at hC10 hTb10 hT10 hK10
    have HW10 := Lib.hid hw10
    have x0 : w10.cell? ⟨T, 0, none⟩ = some (.string ⟨#[120]⟩) := cell_row hT10 0
    have x1 : w10.cell? ⟨T, 1, none⟩ = some (.string ⟨l.toArray⟩) := cell_row hT10 1
    have y3 : w10.cell? ⟨bt, 3, none⟩ = some (.slice none 0 0) := cell_row hTb10 3
    have HC10 := Lib.hid hC10
    have HTB10 := Lib.hid hTb10
    have HK10 := Lib.hid hK10
    clear hc9 hk9 hK9 hT9 hTb9 hk10 hC10 hTb10 hT10 hK10 hw10 h2c
    go_upto_region 21 with fail
    rw [← HW10.out]
    clear t0 t1 tf
    obtain ⟨i0, hi, hz0, hz1, hz2⟩ := info_parts clonea_row
    have HI0 := Lib.hid hi
    have hws : w.heap.size ≤ w10.heap.size := HK10.out.size
    have hbtl : bt < w10.heap.size := hlt HTB10.out
    clear hi
    go_region_law (refine step_append_lies _ (by rfl) _ _ _ (by rfl) w.heap.size 63 i0 _ 2 32 Tryz.underlying34 HI0.out hz0 hz1 hz2 rfl (by omega) _ 0 [] (by rfl) (World.ownsRow_nil _ _ _ _) ⟨w10.heap.size, 0, none⟩ 1 1 [.string ⟨#[120]⟩, .string ⟨l.toArray⟩] (by rfl) (by rfl) (World.news_of_block (cs := #[.string ⟨#[120]⟩, .string ⟨l.toArray⟩]) (t := 63) (fr := (0, 0)) (heap_alloc_new w10 _)) (by simp [Value.oneCell']) (by omega) (by unfold maxLen; omega) (by omega) (by simp; omega) (w10.heap.size + 1) (by simp) ?_; intro gg cap w11 hown11 hgrow hat hltg; have hb11 : Below w10.heap.size w10 w11 := ((below_alloc' w10 _).drew).grown hgrow (by simp) (fun k hk => by cases hk); have hTb11 := HTB10.out.below hb11; have HOW11 := Lib.hid hown11; have HB11 := Lib.hid hb11; have HTB11 := Lib.hid hTb11; have p3 : w11.cell? ⟨bt, 3, none⟩ = some (.slice none 0 0) := cell_row hTb11 3; have pf : w11.frozen? ⟨bt, 3, none⟩ = false := free_of hTb11; clear hown11 hgrow hat hltg hb11 hTb11)
    all_goals
      go_wp2_with fail
      go_ret
      have hk12 := keep_set w11 bt 3 (.slice (some ⟨gg, 0, none⟩) (0 + 1) cap)
      have hbt12 : Tb (w11.setCell ⟨bt, 3, none⟩ (.slice (some ⟨gg, 0, none⟩) (0 + 1) cap)) bt nm (.slice (some ⟨gg, 0, none⟩) (0 + 1) cap) := set_same HTB11.out
      have how := HOW11.out
      have hgb : ∀ k, (Value.slice (some ⟨gg, 0, none⟩) (0 + 1) cap).ownBlock = some k → k ∉ [bt] := by
        intro k hk hm
        obtain rfl := List.mem_singleton.1 hm
        injection hk with hk
        obtain ⟨cur, e1, _⟩ := own_block how
        have hk : gg = k := hk
        subst hk
        have h2 := HTB11.out
        unfold Tb at h2
        rw [e1] at h2
        injection h2 with h2
        injection h2 with _ h2
        exact absurd h2 (by decide)
      refine ⟨rfl, ?_, ⟨gg, cap, ?_, ?_⟩, ?_⟩
      · have h := (hk12.block c (HC10.out.below HB11.out).lt (by intro e; exact hcb (List.mem_singleton.1 e))).trans (HC10.out.below HB11.out)
        rw [show a + 3 + (En.enc l).length + 1 = a + 2 + 1 + (En.enc l).length + 1 by omega]
        exact h
      · exact hbt12
      · exact hk12.own how hgb
      · have k1 : Keep [c, bt] w w11 := (HK10.out.trans (Keep.of_below HB11.out)).mono (fun k hk => by rw [List.mem_singleton.1 hk]; exact List.mem_cons_self ..)
        exact k1.trans (hk12.mono (fun k hk => by rw [List.mem_singleton.1 hk]; exact List.mem_cons_of_mem _ (List.mem_singleton.2 rfl)))
end Go.Proofs.YtbhnfnbnngclmaaGreatDoor
