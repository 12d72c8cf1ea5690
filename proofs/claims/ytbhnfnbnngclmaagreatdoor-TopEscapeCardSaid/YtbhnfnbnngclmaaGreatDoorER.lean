import Derived.Test.YtbhnfnbnngclmaaGreatDoorEN
/- tag. -/
namespace Go.Proofs.YtbhnfnbnngclmaaGreatDoor
open Go.RowKit Go.Sort Go.BigFrame
set_option maxRecDepth 100000

theorem byte_of (s : ByteArray) (a : Nat) (y : UInt8) (r : List UInt8) (h : (s.extract a s.size).data.toList = y :: r) (hlt : a < s.size) : s[a] = y := by
  rw [Lib.extract_data, List.take_of_length_le (by rw [List.length_drop, size_len]; omega), drop_cons s a hlt] at h
  injection h
theorem far_one (p : UInt8 → Bool) (s : ByteArray) (a : Nat) (x y : UInt8) (r : List UInt8) (h : (s.extract a s.size).data.toList = x :: y :: r) (hx : p x = true) (hy : p y = false) : far p s a = a + 1 := by
  rw [Lib.extract_data, List.take_of_length_le (by rw [List.length_drop, size_len]; omega)] at h
  unfold far
  rw [h, List.takeWhile_cons, hx, if_pos rfl, List.takeWhile_cons, hy]
  rfl
set_option maxHeartbeats 4000000 in
/-- tag: b>, a beginning or an end. -/
theorem tag_plain (c : Nat) (s : ByteArray) (a : Nat) (vo : Value) (n : Nat) (xs : List Value) (B : Nat) (k : Int) (from_ : Int) (z : List UInt8) (w : World) (hk : k = 2 ∨ k = 3) (hB : B ≤ w.heap.size) (hn : n ≤ 1000) (hs : s.size ≤ 1000000) (hc : Cur w c s a vo (.slice none 0 0)) (ho : w.ownsRow B 77 5 vo n xs) (hne : vo.ownBlock ≠ some c)
    (hr : (s.extract a s.size).data.toList = 98 :: 62 :: z) :
    Calls Tryz.prog 34 #[.pointer (some ⟨c, 0, none⟩), .int .i64 k, .int .i64 from_] w fun e w' => e = .returned (.tuple #[]) ∧
      ∃ vo', Cur w' c s (a + 2) vo' (.slice none 0 0) ∧ w'.ownsRow B 77 5 vo' (n + 1) (xs ++ [.int .i64 k, .string ⟨#[98]⟩, .string ⟨#[]⟩, .slice none 0 0, .bool false]) ∧ Keep (c :: ob vo) w w' := by
  obtain ⟨hr1, ha1⟩ := ext_succ s a 98 _ hr
  obtain ⟨hr2, ha2⟩ := ext_succ s (a + 1) 62 _ hr1
  have ft := far_one (fun c => !Fo.bl c && c != 47 && c != 62) s a 98 62 _ hr (by decide) (by decide)
  have tk := fun w' h => take_any 51 _ says_name (by intro args w'; rfl) c s a vo (.slice none 0 0) w' hs (by omega) h
  rw [ft, ext_head s a 98 _ hr] at tk
  have cl : ∀ w', Calls Tryz.prog 50 #[.string ⟨#[98]⟩] w' fun e w'' => e = .returned (.string ⟨#[98]⟩) ∧ Below w'.heap.size w' w'' := fun w' => lower_any ⟨#[98]⟩ w' (by decide)
  have hlt1 : a + 1 < s.size := by omega
  have hat : s[a + 1]'hlt1 = 62 := byte_of s (a + 1) 62 _ hr1 hlt1
  have hol : ∀ k', vo.ownBlock = some k' → k' < w.heap.size := fun k' h => (ho.lt k' h).2
  have hk2 : (k == 1) = false := by rcases hk with rfl | rfl <;> rfl
  have ctell := fun w' hc' ho' (hb : w.heap.size ≤ w'.heap.size) => tell_any c s (a + 2) vo (.slice none 0 0) n xs B k ⟨#[98]⟩ ⟨#[]⟩ none 0 0 false w' (by rcases hk with rfl | rfl <;> decide) (by omega) (by omega) hc' ho' hne
  have i1 : (a : Int) + 1 < (s.size : Int) := by omega
  have i2 : decide ((a : Int) + 1 < (s.size : Int)) = true := by simpa using i1
  have i3 : (0 : Int) ≤ (a : Int) + 1 := by omega
  have c3 := hc.c3
  have hbA := below_alloc' w (.cells #[.int .i64 k, .string ⟨#[]⟩, .string ⟨#[]⟩, .slice none 0 0, .bool false] 77)
  have hrA := heap_alloc_new w (.cells #[.int .i64 k, .string ⟨#[]⟩, .string ⟨#[]⟩, .slice none 0 0, .bool false] 77)
  obtain ⟨W, hW⟩ : ∃ W, W = w.alloc (.cells #[.int .i64 k, .string ⟨#[]⟩, .string ⟨#[]⟩, .slice none 0 0, .bool false] 77) := ⟨_, rfl⟩
  rw [← hW] at hbA hrA
  have hcl := hc.lt
  have HC := Lib.hid (hc.below hbA)
  have HO := Lib.hid (own_below' ho hbA)
  have HW := Lib.hid hW
  have HB := Lib.hid hbA
  have HR := Lib.hid hrA
  have TK := Lib.hid tk
  have CL := Lib.hid cl
  have CT := Lib.hid ctell
  have HNE := Lib.hid hne
  clear hc ho hW hbA hrA tk cl ctell hr hr1 hr2 ft hne hB
  go_enter Tryz.func34, Tryz.ntmps34
  go_wp2_with fail
  go_step3
  go_upto_region 2 with fail
  rw [← HW.out]
  clear c3
  go_wp2_with fail
  with_reducible refine (TK.out _ HC.out).mono ?_
  rintro e w2 ⟨rfl, hc2, hk2'⟩
  have HC2 := Lib.hid hc2
  have HK2 := Lib.hid hk2'
  clear hc2 hk2'
  go_wp2_with fail
  with_reducible refine (CL.out _).mono ?_
  rintro e w3 ⟨rfl, hb3⟩
  have hkW3 : Keep [c] W w3 := HK2.out.trans (Keep.of_below hb3)
  have hr3 := (hkW3.block _ (hlt HR.out) (by intro e; have e := List.mem_singleton.1 e; omega)).trans HR.out
  have hc3 := HC2.out.below hb3
  have t1 := cell_row hr3 1
  simp at t1
  have tf := free_of (k := 1) hr3
  have hk4 := keep_set w3 w.heap.size 1 (.string ⟨#[98]⟩)
  have hr4 : (w3.setCell ⟨w.heap.size, 1, none⟩ (.string ⟨#[98]⟩)).heap[w.heap.size]? = some (.cells #[.int .i64 k, .string ⟨#[98]⟩, .string ⟨#[]⟩, .slice none 0 0, .bool false] 77) := set_same hr3
  have hc4 : Cur (w3.setCell ⟨w.heap.size, 1, none⟩ (.string ⟨#[98]⟩)) c s (a + 1) vo (.slice none 0 0) := (hk4.block c hc3.lt (by intro e; have e := List.mem_singleton.1 e; omega)).trans hc3
  have hk5 : Keep [c] w (w3.setCell ⟨w.heap.size, 1, none⟩ (.string ⟨#[98]⟩)) := by
    have h1 := (Keep.of_below HB.out).trans hkW3
    refine ⟨h1.os, h1.tape, h1.output, by simp [World.setCell]; exact h1.size, fun j hj hl => ?_⟩
    rw [set_other (by omega)]
    exact h1.block j hj hl
  have ho4 : (w3.setCell ⟨w.heap.size, 1, none⟩ (.string ⟨#[98]⟩)).ownsRow B 77 5 vo n xs := by
    have h1 := hkW3.own HO.out (fun k' hk' hm => HNE.out (by rw [hk', List.mem_singleton.1 hm]))
    refine hk4.own h1 fun k' hk' hm => ?_
    have e1 := hol k' hk'
    have e2 := List.mem_singleton.1 hm
    omega
  obtain ⟨w4, hw4⟩ : ∃ w4, w4 = w3.setCell ⟨w.heap.size, 1, none⟩ (.string ⟨#[98]⟩) := ⟨_, rfl⟩
  rw [← hw4] at hr4 hc4 hk5 ho4
  have HW4 := Lib.hid hw4
  have HR4 := Lib.hid hr4
  have HC4 := Lib.hid hc4
  have HK5 := Lib.hid hk5
  have HO4 := Lib.hid ho4
  clear hb3 hkW3 hr3 hc3 hk4 hr4 hc4 hk5 ho4 hw4
  go_upto_region 3 with fail
  rw [← HW4.out]
  clear t1 tf
  have c0 := HC4.out.c0
  have c1 := HC4.out.c1
  have cf := HC4.out.fz 1
  have u0 : w4.cell? ⟨w.heap.size, 0, none⟩ = some (.int .i64 k) := cell_row HR4.out 0
  have u1 : w4.cell? ⟨w.heap.size, 1, none⟩ = some (.string ⟨#[98]⟩) := cell_row HR4.out 1
  have u2 : w4.cell? ⟨w.heap.size, 2, none⟩ = some (.string ⟨#[]⟩) := cell_row HR4.out 2
  have u3 : w4.cell? ⟨w.heap.size, 3, none⟩ = some (.slice none 0 0) := cell_row HR4.out 3
  have u4 : w4.cell? ⟨w.heap.size, 4, none⟩ = some (.bool false) := cell_row HR4.out 4
  have uf := free_of (k := 4) HR4.out
  have hne1 : c ≠ w.heap.size := by omega
  have hne2 : w.heap.size ≠ c := by omega
  go_wp2_with fail
  go_step3
  go_wp2_with fail
  refine wp_loop_rounds 1 ?_
  rw [rounds_succ]
  go_wp2_with fail
  go_quiet (fail)
  go_wp2_with fail
  go_quiet (fail)
  go_wp2_with fail
  have fin : ∀ N, Cur (((w4.drewN N).setCell ⟨c, 1, none⟩ (.int .i64 ((a : Int) + 1 + 1))).setCell ⟨w.heap.size, 4, none⟩ (.bool false)) c s (a + 2) vo (.slice none 0 0) ∧ (((w4.drewN N).setCell ⟨c, 1, none⟩ (.int .i64 ((a : Int) + 1 + 1))).setCell ⟨w.heap.size, 4, none⟩ (.bool false)).ownsRow B 77 5 vo n xs ∧ Keep [c] w (((w4.drewN N).setCell ⟨c, 1, none⟩ (.int .i64 ((a : Int) + 1 + 1))).setCell ⟨w.heap.size, 4, none⟩ (.bool false)) ∧ (((w4.drewN N).setCell ⟨c, 1, none⟩ (.int .i64 ((a : Int) + 1 + 1))).setCell ⟨w.heap.size, 4, none⟩ (.bool false)).cell? ⟨w.heap.size, 1, none⟩ = some (.string ⟨#[98]⟩) := by
    intro N
    have hcN := HC4.out.below (below_drewN' w4 N)
    have hoN := own_below' HO4.out (below_drewN' w4 N)
    have hrN := ((below_drewN' w4 N).block _ (hlt HR4.out)).trans HR4.out
    obtain ⟨m1, m2⟩ := hcN.move (a + 2)
    rw [show ((a + 2 : Nat) : Int) = (a : Int) + 1 + 1 by omega] at m1 m2
    have hr5 := (m2.block _ (hlt hrN) (by intro e; have e := List.mem_singleton.1 e; omega)).trans hrN
    have ho5 := m2.own hoN (fun k' hk' hm => HNE.out (by rw [hk', List.mem_singleton.1 hm]))
    have hk6 := keep_set ((w4.drewN N).setCell ⟨c, 1, none⟩ (.int .i64 ((a : Int) + 1 + 1))) w.heap.size 4 (.bool false)
    have hr6 := set_same (k := 4) (u := .bool false) hr5
    have hkw : Keep [c] w ((w4.drewN N).setCell ⟨c, 1, none⟩ (.int .i64 ((a : Int) + 1 + 1))) := (HK5.out.trans (Keep.of_below (below_drewN' w4 N))).trans m2
    refine ⟨(hk6.block c m1.lt (by intro e; have e := List.mem_singleton.1 e; omega)).trans m1, hk6.own ho5 (fun k' hk' hm => by have e1 := hol k' hk'; have e2 := List.mem_singleton.1 hm; omega), ?_, cell_row hr6 1⟩
    refine ⟨hkw.os, hkw.tape, hkw.output, by simp [World.setCell]; exact HK5.out.size, fun j hj hl => ?_⟩
    rw [set_other (by omega)]
    exact hkw.block j hj hl
  refine (CT.out _ (fin _).1 (fin _).2.1 (fin _).2.2.1.size).mono ?_
  rintro e w7 ⟨rfl, vo', hc7, ho7, hk7⟩
  have g1 := (hk7.cell (p := ⟨w.heap.size, 1, none⟩) (block_lt_of_cell (fin _).2.2.2) (by
    intro e
    rcases List.mem_cons.1 e with e | e
    · exact hne2 e
    · unfold ob at e
      split at e
      · rename_i k' hk'
        have e1 := hol k' hk'
        have e2 : w.heap.size = k' := List.mem_singleton.1 e
        omega
      · cases e)).trans (fin _).2.2.2
  have HK7 := Lib.hid (((fin _).2.2.1.mono (fun j hj => by rw [List.mem_singleton.1 hj]; exact List.mem_cons_self ..)).trans hk7)
  have HC7 := Lib.hid hc7
  have HO7 := Lib.hid ho7
  clear fin hc7 ho7 hk7 u0 u1 u2 u3 u4 uf c0 c1 cf
  rcases hk with rfl | rfl
  · go_wp2_with fail
    with_reducible refine (raw_b _).mono ?_
    rintro e w8 ⟨rfl, hw8⟩
    obtain rfl : w7 = w8 := hw8.symm
    go_wp2_with fail
    rw [Exit.noGoto_ret]
    exact bodyPost_ret (results_none rfl _ _ _) rfl ⟨rfl, vo', HC7.out, HO7.out, HK7.out⟩
  · go_wp2_with fail
    rw [Exit.noGoto_ret]
    exact bodyPost_ret (results_none rfl _ _ _) rfl ⟨rfl, vo', HC7.out, HO7.out, HK7.out⟩
end Go.Proofs.YtbhnfnbnngclmaaGreatDoor
/- tag with an attribute. -/
namespace Go.Proofs.YtbhnfnbnngclmaaGreatDoor
open Go.RowKit Go.Sort Go.BigFrame
set_option maxRecDepth 100000

set_option maxHeartbeats 4000000 in
/-- tag: b x='..'>, where the value was encoded. -/
theorem tag_attr (c : Nat) (s : ByteArray) (a : Nat) (vo : Value) (n : Nat) (xs : List Value) (B : Nat) (from_ : Int) (l z : List UInt8) (w : World) (hg : GN w) (hl : l.length ≤ 100000) (hcc : 2 ≤ c) (hB : B ≤ w.heap.size) (hn : n ≤ 1000) (hs : s.size ≤ 1000000) (hc : Cur w c s a vo (.slice none 0 0)) (ho : w.ownsRow B 77 5 vo n xs) (hne : vo.ownBlock ≠ some c)
    (hr : (s.extract a s.size).data.toList = 98 :: 32 :: 120 :: 61 :: 39 :: (En.enc l ++ 39 :: 62 :: z)) :
    Calls Tryz.prog 34 #[.pointer (some ⟨c, 0, none⟩), .int .i64 2, .int .i64 from_] w fun e w' => e = .returned (.tuple #[]) ∧
      ∃ vo' gg cap, Cur w' c s (a + (En.enc l).length + 7) vo' (.slice none 0 0) ∧ w'.ownsRow B 77 5 vo' (n + 1) (xs ++ [.int .i64 2, .string ⟨#[98]⟩, .string ⟨#[]⟩, .slice (some ⟨gg, 0, none⟩) 1 cap, .bool false]) ∧ Ats w' (.slice (some ⟨gg, 0, none⟩) 1 cap) (some (⟨#[120]⟩, ⟨l.toArray⟩)) ∧ Keep (c :: ob vo) w w' := by
  obtain ⟨hr1, ha1⟩ := ext_succ s a 98 _ hr
  obtain ⟨hr2, ha2⟩ := ext_succ s (a + 1) 32 _ hr1
  have ft := far_one (fun c => !Fo.bl c && c != 47 && c != 62) s a 98 32 _ hr (by decide) (by decide)
  have tk := fun w' h => take_any 51 _ says_name (by intro args w'; rfl) c s a vo (.slice none 0 0) w' hs (by omega) h
  rw [ft, ext_head s a 98 _ hr] at tk
  have cl : ∀ w', Calls Tryz.prog 50 #[.string ⟨#[98]⟩] w' fun e w'' => e = .returned (.string ⟨#[98]⟩) ∧ Below w'.heap.size w' w'' := fun w' => lower_any ⟨#[98]⟩ w' (by decide)
  have hlt1 : a + 1 < s.size := by omega
  have hat : s[a + 1]'hlt1 = 32 := byte_of s (a + 1) 32 _ hr1 hlt1
  have hol : ∀ k', vo.ownBlock = some k' → k' < w.heap.size := fun k' h => (ho.lt k' h).2
  have hr3' : (s.extract (a + 2) s.size).data.toList = 120 :: 61 :: 39 :: (En.enc l ++ 39 :: 62 :: z) := hr2
  have hdr : ∀ (m : List UInt8) (q : Nat) (r : List UInt8), (s.extract q s.size).data.toList = m ++ r → (s.extract (q + m.length) s.size).data.toList = r := by
    intro m
    induction m with
    | nil => intro q r h; exact h
    | cons y m ih =>
      intro q r h
      have h2 := ih (q + 1) r (ext_succ s q y _ h).1
      rw [List.length_cons, show q + (m.length + 1) = q + 1 + m.length by omega]
      exact h2
  obtain ⟨M, hM⟩ : ∃ M, M = (En.enc l).length := ⟨_, rfl⟩
  have hr9 : (s.extract (a + M + 6) s.size).data.toList = 62 :: z := by
    have h := hdr (120 :: 61 :: 39 :: (En.enc l ++ [39])) (a + 2) (62 :: z) (by rw [hr3']; simp)
    rw [hM]
    rw [show a + 2 + (120 :: 61 :: 39 :: (En.enc l ++ [39])).length = a + (En.enc l).length + 6 by simp; omega] at h
    exact h
  have ha9 := (ext_succ s (a + M + 6) 62 _ hr9).2
  have hlt2 : a + 2 < s.size := by omega
  have hlt3 : a + M + 6 < s.size := by omega
  have hat2 : s[a + 2]'hlt2 = 120 := byte_of s (a + 2) 120 _ hr3' hlt2
  have hat3 : s[a + M + 6]'hlt3 = 62 := byte_of s (a + M + 6) 62 _ hr9 hlt3
  have cat := fun w' hg' hc' ht' hbt hcb => attr_any c w.heap.size s (a + 2) vo (.slice none 0 0) ⟨#[98]⟩ l (62 :: z) w' hg' hl hs hc' hcc hbt hcb ht' hr3'
  have ctell := fun gg cap w' hc' ho' (hb : w.heap.size ≤ w'.heap.size) => tell_any c s (a + M + 7) vo (.slice none 0 0) n xs B 2 ⟨#[98]⟩ ⟨#[]⟩ (some ⟨gg, 0, none⟩) 1 cap false w' (by decide) (by omega) (by omega) hc' ho' hne
  have hcatlen : a + 2 + 3 + (En.enc l).length + 1 = a + M + 6 := by omega
  rw [hcatlen] at cat
  rw [← hM]
  have hw2 : 2 ≤ w.heap.size := by have := hc.lt; omega
  have HCAT := Lib.hid cat
  have HG := Lib.hid hg
  clear hdr hr3' hr9 hM hcatlen cat hg
  have i1 : (a : Int) + 1 < (s.size : Int) := by omega
  have i2 : decide ((a : Int) + 1 < (s.size : Int)) = true := by simpa using i1
  have i3 : (0 : Int) ≤ (a : Int) + 1 := by omega
  have c3 := hc.c3
  have hbA := below_alloc' w (.cells #[.int .i64 2, .string ⟨#[]⟩, .string ⟨#[]⟩, .slice none 0 0, .bool false] 77)
  have hrA := heap_alloc_new w (.cells #[.int .i64 2, .string ⟨#[]⟩, .string ⟨#[]⟩, .slice none 0 0, .bool false] 77)
  obtain ⟨W, hW⟩ : ∃ W, W = w.alloc (.cells #[.int .i64 2, .string ⟨#[]⟩, .string ⟨#[]⟩, .slice none 0 0, .bool false] 77) := ⟨_, rfl⟩
  rw [← hW] at hbA hrA
  have hcl := hc.lt
  have HC := Lib.hid (hc.below hbA)
  have HO := Lib.hid (own_below' ho hbA)
  have HW := Lib.hid hW
  have HB := Lib.hid hbA
  have HR := Lib.hid hrA
  have TK := Lib.hid tk
  have CL := Lib.hid cl
  have CT := Lib.hid ctell
  have HNE := Lib.hid hne
  clear hc ho hW hbA hrA tk cl ctell hr hr1 hr2 ft hne hB ha1 ha2 ha9
  go_enter Tryz.func34, Tryz.ntmps34
  go_wp2_with fail
  go_step3
  go_upto_region 2 with fail
  rw [← HW.out]
  clear c3
  go_wp2_with fail
  with_reducible refine (TK.out _ HC.out).mono ?_
  rintro e w2 ⟨rfl, hc2, hk2'⟩
  have HC2 := Lib.hid hc2
  have HK2 := Lib.hid hk2'
  clear hc2 hk2'
  go_wp2_with fail
  with_reducible refine (CL.out _).mono ?_
  rintro e w3 ⟨rfl, hb3⟩
  have hkW3 : Keep [c] W w3 := HK2.out.trans (Keep.of_below hb3)
  have hr3 := (hkW3.block _ (hlt HR.out) (by intro e; have e := List.mem_singleton.1 e; omega)).trans HR.out
  have hc3 := HC2.out.below hb3
  have t1 := cell_row hr3 1
  simp at t1
  have tf := free_of (k := 1) hr3
  have hk4 := keep_set w3 w.heap.size 1 (.string ⟨#[98]⟩)
  have hr4 : (w3.setCell ⟨w.heap.size, 1, none⟩ (.string ⟨#[98]⟩)).heap[w.heap.size]? = some (.cells #[.int .i64 2, .string ⟨#[98]⟩, .string ⟨#[]⟩, .slice none 0 0, .bool false] 77) := set_same hr3
  have hc4 : Cur (w3.setCell ⟨w.heap.size, 1, none⟩ (.string ⟨#[98]⟩)) c s (a + 1) vo (.slice none 0 0) := (hk4.block c hc3.lt (by intro e; have e := List.mem_singleton.1 e; omega)).trans hc3
  have hk5 : Keep [c] w (w3.setCell ⟨w.heap.size, 1, none⟩ (.string ⟨#[98]⟩)) := by
    have h1 := (Keep.of_below HB.out).trans hkW3
    refine ⟨h1.os, h1.tape, h1.output, by simp [World.setCell]; exact h1.size, fun j hj hl => ?_⟩
    rw [set_other (by omega)]
    exact h1.block j hj hl
  have ho4 : (w3.setCell ⟨w.heap.size, 1, none⟩ (.string ⟨#[98]⟩)).ownsRow B 77 5 vo n xs := by
    have h1 := hkW3.own HO.out (fun k' hk' hm => HNE.out (by rw [hk', List.mem_singleton.1 hm]))
    refine hk4.own h1 fun k' hk' hm => ?_
    have e1 := hol k' hk'
    have e2 := List.mem_singleton.1 hm
    omega
  obtain ⟨w4, hw4⟩ : ∃ w4, w4 = w3.setCell ⟨w.heap.size, 1, none⟩ (.string ⟨#[98]⟩) := ⟨_, rfl⟩
  rw [← hw4] at hr4 hc4 hk5 ho4
  have HW4 := Lib.hid hw4
  have HR4 := Lib.hid hr4
  have HC4 := Lib.hid hc4
  have HK5 := Lib.hid hk5
  have HO4 := Lib.hid ho4
  clear hb3 hkW3 hr3 hc3 hk4 hr4 hc4 hk5 ho4 hw4
  go_upto_region 3 with fail
  rw [← HW4.out]
  clear t1 tf
  have c0 := HC4.out.c0
  have c1 := HC4.out.c1
  have cf := HC4.out.fz 1
  have u0 : w4.cell? ⟨w.heap.size, 0, none⟩ = some (.int .i64 2) := cell_row HR4.out 0
  have u1 : w4.cell? ⟨w.heap.size, 1, none⟩ = some (.string ⟨#[98]⟩) := cell_row HR4.out 1
  have u2 : w4.cell? ⟨w.heap.size, 2, none⟩ = some (.string ⟨#[]⟩) := cell_row HR4.out 2
  have u3 : w4.cell? ⟨w.heap.size, 3, none⟩ = some (.slice none 0 0) := cell_row HR4.out 3
  have u4 : w4.cell? ⟨w.heap.size, 4, none⟩ = some (.bool false) := cell_row HR4.out 4
  have uf := free_of (k := 4) HR4.out
  have hne1 : c ≠ w.heap.size := by omega
  have hne2 : w.heap.size ≠ c := by omega
  have hbl32 := (blank_any 32 : ∀ w, _)
  have hbl120 := (blank_any 120 : ∀ w, _)
  rw [show Fo.bl 32 = true by decide] at hbl32
  have hbl32 : ∀ w, Calls Tryz.prog 52 #[.int .u8 32] w fun e w' => e = .returned (.bool true) ∧ w' = w := hbl32
  rw [show Fo.bl 120 = false by decide] at hbl120
  have hbl120 : ∀ w, Calls Tryz.prog 52 #[.int .u8 120] w fun e w' => e = .returned (.bool false) ∧ w' = w := hbl120
  have HBL32 := Lib.hid hbl32
  have HBL120 := Lib.hid hbl120
  clear hbl32 hbl120
  go_wp2_with fail
  go_step3
  go_wp2_with fail
  refine wp_loop_rounds 3 ?_
  rw [rounds_succ]
  go_wp2_with fail
  go_quiet (fail)
  obtain ⟨q1, rfl⟩ : ∃ q1, q1 = nq := ⟨_, rfl⟩
  go_wp2_with fail
  go_quiet (fail)
  obtain ⟨q2, rfl⟩ : ∃ q2, q2 = nq := ⟨_, rfl⟩
  go_wp2_with fail
  with_reducible refine (HBL32.out _).mono ?_
  rintro e w5 ⟨rfl, hw5⟩
  subst hw5
  go_wp2_with fail
  have hcN := HC4.out.below (below_drewN' w4 (q1 + q2))
  have hoN := own_below' HO4.out (below_drewN' w4 (q1 + q2))
  have htN : Tb (w4.drewN (q1 + q2)) w.heap.size ⟨#[98]⟩ (.slice none 0 0) := ((below_drewN' w4 (q1 + q2)).block _ (hlt HR4.out)).trans HR4.out
  obtain ⟨m1, m2⟩ := hcN.move (a + 2)
  rw [show ((a + 2 : Nat) : Int) = (a : Int) + 1 + 1 by omega] at m1 m2
  have ht5 := htN.keep m2 hne1
  have ho5 := m2.own hoN (fun k' hk' hm => HNE.out (by rw [hk', List.mem_singleton.1 hm]))
  have hkw5 : Keep [c] w ((w4.drewN (q1 + q2)).setCell ⟨c, 1, none⟩ (.int .i64 ((a : Int) + 1 + 1))) := (HK5.out.trans (Keep.of_below (below_drewN' w4 (q1 + q2)))).trans m2
  obtain ⟨w5, hw5⟩ : ∃ w5, w5 = (w4.drewN (q1 + q2)).setCell ⟨c, 1, none⟩ (.int .i64 ((a : Int) + 1 + 1)) := ⟨_, rfl⟩
  rw [← hw5] at m1 ht5 ho5 hkw5 ⊢
  have v0 := m1.c0
  have v1 : w5.cell? ⟨c, 1, none⟩ = some (.int .i64 ((a : Int) + 1 + 1)) := by
    have h := m1.c1
    rw [show ((a + 2 : Nat) : Int) = (a : Int) + 1 + 1 by omega] at h
    exact h
  have HC5 := Lib.hid m1
  have HT5 := Lib.hid ht5
  have HO5 := Lib.hid ho5
  have HKW5 := Lib.hid hkw5
  have n2a : (a : Int) + 1 + 1 < (s.size : Int) := by omega
  have n2b : decide ((a : Int) + 1 + 1 < (s.size : Int)) = true := by simpa using n2a
  have n2c : (0 : Int) ≤ (a : Int) + 1 + 1 := by omega
  have hat2' : s[a + 1 + 1]'hlt2 = 120 := hat2
  clear hcN hoN htN m1 m2 ht5 ho5 hkw5 hw5 c0 c1 cf uf HC4 HO4 HR4 HK5 HB HC HO HR HC2 HK2
  rw [rounds_succ]
  go_wp2_with fail
  go_quiet (fail)
  obtain ⟨q3, rfl⟩ : ∃ q3, q3 = nq := ⟨_, rfl⟩
  go_wp2_with fail
  go_quiet (fail)
  obtain ⟨q4, rfl⟩ : ∃ q4, q4 = nq := ⟨_, rfl⟩
  go_wp2_with fail
  with_reducible refine (HBL120.out _).mono ?_
  rintro e w6 ⟨rfl, hw6⟩
  subst hw6
  go_wp2_with fail
  have hbq := below_drewN' w5 (q3 + q4)
  have hgn : GN (w5.drewN (q3 + q4)) := (HKW5.out.trans (Keep.of_below hbq)).gn HG.out (fun k hk => by rw [List.mem_singleton.1 hk]; exact hcc)
  with_reducible refine (HCAT.out _ hgn (HC5.out.below hbq) (HT5.out.below hbq) hw2 hne1).mono ?_
  rintro e w7 ⟨rfl, hc7, ⟨gg, cap, ht7, hown7⟩, hk7⟩
  have hsz5 : w.heap.size ≤ (w5.drewN (q3 + q4)).heap.size := HKW5.out.size
  have ho7 := hk7.own (own_below' HO5.out hbq) (fun k' hk' hm => by
    rcases List.mem_cons.1 hm with e | e
    · exact HNE.out (by rw [hk', e])
    · have e1 := hol k' hk'; have e2 := List.mem_singleton.1 e; omega)
  have hkc7 : Keep [c] w w7 := by
    have h1 := HKW5.out.trans (Keep.of_below hbq)
    refine ⟨hk7.os.trans h1.os, hk7.tape.trans h1.tape, hk7.output.trans h1.output, Nat.le_trans h1.size hk7.size, fun j hj hl => ?_⟩
    rw [hk7.block j (Nat.lt_of_lt_of_le hj h1.size) (by
      intro e
      rcases List.mem_cons.1 e with e | e
      · exact hl (by rw [e]; exact List.mem_singleton.2 rfl)
      · have e2 := List.mem_singleton.1 e
        omega)]
    exact h1.block j hj hl
  have HC7 := Lib.hid hc7
  have HT7 := Lib.hid ht7
  have HO7 := Lib.hid ho7
  have HW7 := Lib.hid hown7
  have HK7 := Lib.hid hkc7
  have y0 := hc7.c0
  have y1 := hc7.c1
  have yf := hc7.fz 1
  have n3a : ((a + M + 6 : Nat) : Int) < (s.size : Int) := by omega
  have n3b : decide (((a + M + 6 : Nat) : Int) < (s.size : Int)) = true := by simpa using n3a
  have n3c : (0 : Int) ≤ ((a + M + 6 : Nat) : Int) := by omega
  obtain ⟨p, hp⟩ : ∃ p, p = a + M + 6 := ⟨_, rfl⟩
  have hp7 : a + M + 7 = p + 1 := by omega
  have hltp : p < s.size := by omega
  have hatp : s[p]'hltp = 62 := by subst hp; exact hat3
  rw [← hp] at y1 n3a n3b n3c
  have n3d : (p : Int) < (s.size : Int) := n3a
  have HP := Lib.hid hp
  have HP7 := Lib.hid hp7
  clear hc7 ht7 ho7 hown7 hkc7 hk7 hgn hbq v0 v1 hat hat2 hat2' hat3 hp hp7
  go_wp2_with fail
  rw [rounds_succ]
  go_wp2_with fail
  have u0 : w7.cell? ⟨w.heap.size, 0, none⟩ = some (.int .i64 2) := cell_row HT7.out 0
  have u1 : w7.cell? ⟨w.heap.size, 1, none⟩ = some (.string ⟨#[98]⟩) := cell_row HT7.out 1
  have u2 : w7.cell? ⟨w.heap.size, 2, none⟩ = some (.string ⟨#[]⟩) := cell_row HT7.out 2
  have u3 : w7.cell? ⟨w.heap.size, 3, none⟩ = some (.slice (some ⟨gg, 0, none⟩) 1 cap) := cell_row HT7.out 3
  have u4 : w7.cell? ⟨w.heap.size, 4, none⟩ = some (.bool false) := cell_row HT7.out 4
  have uf := free_of (k := 4) HT7.out
  go_quiet (fail)
  obtain ⟨q5, rfl⟩ : ∃ q5, q5 = nq := ⟨_, rfl⟩
  go_wp2_with fail
  go_quiet (fail)
  obtain ⟨q6, rfl⟩ : ∃ q6, q6 = nq := ⟨_, rfl⟩
  go_wp2_with fail
  have fin : ∀ N, Cur (((w7.drewN N).setCell ⟨c, 1, none⟩ (.int .i64 ((p : Int) + 1))).setCell ⟨w.heap.size, 4, none⟩ (.bool false)) c s (a + M + 7) vo (.slice none 0 0) ∧ (((w7.drewN N).setCell ⟨c, 1, none⟩ (.int .i64 ((p : Int) + 1))).setCell ⟨w.heap.size, 4, none⟩ (.bool false)).ownsRow B 77 5 vo n xs ∧ Keep [c] w (((w7.drewN N).setCell ⟨c, 1, none⟩ (.int .i64 ((p : Int) + 1))).setCell ⟨w.heap.size, 4, none⟩ (.bool false)) ∧ (((w7.drewN N).setCell ⟨c, 1, none⟩ (.int .i64 ((p : Int) + 1))).setCell ⟨w.heap.size, 4, none⟩ (.bool false)).cell? ⟨w.heap.size, 1, none⟩ = some (.string ⟨#[98]⟩) ∧ (((w7.drewN N).setCell ⟨c, 1, none⟩ (.int .i64 ((p : Int) + 1))).setCell ⟨w.heap.size, 4, none⟩ (.bool false)).heap[gg]? = w7.heap[gg]? := by
    intro N
    have hcN := HC7.out.below (below_drewN' w7 N)
    have hoN := own_below' HO7.out (below_drewN' w7 N)
    have hrN := ((below_drewN' w7 N).block _ (hlt HT7.out)).trans HT7.out
    obtain ⟨m1, m2⟩ := hcN.move (a + M + 7)
    rw [show ((a + M + 7 : Nat) : Int) = (p : Int) + 1 by have := HP7.out; omega] at m1 m2
    have hr5 := (m2.block _ (hlt hrN) (by intro e; have e := List.mem_singleton.1 e; omega)).trans hrN
    have ho5 := m2.own hoN (fun k' hk' hm => HNE.out (by rw [hk', List.mem_singleton.1 hm]))
    have hk6 := keep_set ((w7.drewN N).setCell ⟨c, 1, none⟩ (.int .i64 ((p : Int) + 1))) w.heap.size 4 (.bool false)
    have hr6 := set_same (k := 4) (u := .bool false) hr5
    have hkw : Keep [c] w ((w7.drewN N).setCell ⟨c, 1, none⟩ (.int .i64 ((p : Int) + 1))) := (HK7.out.trans (Keep.of_below (below_drewN' w7 N))).trans m2
    obtain ⟨curg, hg7, hgB, _⟩ := own_block HW7.out
    have hgT : gg ≠ w.heap.size := by
      intro e
      rw [e] at hg7
      rw [HT7.out] at hg7
      injection hg7 with hg7
      injection hg7 with _ hg7
      exact absurd hg7 (by decide)
    refine ⟨(hk6.block c m1.lt (by intro e; have e := List.mem_singleton.1 e; omega)).trans m1, hk6.own ho5 (fun k' hk' hm => by have e1 := hol k' hk'; have e2 := List.mem_singleton.1 hm; omega), ?_, cell_row hr6 1, ?_⟩
    · refine ⟨hkw.os, hkw.tape, hkw.output, by simp [World.setCell]; exact HK7.out.size, fun j hj hl => ?_⟩
      rw [set_other (by omega)]
      exact hkw.block j hj hl
    · rw [set_other hgT, set_other (by omega)]
      exact (below_drewN' w7 N).block gg (hlt hg7)
  refine (CT.out gg cap _ (fin _).1 (fin _).2.1 (fin _).2.2.1.size).mono ?_
  rintro e w8 ⟨rfl, vo', hc8, ho8, hk8⟩
  have notin : ∀ j, w.heap.size ≤ j → j ∉ c :: ob vo := by
    intro j hj e
    rcases List.mem_cons.1 e with e | e
    · omega
    · unfold ob at e
      split at e
      · rename_i k' hk'
        have e1 := hol k' hk'
        have e2 : j = k' := List.mem_singleton.1 e
        omega
      · cases e
  have g1 := (hk8.cell (p := ⟨w.heap.size, 1, none⟩) (block_lt_of_cell (fin _).2.2.2.1) (notin _ (Nat.le_refl _))).trans (fin _).2.2.2.1
  have hats : Ats w8 (.slice (some ⟨gg, 0, none⟩) 1 cap) (some (⟨#[120]⟩, ⟨l.toArray⟩)) := by
    obtain ⟨curg, hg7, hgB, hgc, _, hgx⟩ := own_block HW7.out
    have h1 := (fin (q5 + q6)).2.2.2.2
    have h2 : (((w7.drewN (q5 + q6)).setCell ⟨c, 1, none⟩ (.int .i64 ((p : Int) + 1))).setCell ⟨w.heap.size, 4, none⟩ (.bool false)).heap[gg]? = some (.cells curg 63 (0, 0)) := h1.trans hg7
    exact ⟨gg, cap, curg, _, rfl, hgc, (hk8.block gg (hlt h2) (notin gg (by omega))).trans h2, hgx 0 _ rfl, hgx 1 _ rfl⟩
  have HK8 := Lib.hid (((fin _).2.2.1.mono (fun j hj => by rw [List.mem_singleton.1 hj]; exact List.mem_cons_self ..)).trans hk8)
  have HC8 := Lib.hid hc8
  have HO8 := Lib.hid ho8
  have HATS := Lib.hid hats
  clear fin hc8 ho8 hk8 hats notin u0 u1 u2 u3 u4 uf y0 y1 yf
  go_wp2_with fail
  with_reducible refine (raw_b _).mono ?_
  rintro e w9 ⟨rfl, hw9⟩
  obtain rfl : w8 = w9 := hw9.symm
  go_wp2_with fail
  rw [Exit.noGoto_ret]
  exact bodyPost_ret (results_none rfl _ _ _) rfl ⟨rfl, vo', gg, cap, HC8.out, HO8.out, HATS.out, HK8.out⟩
end Go.Proofs.YtbhnfnbnngclmaaGreatDoor
/- sign. -/
namespace Go.Proofs.YtbhnfnbnngclmaaGreatDoor
open Go.RowKit Go.Sort Go.BigFrame
set_option maxRecDepth 100000

/-- What tag leaves: a post that says nothing of the world that it began in but the frame. -/
theorem at_of (S : ByteArray) (j : Nat) (y : UInt8) (h : S.data.toList[j]? = some y) : ∃ hl : j < S.size, S[j]'hl = y := by
  have h1 : j < S.data.toList.length := (List.getElem?_eq_some_iff.1 h).1
  have hl : j < S.size := by rw [← size_len]; exact h1
  refine ⟨hl, ?_⟩
  rw [byte_at S j hl] at h
  injection h
set_option maxHeartbeats 4000000 in
/-- sign, at the beginning of an element. -/
theorem sign_start (c : Nat) (s : ByteArray) (a : Nat) (vo : Value) (w : World) (R : Ending → World → Prop) (hs : s.size ≤ 1000000) (hc : Cur w c s a vo (.slice none 0 0)) (y : List UInt8) (hr : (s.extract a s.size).data.toList = 60 :: 98 :: y)
    (ht : ∀ w', Cur w' c s (a + 1) vo (.slice none 0 0) → Keep [c] w w' → Calls Tryz.prog 34 #[.pointer (some ⟨c, 0, none⟩), .int .i64 2, .int .i64 a] w' fun e w'' => e = .returned (.tuple #[]) ∧ R e w'') :
    Calls Tryz.prog 19 #[.pointer (some ⟨c, 0, none⟩)] w fun e w' => e = .returned (.tuple #[]) ∧ R e w' := by
  obtain ⟨hr1, ha1⟩ := ext_succ s a 60 _ hr
  have cl := fun w' h => left_any c s a vo (.slice none 0 0) w' (by omega) h
  obtain ⟨E, hE⟩ : ∃ E, E = s.extract a s.size := ⟨_, rfl⟩
  rw [← hE] at cl hr
  obtain ⟨S, hS⟩ : ∃ S, S = E ++ ⟨#[32, 32]⟩ := ⟨_, rfl⟩
  have hSl : S.data.toList = 60 :: 98 :: (y ++ [32, 32]) := by rw [hS, cat_data, hr]; rfl
  obtain ⟨hl1, hx1⟩ := at_of S 1 98 (by rw [hSl]; rfl)
  have i1 : (1 : Int) < (S.size : Int) := by omega
  have hS' : E ++ ⟨#[32, 32]⟩ = S := hS.symm
  have hEs : E.size ≤ 1000000 := by rw [hE]; exact Nat.le_trans (extract_le _ _ _) hs
  have c1 := hc.c1
  have HC := Lib.hid hc
  have CL := Lib.hid cl
  have HT := Lib.hid ht
  clear hc cl ht hr hr1 hE hS hSl
  go_enter Tryz.func19, Tryz.ntmps19
  go_wp2_with fail
  with_reducible refine (CL.out _ HC.out).mono ?_
  rintro e w1 ⟨rfl, hb1⟩
  have hc1 := HC.out.below hb1
  have d1 := hc1.c1
  have df := hc1.fz 1
  obtain ⟨m1, m2⟩ := hc1.move (a + 1)
  rw [show ((a + 1 : Nat) : Int) = (a : Int) + 1 from rfl] at m1 m2
  have HC2 := Lib.hid m1
  have HK2 := Lib.hid ((Keep.of_below hb1).trans m2)
  clear hb1 hc1 m1 m2 c1
  go_wp2_with fail
  with_reducible refine (letter_b _).mono ?_
  rintro e w2 ⟨rfl, hw2⟩
  obtain rfl : w1 = w2 := hw2.symm
  go_wp2_with fail
  with_reducible refine (HT.out _ HC2.out HK2.out).mono ?_
  rintro e w3 ⟨rfl, hR⟩
  have HR := Lib.hid hR
  clear hR
  go_wp2_with fail
  go_end0
  exact ⟨rfl, HR.out⟩
set_option maxHeartbeats 4000000 in
/-- sign, at the end of an element. -/
theorem sign_end (c : Nat) (s : ByteArray) (a : Nat) (vo : Value) (w : World) (R : Ending → World → Prop) (hs : s.size ≤ 1000000) (hc : Cur w c s a vo (.slice none 0 0)) (y : List UInt8) (hr : (s.extract a s.size).data.toList = 60 :: 47 :: 98 :: y)
    (ht : ∀ w', Cur w' c s (a + 2) vo (.slice none 0 0) → Keep [c] w w' → Calls Tryz.prog 34 #[.pointer (some ⟨c, 0, none⟩), .int .i64 3, .int .i64 a] w' fun e w'' => e = .returned (.tuple #[]) ∧ R e w'') :
    Calls Tryz.prog 19 #[.pointer (some ⟨c, 0, none⟩)] w fun e w' => e = .returned (.tuple #[]) ∧ R e w' := by
  obtain ⟨hr1, ha1⟩ := ext_succ s a 60 _ hr
  obtain ⟨hr2, ha2⟩ := ext_succ s (a + 1) 47 _ hr1
  have cl := fun w' h => left_any c s a vo (.slice none 0 0) w' (by omega) h
  obtain ⟨E, hE⟩ : ∃ E, E = s.extract a s.size := ⟨_, rfl⟩
  rw [← hE] at cl hr
  obtain ⟨S, hS⟩ : ∃ S, S = E ++ ⟨#[32, 32]⟩ := ⟨_, rfl⟩
  have hSl : S.data.toList = 60 :: 47 :: 98 :: (y ++ [32, 32]) := by rw [hS, cat_data, hr]; rfl
  obtain ⟨hl1, hx1⟩ := at_of S 1 47 (by rw [hSl]; rfl)
  obtain ⟨hl2, hx2⟩ := at_of S 2 98 (by rw [hSl]; rfl)
  have i1 : (1 : Int) < (S.size : Int) := by omega
  have i2 : (2 : Int) < (S.size : Int) := by omega
  have hS' : E ++ ⟨#[32, 32]⟩ = S := hS.symm
  have hEs : E.size ≤ 1000000 := by rw [hE]; exact Nat.le_trans (extract_le _ _ _) hs
  have c1 := hc.c1
  have HC := Lib.hid hc
  have CL := Lib.hid cl
  have HT := Lib.hid ht
  clear hc cl ht hr hr1 hr2 hE hS hSl
  go_enter Tryz.func19, Tryz.ntmps19
  go_wp2_with fail
  with_reducible refine (CL.out _ HC.out).mono ?_
  rintro e w1 ⟨rfl, hb1⟩
  have hc1 := HC.out.below hb1
  have d1 := hc1.c1
  have df := hc1.fz 1
  obtain ⟨m1, m2⟩ := hc1.move (a + 2)
  rw [show ((a + 2 : Nat) : Int) = (a : Int) + 2 from rfl] at m1 m2
  have HC2 := Lib.hid m1
  have HK2 := Lib.hid ((Keep.of_below hb1).trans m2)
  clear hb1 hc1 m1 m2 c1
  go_wp2_with fail
  with_reducible refine (letter_slash _).mono ?_
  rintro e w2 ⟨rfl, hw2⟩
  obtain rfl : w1 = w2 := hw2.symm
  go_wp2_with fail
  with_reducible refine (letter_b _).mono ?_
  rintro e w2 ⟨rfl, hw2⟩
  obtain rfl : w1 = w2 := hw2.symm
  go_wp2_with fail
  with_reducible refine (HT.out _ HC2.out HK2.out).mono ?_
  rintro e w3 ⟨rfl, hR⟩
  have HR := Lib.hid hR
  clear hR
  go_wp2_with fail
  go_end0
  exact ⟨rfl, HR.out⟩
end Go.Proofs.YtbhnfnbnngclmaaGreatDoor
