/- Make. -/
import Derived.Test.YtbhnfnbnngclmaaGreatDoorDH
import Derived.StillTailTactics
namespace Go.Proofs.YtbhnfnbnngclmaaGreatDoor
open Go.RowKit Go.Sort Go.BigFrame Go.Maps Go.WideMaps
set_option maxRecDepth 100000

/-- The call's own three blocks: the document, the node, the result. -/
structure Three (w w' : World) (s : Value) (row : List Value) : Prop where
  b0 : w'.heap[w.heap.size]? = some (.cells #[s] 26)
  b1 : w'.heap[w.heap.size + 1]? = some (.cells row.toArray 37)
  b2 : w'.heap[w.heap.size + 2]? = some (.cells #[.slice none 0 0] 26)
  below : Below w.heap.size w w'
theorem Three.lt {w w' : World} {s : Value} {row : List Value} (h : Three w w' s row) : w.heap.size + 2 < w'.heap.size := hlt h.b2
theorem Three.on {w w' w'' : World} {s : Value} {row : List Value} (h : Three w w' s row) (hb : Below w'.heap.size w' w'') : Three w w'' s row := by
  have := h.lt
  exact ⟨(hb.block _ (by omega)).trans h.b0, (hb.block _ (by omega)).trans h.b1, (hb.block _ (by omega)).trans h.b2, h.below.trans (hb.mono h.below.size)⟩
theorem Three.c0 {w w' : World} {s : Value} {row : List Value} (h : Three w w' s row) : w'.cell? ⟨w.heap.size, 0, none⟩ = some s := cell_row h.b0 0
theorem Three.c1 {w w' : World} {s : Value} {row : List Value} (h : Three w w' s row) (j : Nat) (u : Value) (hu : row[j]? = some u) : w'.cell? ⟨w.heap.size + 1, j, none⟩ = some u := by
  rw [cell_row h.b1]
  simpa using hu
theorem Three.start (w : World) (s : Value) (row : List Value) : Three w (((w.alloc (.cells #[s] 26)).alloc (.cells row.toArray 37)).alloc (.cells #[.slice none 0 0] 26)) s row := by
  have b1 := below_alloc' w (.cells #[s] 26)
  have r1 := heap_alloc_new w (.cells #[s] 26)
  have s1 : (w.alloc (.cells #[s] 26)).heap.size = w.heap.size + 1 := by simp
  generalize w.alloc (.cells #[s] 26) = W1 at *
  have b2 := below_alloc' W1 (.cells row.toArray 37)
  have r2 := heap_alloc_new W1 (.cells row.toArray 37)
  have s2 : (W1.alloc (.cells row.toArray 37)).heap.size = W1.heap.size + 1 := by simp
  generalize W1.alloc (.cells row.toArray 37) = W2 at *
  have b3 := below_alloc' W2 (.cells #[.slice none 0 0] 26)
  have r3 := heap_alloc_new W2 (.cells #[.slice none 0 0] 26)
  generalize W2.alloc (.cells #[.slice none 0 0] 26) = W3 at *
  rw [s1] at r2 s2
  rw [s2] at r3
  exact ⟨(b3.block _ (by omega)).trans ((b2.block _ (by omega)).trans r1), (b3.block _ (by omega)).trans r2, r3, nx (nx b1 b2) b3⟩
/-- The document's slice turns. -/
theorem Three.set0 {w w' : World} {s : Value} {row : List Value} (h : Three w w' s row) (u : Value) : Three w (w'.setCell ⟨w.heap.size, 0, none⟩ u) u row :=
  ⟨set_same h.b0, (set_other (by omega)).trans h.b1, (set_other (by omega)).trans h.b2, h.below.setCell (by exact Nat.le_refl _) _⟩
theorem Three.set1 {w w' : World} {s : Value} {row : List Value} (h : Three w w' s row) (k : Nat) (u : Value) : Three w (w'.setCell ⟨w.heap.size + 1, k, none⟩ u) s (row.set k u) :=
  ⟨(set_other (by omega)).trans h.b0, by rw [set_same h.b1]; simp, (set_other (by omega)).trans h.b2, h.below.setCell (by show w.heap.size ≤ w.heap.size + 1; omega) _⟩
theorem Three.grown {w w6 w7 : World} {s : Value} {row : List Value} {o : Obj} {g : Nat} (h : Three w w6 s row) (hk : (w6.alloc o).grownBy w7 (some g)) (hg : w.heap.size + 2 < g) : Three w w7 s row := by
  have hl := h.lt
  have h1 : ∀ k, k ≤ w.heap.size + 2 → w7.heap[k]? = w6.heap[k]? := fun k hk' => by
    have hs : (w6.alloc o).heap.size = w6.heap.size + 1 := by simp
    rw [hk.block k (by omega) (by intro e; injection e with e; omega)]
    exact (below_alloc' w6 o).block k (by omega)
  exact ⟨(h1 _ (by omega)).trans h.b0, (h1 _ (by omega)).trans h.b1, (h1 _ (by omega)).trans h.b2, (h.below.alloc h.below.size o).grown hk (by simp; omega) (fun j hj => by injection hj with hj; omega)⟩
theorem RowN.below {w w' : World} {l : List Kd} {m : Nat} {xs : List Value} (h : RowN w l m xs) (hb : Below w.heap.size w w') : RowN w' l m xs := fun i x hx => by
  obtain ⟨va, vk, h1, h2, h3⟩ := h i x hx
  exact ⟨va, vk, h1.below hb, h2.below hb, h3⟩
/-- What Make hands back. -/
def OutMake (l : List Kd) (x : Kd) (w : World) (e : Ending) (w' : World) : Prop :=
  ∃ g c, e = .returned (.tuple #[.agg #[.slice (some ⟨g, 0, none⟩) (l.length + 1) c], .int .i64 l.length, .int .i64 0]) ∧ OwnN w' w.heap.size g c (l ++ [x]) l.length ∧ Below w.heap.size w w'
set_option maxHeartbeats 4000000 in
theorem make_any (l : List Kd) (x : Kd) (v va vk : Value) (pa : Int) (w : World) (hd : Doc w v l l.length) (hg : Good l l.length) (ha : Ats w va x.ats) (hx : x.ok) (hx1 : (x.num == 1) = false) (hvk : ∃ A n c, vk = .slice A n c) :
    Calls Tryz.prog 97 #[v, .agg (x.cells va pa vk).toArray] w (OutMake l x w) := by
  obtain ⟨kA, kn, kc, rfl⟩ := hvk
  obtain ⟨aA, an, ac, rfl⟩ := ha.form
  have cc := fun w' h => check_any l l.length v w' h hg
  have cm := fun w' h => may_any x hx (.slice aA an ac) pa (.slice kA kn kc) w' h
  have cp := fun v' w' h => copied_any l l.length v' w' h hg.m1 (by have := hg.len; omega)
  obtain ⟨g, cap, rfl, hcap, hn⟩ := hd
  obtain ⟨n, hnl⟩ : ∃ n, n = l.length := ⟨_, rfl⟩
  have hn1 : n ≤ 100 := by have := hg.len; omega
  have ht := Three.start w (.slice (some ⟨g, 0, none⟩) n cap) (x.cells (.slice aA an ac) pa (.slice kA kn kc))
  obtain ⟨W, hW⟩ : ∃ W, W = ((w.alloc (.cells #[.slice (some ⟨g, 0, none⟩) n cap] 26)).alloc (.cells (x.cells (.slice aA an ac) pa (.slice kA kn kc)).toArray 37)).alloc (.cells #[.slice none 0 0] 26) := ⟨_, rfl⟩
  rw [← hW] at ht
  have hbW : Below w.heap.size w W := ht.below
  have hD : ∀ w', Below w.heap.size w w' → Doc w' (.agg #[.slice (some ⟨g, 0, none⟩) n cap]) l n := fun w' hb => ⟨g, cap, by rw [hnl], by omega, by rw [hnl]; exact hn.below hb⟩
  have haW : ∀ w', Below w.heap.size w w' → Ats w' (.slice aA an ac) x.ats := fun w' hb => ha.below hb
  obtain ⟨i0, hi, hz0, hz1, hz2⟩ := info_parts clonen_row
  have HI := Lib.hid hi
  rw [← hnl] at cc cp ⊢
  unfold Kd.cells at cm hW ⊢
  have x0 := ht.c0
  have n1 : decide ((300 : Int) ≤ (n : Int)) = false := by simp; omega
  have n2 : decide (300 ≤ n) = false := by simp; omega
  have HW := Lib.hid hW
  have HT := Lib.hid ht
  have HD := Lib.hid hD
  have HA := Lib.hid haW
  have HC := Lib.hid cc
  have HM := Lib.hid cm
  have HP := Lib.hid cp
  have HNL := Lib.hid hnl
  have HG := Lib.hid hg
  clear hi hW ht hbW hD haW cc cm cp hnl hn hcap hg ha
  go_enter Tryz.func97, Tryz.ntmps97
  go_upto_region 1 with fail
  rw [← HW.out]
  go_wp2_with fail
  with_reducible refine (HC.out _ (HD.out _ HT.out.below)).mono ?_
  rintro e w1 ⟨rfl, hb1⟩
  have ht1 := HT.out.on hb1
  have y0 := ht1.c0
  have y10 := ht1.c1 0 _ rfl
  have y11 := ht1.c1 1 _ rfl
  have y12 := ht1.c1 2 _ rfl
  have y13 := ht1.c1 3 _ rfl
  have y14 := ht1.c1 4 _ rfl
  have y15 := ht1.c1 5 _ rfl
  have y16 := ht1.c1 6 _ rfl
  have y17 := ht1.c1 7 _ rfl
  have HT1 := Lib.hid ht1
  clear x0 hb1 ht1
  go_wp2_with fail
  with_reducible refine (HM.out _ (HA.out _ HT1.out.below)).mono ?_
  rintro e w2 ⟨rfl, hb2⟩
  have ht2 := HT1.out.on hb2
  have z0 := ht2.c0
  have z10 := ht2.c1 0 _ rfl
  have z13 := ht2.c1 3 _ rfl
  have HT2 := Lib.hid ht2
  clear y0 y10 y11 y12 y13 y14 y15 y16 y17 hb2 ht2
  go_wp2_with fail
  with_reducible refine (cloneats_any _ _ _ (HA.out _ HT2.out.below)).mono ?_
  rintro e w3 ⟨bA, bn, bc, rfl, hats, hb3⟩
  have ht3 := HT2.out.on hb3
  have u0 := ht3.c0
  have u3 := ht3.c1 3 _ rfl
  have u4 := ht3.c1 4 _ rfl
  have u5 := ht3.c1 5 _ rfl
  have f3 := free_of (k := 3) ht3.b1
  have f4 := free_of (k := 4) ht3.b1
  have f5 := free_of (k := 5) ht3.b1
  have ht4 : Three w (((w3.setCell ⟨w.heap.size + 1, 4, none⟩ (.int .i64 (-1))).setCell ⟨w.heap.size + 1, 5, none⟩ (.slice none 0 0)).setCell ⟨w.heap.size + 1, 3, none⟩ (.slice bA bn bc)) (.slice (some ⟨g, 0, none⟩) n cap) (x.cells (.slice bA bn bc) (-1) (.slice none 0 0)) := ((ht3.set1 4 (.int .i64 (-1))).set1 5 (.slice none 0 0)).set1 3 (.slice bA bn bc)
  have hats4 : Ats (((w3.setCell ⟨w.heap.size + 1, 4, none⟩ (.int .i64 (-1))).setCell ⟨w.heap.size + 1, 5, none⟩ (.slice none 0 0)).setCell ⟨w.heap.size + 1, 3, none⟩ (.slice bA bn bc)) (.slice bA bn bc) x.ats := ((hats.set ht3.b1).set (ht3.set1 4 (.int .i64 (-1))).b1).set ((ht3.set1 4 (.int .i64 (-1))).set1 5 (.slice none 0 0)).b1
  obtain ⟨w4, hw4⟩ : ∃ w4, w4 = ((w3.setCell ⟨w.heap.size + 1, 4, none⟩ (.int .i64 (-1))).setCell ⟨w.heap.size + 1, 5, none⟩ (.slice none 0 0)).setCell ⟨w.heap.size + 1, 3, none⟩ (.slice bA bn bc) := ⟨_, rfl⟩
  rw [← hw4] at ht4 hats4
  have HT4 := Lib.hid ht4
  have HA4 := Lib.hid hats4
  have HW4 := Lib.hid hw4
  have HT3 := Lib.hid ht3
  clear ht4 hats4 hw4 ht3 hats hb3 z0 z10 z13
  go_upto_region 10 with fail
  rw [← HW4.out]
  have q0 := HT4.out.c0
  clear u0 u3 u4 u5 f3 f4 f5
  go_wp2_with fail
  with_reducible refine (HP.out _ _ (HD.out _ HT4.out.below)).mono ?_
  rintro e w5 ⟨g', c', he, ho, hb5⟩
  rw [← HNL.out] at he
  subst he
  have ht5 := HT4.out.on hb5
  have p0 := ht5.c0
  have f0 := free_of (k := 0) ht5.b0
  have ht6 := ht5.set0 (.slice (some ⟨g', 0, none⟩) n c')
  have hkp := keep_set w5 w.heap.size 0 (.slice (some ⟨g', 0, none⟩) n c')
  have ho6 := ho.keep hkp ht5.b0
  have ha6 := (HA4.out.below hb5).keep hkp ht5.b0
  obtain ⟨w6, hw6⟩ : ∃ w6, w6 = w5.setCell ⟨w.heap.size, 0, none⟩ (.slice (some ⟨g', 0, none⟩) n c') := ⟨_, rfl⟩
  rw [← hw6] at ht6 ho6 ha6
  have HW6 := Lib.hid hw6
  have hsz6 : w4.heap.size ≤ w6.heap.size := by rw [hw6]; simp [World.setCell]; exact hb5.size
  clear hw6 ho hkp ht5
  go_upto_region 11 with fail
  rw [← HW6.out]
  clear p0 f0 q0
  have r0 := ht6.c0
  have r10 := ht6.c1 0 _ rfl
  have r11 := ht6.c1 1 _ rfl
  have r12 := ht6.c1 2 _ rfl
  have r13 := ht6.c1 3 _ rfl
  have r14 := ht6.c1 4 _ rfl
  have r15 := ht6.c1 5 _ rfl
  have r16 := ht6.c1 6 _ rfl
  have r17 := ht6.c1 7 _ rfl
  have ho6' : OwnN w6 w4.heap.size g' c' l l.length := by rw [← HNL.out]; exact ho6
  obtain ⟨xs, hown, hrow⟩ := ho6'.row
  have hxl : xs.length = l.length * 8 := hown.1
  have HXL := Lib.hid hxl
  have hgb : w.heap.size + 2 < g' := by obtain ⟨_, _, h, _⟩ := ho6; have := HT4.out.lt; omega
  have HGB := Lib.hid hgb
  rw [← HNL.out] at hown
  have HOW := Lib.hid hown
  have HROW := Lib.hid hrow
  have HO6 := Lib.hid ho6'
  have HA6 := Lib.hid ha6
  have HT6 := Lib.hid ht6
  clear hown hrow ho6 ho6' ha6 ht6 hxl hgb
  go_wp2_with (at_builtin; refine wpList_append_lies _ rfl (.tmp 40) (.tmp 42) 24 rfl w4.heap.size 37 i0 _ 8 _ Tryz.underlying24 HI.out hz0 hz1 hz2 rfl (by omega) _ n xs rfl (HOW.out.alloc _) ⟨w6.heap.size, 0, none⟩ 1 1 (x.cells (.slice bA bn bc) (-1) (.slice none 0 0)) rfl rfl (World.news_of_block (cs := (x.cells (.slice bA bn bc) (-1) (.slice none 0 0)).toArray) (t := 37) (fr := (0, 0)) (heap_alloc_new w6 _)) (by unfold Kd.cells; simp [Value.oneCell']) (by omega) (by unfold maxLen; omega) (by omega) (by simp; omega) (w6.heap.size + 1) (by simp) ?_; intro gg cc w7 hown7 hgrow7 hat7 hlt7; have ht7 := HT6.out.grown hgrow7 HGB.out; have s0 := ht7.c0; have sf := free_of (k := 0) ht7.b0; have HT7 := Lib.hid ht7; have HOWN7 := Lib.hid hown7; have HGR7 := Lib.hid hgrow7; have HAT7 := Lib.hid hat7; clear ht7 hown7 hgrow7 hat7 hlt7)
  have ho7 : OwnN w7 w4.heap.size gg cc (l ++ [x]) l.length := by
    have hb := below_alloc' w6 (.cells (x.cells (.slice bA bn bc) (-1) (.slice none 0 0)).toArray 37)
    have h := HOWN7.out
    rw [HNL.out] at h
    exact (HO6.out.below hb).more (HROW.out.below hb) HXL.out (HA6.out.below hb) h HGR7.out
  have hkp := keep_set w7 w.heap.size 0 (.slice (some ⟨gg, 0, none⟩) (n + 1) cc)
  have ho8 := ho7.keep hkp HT7.out.b0
  have ht8 := HT7.out.set0 (.slice (some ⟨gg, 0, none⟩) (n + 1) cc)
  obtain ⟨w8, hw8⟩ : ∃ w8, w8 = w7.setCell ⟨w.heap.size, 0, none⟩ (.slice (some ⟨gg, 0, none⟩) (n + 1) cc) := ⟨_, rfl⟩
  rw [← hw8] at ho8 ht8 ⊢
  have t0 := ht8.c0
  have t2 : w8.cell? ⟨w.heap.size + 1 + 1, 0, none⟩ = some (.slice none 0 0) := cell_row ht8.b2 0
  have tf : w8.frozen? ⟨w.heap.size + 1 + 1, 0, none⟩ = false := free_of ht8.b2
  have HO8 := Lib.hid ho8
  have HT8 := Lib.hid ht8
  clear ho7 hkp ho8 ht8 hw8 s0 sf r0 r10 r11 r12 r13 r14 r15 r16 r17
  have hsub : IntKind.i64.wrap (((n + 1 : Nat) : Int) - 1) = (n : Int) := by
    rw [IntWalk.i64_in _ (by omega)]; omega
  go_region
  go_wp2_with fail
  have hk9 := keep_set w8 (w.heap.size + 1 + 1) 0 (.slice (some ⟨gg, 0, none⟩) (n + 1) cc)
  have ho9 := (HO8.out.keep hk9 HT8.out.b2).below (below_drew' _)
  have hc9 : ((w8.setCell ⟨w.heap.size + 1 + 1, 0, none⟩ (.slice (some ⟨gg, 0, none⟩) (n + 1) cc)).drew).cell? ⟨w.heap.size + 1 + 1, 0, none⟩ = some (.slice (some ⟨gg, 0, none⟩) (n + 1) cc) := ((below_drew' _).cell (p := ⟨w.heap.size + 1 + 1, 0, none⟩) (hlt (set_same (k := 0) (u := .slice (some ⟨gg, 0, none⟩) (n + 1) cc) HT8.out.b2))).trans (cell_row (set_same (k := 0) (u := .slice (some ⟨gg, 0, none⟩) (n + 1) cc) HT8.out.b2) 0)
  have hb9 : Below w.heap.size w ((w8.setCell ⟨w.heap.size + 1 + 1, 0, none⟩ (.slice (some ⟨gg, 0, none⟩) (n + 1) cc)).drew) := (HT8.out.below.setCell (by show w.heap.size ≤ w.heap.size + 1 + 1; omega) _).drew
  have hB4 : w.heap.size ≤ w4.heap.size := HT4.out.below.size
  obtain ⟨w9, hw9⟩ : ∃ w9, w9 = (w8.setCell ⟨w.heap.size + 1 + 1, 0, none⟩ (.slice (some ⟨gg, 0, none⟩) (n + 1) cc)).drew := ⟨_, rfl⟩
  rw [← hw9] at ho9 hc9 hb9 ⊢
  refine bodyPost_ret (v := .tuple #[.agg #[.slice (some ⟨gg, 0, none⟩) (n + 1) cc], .int .i64 n, .int .i64 0]) (by simp [results, Tryz.results97, go_sem, hc9]) rfl ⟨gg, cc, by rw [HNL.out], ?_, hb9⟩
  obtain ⟨cur, h1, h2, h3⟩ := ho9
  exact ⟨cur, h1, by omega, h3⟩
end Go.Proofs.YtbhnfnbnngclmaaGreatDoor
