/- tell: a text behind a tag. -/
import Derived.Test.YtbhnfnbnngclmaaGreatDoorEJ
namespace Go.Proofs.YtbhnfnbnngclmaaGreatDoor
open Go.RowKit
set_option maxRecDepth 100000

set_option maxHeartbeats 4000000 in
theorem tell_text1 (c : Nat) (s : ByteArray) (a : Nat) (vo vf : Value) (x0 : Int) (x1 x2 x3 x4 : Value) (B : Nat) (nm dt : ByteArray) (AA : Option Addr) (an ac : Nat) (cl : Bool) (w : World) (hx0 : x0 ≠ 1) (hd : dt.toList ≠ []) (hB : B ≤ w.heap.size) (hc : Cur w c s a vo vf) (ho : w.ownsRow B 77 5 vo 1 [.int .i64 x0, x1, x2, x3, x4]) (hne : vo.ownBlock ≠ some c) :
    Calls Tryz.prog 22 #[.pointer (some ⟨c, 0, none⟩), .agg #[.int .i64 1, .string nm, .string dt, .slice AA an ac, .bool cl]] w fun e w' => e = .returned (.tuple #[]) ∧
      ∃ vo', Cur w' c s a vo' vf ∧ w'.ownsRow B 77 5 vo' 2 ([.int .i64 x0, x1, x2, x3, x4] ++ [.int .i64 1, .string nm, .string dt, .slice AA an ac, .bool cl]) ∧ Keep (c :: ob vo) w w' := by
  have he : dt.toList.isEmpty = false := by cases h : dt.toList with
    | nil => exact absurd h hd
    | cons _ _ => rfl
  have hx1 : (x0 == 1) = false := by simpa using hx0
  obtain ⟨g, cp, rfl⟩ : ∃ g cp, vo = .slice (some ⟨g, 0, none⟩) 1 cp := by
    rcases ho.2 with ⟨_, h0⟩ | ⟨g, cap, cur, h, _⟩
    · omega
    · exact ⟨g, cap, h⟩
  have hbA := below_alloc' w (.cells #[.int .i64 1, .string nm, .string dt, .slice AA an ac, .bool cl] 77)
  have hrow := heap_alloc_new w (.cells #[.int .i64 1, .string nm, .string dt, .slice AA an ac, .bool cl] 77)
  obtain ⟨W, hW⟩ : ∃ W, W = w.alloc (.cells #[.int .i64 1, .string nm, .string dt, .slice AA an ac, .bool cl] 77) := ⟨_, rfl⟩
  rw [← hW] at hbA hrow
  have hcw := hc.below hbA
  have c2 := hcw.c2
  have hoW := own_below' ho hbA
  have y0 : W.cell? ⟨g, 0, none⟩ = some (.int .i64 x0) := by have h := hoW.cells (g := g) rfl 0 _ rfl; rwa [add_at, Nat.zero_add] at h
  have z0 := cell_row hrow 0
  have z1 := cell_row hrow 1
  have z2 := cell_row hrow 2
  have z3 := cell_row hrow 3
  have z4 := cell_row hrow 4
  simp only [List.getElem?_toArray, List.getElem?_cons_zero, List.getElem?_cons_succ] at z0 z1 z2 z3 z4
  have HW := Lib.hid hW
  have HC := Lib.hid hcw
  have HB := Lib.hid hbA
  have HO := Lib.hid hoW
  have HNE := Lib.hid hne
  have HBS := Lib.hid hB
  clear hc hW hbA hrow hcw ho hoW hne hB hx0
  obtain ⟨i0, hi, hz0, hz1, hz2⟩ := info_parts tok_row
  have HI0 := Lib.hid hi
  have hWs := HB.out.size
  have hBW : B ≤ W.heap.size := Nat.le_trans HBS.out hWs
  have hcl := HC.out.lt
  clear hi hWs
  go_enter Tryz.func22, Tryz.ntmps22
  go_upto_region 1 with fail
  rw [← HW.out]
  go_wp2_with fail
  go_region_law (refine step_append_lies _ (by rfl) _ _ _ (by rfl) B 77 i0 _ 5 72 Tryz.underlying53 HI0.out hz0 hz1 hz2 rfl (by omega) _ 1 [.int .i64 x0, x1, x2, x3, x4] (by rfl) (HO.out.alloc _) ⟨W.heap.size, 0, none⟩ 1 1 [.int .i64 1, .string nm, .string dt, .slice AA an ac, .bool cl] (by rfl) (by rfl) (World.news_of_block (cs := #[.int .i64 1, .string nm, .string dt, .slice AA an ac, .bool cl]) (t := 77) (fr := (0, 0)) (heap_alloc_new W _)) (by simp [Value.oneCell']) (by omega) (by unfold maxLen; omega) (by omega) (by simp; omega) (W.heap.size + 1) (by simp) ?_; intro gg cap w7 hown7 hgrow hat hltg; have hb1 : Below W.heap.size W (W.alloc (.cells #[.int .i64 1, .string nm, .string dt, .slice AA an ac, .bool cl] 77)).drew := nx (below_alloc' W _) (below_drewN' _ 1); have hc7 : Cur w7 c s a (.slice (some ⟨g, 0, none⟩) 1 cp) vf := (hgrow.block c (Nat.lt_of_lt_of_le hcl hb1.size) (Ne.symm HNE.out)).trans (HC.out.below hb1); have HC7 := Lib.hid hc7; have HK7 : Hid (Keep (ob (.slice (some ⟨g, 0, none⟩) 1 cp)) W w7) := (Keep.of_below hb1).trans (Keep.of_grown hgrow); have HOW7 := Lib.hid hown7; have d2 := hc7.c2; have f2 := hc7.fz 2; clear hown7 hgrow hat hltg hb1 hc7)
  all_goals
    go_wp2_with fail
    go_end0
    have hm := HC7.out.out (.slice (some ⟨gg, 0, none⟩) 2 cap)
    have hne := HC7.out.own_ne HOW7.out
    refine ⟨rfl, _, hm.1, hm.2.own HOW7.out fun k hk hl => hne (by rw [hk]; rw [List.mem_singleton.1 hl]), ?_⟩
    have k1 : Keep (c :: ob (.slice (some ⟨g, 0, none⟩) 1 cp)) w W := Keep.of_below HB.out
    have k2 : Keep (c :: ob (.slice (some ⟨g, 0, none⟩) 1 cp)) W w7 := HK7.out.mono fun k hk => List.mem_cons_of_mem _ hk
    exact (k1.trans k2).trans (hm.2.mono fun k hk => by rw [List.mem_singleton.1 hk]; exact List.mem_cons_self ..)
end Go.Proofs.YtbhnfnbnngclmaaGreatDoor
