/- tell: a text more, where none was told last. -/
import Derived.Test.YtbhnfnbnngclmaaGreatDoorEI
namespace Go.Proofs.YtbhnfnbnngclmaaGreatDoor
open Go.RowKit
set_option maxRecDepth 100000

set_option maxHeartbeats 4000000 in
theorem tell_text0 (c : Nat) (s : ByteArray) (a : Nat) (vf : Value) (B : Nat) (nm dt : ByteArray) (AA : Option Addr) (an ac : Nat) (cl : Bool) (w : World) (hd : dt.toList ≠ []) (hB : B ≤ w.heap.size) (hc : Cur w c s a (.slice none 0 0) vf) :
    Calls Tryz.prog 22 #[.pointer (some ⟨c, 0, none⟩), .agg #[.int .i64 1, .string nm, .string dt, .slice AA an ac, .bool cl]] w fun e w' => e = .returned (.tuple #[]) ∧
      ∃ vo', Cur w' c s a vo' vf ∧ w'.ownsRow B 77 5 vo' 1 ([.int .i64 1, .string nm, .string dt, .slice AA an ac, .bool cl]) ∧ Keep [c] w w' := by
  have he : dt.toList.isEmpty = false := by cases h : dt.toList with
    | nil => exact absurd h hd
    | cons _ _ => rfl
  have hbA := below_alloc' w (.cells #[.int .i64 1, .string nm, .string dt, .slice AA an ac, .bool cl] 77)
  have hrow := heap_alloc_new w (.cells #[.int .i64 1, .string nm, .string dt, .slice AA an ac, .bool cl] 77)
  obtain ⟨W, hW⟩ : ∃ W, W = w.alloc (.cells #[.int .i64 1, .string nm, .string dt, .slice AA an ac, .bool cl] 77) := ⟨_, rfl⟩
  rw [← hW] at hbA hrow
  have hcw := hc.below hbA
  have c2 := hcw.c2
  have x0 := cell_row hrow 0
  have x1 := cell_row hrow 1
  have x2 := cell_row hrow 2
  have x3 := cell_row hrow 3
  have x4 := cell_row hrow 4
  simp only [List.getElem?_toArray, List.getElem?_cons_zero, List.getElem?_cons_succ] at x0 x1 x2 x3 x4
  have HW := Lib.hid hW
  have HC := Lib.hid hcw
  have HB := Lib.hid hbA
  have HBS := Lib.hid hB
  clear hc hW hbA hrow hcw hB
  obtain ⟨i0, hi, hz0, hz1, hz2⟩ := info_parts tok_row
  have HI0 := Lib.hid hi
  have hWs := HB.out.size
  have hBW : B ≤ W.heap.size := Nat.le_trans HBS.out hWs
  have hcl := HC.out.lt
  clear hi hWs
  go_enter Tryz.func22, Tryz.ntmps22
  go_upto_region 1 with fail
  rw [← HW.out]
  go_wp2_with fail
  go_region_law (refine step_append_lies _ (by rfl) _ _ _ (by rfl) B 77 i0 _ 5 72 Tryz.underlying53 HI0.out hz0 hz1 hz2 rfl (by omega) _ 0 [] (by rfl) (World.ownsRow_nil _ _ _ _) ⟨W.heap.size, 0, none⟩ 1 1 [.int .i64 1, .string nm, .string dt, .slice AA an ac, .bool cl] (by rfl) (by rfl) (World.news_of_block (cs := #[.int .i64 1, .string nm, .string dt, .slice AA an ac, .bool cl]) (t := 77) (fr := (0, 0)) (heap_alloc_new W _)) (by simp [Value.oneCell']) (by omega) (by unfold maxLen; omega) (by omega) (by simp; omega) (W.heap.size + 1) (by simp) ?_; intro gg cap w7 hown7 hgrow hat hltg; have hb1 : Below W.heap.size W (W.alloc (.cells #[.int .i64 1, .string nm, .string dt, .slice AA an ac, .bool cl] 77)).drew := nx (below_alloc' W _) (below_drewN' _ 1); have hc7 : Cur w7 c s a (.slice none 0 0) vf := (hgrow.block c (Nat.lt_of_lt_of_le hcl hb1.size) (by intro e; cases e)).trans (HC.out.below hb1); have HC7 := Lib.hid hc7; have HK7 : Hid (Keep (ob (.slice none 0 0)) W w7) := (Keep.of_below hb1).trans (Keep.of_grown hgrow); have HOW7 := Lib.hid hown7; have d2 := hc7.c2; have f2 := hc7.fz 2; clear hown7 hgrow hat hltg hb1 hc7)
  all_goals
    go_wp2_with fail
    go_end0
    have hm := HC7.out.out (.slice (some ⟨gg, 0, none⟩) 1 cap)
    have hne := HC7.out.own_ne HOW7.out
    refine ⟨rfl, _, hm.1, hm.2.own HOW7.out fun k hk hl => hne (by rw [hk]; rw [List.mem_singleton.1 hl]), ?_⟩
    have k1 : Keep [c] w W := Keep.of_below HB.out
    have k2 : Keep [c] W w7 := HK7.out.mono fun k hk => absurd hk (by simp [ob, Value.ownBlock])
    exact (k1.trans k2).trans hm.2
end Go.Proofs.YtbhnfnbnngclmaaGreatDoor
