/- tell: a token more. -/
import Derived.Test.YtbhnfnbnngclmaaGreatDoorEH
import Derived.Deep.Cut
import Derived.Deep.AppendLies
import Derived.Deep.RegionLaw
namespace Go.Proofs.YtbhnfnbnngclmaaGreatDoor
open Go.RowKit
set_option maxRecDepth 100000

theorem tok_row : (Tryz.prog.info? 77).map (fun i => (i.zero, i.size, i.bytes)) = some (some (.agg #[.int .i64 0, .string ⟨#[]⟩, .string ⟨#[]⟩, .slice none 0 0, .bool false]), 5, 72) := by kernel_rfl
/-- A row's own block. -/
def ob (v : Value) : List Nat := match v.ownBlock with
  | some k => [k]
  | none => []
theorem Keep.of_grown {v : Value} {w w' : World} (h : w.grownBy w' v.ownBlock) : Keep (ob v) w w' := by
  refine ⟨h.os, h.tape, h.output, h.size, fun k hk hl => h.block k hk ?_⟩
  intro e
  apply hl
  unfold ob
  rw [← e]
  exact List.mem_singleton.2 rfl
theorem Cur.out {w : World} {c : Nat} {s : ByteArray} {a : Nat} {vo vf : Value} (h : Cur w c s a vo vf) (v : Value) : Cur (w.setCell ⟨c, 2, none⟩ v) c s a v vf ∧ Keep [c] w (w.setCell ⟨c, 2, none⟩ v) := by
  have hlt := h.lt
  unfold Cur at h ⊢
  refine ⟨?_, ⟨rfl, rfl, rfl, ?_, ?_⟩⟩
  · simp only [World.setCell]
    rw [Array.getElem?_modify, if_pos rfl, h]
    rfl
  · simp [World.setCell]
  · intro k hk hl
    have : k ≠ c := fun e => hl (by rw [e]; exact List.mem_singleton.2 rfl)
    simp [World.setCell, Array.getElem?_modify, Ne.symm this]
theorem Cur.own_ne {w : World} {c : Nat} {s : ByteArray} {a : Nat} {vo vf : Value} (h : Cur w c s a vo vf) {B n size : Nat} {v : Value} {xs : List Value} (ho : w.ownsRow B 77 size v n xs) : v.ownBlock ≠ some c := by
  rcases ho.2 with ⟨rfl, _⟩ | ⟨g, cap, cur, rfl, _, hg, _⟩
  · intro e; cases e
  · intro e
    obtain rfl : g = c := Option.some.inj e
    unfold Cur at h
    rw [h] at hg
    injection hg with hg
    injection hg with _ h2
    exact absurd h2 (by decide)
set_option maxHeartbeats 4000000 in
theorem tell_any (c : Nat) (s : ByteArray) (a : Nat) (vo vf : Value) (n : Nat) (xs : List Value) (B : Nat) (k : Int) (nm dt : ByteArray) (AA : Option Addr) (an ac : Nat) (cl : Bool) (w : World) (hk : k ≠ 1) (hB : B ≤ w.heap.size) (hn : n ≤ 100000) (hc : Cur w c s a vo vf) (ho : w.ownsRow B 77 5 vo n xs) (hne : vo.ownBlock ≠ some c) :
    Calls Tryz.prog 22 #[.pointer (some ⟨c, 0, none⟩), .agg #[.int .i64 k, .string nm, .string dt, .slice AA an ac, .bool cl]] w fun e w' => e = .returned (.tuple #[]) ∧
      ∃ vo', Cur w' c s a vo' vf ∧ w'.ownsRow B 77 5 vo' (n + 1) (xs ++ [.int .i64 k, .string nm, .string dt, .slice AA an ac, .bool cl]) ∧ Keep (c :: ob vo) w w' := by
  have hk1 : (k == 1) = false := by simpa using hk
  have hl := own_form ho
  obtain ⟨A, cp, rfl, hcp, hcn⟩ := hl
  have hbA := below_alloc' w (.cells #[.int .i64 k, .string nm, .string dt, .slice AA an ac, .bool cl] 77)
  have hrow := heap_alloc_new w (.cells #[.int .i64 k, .string nm, .string dt, .slice AA an ac, .bool cl] 77)
  obtain ⟨W, hW⟩ : ∃ W, W = w.alloc (.cells #[.int .i64 k, .string nm, .string dt, .slice AA an ac, .bool cl] 77) := ⟨_, rfl⟩
  rw [← hW] at hbA hrow
  have hcw := hc.below hbA
  have c2 := hcw.c2
  have x0 := cell_row hrow 0
  have x1 := cell_row hrow 1
  have x2 := cell_row hrow 2
  have x3 := cell_row hrow 3
  have x4 := cell_row hrow 4
  simp only [List.getElem?_toArray, List.getElem?_cons_zero, List.getElem?_cons_succ] at x0 x1 x2 x3 x4
  have HW := Lib.hid hW
  have HC := Lib.hid hcw
  have HB := Lib.hid hbA
  have HO := Lib.hid (own_below' ho hbA)
  have HNE := Lib.hid hne
  have HBS := Lib.hid hB
  clear hk hc hW hbA hrow hcw ho hne hB hcp hcn
  obtain ⟨i0, hi, hz0, hz1, hz2⟩ := info_parts tok_row
  have HI0 := Lib.hid hi
  have hWs := HB.out.size
  have hBW : B ≤ W.heap.size := Nat.le_trans HBS.out hWs
  have hcl := HC.out.lt
  clear hi hWs
  go_enter Tryz.func22, Tryz.ntmps22
  go_upto_region 1 with fail
  rw [← HW.out]
  go_wp2_with fail
  go_region_law (refine step_append_lies _ (by rfl) _ _ _ (by rfl) B 77 i0 _ 5 72 Tryz.underlying53 HI0.out hz0 hz1 hz2 rfl (by omega) _ n xs (by rfl) (HO.out.alloc _) ⟨W.heap.size, 0, none⟩ 1 1 [.int .i64 k, .string nm, .string dt, .slice AA an ac, .bool cl] (by rfl) (by rfl) (World.news_of_block (cs := #[.int .i64 k, .string nm, .string dt, .slice AA an ac, .bool cl]) (t := 77) (fr := (0, 0)) (heap_alloc_new W _)) (by simp [Value.oneCell']) (by omega) (by unfold maxLen; omega) (by omega) (by simp; omega) (W.heap.size + 1) (by simp) ?_; intro gg cap w7 hown7 hgrow hat hltg; have hb1 : Below W.heap.size W (W.alloc (.cells #[.int .i64 k, .string nm, .string dt, .slice AA an ac, .bool cl] 77)).drew := nx (below_alloc' W _) (below_drewN' _ 1); have hc7 : Cur w7 c s a (.slice A n cp) vf := (hgrow.block c (Nat.lt_of_lt_of_le hcl hb1.size) (Ne.symm HNE.out)).trans (HC.out.below hb1); have HC7 := Lib.hid hc7; have HK7 : Hid (Keep (ob (.slice A n cp)) W w7) := (Keep.of_below hb1).trans (Keep.of_grown hgrow); have HOW7 := Lib.hid hown7; have d2 := hc7.c2; have f2 := hc7.fz 2; clear hown7 hgrow hat hltg hb1 hc7)
  all_goals
    go_wp2_with fail
    go_end0
    have hm := HC7.out.out (.slice (some ⟨gg, 0, none⟩) (n + 1) cap)
    have hne := HC7.out.own_ne HOW7.out
    refine ⟨rfl, _, hm.1, hm.2.own HOW7.out fun k hk hl => hne (by rw [hk]; rw [List.mem_singleton.1 hl]), ?_⟩
    have k1 : Keep (c :: ob (.slice A n cp)) w W := Keep.of_below HB.out
    have k2 : Keep (c :: ob (.slice A n cp)) W w7 := HK7.out.mono fun k hk => List.mem_cons_of_mem _ hk
    exact (k1.trans k2).trans (hm.2.mono fun k hk => by rw [List.mem_singleton.1 hk]; exact List.mem_cons_self ..)
end Go.Proofs.YtbhnfnbnngclmaaGreatDoor
