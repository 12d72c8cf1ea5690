/- chain's One. -/
import Derived.Test.YtajokmcdhhiahaaGreatDoorCB
namespace Go.Proofs.YtajokmcdhhiahaaGreatDoor
open Go.RowKit
set_option maxRecDepth 100000

set_option maxHeartbeats 4000000 in
theorem one_fetch (dv : Value) (r : Bool) (ds : List (ByteArray × List ByteArray)) (h : Nat) (x : ByteArray) (hx : WordIs 2 x) (sc ho : ByteArray) (p : Int) (pa qu pb : ByteArray) (hu : URL.fits ⟨false, sc, ho, p, pa, qu⟩) (hv : URL.fits ⟨false, sc, ho, p, pb, ⟨#[]⟩⟩) (hcu : Ur.chk ⟨false, sc, ho, p, pa, qu⟩ = 0) (hq : Quo x) (hp : PolOne ds h x) (w : World) (hg : Gl w) (hd : DirsV w dv ds) :
    Calls Tryz.prog 31 #[.agg #[dv, .bool r], fetchV sc ho p pa qu pb] w fun e w' => e = .returned (.tuple #[.bool (Ur.chk ⟨false, sc, ho, p, pb, ⟨#[]⟩⟩ == 0), .string (namesL.getD h ⟨#[]⟩)]) ∧ Below w.heap.size w w' := by
  have c50 := fun w' (hg' : Gl w') (hd' : DirsV w' dv ds) => eff_any dv r ds h 2 (by decide) x hx hq hp 2 (by decide) w' hg' hd'
  have cR := fun v w' (hg' : Gl w') (hs : SrcV w' v 2) => fetch_any sc ho p pa qu pb hu hv hcu v w' hg' hs
  obtain ⟨nm, hnm⟩ : ∃ nm, nm = namesL.getD h ⟨#[]⟩ := ⟨_, rfl⟩
  obtain ⟨R, hR⟩ : ∃ R : Bool, R = (Ur.chk ⟨false, sc, ho, p, pb, ⟨#[]⟩⟩ == 0) := ⟨_, rfl⟩
  rw [← hnm] at c50 ⊢
  rw [← hR] at cR ⊢
  unfold fetchV at cR ⊢
  obtain ⟨DA, DC, rfl, -⟩ := id hd
  obtain ⟨M, hM⟩ : ∃ M, M = ds.length := ⟨_, rfl⟩
  rw [← hM] at c50 hd ⊢
  obtain ⟨W, hW⟩ : ∃ W, W = (w.alloc (.cells #[.slice DA M DC, .bool r] 56)).alloc (.cells #[.int .i64 2, .string ⟨#[]⟩, .bool false, .string sc, .string ho, .int .i64 p, .string pb, .string ⟨#[]⟩, .bool false, .string ⟨#[]⟩, .bool true, .bool false, .string sc, .string ho, .int .i64 p, .string pa, .string qu] 30) := ⟨_, rfl⟩
  have hbW : Below w.heap.size w W := by rw [hW]; exact ((Below.refl _ w).alloc (Nat.le_refl _) _).alloc (by simp) _
  have hrow : W.heap[w.heap.size + 1]? = some (.cells #[.int .i64 2, .string ⟨#[]⟩, .bool false, .string sc, .string ho, .int .i64 p, .string pb, .string ⟨#[]⟩, .bool false, .string ⟨#[]⟩, .bool true, .bool false, .string sc, .string ho, .int .i64 p, .string pa, .string qu] 30 (0, 0)) := by
    rw [hW]
    have := heap_alloc_new (w.alloc (.cells #[.slice DA M DC, .bool r] 56)) (.cells #[.int .i64 2, .string ⟨#[]⟩, .bool false, .string sc, .string ho, .int .i64 p, .string pb, .string ⟨#[]⟩, .bool false, .string ⟨#[]⟩, .bool true, .bool false, .string sc, .string ho, .int .i64 p, .string pa, .string qu] 30)
    rw [World.size_alloc] at this
    exact this
  have c50W := c50 W (hg.below hbW) (hd.below hbW)
  have C50 := Lib.hid c50W
  have CR := Lib.hid cR
  have HG := Lib.hid hg
  have HW := Lib.hid hW
  have HBW := Lib.hid hbW
  have HROW := Lib.hid hrow
  clear c50 c50W cR hnm hR hM hd hg hp hq hW hbW hrow hx hu hv hcu
  go_enter Tryz.func31, Tryz.ntmps31
  go_wp2_with fail
  rw [← HW.out]
  with_reducible refine C50.out.mono ?_
  rintro e w1 ⟨v, rfl, hs, hb1⟩
  have HS := Lib.hid hs
  have HB1 := Lib.hid (nx HBW.out hb1)
  have hrow1 := (hb1.block (w.heap.size + 1) (Array.getElem?_eq_some_iff.1 HROW.out).1).trans HROW.out
  have x0 := cell_row hrow1 0
  have x1 := cell_row hrow1 1
  have x2 := cell_row hrow1 2
  have x3 := cell_row hrow1 3
  have x4 := cell_row hrow1 4
  have x5 := cell_row hrow1 5
  have x6 := cell_row hrow1 6
  have x7 := cell_row hrow1 7
  have x8 := cell_row hrow1 8
  have x9 := cell_row hrow1 9
  have x10 := cell_row hrow1 10
  have x11 := cell_row hrow1 11
  have x12 := cell_row hrow1 12
  have x13 := cell_row hrow1 13
  have x14 := cell_row hrow1 14
  have x15 := cell_row hrow1 15
  have x16 := cell_row hrow1 16
  simp only [List.getElem?_toArray, List.getElem?_cons_zero, List.getElem?_cons_succ] at x0 x1 x2 x3 x4 x5 x6 x7 x8 x9 x10 x11 x12 x13 x14 x15 x16
  obtain ⟨sb, sC, rfl, -⟩ := id hs
  clear hb1 hrow1 hs
  go_wp2_with fail
  with_reducible refine (CR.out _ w1 (HG.out.below HB1.out) HS.out).mono ?_
  rintro e w2 ⟨rfl, hb2⟩
  go_wp2_with fail
  go_ret2
  exact ⟨rfl, nx HB1.out hb2⟩
set_option maxHeartbeats 4000000 in
theorem one_inline (dv : Value) (r : Bool) (ds : List (ByteArray × List ByteArray)) (h : Nat) (x : ByteArray) (i : Nat) (hi : i = 1 ∨ i = 2 ∨ i = 3) (hx : WordIs i x) (t : ByteArray) (ht : t.size ≤ 1000000) (s0 : Bool) (s1 s2 : ByteArray) (s3 : Int) (s4 s5 : ByteArray) (hq : Quo x) (hp : PolOne ds h x) (w : World) (hg : Gl w) (hd : DirsV w dv ds) :
    Calls Tryz.prog 31 #[.agg #[dv, .bool r], inlineV t s0 s1 s2 s3 s4 s5] w fun e w' => e = .returned (.tuple #[.bool ((i : Int) == 3), .string (namesL.getD h ⟨#[]⟩)]) ∧ Below w.heap.size w w' := by
  have c50 := fun w' (hg' : Gl w') (hd' : DirsV w' dv ds) => eff_any dv r ds h i hi x hx hq hp 1 (by decide) w' hg' hd'
  have cR := fun v w' (hg' : Gl w') (hs : SrcV w' v i) => inline_any (i : Int) (by omega) v t ht w' hg' hs
  obtain ⟨nm, hnm⟩ : ∃ nm, nm = namesL.getD h ⟨#[]⟩ := ⟨_, rfl⟩
  obtain ⟨R, hR⟩ : ∃ R : Bool, R = ((i : Int) == 3) := ⟨_, rfl⟩
  rw [← hnm] at c50 ⊢
  rw [← hR] at cR ⊢
  unfold inlineV
  obtain ⟨DA, DC, rfl, -⟩ := id hd
  obtain ⟨M, hM⟩ : ∃ M, M = ds.length := ⟨_, rfl⟩
  rw [← hM] at c50 hd ⊢
  obtain ⟨W, hW⟩ : ∃ W, W = (w.alloc (.cells #[.slice DA M DC, .bool r] 56)).alloc (.cells #[.int .i64 1, .string t, .bool false, .string ⟨#[]⟩, .string ⟨#[]⟩, .int .i64 0, .string ⟨#[]⟩, .string ⟨#[]⟩, .bool false, .string ⟨#[]⟩, .bool false, .bool s0, .string s1, .string s2, .int .i64 s3, .string s4, .string s5] 30) := ⟨_, rfl⟩
  have hbW : Below w.heap.size w W := by rw [hW]; exact ((Below.refl _ w).alloc (Nat.le_refl _) _).alloc (by simp) _
  have hrow : W.heap[w.heap.size + 1]? = some (.cells #[.int .i64 1, .string t, .bool false, .string ⟨#[]⟩, .string ⟨#[]⟩, .int .i64 0, .string ⟨#[]⟩, .string ⟨#[]⟩, .bool false, .string ⟨#[]⟩, .bool false, .bool s0, .string s1, .string s2, .int .i64 s3, .string s4, .string s5] 30 (0, 0)) := by
    rw [hW]
    have := heap_alloc_new (w.alloc (.cells #[.slice DA M DC, .bool r] 56)) (.cells #[.int .i64 1, .string t, .bool false, .string ⟨#[]⟩, .string ⟨#[]⟩, .int .i64 0, .string ⟨#[]⟩, .string ⟨#[]⟩, .bool false, .string ⟨#[]⟩, .bool false, .bool s0, .string s1, .string s2, .int .i64 s3, .string s4, .string s5] 30)
    rw [World.size_alloc] at this
    exact this
  have c50W := c50 W (hg.below hbW) (hd.below hbW)
  have C50 := Lib.hid c50W
  have CR := Lib.hid cR
  have HG := Lib.hid hg
  have HW := Lib.hid hW
  have HBW := Lib.hid hbW
  have HROW := Lib.hid hrow
  clear c50 c50W cR hnm hR hM hd hg hp hq hW hbW hrow hx hi
  go_enter Tryz.func31, Tryz.ntmps31
  go_wp2_with fail
  rw [← HW.out]
  with_reducible refine C50.out.mono ?_
  rintro e w1 ⟨v, rfl, hs, hb1⟩
  have HS := Lib.hid hs
  have HB1 := Lib.hid (nx HBW.out hb1)
  have hrow1 := (hb1.block (w.heap.size + 1) (Array.getElem?_eq_some_iff.1 HROW.out).1).trans HROW.out
  have x0 := cell_row hrow1 0
  have x1 := cell_row hrow1 1
  have x2 := cell_row hrow1 2
  have x3 := cell_row hrow1 3
  have x4 := cell_row hrow1 4
  have x5 := cell_row hrow1 5
  have x6 := cell_row hrow1 6
  have x7 := cell_row hrow1 7
  have x8 := cell_row hrow1 8
  have x9 := cell_row hrow1 9
  have x10 := cell_row hrow1 10
  have x11 := cell_row hrow1 11
  have x12 := cell_row hrow1 12
  have x13 := cell_row hrow1 13
  have x14 := cell_row hrow1 14
  have x15 := cell_row hrow1 15
  have x16 := cell_row hrow1 16
  simp only [List.getElem?_toArray, List.getElem?_cons_zero, List.getElem?_cons_succ] at x0 x1 x2 x3 x4 x5 x6 x7 x8 x9 x10 x11 x12 x13 x14 x15 x16
  obtain ⟨sb, sC, rfl, -⟩ := id hs
  clear hb1 hrow1 hs
  go_wp2_with fail
  with_reducible refine (CR.out _ w1 (HG.out.below HB1.out) HS.out).mono ?_
  rintro e w2 ⟨rfl, hb2⟩
  go_wp2_with fail
  go_ret2
  exact ⟨rfl, nx HB1.out hb2⟩
end Go.Proofs.YtajokmcdhhiahaaGreatDoor
