/- allow's Loose, Inline, Url, Fetch at a list of one kept word's source. -/
import Derived.Test.YtajokmcdhhiahaaGreatDoorMC
namespace Go.Proofs.YtajokmcdhhiahaaGreatDoor
open Go.RowKit
set_option maxRecDepth 100000

theorem loose_any (K : Int) (hK : K = 1 ∨ K = 2 ∨ K = 3) (v : Value) (w : World) (hv : SrcV w v K) : Calls Tryz.prog 78 #[v] w (Ret (K == 3) w) := by
  have c1 := fun w' (hv' : SrcV w' v K) => ahas_any K v w'.heap.size 1 1 [3] (w'.alloc (.cells #[.int .i64 3] 110)) (hv'.below (below_alloc' _ _)) rfl (by omega) (fun j hj => by
    have hj : j < 1 := hj
    obtain rfl : j = 0 := by omega
    exact cell_row (heap_alloc_new w' _) 0) (by simp)
  have c2 := fun w' (hv' : SrcV w' v K) => ahas_any K v w'.heap.size 3 3 [9, 10, 6] (w'.alloc (.cells #[.int .i64 9, .int .i64 10, .int .i64 6] 110)) (hv'.below (below_alloc' _ _)) rfl (by omega) (fun j hj => by
    have hj : j < 3 := hj
    rcases (show j = 0 ∨ j = 1 ∨ j = 2 by omega) with rfl | rfl | rfl
    · exact cell_row (heap_alloc_new w' _) 0
    · exact cell_row (heap_alloc_new w' _) 1
    · exact cell_row (heap_alloc_new w' _) 2) (by simp)
  have e1 : ([3] : List Int).any (fun k => K == k) = (K == 3) := by simp
  have e2 : ([9, 10, 6] : List Int).any (fun k => K == k) = false := by rcases hK with rfl | rfl | rfl <;> rfl
  rw [e1] at c1
  rw [e2] at c2
  obtain ⟨b, c, rfl, -⟩ := hv.is
  obtain ⟨R, hR⟩ : ∃ R, R = (K == 3) := ⟨_, rfl⟩
  rw [← hR] at c1 ⊢
  have C1 := Lib.hid c1
  have C2 := Lib.hid c2
  have HV := Lib.hid hv
  clear c1 c2 e1 e2 hR hv hK
  cases R
  · go_enter Tryz.func78, Tryz.ntmps78
    go_wp2_with fail
    refine (C1.out _ HV.out).mono ?_
    rintro e w1 ⟨rfl, hb1⟩
    go_wp2
    go_ret
    exact ⟨rfl, nx (below_alloc' w _) hb1⟩
  · go_enter Tryz.func78, Tryz.ntmps78
    go_wp2_with fail
    refine (C1.out _ HV.out).mono ?_
    rintro e w1 ⟨rfl, hb1⟩
    have HB1 := Lib.hid (nx (below_alloc' w (.cells #[.int .i64 3] 110)) hb1)
    have HV1 := Lib.hid (HV.out.below HB1.out)
    clear hb1
    go_wp2_with fail
    refine (C2.out _ HV1.out).mono ?_
    rintro e w2 ⟨rfl, hb2⟩
    go_wp2
    go_ret
    exact ⟨rfl, nx HB1.out (nx (below_alloc' w1 _) hb2)⟩
theorem inline_any (K : Int) (hK : K = 1 ∨ K = 2 ∨ K = 3) (v : Value) (t : ByteArray) (ht : t.size ≤ 1000000) (w : World) (hg : Gl w) (hv : SrcV w v K) : Calls Tryz.prog 53 #[v, .int .i64 1, .string ⟨#[]⟩, .string t] w (Ret (K == 3) w) := by
  have c78 := loose_any K hK v w hv
  have c75 := fun w' => anonce_any v w'
  have c79 := fun w' (hg' : Gl w') (hv' : SrcV w' v K) => ahash_any K (by rcases hK with rfl | rfl | rfl <;> rfl) v t ht w' hg' hv'
  obtain ⟨b, c, rfl, -⟩ := hv.is
  obtain ⟨R, hR⟩ : ∃ R, R = (K == 3) := ⟨_, rfl⟩
  rw [← hR] at c78 ⊢
  have C78 := Lib.hid c78
  have C75 := Lib.hid c75
  have C79 := Lib.hid c79
  have HV := Lib.hid hv
  have HG := Lib.hid hg
  clear c78 c75 c79 hR hv hg hK
  cases R
  · go_enter Tryz.func53, Tryz.ntmps53
    go_wp2_with fail
    with_reducible refine C78.out.mono ?_
    rintro e w1 ⟨rfl, hb1⟩
    have HB1 := Lib.hid hb1
    clear hb1
    go_wp2_with fail
    with_reducible refine (C75.out _).mono ?_
    rintro e w2 ⟨rfl, hb2⟩
    have HB2 := Lib.hid (nx HB1.out hb2)
    clear hb2
    go_wp2_with fail
    with_reducible refine (C79.out _ (HG.out.below HB2.out) (HV.out.below HB2.out)).mono ?_
    rintro e w3 ⟨rfl, hb3⟩
    go_wp2
    go_ret
    exact ⟨rfl, nx HB2.out hb3⟩
  · go_enter Tryz.func53, Tryz.ntmps53
    go_wp2_with fail
    with_reducible refine C78.out.mono ?_
    rintro e w1 ⟨rfl, hb1⟩
    go_wp2
    go_ret
    exact ⟨rfl, hb1⟩
theorem url1_any (sc ho : ByteArray) (p : Int) (pa qu pb : ByteArray) (hu : URL.fits ⟨false, sc, ho, p, pa, qu⟩) (hv : URL.fits ⟨false, sc, ho, p, pb, ⟨#[]⟩⟩) (hcu : Ur.chk ⟨false, sc, ho, p, pa, qu⟩ = 0) (A B D : Nat) (w : World) (hg : Gl w)
    (hA : UBox w A ⟨false, sc, ho, p, pb, ⟨#[]⟩⟩) (hB : UBox w B ⟨false, sc, ho, p, pa, qu⟩) (hD : w.cell? ⟨D, 0, none⟩ = some (.bool false)) :
    Calls Tryz.prog 107 #[src 2, .pointer (some ⟨A, 0, none⟩), .pointer (some ⟨B, 0, none⟩), .pointer (some ⟨D, 0, none⟩)] w (Ret (Ur.chk ⟨false, sc, ho, p, pb, ⟨#[]⟩⟩ == 0) w) := by
  have hb := below_alloc' w (.cells #[.int .i64 2, .string ⟨#[]⟩, .string ⟨#[]⟩, .string ⟨#[]⟩, .bool false, .int .i64 0, .string ⟨#[]⟩] 130)
  have c108 := murl_any sc ho p pa qu pb hu hv hcu _ (hg.below hb)
  obtain ⟨x0, x1, x2, x3, x4, x5⟩ := six_cells (hA.below hb)
  obtain ⟨y0, y1, y2, y3, y4, y5⟩ := six_cells (hB.below hb)
  have hD1 := (hb.cell (p := ⟨D, 0, none⟩) (World.block_lt_of_cell? w _ hD)).trans hD
  obtain ⟨R, hR⟩ : ∃ R, R = (Ur.chk ⟨false, sc, ho, p, pb, ⟨#[]⟩⟩ == 0) := ⟨_, rfl⟩
  rw [← hR] at c108 ⊢
  unfold src at c108 ⊢
  have C108 := Lib.hid c108
  have HB := Lib.hid hb
  clear c108 hb hR hA hB hD hu hv hcu hg
  go_enter Tryz.func107, Tryz.ntmps107
  go_wp2_with fail
  refine C108.out.mono ?_
  rintro e w1 ⟨rfl, hb1⟩
  go_wp2
  go_ret
  exact ⟨rfl, nx HB.out hb1⟩
theorem aurl_any (sc ho : ByteArray) (p : Int) (pa qu pb : ByteArray) (hu : URL.fits ⟨false, sc, ho, p, pa, qu⟩) (hv : URL.fits ⟨false, sc, ho, p, pb, ⟨#[]⟩⟩) (hcu : Ur.chk ⟨false, sc, ho, p, pa, qu⟩ = 0) (v : Value) (w : World) (hg : Gl w) (hs : SrcV w v 2) :
    Calls Tryz.prog 77 #[v, .agg #[.bool false, .string sc, .string ho, .int .i64 p, .string pb, .string ⟨#[]⟩], .agg #[.bool false, .string sc, .string ho, .int .i64 p, .string pa, .string qu], .bool false] w (Ret (Ur.chk ⟨false, sc, ho, p, pb, ⟨#[]⟩⟩ == 0) w) := by
  obtain ⟨W, hW⟩ : ∃ W, W = ((w.alloc (.cells #[.bool false, .string sc, .string ho, .int .i64 p, .string pb, .string ⟨#[]⟩] 23)).alloc (.cells #[.bool false, .string sc, .string ho, .int .i64 p, .string pa, .string qu] 23)).alloc (.cells #[.bool false] 4) := ⟨_, rfl⟩
  have hbW : Below w.heap.size w W := by rw [hW]; exact (((Below.refl _ w).alloc (Nat.le_refl _) _).alloc (by simp) _).alloc (by simp; omega) _
  have hA : UBox W w.heap.size ⟨false, sc, ho, p, pb, ⟨#[]⟩⟩ := by
    rw [hW]
    exact (heap_alloc_old ((w.alloc (.cells #[.bool false, .string sc, .string ho, .int .i64 p, .string pb, .string ⟨#[]⟩] 23)).alloc (.cells #[.bool false, .string sc, .string ho, .int .i64 p, .string pa, .string qu] 23)) _ (by simp; omega)).trans ((heap_alloc_old (w.alloc (.cells #[.bool false, .string sc, .string ho, .int .i64 p, .string pb, .string ⟨#[]⟩] 23)) _ (by simp)).trans (heap_alloc_new w _))
  have hB : UBox W (w.heap.size + 1) ⟨false, sc, ho, p, pa, qu⟩ := by
    rw [hW]
    have h := heap_alloc_new (w.alloc (.cells #[.bool false, .string sc, .string ho, .int .i64 p, .string pb, .string ⟨#[]⟩] 23)) (.cells #[.bool false, .string sc, .string ho, .int .i64 p, .string pa, .string qu] 23)
    rw [World.size_alloc] at h
    exact (heap_alloc_old ((w.alloc (.cells #[.bool false, .string sc, .string ho, .int .i64 p, .string pb, .string ⟨#[]⟩] 23)).alloc (.cells #[.bool false, .string sc, .string ho, .int .i64 p, .string pa, .string qu] 23)) _ (by simp)).trans h
  have hD : W.cell? ⟨w.heap.size + 1 + 1, 0, none⟩ = some (.bool false) := by
    rw [hW]
    have h := heap_alloc_new ((w.alloc (.cells #[.bool false, .string sc, .string ho, .int .i64 p, .string pb, .string ⟨#[]⟩] 23)).alloc (.cells #[.bool false, .string sc, .string ho, .int .i64 p, .string pa, .string qu] 23)) (.cells #[.bool false] 4)
    rw [World.size_alloc, World.size_alloc] at h
    exact cell_row h 0
  have c105 := some1_any 107 (Or.inr (Or.inr rfl)) #[.pointer (some ⟨w.heap.size, 0, none⟩), .pointer (some ⟨w.heap.size + 1, 0, none⟩), .pointer (some ⟨w.heap.size + 1 + 1, 0, none⟩)] (Ur.chk ⟨false, sc, ho, p, pb, ⟨#[]⟩⟩ == 0) 2 v W (hs.below hbW)
    (fun W' hW' => url1_any sc ho p pa qu pb hu hv hcu _ _ _ W' ((hg.below hbW).below hW') (hA.below hW') (hB.below hW') ((hW'.cell (p := ⟨w.heap.size + 1 + 1, 0, none⟩) (World.block_lt_of_cell? W _ hD)).trans hD))
  obtain ⟨R, hR⟩ : ∃ R, R = (Ur.chk ⟨false, sc, ho, p, pb, ⟨#[]⟩⟩ == 0) := ⟨_, rfl⟩
  rw [← hR] at c105 ⊢
  obtain ⟨b, c, rfl, -⟩ := hs.is
  rw [hW] at c105 hbW
  have C105 := Lib.hid c105
  have HB := Lib.hid hbW
  clear c105 hbW hR hA hB hD hW hs hu hv hcu hg
  go_enter Tryz.func77, Tryz.ntmps77
  go_wp2_with fail
  refine C105.out.mono ?_
  rintro e w1 ⟨rfl, hb1⟩
  go_wp2
  go_ret
  exact ⟨rfl, nx HB.out hb1⟩
/-- The request of the law for an address. -/
def fetchV (sc ho : ByteArray) (p : Int) (pa qu pb : ByteArray) : Value := .agg #[.int .i64 2, .string ⟨#[]⟩, .bool false, .string sc, .string ho, .int .i64 p, .string pb, .string ⟨#[]⟩, .bool false, .string ⟨#[]⟩, .bool true, .bool false, .string sc, .string ho, .int .i64 p, .string pa, .string qu]
/-- A request for a text. -/
def inlineV (t : ByteArray) (s0 : Bool) (s1 s2 : ByteArray) (s3 : Int) (s4 s5 : ByteArray) : Value := .agg #[.int .i64 1, .string t, .bool false, .string ⟨#[]⟩, .string ⟨#[]⟩, .int .i64 0, .string ⟨#[]⟩, .string ⟨#[]⟩, .bool false, .string ⟨#[]⟩, .bool false, .bool s0, .string s1, .string s2, .int .i64 s3, .string s4, .string s5]
theorem fetch_any (sc ho : ByteArray) (p : Int) (pa qu pb : ByteArray) (hu : URL.fits ⟨false, sc, ho, p, pa, qu⟩) (hv : URL.fits ⟨false, sc, ho, p, pb, ⟨#[]⟩⟩) (hcu : Ur.chk ⟨false, sc, ho, p, pa, qu⟩ = 0) (v : Value) (w : World) (hg : Gl w) (hs : SrcV w v 2) :
    Calls Tryz.prog 51 #[v, fetchV sc ho p pa qu pb] w (Ret (Ur.chk ⟨false, sc, ho, p, pb, ⟨#[]⟩⟩ == 0) w) := by
  have c75 := fun w' => anonce_any v w'
  have c76 := fun w' (hv' : SrcV w' v 2) => ahas_any 2 v w'.heap.size 1 1 [6] (w'.alloc (.cells #[.int .i64 6] 110)) (hv'.below (below_alloc' _ _)) rfl (by omega) (fun j hj => by
    have hj : j < 1 := hj
    obtain rfl : j = 0 := by omega
    exact cell_row (heap_alloc_new w' _) 0) (by simp)
  rw [show ([6] : List Int).any (fun k => (2 : Int) == k) = false from rfl] at c76
  have c77 := fun w' (hg' : Gl w') (hs' : SrcV w' v 2) => aurl_any sc ho p pa qu pb hu hv hcu v w' hg' hs'
  obtain ⟨R, hR⟩ : ∃ R, R = (Ur.chk ⟨false, sc, ho, p, pb, ⟨#[]⟩⟩ == 0) := ⟨_, rfl⟩
  rw [← hR] at c77 ⊢
  unfold fetchV
  have hbA := below_alloc' w (.cells #[.int .i64 2, .string ⟨#[]⟩, .bool false, .string sc, .string ho, .int .i64 p, .string pb, .string ⟨#[]⟩, .bool false, .string ⟨#[]⟩, .bool true, .bool false, .string sc, .string ho, .int .i64 p, .string pa, .string qu] 30)
  have hrow := heap_alloc_new w (.cells #[.int .i64 2, .string ⟨#[]⟩, .bool false, .string sc, .string ho, .int .i64 p, .string pb, .string ⟨#[]⟩, .bool false, .string ⟨#[]⟩, .bool true, .bool false, .string sc, .string ho, .int .i64 p, .string pa, .string qu] 30)
  obtain ⟨W, hW⟩ : ∃ W, W = w.alloc (.cells #[.int .i64 2, .string ⟨#[]⟩, .bool false, .string sc, .string ho, .int .i64 p, .string pb, .string ⟨#[]⟩, .bool false, .string ⟨#[]⟩, .bool true, .bool false, .string sc, .string ho, .int .i64 p, .string pa, .string qu] 30) := ⟨_, rfl⟩
  rw [← hW] at hbA hrow
  obtain ⟨b, c, rfl, -⟩ := hs.is
  have C75 := Lib.hid c75
  have C76 := Lib.hid c76
  have C77 := Lib.hid c77
  have HB := Lib.hid hbA
  have HS := Lib.hid hs
  have HG := Lib.hid hg
  have HROW := Lib.hid hrow
  have HW := Lib.hid hW
  clear c75 c76 c77 hbA hs hg hrow hW hR hu hv hcu
  go_enter Tryz.func51, Tryz.ntmps51
  go_wp2_with fail
  rw [← HW.out]
  with_reducible refine (C75.out _).mono ?_
  rintro e w1 ⟨rfl, hb1⟩
  have HB1 := Lib.hid (nx HB.out hb1)
  have hrow1 := (hb1.block w.heap.size (Array.getElem?_eq_some_iff.1 HROW.out).1).trans HROW.out
  have HROW1 := Lib.hid hrow1
  clear hb1 hrow1
  go_wp2_with fail
  refine (C76.out _ (HS.out.below HB1.out)).mono ?_
  rintro e w2 ⟨rfl, hb2⟩
  have HB2 := Lib.hid (nx HB1.out (nx (below_alloc' w1 (.cells #[.int .i64 6] 110)) hb2))
  have hrow2 := ((nx (below_alloc' w1 (.cells #[.int .i64 6] 110)) hb2).block w.heap.size (Array.getElem?_eq_some_iff.1 HROW1.out).1).trans HROW1.out
  have x0 := cell_row hrow2 0
  have x1 := cell_row hrow2 1
  have x2 := cell_row hrow2 2
  have x3 := cell_row hrow2 3
  have x4 := cell_row hrow2 4
  have x5 := cell_row hrow2 5
  have x6 := cell_row hrow2 6
  have x7 := cell_row hrow2 7
  have x8 := cell_row hrow2 8
  have x9 := cell_row hrow2 9
  have x10 := cell_row hrow2 10
  have x11 := cell_row hrow2 11
  have x12 := cell_row hrow2 12
  have x13 := cell_row hrow2 13
  have x14 := cell_row hrow2 14
  have x15 := cell_row hrow2 15
  have x16 := cell_row hrow2 16
  simp only [List.getElem?_toArray, List.getElem?_cons_zero, List.getElem?_cons_succ] at x0 x1 x2 x3 x4 x5 x6 x7 x8 x9 x10 x11 x12 x13 x14 x15 x16
  clear hb2 hrow2
  go_wp2_with fail
  with_reducible refine (C77.out _ (HG.out.below HB2.out) (HS.out.below HB2.out)).mono ?_
  rintro e w3 ⟨rfl, hb3⟩
  go_wp2
  go_ret
  exact ⟨rfl, nx HB2.out hb3⟩
end Go.Proofs.YtajokmcdhhiahaaGreatDoor
