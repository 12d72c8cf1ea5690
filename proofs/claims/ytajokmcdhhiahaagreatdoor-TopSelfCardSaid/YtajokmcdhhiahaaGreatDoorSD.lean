/- says. -/
import Derived.Test.YtajokmcdhhiahaaGreatDoorCF
namespace Go.Proofs.YtajokmcdhhiahaaGreatDoor
open Go.RowKit Go.Shelf
set_option maxRecDepth 100000

theorem below_dr (w : World) : Below w.heap.size w w := Below.refl _ _
theorem field_ok (b : Bool) (A : Option Addr) (n c : Nat) (w : World) : (Instr.field 42 (.agg #[.bool b, .slice A n c]) 0).run Tryz.prog w = .ok (.bool b) w := by kernel_rfl
theorem below_dd {w w' : World} (h : Below w.heap.size w w') : Below w.heap.size w w' := h
set_option maxHeartbeats 4000000 in
theorem says_inline (T : ByteArray) (hT : T.size ≤ 10000000) (ds : List (ByteArray × List ByteArray)) (h : Nat) (x : ByteArray) (hpt : parseB T.data.toList = [ds]) (hq : Quo x) (hp : PolOne ds h x) (i : Nat) (hi : i = 1 ∨ i = 2 ∨ i = 3) (hx : WordIs i x) (t : ByteArray) (ht : t.size ≤ 1000000) (s0 : Bool) (s1 s2 : ByteArray) (s3 : Int) (s4 s5 : ByteArray) (w : World) (hg : Gl w) : Calls Tryz.prog 7 #[.string T, inlineV t s0 s1 s2 s3 s4 s5] w (Ret ((i : Int) == 3) w) := by
  have c18 := fun g off c dv w' (hg' : Gl w') (hd : DirsV w' dv ds) h0 h1 => all1_inline g off c dv ds h x hq hp i hi hx t ht s0 s1 s2 s3 s4 s5 w' hg' hd h0 h1
  have c19 := fun w' => parse_any T false w' hT
  rw [hpt] at c19
  obtain ⟨R, hR⟩ : ∃ R : Bool, R = ((i : Int) == 3) := ⟨_, rfl⟩
  rw [← hR] at c18 ⊢
  unfold inlineV at c18 ⊢
  have hbA := below_alloc' w (.cells #[.int .i64 1, .string t, .bool false, .string ⟨#[]⟩, .string ⟨#[]⟩, .int .i64 0, .string ⟨#[]⟩, .string ⟨#[]⟩, .bool false, .string ⟨#[]⟩, .bool false, .bool s0, .string s1, .string s2, .int .i64 s3, .string s4, .string s5] 30)
  have hrow := heap_alloc_new w (.cells #[.int .i64 1, .string t, .bool false, .string ⟨#[]⟩, .string ⟨#[]⟩, .int .i64 0, .string ⟨#[]⟩, .string ⟨#[]⟩, .bool false, .string ⟨#[]⟩, .bool false, .bool s0, .string s1, .string s2, .int .i64 s3, .string s4, .string s5] 30)
  obtain ⟨W, hW⟩ : ∃ W, W = w.alloc (.cells #[.int .i64 1, .string t, .bool false, .string ⟨#[]⟩, .string ⟨#[]⟩, .int .i64 0, .string ⟨#[]⟩, .string ⟨#[]⟩, .bool false, .string ⟨#[]⟩, .bool false, .bool s0, .string s1, .string s2, .int .i64 s3, .string s4, .string s5] 30) := ⟨_, rfl⟩
  rw [← hW] at hbA hrow
  have hgW := hg.below hbA
  have C18 := Lib.hid c18
  have C19 := Lib.hid c19
  have HW := Lib.hid hW
  have HB := Lib.hid hbA
  have HROW := Lib.hid hrow
  have HG := Lib.hid hgW
  have x0 := cell_row hrow 0; have x1 := cell_row hrow 1; have x2 := cell_row hrow 2; have x3 := cell_row hrow 3; have x4 := cell_row hrow 4; have x5 := cell_row hrow 5; have x6 := cell_row hrow 6; have x7 := cell_row hrow 7; have x8 := cell_row hrow 8; have x9 := cell_row hrow 9; have x10 := cell_row hrow 10; have x11 := cell_row hrow 11; have x12 := cell_row hrow 12; have x13 := cell_row hrow 13; have x14 := cell_row hrow 14; have x15 := cell_row hrow 15; have x16 := cell_row hrow 16; simp only [List.getElem?_toArray, List.getElem?_cons_zero, List.getElem?_cons_succ] at x0 x1 x2 x3 x4 x5 x6 x7 x8 x9 x10 x11 x12 x13 x14 x15 x16
  clear c18 c19 hW hbA hrow hgW hg hR hpt hq hp hi hx
  have hfo := field_ok
  go_enter Tryz.func7, Tryz.ntmps7
  go_wp2_with fail
  rw [← HW.out]
  go_region_with (first
    | (go_at_call 19; refine (C19.out _).mono ?_; rintro e w1 ⟨v, rfl, hpv, hb1⟩; have hbb : Below W.heap.size W w1 := ⟨hb1.os, hb1.tape, hb1.output, hb1.size, hb1.block⟩; have hrow1 := (hbb.block w.heap.size (Array.getElem?_eq_some_iff.1 HROW.out).1).trans HROW.out; have y0 := cell_row hrow1 0; have y1 := cell_row hrow1 1; have y2 := cell_row hrow1 2; have y3 := cell_row hrow1 3; have y4 := cell_row hrow1 4; have y5 := cell_row hrow1 5; have y6 := cell_row hrow1 6; have y7 := cell_row hrow1 7; have y8 := cell_row hrow1 8; have y9 := cell_row hrow1 9; have y10 := cell_row hrow1 10; have y11 := cell_row hrow1 11; have y12 := cell_row hrow1 12; have y13 := cell_row hrow1 13; have y14 := cell_row hrow1 14; have y15 := cell_row hrow1 15; have y16 := cell_row hrow1 16; simp only [List.getElem?_toArray, List.getElem?_cons_zero, List.getElem?_cons_succ] at y0 y1 y2 y3 y4 y5 y6 y7 y8 y9 y10 y11 y12 y13 y14 y15 y16; clear hrow1; obtain ⟨A, c, rfl, -, -, hcc⟩ := hpv; obtain ⟨g, off, rfl, hgr, hcc⟩ := hcc (by simp); obtain ⟨dv, z0, z1, hd⟩ := hcc 0 (by simp); simp only [Nat.zero_mul, Nat.add_zero, List.getElem_cons_zero] at z0 z1 hd)
    | (go_at_call 18; refine (C18.out g off c dv _ (HG.out.below (below_dd hbb)) (hd.toV.below (below_dr w1)) z0 z1).mono ?_; rintro e w2 ⟨BA, Bn, Bc, rfl, hb2⟩))
  all_goals
    go_wp2_with fail
    go_ret
    have hb2' : Below w1.heap.size w1 w2 := ⟨hb2.os, hb2.tape, hb2.output, hb2.size, hb2.block⟩
    exact ⟨rfl, nx (nx HB.out hbb) hb2'⟩
set_option maxHeartbeats 4000000 in
theorem says_fetch (T : ByteArray) (hT : T.size ≤ 10000000) (ds : List (ByteArray × List ByteArray)) (h : Nat) (x : ByteArray) (hpt : parseB T.data.toList = [ds]) (hq : Quo x) (hp : PolOne ds h x) (hx : WordIs 2 x) (sc ho : ByteArray) (p : Int) (pa qu pb : ByteArray) (hu : URL.fits ⟨false, sc, ho, p, pa, qu⟩) (hv : URL.fits ⟨false, sc, ho, p, pb, ⟨#[]⟩⟩) (hcu : Ur.chk ⟨false, sc, ho, p, pa, qu⟩ = 0) (w : World) (hg : Gl w) : Calls Tryz.prog 7 #[.string T, fetchV sc ho p pa qu pb] w (Ret (Ur.chk ⟨false, sc, ho, p, pb, ⟨#[]⟩⟩ == 0) w) := by
  have c18 := fun g off c dv w' (hg' : Gl w') (hd : DirsV w' dv ds) h0 h1 => all1_fetch g off c dv ds h x hq hp hx sc ho p pa qu pb hu hv hcu w' hg' hd h0 h1
  have c19 := fun w' => parse_any T false w' hT
  rw [hpt] at c19
  obtain ⟨R, hR⟩ : ∃ R : Bool, R = (Ur.chk ⟨false, sc, ho, p, pb, ⟨#[]⟩⟩ == 0) := ⟨_, rfl⟩
  rw [← hR] at c18 ⊢
  unfold fetchV at c18 ⊢
  have hbA := below_alloc' w (.cells #[.int .i64 2, .string ⟨#[]⟩, .bool false, .string sc, .string ho, .int .i64 p, .string pb, .string ⟨#[]⟩, .bool false, .string ⟨#[]⟩, .bool true, .bool false, .string sc, .string ho, .int .i64 p, .string pa, .string qu] 30)
  have hrow := heap_alloc_new w (.cells #[.int .i64 2, .string ⟨#[]⟩, .bool false, .string sc, .string ho, .int .i64 p, .string pb, .string ⟨#[]⟩, .bool false, .string ⟨#[]⟩, .bool true, .bool false, .string sc, .string ho, .int .i64 p, .string pa, .string qu] 30)
  obtain ⟨W, hW⟩ : ∃ W, W = w.alloc (.cells #[.int .i64 2, .string ⟨#[]⟩, .bool false, .string sc, .string ho, .int .i64 p, .string pb, .string ⟨#[]⟩, .bool false, .string ⟨#[]⟩, .bool true, .bool false, .string sc, .string ho, .int .i64 p, .string pa, .string qu] 30) := ⟨_, rfl⟩
  rw [← hW] at hbA hrow
  have hgW := hg.below hbA
  have C18 := Lib.hid c18
  have C19 := Lib.hid c19
  have HW := Lib.hid hW
  have HB := Lib.hid hbA
  have HROW := Lib.hid hrow
  have HG := Lib.hid hgW
  have x0 := cell_row hrow 0; have x1 := cell_row hrow 1; have x2 := cell_row hrow 2; have x3 := cell_row hrow 3; have x4 := cell_row hrow 4; have x5 := cell_row hrow 5; have x6 := cell_row hrow 6; have x7 := cell_row hrow 7; have x8 := cell_row hrow 8; have x9 := cell_row hrow 9; have x10 := cell_row hrow 10; have x11 := cell_row hrow 11; have x12 := cell_row hrow 12; have x13 := cell_row hrow 13; have x14 := cell_row hrow 14; have x15 := cell_row hrow 15; have x16 := cell_row hrow 16; simp only [List.getElem?_toArray, List.getElem?_cons_zero, List.getElem?_cons_succ] at x0 x1 x2 x3 x4 x5 x6 x7 x8 x9 x10 x11 x12 x13 x14 x15 x16
  clear c18 c19 hW hbA hrow hgW hg hR hpt hq hp hx hu hv hcu
  have hfo := field_ok
  go_enter Tryz.func7, Tryz.ntmps7
  go_wp2_with fail
  rw [← HW.out]
  go_region_with (first
    | (go_at_call 19; refine (C19.out _).mono ?_; rintro e w1 ⟨v, rfl, hpv, hb1⟩; have hbb : Below W.heap.size W w1 := ⟨hb1.os, hb1.tape, hb1.output, hb1.size, hb1.block⟩; have hrow1 := (hbb.block w.heap.size (Array.getElem?_eq_some_iff.1 HROW.out).1).trans HROW.out; have y0 := cell_row hrow1 0; have y1 := cell_row hrow1 1; have y2 := cell_row hrow1 2; have y3 := cell_row hrow1 3; have y4 := cell_row hrow1 4; have y5 := cell_row hrow1 5; have y6 := cell_row hrow1 6; have y7 := cell_row hrow1 7; have y8 := cell_row hrow1 8; have y9 := cell_row hrow1 9; have y10 := cell_row hrow1 10; have y11 := cell_row hrow1 11; have y12 := cell_row hrow1 12; have y13 := cell_row hrow1 13; have y14 := cell_row hrow1 14; have y15 := cell_row hrow1 15; have y16 := cell_row hrow1 16; simp only [List.getElem?_toArray, List.getElem?_cons_zero, List.getElem?_cons_succ] at y0 y1 y2 y3 y4 y5 y6 y7 y8 y9 y10 y11 y12 y13 y14 y15 y16; clear hrow1; obtain ⟨A, c, rfl, -, -, hcc⟩ := hpv; obtain ⟨g, off, rfl, hgr, hcc⟩ := hcc (by simp); obtain ⟨dv, z0, z1, hd⟩ := hcc 0 (by simp); simp only [Nat.zero_mul, Nat.add_zero, List.getElem_cons_zero] at z0 z1 hd)
    | (go_at_call 18; refine (C18.out g off c dv _ (HG.out.below (below_dd hbb)) (hd.toV.below (below_dr w1)) z0 z1).mono ?_; rintro e w2 ⟨BA, Bn, Bc, rfl, hb2⟩))
  all_goals
    go_wp2_with fail
    go_ret
    have hb2' : Below w1.heap.size w1 w2 := ⟨hb2.os, hb2.tape, hb2.output, hb2.size, hb2.block⟩
    exact ⟨rfl, nx (nx HB.out hbb) hb2'⟩
set_option maxHeartbeats 4000000 in
theorem says_none (T : ByteArray) (hT : T.size ≤ 10000000) (hpt : parseB T.data.toList = []) (t : ByteArray) (s0 : Bool) (s1 s2 : ByteArray) (s3 : Int) (s4 s5 : ByteArray) (w : World) (hg : Gl w) : Calls Tryz.prog 7 #[.string T, inlineV t s0 s1 s2 s3 s4 s5] w (Ret (true) w) := by
  have c18 := fun A c w' => all0_any A c t s0 s1 s2 s3 s4 s5 w'
  have c19 := fun w' => parse_any T false w' hT
  rw [hpt] at c19
  obtain ⟨R, hR⟩ : ∃ R : Bool, R = (true) := ⟨_, rfl⟩
  rw [← hR] at c18 ⊢
  unfold inlineV at c18 ⊢
  have hbA := below_alloc' w (.cells #[.int .i64 1, .string t, .bool false, .string ⟨#[]⟩, .string ⟨#[]⟩, .int .i64 0, .string ⟨#[]⟩, .string ⟨#[]⟩, .bool false, .string ⟨#[]⟩, .bool false, .bool s0, .string s1, .string s2, .int .i64 s3, .string s4, .string s5] 30)
  have hrow := heap_alloc_new w (.cells #[.int .i64 1, .string t, .bool false, .string ⟨#[]⟩, .string ⟨#[]⟩, .int .i64 0, .string ⟨#[]⟩, .string ⟨#[]⟩, .bool false, .string ⟨#[]⟩, .bool false, .bool s0, .string s1, .string s2, .int .i64 s3, .string s4, .string s5] 30)
  obtain ⟨W, hW⟩ : ∃ W, W = w.alloc (.cells #[.int .i64 1, .string t, .bool false, .string ⟨#[]⟩, .string ⟨#[]⟩, .int .i64 0, .string ⟨#[]⟩, .string ⟨#[]⟩, .bool false, .string ⟨#[]⟩, .bool false, .bool s0, .string s1, .string s2, .int .i64 s3, .string s4, .string s5] 30) := ⟨_, rfl⟩
  rw [← hW] at hbA hrow
  have hgW := hg.below hbA
  have C18 := Lib.hid c18
  have C19 := Lib.hid c19
  have HW := Lib.hid hW
  have HB := Lib.hid hbA
  have HROW := Lib.hid hrow
  have HG := Lib.hid hgW
  have x0 := cell_row hrow 0; have x1 := cell_row hrow 1; have x2 := cell_row hrow 2; have x3 := cell_row hrow 3; have x4 := cell_row hrow 4; have x5 := cell_row hrow 5; have x6 := cell_row hrow 6; have x7 := cell_row hrow 7; have x8 := cell_row hrow 8; have x9 := cell_row hrow 9; have x10 := cell_row hrow 10; have x11 := cell_row hrow 11; have x12 := cell_row hrow 12; have x13 := cell_row hrow 13; have x14 := cell_row hrow 14; have x15 := cell_row hrow 15; have x16 := cell_row hrow 16; simp only [List.getElem?_toArray, List.getElem?_cons_zero, List.getElem?_cons_succ] at x0 x1 x2 x3 x4 x5 x6 x7 x8 x9 x10 x11 x12 x13 x14 x15 x16
  clear c18 c19 hW hbA hrow hgW hg hR hpt 
  have hfo := field_ok
  go_enter Tryz.func7, Tryz.ntmps7
  go_wp2_with fail
  rw [← HW.out]
  go_region_with (first
    | (go_at_call 19; refine (C19.out _).mono ?_; rintro e w1 ⟨v, rfl, hpv, hb1⟩; have hbb : Below W.heap.size W w1 := ⟨hb1.os, hb1.tape, hb1.output, hb1.size, hb1.block⟩; have hrow1 := (hbb.block w.heap.size (Array.getElem?_eq_some_iff.1 HROW.out).1).trans HROW.out; have y0 := cell_row hrow1 0; have y1 := cell_row hrow1 1; have y2 := cell_row hrow1 2; have y3 := cell_row hrow1 3; have y4 := cell_row hrow1 4; have y5 := cell_row hrow1 5; have y6 := cell_row hrow1 6; have y7 := cell_row hrow1 7; have y8 := cell_row hrow1 8; have y9 := cell_row hrow1 9; have y10 := cell_row hrow1 10; have y11 := cell_row hrow1 11; have y12 := cell_row hrow1 12; have y13 := cell_row hrow1 13; have y14 := cell_row hrow1 14; have y15 := cell_row hrow1 15; have y16 := cell_row hrow1 16; simp only [List.getElem?_toArray, List.getElem?_cons_zero, List.getElem?_cons_succ] at y0 y1 y2 y3 y4 y5 y6 y7 y8 y9 y10 y11 y12 y13 y14 y15 y16; clear hrow1; obtain ⟨A, c, rfl, -, -, hcc⟩ := hpv)
    | (go_at_call 18; refine (C18.out A c _).mono ?_; rintro e w2 ⟨BA, Bn, Bc, rfl, hb2⟩))
  all_goals
    go_wp2_with fail
    go_ret
    have hb2' : Below w1.heap.size w1 w2 := ⟨hb2.os, hb2.tape, hb2.output, hb2.size, hb2.block⟩
    exact ⟨rfl, nx (nx HB.out hbb) hb2'⟩
end Go.Proofs.YtajokmcdhhiahaaGreatDoor
