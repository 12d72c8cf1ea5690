/- match's Url at 'self'. -/
import Derived.Test.YtajokmcdhhiahaaGreatDoorMB
import Derived.Lib.QuietBelow
namespace Go.Proofs.YtajokmcdhhiahaaGreatDoor
open Go.RowKit Go.Sort Go.BigFrame
set_option maxRecDepth 100000

/-- An address in a box. -/
def UBox (w : World) (B : Nat) (u : URL) : Prop := w.heap[B]? = some (.cells #[.bool u.opq, .string u.scheme, .string u.host, .int .i64 u.port, .string u.path, .string u.query] 23 (0, 0))
theorem UBox.below {w w' : World} {B : Nat} {u : URL} (h : UBox w B u) (hb : Below w.heap.size w w') : UBox w' B u := (hb.block B (Array.getElem?_eq_some_iff.1 h).1).trans h
theorem right1_any (u : URL) (hu : u.fits) (B : Nat) (w : World) (hg : Gl w) (hB : UBox w B u) : Calls Tryz.prog 122 #[.pointer (some ⟨B, 0, none⟩)] w (Ret (Ur.chk u == 0) w) := by
  have c5 := check_any u hu w hg
  obtain ⟨x0, x1, x2, x3, x4, x5⟩ := six_cells hB
  obtain ⟨q, sc, ho, p, pa, qu⟩ := u
  obtain ⟨C, hC⟩ : ∃ r, r = Ur.chk ⟨q, sc, ho, p, pa, qu⟩ := ⟨_, rfl⟩
  rw [← hC] at c5 ⊢
  have c5 : Calls Tryz.prog 5 #[.agg #[.bool q, .string sc, .string ho, .int .i64 p, .string pa, .string qu]] w fun e w' => e = .returned (.int .i64 C) ∧ Below w.heap.size w w' := c5
  have C5 := Lib.hid c5
  clear c5 hC hB hu hg
  go_enter Tryz.func122, Tryz.ntmps122
  go_wp2_with fail
  with_reducible refine C5.out.mono ?_
  rintro e w1 ⟨rfl, hb1⟩
  go_wp2
  go_ret
  exact ⟨rfl, hb1⟩
set_option maxHeartbeats 2000000 in
theorem mall_no (u : URL) (hu : u.fits) (B b c : Nat) (w : World) (hg : Gl w) (hB : UBox w B u) (hc : (Ur.chk u == 0) = false) (h0 : w.cell? ⟨b, 0, none⟩ = some (.func (.func 122) #[] #[.pointer (some ⟨B, 0, none⟩)])) :
    Calls Tryz.prog 125 #[.slice (some ⟨b, 0, none⟩) 3 c] w (Ret false w) := by
  have c122 := right1_any u hu B w hg hB
  rw [hc] at c122
  have C122 := Lib.hid c122
  clear c122 hB hu hg hc
  go_enter Tryz.func125, Tryz.ntmps125
  go_wp2_with fail
  go_loopg [7] 1 (fun gk n wr => gk = 1 ∧ n = .int .i64 0 ∧ wr = w)
  case atStart => exact ⟨rfl, rfl, rfl⟩
  case round =>
    obtain ⟨hgk, rfl, hw⟩ := hrel
    obtain rfl : w = wr := hw.symm
    have HGK := Lib.hid hgk
    clear hw hgk
    go_wp2_with fail
    refine C122.out.mono ?_
    rintro e w1 ⟨rfl, hb1⟩
    go_wp2_with fail
    go_ret
    exact ⟨rfl, hb1⟩
set_option maxHeartbeats 4000000 in
theorem murl_any (sc ho : ByteArray) (p : Int) (pa qu pb : ByteArray) (hu : URL.fits ⟨false, sc, ho, p, pa, qu⟩) (hv : URL.fits ⟨false, sc, ho, p, pb, ⟨#[]⟩⟩) (hcu : Ur.chk ⟨false, sc, ho, p, pa, qu⟩ = 0) (w : World) (hg : Gl w) :
    Calls Tryz.prog 108 #[src 2, .agg #[.bool false, .string sc, .string ho, .int .i64 p, .string pb, .string ⟨#[]⟩], .agg #[.bool false, .string sc, .string ho, .int .i64 p, .string pa, .string qu], .bool false] w (Ret (Ur.chk ⟨false, sc, ho, p, pb, ⟨#[]⟩⟩ == 0) w) := by
  have c135v := fun w' (h : Gl w') => of_org ⟨false, sc, ho, p, pb, ⟨#[]⟩⟩ hv w' h
  have c135u := fun w' (h : Gl w') => of_org ⟨false, sc, ho, p, pa, qu⟩ hu w' h
  have e2 : orgOf ⟨false, sc, ho, p, pa, qu⟩ = orgV false sc ho (Ur.port ⟨false, sc, ho, p, pa, qu⟩) := if_pos ⟨hcu, rfl⟩
  have e1y : (Ur.chk ⟨false, sc, ho, p, pb, ⟨#[]⟩⟩ == 0) = true → orgOf ⟨false, sc, ho, p, pb, ⟨#[]⟩⟩ = orgV false sc ho (Ur.port ⟨false, sc, ho, p, pa, qu⟩) := fun h => if_pos ⟨by simpa using h, rfl⟩
  have e1n : (Ur.chk ⟨false, sc, ho, p, pb, ⟨#[]⟩⟩ == 0) = false → orgOf ⟨false, sc, ho, p, pb, ⟨#[]⟩⟩ = orgV true ⟨#[]⟩ ⟨#[]⟩ 0 := fun h => if_neg (by rintro ⟨h1, _⟩; rw [h1] at h; cases h)
  have c134 : ∀ w', Calls Tryz.prog 134 #[orgOf ⟨false, sc, ho, p, pb, ⟨#[]⟩⟩, orgOf ⟨false, sc, ho, p, pa, qu⟩] w' (Ret (Ur.chk ⟨false, sc, ho, p, pb, ⟨#[]⟩⟩ == 0) w') := fun w' => by
    rw [e2]
    cases h : (Ur.chk ⟨false, sc, ho, p, pb, ⟨#[]⟩⟩ == 0)
    · rw [e1n h]; exact same_no _ _ _ w'
    · rw [e1y h]; exact same_yes _ _ _ w'
  have c125 := fun (h : (Ur.chk ⟨false, sc, ho, p, pb, ⟨#[]⟩⟩ == 0) = false) (B b c : Nat) (w' : World) (hg' : Gl w') (hB : UBox w' B ⟨false, sc, ho, p, pb, ⟨#[]⟩⟩) => mall_no ⟨false, sc, ho, p, pb, ⟨#[]⟩⟩ hv B b c w' hg' hB h
  obtain ⟨O1, hO1⟩ : ∃ O, O = orgOf ⟨false, sc, ho, p, pb, ⟨#[]⟩⟩ := ⟨_, rfl⟩
  obtain ⟨O2, hO2⟩ : ∃ O, O = orgOf ⟨false, sc, ho, p, pa, qu⟩ := ⟨_, rfl⟩
  obtain ⟨R, hR⟩ : ∃ R, R = (Ur.chk ⟨false, sc, ho, p, pb, ⟨#[]⟩⟩ == 0) := ⟨_, rfl⟩
  rw [← hO1, ← hO2, ← hR] at c134
  rw [← hO1] at c135v
  rw [← hO2] at c135u
  rw [← hR] at c125 ⊢
  have c135v : ∀ w', Gl w' → Calls Tryz.prog 135 #[.agg #[.bool false, .string sc, .string ho, .int .i64 p, .string pb, .string ⟨#[]⟩]] w' fun e w'' => e = .returned O1 ∧ Below w'.heap.size w' w'' := c135v
  have c135u : ∀ w', Gl w' → Calls Tryz.prog 135 #[.agg #[.bool false, .string sc, .string ho, .int .i64 p, .string pa, .string qu]] w' fun e w'' => e = .returned O2 ∧ Below w'.heap.size w' w'' := c135u
  clear e2 e1y e1n hO1 hO2 hR hcu hu hv
  unfold src
  have C135v := Lib.hid c135v
  have C135u := Lib.hid c135u
  have C134 := Lib.hid c134
  have C125 := Lib.hid c125
  have HG := Lib.hid hg
  clear c135v c135u c134 c125 hg
  obtain ⟨W, hW⟩ : ∃ W, W = ((((w.alloc (.cells #[.int .i64 2, .string ⟨#[]⟩, .string ⟨#[]⟩, .string ⟨#[]⟩, .bool false, .int .i64 0, .string ⟨#[]⟩] 130)).alloc (.cells #[.bool false, .string sc, .string ho, .int .i64 p, .string pb, .string ⟨#[]⟩] 23)).alloc (.cells #[.bool false, .string sc, .string ho, .int .i64 p, .string pa, .string qu] 23)).alloc (.cells #[.bool false] 4)).alloc (.cells #[.string ⟨#[]⟩] 9) := ⟨_, rfl⟩
  have hbW : Below w.heap.size w W := by rw [hW]; exact (((((Below.refl _ w).alloc (Nat.le_refl _) _).alloc (by simp) _).alloc (by simp; omega) _).alloc (by simp; omega) _).alloc (by simp; omega) _
  have hv1 : UBox W (w.heap.size + 1) ⟨false, sc, ho, p, pb, ⟨#[]⟩⟩ := by
    rw [hW]
    have h := heap_alloc_new (w.alloc (.cells #[.int .i64 2, .string ⟨#[]⟩, .string ⟨#[]⟩, .string ⟨#[]⟩, .bool false, .int .i64 0, .string ⟨#[]⟩] 130)) (.cells #[.bool false, .string sc, .string ho, .int .i64 p, .string pb, .string ⟨#[]⟩] 23)
    rw [World.size_alloc] at h
    exact (heap_alloc_old ((((w.alloc (.cells #[.int .i64 2, .string ⟨#[]⟩, .string ⟨#[]⟩, .string ⟨#[]⟩, .bool false, .int .i64 0, .string ⟨#[]⟩] 130)).alloc (.cells #[.bool false, .string sc, .string ho, .int .i64 p, .string pb, .string ⟨#[]⟩] 23)).alloc (.cells #[.bool false, .string sc, .string ho, .int .i64 p, .string pa, .string qu] 23)).alloc (.cells #[.bool false] 4)) _ (by simp)).trans ((heap_alloc_old (((w.alloc (.cells #[.int .i64 2, .string ⟨#[]⟩, .string ⟨#[]⟩, .string ⟨#[]⟩, .bool false, .int .i64 0, .string ⟨#[]⟩] 130)).alloc (.cells #[.bool false, .string sc, .string ho, .int .i64 p, .string pb, .string ⟨#[]⟩] 23)).alloc (.cells #[.bool false, .string sc, .string ho, .int .i64 p, .string pa, .string qu] 23)) _ (by simp)).trans ((heap_alloc_old ((w.alloc (.cells #[.int .i64 2, .string ⟨#[]⟩, .string ⟨#[]⟩, .string ⟨#[]⟩, .bool false, .int .i64 0, .string ⟨#[]⟩] 130)).alloc (.cells #[.bool false, .string sc, .string ho, .int .i64 p, .string pb, .string ⟨#[]⟩] 23)) _ (by simp)).trans h))
  have hu1 : UBox W (w.heap.size + 1 + 1) ⟨false, sc, ho, p, pa, qu⟩ := by
    rw [hW]
    have h := heap_alloc_new ((w.alloc (.cells #[.int .i64 2, .string ⟨#[]⟩, .string ⟨#[]⟩, .string ⟨#[]⟩, .bool false, .int .i64 0, .string ⟨#[]⟩] 130)).alloc (.cells #[.bool false, .string sc, .string ho, .int .i64 p, .string pb, .string ⟨#[]⟩] 23)) (.cells #[.bool false, .string sc, .string ho, .int .i64 p, .string pa, .string qu] 23)
    rw [World.size_alloc, World.size_alloc] at h
    exact (heap_alloc_old ((((w.alloc (.cells #[.int .i64 2, .string ⟨#[]⟩, .string ⟨#[]⟩, .string ⟨#[]⟩, .bool false, .int .i64 0, .string ⟨#[]⟩] 130)).alloc (.cells #[.bool false, .string sc, .string ho, .int .i64 p, .string pb, .string ⟨#[]⟩] 23)).alloc (.cells #[.bool false, .string sc, .string ho, .int .i64 p, .string pa, .string qu] 23)).alloc (.cells #[.bool false] 4)) _ (by simp)).trans ((heap_alloc_old (((w.alloc (.cells #[.int .i64 2, .string ⟨#[]⟩, .string ⟨#[]⟩, .string ⟨#[]⟩, .bool false, .int .i64 0, .string ⟨#[]⟩] 130)).alloc (.cells #[.bool false, .string sc, .string ho, .int .i64 p, .string pb, .string ⟨#[]⟩] 23)).alloc (.cells #[.bool false, .string sc, .string ho, .int .i64 p, .string pa, .string qu] 23)) _ (by simp)).trans h)
  have HW := Lib.hid hW
  have HBW := Lib.hid hbW
  have HV1 := Lib.hid hv1
  have HGW := Lib.hid (HG.out.below hbW)
  obtain ⟨x0, x1, x2, x3, x4, x5⟩ := six_cells hv1
  obtain ⟨y0, y1, y2, y3, y4, y5⟩ := six_cells hu1
  clear hW hbW hv1 hu1
  go_enter Tryz.func108, Tryz.ntmps108
  go_wp2_with fail
  rw [← HW.out]
  have z0 := cell_regrown x0
  have t0 := cell_regrown y0
  have z1 := cell_regrown x1
  have t1 := cell_regrown y1
  have z2 := cell_regrown x2
  have t2 := cell_regrown y2
  have z3 := cell_regrown x3
  have t3 := cell_regrown y3
  have z4 := cell_regrown x4
  have t4 := cell_regrown y4
  have z5 := cell_regrown x5
  have t5 := cell_regrown y5
  have q1 := fun d os => Calls.regrown_of (C135v.out (grow (redrawn W d) os) (HGW.out.below (below_regrown W d os)))
  have q2 := fun d os => Calls.regrown_of (C135u.out (grow (redrawn W d) os) (HGW.out.below (below_regrown W d os)))
  have q3 := fun d os => Calls.regrown_of (C134.out (grow (redrawn W d) os))
  refine wp_region_quiet_below (by kernel_rfl) (by kernel_rfl) ?_
  repeat (go_big_quiet_step ((first | (go_at_call 135; with_reducible first | exact q1 _ _ | exact q2 _ _) | (go_at_call 134; exact q3 _ _))))
  refine wpQuiet_nil ?_
  intro w5 hw'
  obtain ⟨⟨dq, osq⟩, hw''⟩ := hw'
  clear z0 z1 z2 z3 z4 z5 t0 t1 t2 t3 t4 t5 q1 q2 q3
  have hb2 : Below W.heap.size W w5 := by rw [hw'']; exact below_regrown W dq osq
  clear hw'' x0 x1 x2 x3 x4 x5 y0 y1 y2 y3 y4 y5
  have HB5 := Lib.hid (HBW.out.trans (hb2.mono HBW.out.size))
  have HV5 := Lib.hid (HV1.out.below hb2)
  have HG5 := Lib.hid (HGW.out.below hb2)
  clear hb2
  cases R
  · have hba := fun o => below_alloc' w5 o
    have C125' := fun o (h0 : (w5.alloc o).cell? ⟨w5.heap.size, 0, none⟩ = some (.func (.func 122) #[] #[.pointer (some ⟨w.heap.size + 1, 0, none⟩)])) => C125.out rfl (w.heap.size + 1) w5.heap.size 3 (w5.alloc o) (HG5.out.below (hba o)) (HV5.out.below (hba o)) h0
    have H125 := Lib.hid C125'
    clear hba C125'
    go_wp2_with fail
    refine (H125.out _ (cell_row (heap_alloc_new w5 _) 0)).mono ?_
    rintro e w6 ⟨rfl, hb6⟩
    go_wp2_with fail
    go_ret
    exact ⟨rfl, nx HB5.out (nx (below_alloc' w5 _) hb6)⟩
  · go_wp2_with fail
    go_ret
    exact ⟨rfl, HB5.out⟩
end Go.Proofs.YtajokmcdhhiahaaGreatDoor
