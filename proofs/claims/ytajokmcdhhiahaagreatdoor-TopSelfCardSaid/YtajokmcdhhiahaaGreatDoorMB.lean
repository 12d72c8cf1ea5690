/- origin's Of and Same; match's right. -/
import Derived.Test.YtajokmcdhhiahaaGreatDoorAB
import Derived.Deep.RegionHeld3
import Derived.Laws.ResultCell
namespace Go.Proofs.YtajokmcdhhiahaaGreatDoor
open Go.RowKit
set_option maxRecDepth 100000

def Ur.port (u : URL) : Int := if u.port = 0 then Ur.dflt u.scheme else u.port
theorem oport_any (u : URL) (w : World) : Calls Tryz.prog 153 #[u.val] w fun e w' => e = .returned (.int .i64 (Ur.port u)) ∧ Below w.heap.size w w' := by
  obtain ⟨q, sc, ho, p, pa, qu⟩ := u
  show Calls Tryz.prog 153 #[.agg #[.bool q, .string sc, .string ho, .int .i64 p, .string pa, .string qu]] w _
  have hd : Ur.port ⟨q, sc, ho, p, pa, qu⟩ = if p = 0 then Ur.dflt sc else p := rfl
  obtain ⟨r, hr⟩ : ∃ r, r = Ur.port ⟨q, sc, ho, p, pa, qu⟩ := ⟨_, rfl⟩
  have c8 := fun w' => default_any sc w'
  obtain ⟨d, hdd⟩ : ∃ d, d = Ur.dflt sc := ⟨_, rfl⟩
  rw [← hr, ← hdd] at hd
  rw [← hr]
  rw [← hdd] at c8
  have C8 := Lib.hid c8
  have HD := Lib.hid hd
  clear c8 hd hr hdd
  by_cases hp : p = 0
  · have hpn : (p != 0) = false := by simp [hp]
    have HF := Lib.hid (show r = d by rw [HD.out, if_pos hp])
    clear hp
    go_enter Tryz.func153, Tryz.ntmps153
    go_wp2_with fail
    with_reducible refine (C8.out _).mono ?_
    rintro e w1 ⟨rfl, rfl⟩
    go_wp2
    go_ret
    exact ⟨ret_int HF.out.symm, below_alloc' _ _⟩
  · have hpn : (p != 0) = true := by simp [hp]
    have HF := Lib.hid (show r = p by rw [HD.out, if_neg hp])
    clear hp
    go_enter Tryz.func153, Tryz.ntmps153
    go_wp2_with fail
    go_ret
    exact ⟨ret_int HF.out.symm, below_alloc' _ _⟩
/-- An origin. -/
def orgV (q : Bool) (sc ho : ByteArray) (p : Int) : Value := .agg #[.bool q, .string sc, .string ho, .int .i64 p]
def orgOf (u : URL) : Value := if Ur.chk u = 0 ∧ u.opq = false then orgV false u.scheme u.host (Ur.port u) else orgV true ⟨#[]⟩ ⟨#[]⟩ 0
theorem same_yes (sc ho : ByteArray) (p : Int) (w : World) : Calls Tryz.prog 134 #[orgV false sc ho p, orgV false sc ho p] w (Ret true w) := by
  unfold orgV
  go_enter Tryz.func134, Tryz.ntmps134
  go_wp2_with fail
  go_ret
  exact ⟨rfl, ((Below.refl _ w).alloc (Nat.le_refl _) _).alloc (by simp) _⟩
theorem same_no (sc ho : ByteArray) (p : Int) (w : World) : Calls Tryz.prog 134 #[orgV true ⟨#[]⟩ ⟨#[]⟩ 0, orgV false sc ho p] w (Ret false w) := by
  unfold orgV
  go_enter Tryz.func134, Tryz.ntmps134
  go_wp2_with fail
  go_ret
  exact ⟨rfl, ((Below.refl _ w).alloc (Nat.le_refl _) _).alloc (by simp) _⟩
theorem six_cells {w : World} {b : Nat} {v0 v1 v2 v3 v4 v5 : Value} {T : TypeId} (h : w.heap[b]? = some (.cells #[v0, v1, v2, v3, v4, v5] T (0, 0))) :
    w.cell? ⟨b, 0, none⟩ = some v0 ∧ w.cell? ⟨b, 1, none⟩ = some v1 ∧ w.cell? ⟨b, 2, none⟩ = some v2 ∧ w.cell? ⟨b, 3, none⟩ = some v3 ∧ w.cell? ⟨b, 4, none⟩ = some v4 ∧ w.cell? ⟨b, 5, none⟩ = some v5 := by
  have h0 := cell_row h 0
  have h1 := cell_row h 1
  have h2 := cell_row h 2
  have h3 := cell_row h 3
  have h4 := cell_row h 4
  have h5 := cell_row h 5
  simp at h0 h1 h2 h3 h4 h5
  exact ⟨h0, h1, h2, h3, h4, h5⟩
theorem four_cellsO {w : World} {b : Nat} {v0 v1 v2 v3 : Value} {T : TypeId} (h : w.heap[b]? = some (.cells #[v0, v1, v2, v3] T (0, 0))) :
    w.cell? ⟨b, 0, none⟩ = some v0 ∧ w.cell? ⟨b, 1, none⟩ = some v1 ∧ w.cell? ⟨b, 2, none⟩ = some v2 ∧ w.cell? ⟨b, 3, none⟩ = some v3 := by
  have h0 := cell_row h 0
  have h1 := cell_row h 1
  have h2 := cell_row h 2
  have h3 := cell_row h 3
  simp at h0 h1 h2 h3
  exact ⟨h0, h1, h2, h3⟩
theorem set4 {w : World} {b : Nat} {a0 a1 a2 a3 : Value} {T : TypeId} (h : w.heap[b]? = some (.cells #[a0, a1, a2, a3] T (0, 0))) (v0 v1 v2 v3 : Value) :
    ((((w.setCell ⟨b, 0, none⟩ v0).setCell ⟨b, 1, none⟩ v1).setCell ⟨b, 2, none⟩ v2).setCell ⟨b, 3, none⟩ v3).heap[b]? = some (.cells #[v0, v1, v2, v3] T (0, 0)) :=
  heap_setCell_same _ b 3 _ T v3 (heap_setCell_same _ b 2 _ T v2 (heap_setCell_same _ b 1 _ T v1 (heap_setCell_same _ b 0 _ T v0 h)))
theorem set4_below {B : Nat} {w0 w : World} {b : Nat} (h : Below B w0 w) (hb : B ≤ b) (v0 v1 v2 v3 : Value) :
    Below B w0 ((((w.setCell ⟨b, 0, none⟩ v0).setCell ⟨b, 1, none⟩ v1).setCell ⟨b, 2, none⟩ v2).setCell ⟨b, 3, none⟩ v3) :=
  (((h.setCell (p := ⟨b, 0, none⟩) hb v0).setCell (p := ⟨b, 1, none⟩) hb v1).setCell (p := ⟨b, 2, none⟩) hb v2).setCell (p := ⟨b, 3, none⟩) hb v3
set_option maxHeartbeats 4000000 in
theorem of_org (u : URL) (hu : u.fits) (w : World) (hg : Gl w) : Calls Tryz.prog 135 #[u.val] w fun e w' => e = .returned (orgOf u) ∧ Below w.heap.size w w' := by
  have c5 := fun w' (h : Gl w') => check_any u hu w' h
  have c153 := fun w' => oport_any u w'
  obtain ⟨q, sc, ho, p, pa, qu⟩ := u
  have ho' : orgOf ⟨q, sc, ho, p, pa, qu⟩ = if Ur.chk ⟨q, sc, ho, p, pa, qu⟩ = 0 ∧ q = false then orgV false sc ho (Ur.port ⟨q, sc, ho, p, pa, qu⟩) else orgV true ⟨#[]⟩ ⟨#[]⟩ 0 := rfl
  obtain ⟨r, hr⟩ : ∃ r, r = orgOf ⟨q, sc, ho, p, pa, qu⟩ := ⟨_, rfl⟩
  obtain ⟨C, hC⟩ : ∃ r, r = Ur.chk ⟨q, sc, ho, p, pa, qu⟩ := ⟨_, rfl⟩
  obtain ⟨pt, hpt⟩ : ∃ r, r = Ur.port ⟨q, sc, ho, p, pa, qu⟩ := ⟨_, rfl⟩
  rw [← hr, ← hC, ← hpt] at ho'
  rw [← hC] at c5
  rw [← hpt] at c153
  rw [← hr]
  show Calls Tryz.prog 135 #[.agg #[.bool q, .string sc, .string ho, .int .i64 p, .string pa, .string qu]] w _
  have c5 : ∀ w', Gl w' → Calls Tryz.prog 5 #[.agg #[.bool q, .string sc, .string ho, .int .i64 p, .string pa, .string qu]] w' fun e w'' => e = .returned (.int .i64 C) ∧ Below w'.heap.size w' w'' := c5
  have c153 : ∀ w', Calls Tryz.prog 153 #[.agg #[.bool q, .string sc, .string ho, .int .i64 p, .string pa, .string qu]] w' fun e w'' => e = .returned (.int .i64 pt) ∧ Below w'.heap.size w' w'' := c153
  obtain ⟨W, hW⟩ : ∃ W, W = (w.alloc (.cells #[.bool q, .string sc, .string ho, .int .i64 p, .string pa, .string qu] 23)).alloc (.cells #[.bool false, .string ⟨#[]⟩, .string ⟨#[]⟩, .int .i64 0] 165) := ⟨_, rfl⟩
  have hbW : Below w.heap.size w W := by rw [hW]; exact ((Below.refl _ w).alloc (Nat.le_refl _) _).alloc (by simp) _
  have hbox : W.heap[w.heap.size]? = some (.cells #[.bool q, .string sc, .string ho, .int .i64 p, .string pa, .string qu] 23 (0, 0)) := by rw [hW]; exact (heap_alloc_old _ _ (by simp)).trans (heap_alloc_new _ _)
  have hres : W.heap[w.heap.size + 1]? = some (.cells #[.bool false, .string ⟨#[]⟩, .string ⟨#[]⟩, .int .i64 0] 165 (0, 0)) := by
    rw [hW]
    have := heap_alloc_new (w.alloc (.cells #[.bool q, .string sc, .string ho, .int .i64 p, .string pa, .string qu] 23)) (.cells #[.bool false, .string ⟨#[]⟩, .string ⟨#[]⟩, .int .i64 0] 165)
    rw [World.size_alloc] at this
    exact this
  have c5W := c5 W (hg.below hbW)
  have C5 := Lib.hid c5W
  have C153 := Lib.hid c153
  have HO := Lib.hid ho'
  have HW := Lib.hid hW
  have HBW := Lib.hid hbW
  have HBOX := Lib.hid hbox
  have HRES := Lib.hid hres
  obtain ⟨x0, x1, x2, x3, x4, x5⟩ := six_cells hbox
  clear c5 c5W c153 ho' hr hC hpt hW hbW hbox hres hu hg
  go_enter Tryz.func135, Tryz.ntmps135
  go_wp2_with fail
  rw [← HW.out]
  go_wp2_with fail
  with_reducible refine C5.out.mono ?_
  rintro e w1 ⟨rfl, hb1⟩
  clear x0 x1 x2 x3 x4 x5
  have hbox1 := (hb1.block w.heap.size (Array.getElem?_eq_some_iff.1 HBOX.out).1).trans HBOX.out
  have hres1 := (hb1.block (w.heap.size + 1) (Array.getElem?_eq_some_iff.1 HRES.out).1).trans HRES.out
  have HB1 := Lib.hid (HBW.out.trans (hb1.mono HBW.out.size))
  have HRES1 := Lib.hid hres1
  have HBOX1 := Lib.hid hbox1
  obtain ⟨x0, x1, x2, x3, x4, x5⟩ := six_cells hbox1
  obtain ⟨z0, z1, z2, z3⟩ := four_cellsO hres1
  have f0 := frozen_of_row w1 (w.heap.size + 1) 0 _ 165 hres1
  have f1 := frozen_of_row w1 (w.heap.size + 1) 1 _ 165 hres1
  have f2 := frozen_of_row w1 (w.heap.size + 1) 2 _ 165 hres1
  have f3 := frozen_of_row w1 (w.heap.size + 1) 3 _ 165 hres1
  clear hb1 hbox1 hres1
  have bad : (C ≠ 0 ∨ q = true) → r = orgV true ⟨#[]⟩ ⟨#[]⟩ 0 := fun h => by
    rw [HO.out, if_neg (by rintro ⟨h1, h2⟩; rcases h with h | h; exact h h1; rw [h] at h2; cases h2)]
  have good : C = 0 → q = false → r = orgV false sc ho pt := fun h1 h2 => by rw [HO.out, if_pos ⟨h1, h2⟩]
  have HBAD := Lib.hid bad
  have HGOOD := Lib.hid good
  clear bad good
  by_cases hC : C = 0
  · have hCn : (C != 0) = false := by simp [hC]
    cases q
    · have HF := Lib.hid (HGOOD.out hC rfl)
      clear hC
      have hOB : w.heap.size < w1.heap.size := World.block_lt_of_cell? w1 _ x0
      have hOR : w.heap.size + 1 < w1.heap.size := World.block_lt_of_cell? w1 _ z0
      have hS : ∀ w', Below w1.heap.size w1 w' → (w'.cell? ⟨w.heap.size, 0, none⟩ = some (.bool false) ∧ w'.cell? ⟨w.heap.size, 1, none⟩ = some (.string sc) ∧ w'.cell? ⟨w.heap.size, 2, none⟩ = some (.string ho) ∧ w'.cell? ⟨w.heap.size, 3, none⟩ = some (.int .i64 p) ∧ w'.cell? ⟨w.heap.size, 4, none⟩ = some (.string pa) ∧ w'.cell? ⟨w.heap.size, 5, none⟩ = some (.string qu) ∧
          w'.cell? ⟨w.heap.size + 1, 0, none⟩ = some (.bool false) ∧ w'.cell? ⟨w.heap.size + 1, 1, none⟩ = some (.string ⟨#[]⟩) ∧ w'.cell? ⟨w.heap.size + 1, 2, none⟩ = some (.string ⟨#[]⟩) ∧ w'.cell? ⟨w.heap.size + 1, 3, none⟩ = some (.int .i64 0) ∧
          w'.frozen? ⟨w.heap.size + 1, 0, none⟩ = false ∧ w'.frozen? ⟨w.heap.size + 1, 1, none⟩ = false ∧ w'.frozen? ⟨w.heap.size + 1, 2, none⟩ = false ∧ w'.frozen? ⟨w.heap.size + 1, 3, none⟩ = false ∧ Below w1.heap.size w1 w') := fun w' hb => by
        have hr := (hb.block (w.heap.size + 1) hOR).trans HRES1.out
        exact ⟨(hb.cell (p := ⟨w.heap.size, 0, none⟩) hOB).trans x0, (hb.cell (p := ⟨w.heap.size, 1, none⟩) hOB).trans x1, (hb.cell (p := ⟨w.heap.size, 2, none⟩) hOB).trans x2, (hb.cell (p := ⟨w.heap.size, 3, none⟩) hOB).trans x3, (hb.cell (p := ⟨w.heap.size, 4, none⟩) hOB).trans x4, (hb.cell (p := ⟨w.heap.size, 5, none⟩) hOB).trans x5,
          (hb.cell (p := ⟨w.heap.size + 1, 0, none⟩) hOR).trans z0, (hb.cell (p := ⟨w.heap.size + 1, 1, none⟩) hOR).trans z1, (hb.cell (p := ⟨w.heap.size + 1, 2, none⟩) hOR).trans z2, (hb.cell (p := ⟨w.heap.size + 1, 3, none⟩) hOR).trans z3,
          frozen_of_row w' (w.heap.size + 1) 0 _ 165 hr, frozen_of_row w' (w.heap.size + 1) 1 _ 165 hr, frozen_of_row w' (w.heap.size + 1) 2 _ 165 hr, frozen_of_row w' (w.heap.size + 1) 3 _ 165 hr, hb⟩
      have HS := Lib.hid hS
      clear hS hOB hOR
      go_wp2_with fail
      go_region_with (go_at_call 153; refine (C153.out _).mono ?_; rintro e w3 ⟨rfl, hb3⟩; obtain ⟨k0, k1, k2, k3, k4, k5, k6, k7, k8, k9, k10, k11, k12, k13, hB3⟩ := HS.out w3 ⟨hb3.os, hb3.tape, hb3.output, hb3.size, hb3.block⟩)
      all_goals
        go_wp2_with fail
        have h3 := set4 ((hB3.block (w.heap.size + 1) (Array.getElem?_eq_some_iff.1 HRES1.out).1).trans HRES1.out) (.bool false) (.string sc) (.string ho) (.int .i64 pt)
        have hb4 := set4_below (b := w.heap.size + 1) (HB1.out.trans (hB3.mono HB1.out.size)) (Nat.le_succ _) (.bool false) (.string sc) (.string ho) (.int .i64 pt)
        have q0 := cell_row h3 0
        have q1 := cell_row h3 1
        have q2 := cell_row h3 2
        have q3 := cell_row h3 3
        simp only [List.getElem?_toArray, List.getElem?_cons_zero, List.getElem?_cons_succ] at q0 q1 q2 q3
        refine bodyPost_ret (v := .agg #[(.bool false), (.string sc), (.string ho), (.int .i64 pt)]) (by simp [results, Tryz.results135, go_sem, q0, q1, q2, q3]) rfl ⟨by rw [HF.out]; rfl, hb4⟩
    · have HF := Lib.hid (HBAD.out (Or.inr rfl))
      clear hC
      go_wp2_with fail
      have h3 := set4 (HRES1.out) (.bool true) (.string ⟨#[]⟩) (.string ⟨#[]⟩) (.int .i64 0)
      have hb4 := set4_below (b := w.heap.size + 1) HB1.out (Nat.le_succ _) (.bool true) (.string ⟨#[]⟩) (.string ⟨#[]⟩) (.int .i64 0)
      have q0 := cell_row h3 0
      have q1 := cell_row h3 1
      have q2 := cell_row h3 2
      have q3 := cell_row h3 3
      simp only [List.getElem?_toArray, List.getElem?_cons_zero, List.getElem?_cons_succ] at q0 q1 q2 q3
      refine bodyPost_ret (v := .agg #[(.bool true), (.string ⟨#[]⟩), (.string ⟨#[]⟩), (.int .i64 0)]) (by simp [results, Tryz.results135, go_sem, q0, q1, q2, q3]) rfl ⟨by rw [HF.out]; rfl, hb4⟩
  · have hCn : (C != 0) = true := by simp [hC]
    have HF := Lib.hid (HBAD.out (Or.inl hC))
    clear hC
    go_wp2_with fail
    have h3 := set4 (HRES1.out) (.bool true) (.string ⟨#[]⟩) (.string ⟨#[]⟩) (.int .i64 0)
    have hb4 := set4_below (b := w.heap.size + 1) HB1.out (Nat.le_succ _) (.bool true) (.string ⟨#[]⟩) (.string ⟨#[]⟩) (.int .i64 0)
    have q0 := cell_row h3 0
    have q1 := cell_row h3 1
    have q2 := cell_row h3 2
    have q3 := cell_row h3 3
    simp only [List.getElem?_toArray, List.getElem?_cons_zero, List.getElem?_cons_succ] at q0 q1 q2 q3
    refine bodyPost_ret (v := .agg #[(.bool true), (.string ⟨#[]⟩), (.string ⟨#[]⟩), (.int .i64 0)]) (by simp [results, Tryz.results135, go_sem, q0, q1, q2, q3]) rfl ⟨by rw [HF.out]; rfl, hb4⟩
end Go.Proofs.YtajokmcdhhiahaaGreatDoor
