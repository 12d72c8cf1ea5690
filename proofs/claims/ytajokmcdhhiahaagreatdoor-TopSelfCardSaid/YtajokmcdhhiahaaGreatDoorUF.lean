/- url's Check. Printed by uf.py. -/
import Derived.Test.YtajokmcdhhiahaaGreatDoorUE
import Derived.Lib.QuietBelow
import Derived.WalkMore
import Derived.ScopeJumps
namespace Go.Proofs.YtajokmcdhhiahaaGreatDoor
open Go.RowKit Go.Sort Go.BigFrame
set_option maxRecDepth 100000

namespace Ur
def okO (u : URL) : Bool := u.host.data.toList.isEmpty && u.query.data.toList.isEmpty && u.port == 0 && Fo.trim u.path.data.toList == u.path.data.toList && all oq u.path
def okQ (q : ByteArray) : Bool := q.data.toList.isEmpty || (head (fun x => x == 63) q && all qy (q.extract 1 q.size))
def okR (u : URL) : Bool := host u.host && decide (0 ≤ u.port) && decide (u.port ≤ 65535) && u.port != dflt u.scheme && all byt u.path && !u.path.data.toList.isEmpty && (clean u.path).data.toList == u.path.data.toList && okQ u.query
def ok (u : URL) : Bool := scheme u.scheme && (u.opq == (dflt u.scheme == 0)) && (if u.opq then okO u else okR u) && decide ((text u).size ≤ 500)
def chk (u : URL) : Int := if ok u then 0 else 50
end Ur
theorem beq_data (a b : ByteArray) : (a.toList == b.toList) = (a.data.toList == b.data.toList) := by rw [Lib.toList_data, Lib.toList_data]
theorem set_getD (tm : Array Value) (v : Value) (h : 2 < tm.size) : (tm.setIfInBounds 2 v).getD 2 undef = v := by simp [Array.getD, h]
theorem below_d {B : Nat} {w w' : World} (h : Below B w w') : Below B w w'.drew := ⟨h.os, h.tape, h.output, h.size, h.block⟩

set_option maxHeartbeats 8000000 in
theorem check_any (u : URL) (hu : u.fits) (w : World) (hg : Gl w) : Calls Tryz.prog 5 #[u.val] w fun e w' => e = .returned (.int .i64 (Ur.chk u)) ∧ Below w.heap.size w w' := by
  have c17 := fun w' (h : Gl w') => text_any u hu w' h
  obtain ⟨q, sc, ho, p, pa, qu⟩ := u
  obtain ⟨h1, h2, h3, h4, h5, h6⟩ := hu
  have h1 : sc.size ≤ 1000000 := h1
  have h2 : ho.size ≤ 1000000 := h2
  have h3 : pa.size ≤ 1000000 := h3
  have h4 : qu.size ≤ 1000000 := h4
  have h5 : -9223372036854775808 ≤ p := h5
  have h6 : p ≤ 9223372036854775807 := h6
  have hck : Ur.chk ⟨q, sc, ho, p, pa, qu⟩ = if (Ur.scheme sc && (q == (Ur.dflt sc == 0)) && (if q then Ur.okO ⟨q, sc, ho, p, pa, qu⟩ else Ur.okR ⟨q, sc, ho, p, pa, qu⟩) && decide ((Ur.text ⟨q, sc, ho, p, pa, qu⟩).size ≤ 500)) then 0 else 50 := rfl
  have hoo : Ur.okO ⟨q, sc, ho, p, pa, qu⟩ = (ho.data.toList.isEmpty && qu.data.toList.isEmpty && p == 0 && Fo.trim pa.data.toList == pa.data.toList && Ur.all Ur.oq pa) := rfl
  have hrr : Ur.okR ⟨q, sc, ho, p, pa, qu⟩ = (Ur.host ho && decide (0 ≤ p) && decide (p ≤ 65535) && p != Ur.dflt sc && Ur.all Ur.byt pa && !pa.data.toList.isEmpty && (Ur.clean pa).data.toList == pa.data.toList && Ur.okQ qu) := rfl
  have hqq : Ur.okQ qu = (qu.data.toList.isEmpty || (Ur.head (fun x => x == 63) qu && Ur.all Ur.qy (qu.extract 1 qu.size))) := rfl
  show Calls Tryz.prog 5 #[.agg #[.bool q, .string sc, .string ho, .int .i64 p, .string pa, .string qu]] w _
  have c17 : ∀ w', Gl w' → Calls Tryz.prog 17 #[.agg #[.bool q, .string sc, .string ho, .int .i64 p, .string pa, .string qu]] w' fun e w'' => e = .returned (.string (Ur.text ⟨q, sc, ho, p, pa, qu⟩)) ∧ Below w'.heap.size w' w'' := c17
  have c8 := fun w' => default_any sc w'
  have c9 := fun w' => scheme_any sc w' (by omega)
  have c10 := fun w' => trim_any pa w' (by omega)
  have c12 := fun w' => urall_any 12 Ur.oq (by decide) check1_any pa w' (by omega)
  have c13 := fun w' (h : Gl w') => host_any ho w' (by omega) _ h.ml.choose_spec
  have c14 := fun w' => urall_any 14 Ur.byt (by decide) byteOf_any pa w' (by omega)
  have c15 := fun w' (h : Gl w') => clean_any pa w' h3 _ h.ml.choose_spec
  have c16 := fun w' => urall_any 16 Ur.qy (by decide) check2_any (qu.extract 1 qu.size) w' (by have := extract_le qu 1 qu.size; omega)
  obtain ⟨r, hr⟩ : ∃ r, r = Ur.chk ⟨q, sc, ho, p, pa, qu⟩ := ⟨_, rfl⟩
  obtain ⟨tx, htx⟩ : ∃ r, r = Ur.text ⟨q, sc, ho, p, pa, qu⟩ := ⟨_, rfl⟩
  obtain ⟨oo, hoo'⟩ : ∃ r, r = Ur.okO ⟨q, sc, ho, p, pa, qu⟩ := ⟨_, rfl⟩
  obtain ⟨rr, hrr'⟩ : ∃ r, r = Ur.okR ⟨q, sc, ho, p, pa, qu⟩ := ⟨_, rfl⟩
  obtain ⟨qq, hqq'⟩ : ∃ r, r = Ur.okQ qu := ⟨_, rfl⟩
  obtain ⟨sch, hsch⟩ : ∃ r, r = Ur.scheme sc := ⟨_, rfl⟩
  obtain ⟨d, hdf⟩ : ∃ r, r = Ur.dflt sc := ⟨_, rfl⟩
  obtain ⟨hh, hhh⟩ : ∃ r, r = Ur.host ho := ⟨_, rfl⟩
  obtain ⟨ao, hao⟩ : ∃ r, r = Ur.all Ur.oq pa := ⟨_, rfl⟩
  obtain ⟨ab, hab⟩ : ∃ r, r = Ur.all Ur.byt pa := ⟨_, rfl⟩
  obtain ⟨aq, haq⟩ : ∃ r, r = Ur.all Ur.qy (qu.extract 1 qu.size) := ⟨_, rfl⟩
  obtain ⟨T, hT⟩ : ∃ T : ByteArray, T = ⟨(Fo.trim pa.data.toList).toArray⟩ := ⟨_, rfl⟩
  obtain ⟨C, hC⟩ : ∃ C, C = Ur.clean pa := ⟨_, rfl⟩
  obtain ⟨e2, he2⟩ : ∃ b, b = ho.data.toList.isEmpty := ⟨_, rfl⟩
  obtain ⟨e4, he4⟩ : ∃ b, b = pa.data.toList.isEmpty := ⟨_, rfl⟩
  obtain ⟨e5, he5⟩ : ∃ b, b = qu.data.toList.isEmpty := ⟨_, rfl⟩
  have hTd : Fo.trim pa.data.toList = T.data.toList := by rw [hT]
  rw [← hr, ← hsch, ← hdf, ← hoo', ← hrr', ← htx] at hck
  rw [← hoo', ← he2, ← he5, hTd, ← beq_data, ← hao] at hoo
  rw [← hrr', ← hhh, ← hdf, ← hab, ← he4, ← hC, ← beq_data, ← hqq'] at hrr
  rw [← hqq', ← he5, ← haq] at hqq
  rw [← htx] at c17
  rw [← hdf] at c8
  rw [← hsch] at c9
  rw [← hT] at c10
  rw [← hao] at c12
  rw [← hhh] at c13
  rw [← hab] at c14
  rw [← hC] at c15
  rw [← haq] at c16
  rw [← hr]
  obtain ⟨k2, j2⟩ := toList_empty ho e2 he2.symm
  obtain ⟨k4, j4⟩ := toList_empty pa e4 he4.symm
  obtain ⟨k5, j5⟩ := toList_empty qu e5 he5.symm
  have hbB := below_alloc' w (.cells #[.bool q, .string sc, .string ho, .int .i64 p, .string pa, .string qu] 23)
  have hw1 := heap_alloc_new w (.cells #[.bool q, .string sc, .string ho, .int .i64 p, .string pa, .string qu] 23)
  have hgW := hg.below hbB
  obtain ⟨W, hW⟩ : ∃ W, W = w.alloc (.cells #[.bool q, .string sc, .string ho, .int .i64 p, .string pa, .string qu] 23) := ⟨_, rfl⟩
  rw [← hW] at hbB hw1 hgW
  have hltB : w.heap.size < W.heap.size := (Array.getElem?_eq_some_iff.1 hw1).1
  obtain ⟨B, hB⟩ : ∃ B, B = w.heap.size := ⟨_, rfl⟩
  rw [← hB] at hw1 hltB
  have y0 := cell_row hw1 0
  have y1 := cell_row hw1 1
  have y2 := cell_row hw1 2
  have y3 := cell_row hw1 3
  have y4 := cell_row hw1 4
  have y5 := cell_row hw1 5
  simp at y0 y1 y2 y3 y4 y5
  have HCK := Lib.hid hck
  have HOO := Lib.hid hoo
  have HRR := Lib.hid hrr
  have HQQ := Lib.hid hqq
  have C17 := Lib.hid c17
  have C8 := Lib.hid c8
  have C9 := Lib.hid c9
  have C10 := Lib.hid c10
  have C12 := Lib.hid c12
  have C13 := Lib.hid c13
  have C14 := Lib.hid c14
  have C15 := Lib.hid c15
  have C16 := Lib.hid c16
  have HW := Lib.hid hW
  have HBB := Lib.hid hbB
  have HB := Lib.hid hB
  have HG := Lib.hid hgW
  clear hck hoo hrr hqq c17 c8 c9 c10 c12 c13 c14 c15 c16 hW hbB hB hg hgW hw1 hr htx hoo' hrr' hqq' hsch hdf hhh hao hab haq hT hC he2 he4 he5 hTd
  go_enter Tryz.func5, Tryz.ntmps5
  go_wp2_with fail
  rw [← HW.out, ← HB.out]
  refine wp_scope_jumps 0 (fun a' w' => Hid (r = 50) ∧ Hid (Below w.heap.size w w') ∧ Hid (a'.tmps.size = 106) ∧ a'.defers = []) (fun _ _ => 0) rfl ?_ ?jumped
  case jumped =>
    rintro ⟨tm, df⟩ w' ⟨HF, HBF, HS, rfl⟩
    go_wp2
    simp only [Exit.jump]
    go_ret
    exact ⟨by show Ending.returned ((tm.setIfInBounds 2 _).getD 2 undef) = _; rw [set_getD _ _ (by rw [HS.out]; decide), HF.out], HBF.out⟩
  go_wp2_with fail
  with_reducible refine (C8.out _).mono ?_
  rintro e w1 ⟨rfl, hw⟩
  obtain rfl : W = w1 := hw.symm
  clear hw
  go_wp2_with fail
  with_reducible refine (C9.out _).mono ?_
  rintro e w1 ⟨rfl, hw⟩
  obtain rfl : W = w1 := hw.symm
  clear hw
  cases sch
  · have HF : Hid (r = 50) := by show _ = _; rw [HCK.out]; rfl
    go_wp2_with fail
    go_step3
    exact ⟨rfl, HF, HBB, rfl, rfl⟩
  · cases hz : (d == 0)
    · cases q
      · have hck2 : r = if (rr && decide (tx.size ≤ 500)) then 0 else 50 := by rw [HCK.out, hz]; rfl
        have HCK2 := Lib.hid hck2
        clear hck2
        cases hh
        · skip
          have HF : Hid (r = 50) := by show _ = _; rw [HCK2.out, HRR.out]; simp
          go_wp2_with fail
          have z2 := cell_regrown y2
          have z3 := cell_regrown y3
          have z4 := cell_regrown y4
          have z5 := cell_regrown y5
          have q13 := fun d os => Calls.regrown_of ((C13.out (grow (redrawn W d) os) (HG.out.below (below_regrown W d os))).mono fun _ _ h => ⟨h.1, by rw [h.2]; exact Below.refl _ _⟩)
          have q14 := fun d os => Calls.regrown_of ((C14.out (grow (redrawn W d) os)).mono fun _ _ h => ⟨h.1, by rw [h.2]; exact Below.refl _ _⟩)
          have q15 := fun d os => Calls.regrown_of (C15.out (grow (redrawn W d) os) (HG.out.below (below_regrown W d os)))
          refine wp_region_quiet_below (by kernel_rfl) (by kernel_rfl) ?_
          repeat (go_big_quiet_step ((first | (go_at_call 13; exact q13 _ _) | (go_at_call 11; exact q14 _ _) | (go_at_call 15; exact q15 _ _))))
          refine wpQuiet_nil ?_
          intro w5 hw'
          obtain ⟨⟨dq, osq⟩, hw''⟩ := hw'
          clear z2 z3 z4 z5 q13 q14 q15
          have hb2 : Below W.heap.size W w5 := by rw [hw'']; exact below_regrown W dq osq
          clear hw''
          go_wp2_with fail
          go_step3
          exact ⟨rfl, HF, HBB.out.trans (hb2.mono HBB.out.size), rfl, rfl⟩
        · skip
          by_cases hp0 : p < 0
          · skip
            have hd0 : decide (0 ≤ p) = false := by simpa using hp0
            have HF : Hid (r = 50) := by show _ = _; rw [HCK2.out, HRR.out, hd0]; simp
            go_wp2_with fail
            have z2 := cell_regrown y2
            have z3 := cell_regrown y3
            have z4 := cell_regrown y4
            have z5 := cell_regrown y5
            have q13 := fun d os => Calls.regrown_of ((C13.out (grow (redrawn W d) os) (HG.out.below (below_regrown W d os))).mono fun _ _ h => ⟨h.1, by rw [h.2]; exact Below.refl _ _⟩)
            have q14 := fun d os => Calls.regrown_of ((C14.out (grow (redrawn W d) os)).mono fun _ _ h => ⟨h.1, by rw [h.2]; exact Below.refl _ _⟩)
            have q15 := fun d os => Calls.regrown_of (C15.out (grow (redrawn W d) os) (HG.out.below (below_regrown W d os)))
            refine wp_region_quiet_below (by kernel_rfl) (by kernel_rfl) ?_
            repeat (go_big_quiet_step ((first | (go_at_call 13; exact q13 _ _) | (go_at_call 11; exact q14 _ _) | (go_at_call 15; exact q15 _ _))))
            refine wpQuiet_nil ?_
            intro w5 hw'
            obtain ⟨⟨dq, osq⟩, hw''⟩ := hw'
            clear z2 z3 z4 z5 q13 q14 q15
            have hb2 : Below W.heap.size W w5 := by rw [hw'']; exact below_regrown W dq osq
            clear hw''
            go_wp2_with fail
            go_step3
            exact ⟨rfl, HF, HBB.out.trans (hb2.mono HBB.out.size), rfl, rfl⟩
          · skip
            have hp0d : decide (p < 0) = false := by simpa using hp0
            have hd0 : decide (0 ≤ p) = true := by simpa using hp0
            by_cases hp1 : 65535 < p
            · skip
              have hd1 : decide (p ≤ 65535) = false := by simpa using hp1
              have HF : Hid (r = 50) := by show _ = _; rw [HCK2.out, HRR.out, hd1]; simp
              go_wp2_with fail
              have z2 := cell_regrown y2
              have z3 := cell_regrown y3
              have z4 := cell_regrown y4
              have z5 := cell_regrown y5
              have q13 := fun d os => Calls.regrown_of ((C13.out (grow (redrawn W d) os) (HG.out.below (below_regrown W d os))).mono fun _ _ h => ⟨h.1, by rw [h.2]; exact Below.refl _ _⟩)
              have q14 := fun d os => Calls.regrown_of ((C14.out (grow (redrawn W d) os)).mono fun _ _ h => ⟨h.1, by rw [h.2]; exact Below.refl _ _⟩)
              have q15 := fun d os => Calls.regrown_of (C15.out (grow (redrawn W d) os) (HG.out.below (below_regrown W d os)))
              refine wp_region_quiet_below (by kernel_rfl) (by kernel_rfl) ?_
              repeat (go_big_quiet_step ((first | (go_at_call 13; exact q13 _ _) | (go_at_call 11; exact q14 _ _) | (go_at_call 15; exact q15 _ _))))
              refine wpQuiet_nil ?_
              intro w5 hw'
              obtain ⟨⟨dq, osq⟩, hw''⟩ := hw'
              clear z2 z3 z4 z5 q13 q14 q15
              have hb2 : Below W.heap.size W w5 := by rw [hw'']; exact below_regrown W dq osq
              clear hw''
              go_wp2_with fail
              go_step3
              exact ⟨rfl, HF, HBB.out.trans (hb2.mono HBB.out.size), rfl, rfl⟩
            · skip
              have hp1d : decide (65535 < p) = false := by simpa using hp1
              have hd1 : decide (p ≤ 65535) = true := by simpa using hp1
              clear hp0 hp1
              by_cases hpd : p = d
              · skip
                have hpe : (p == d) = true := by simp [hpd]
                have hpn : (p != d) = false := by simp [hpd]
                clear hpd
                have HF : Hid (r = 50) := by show _ = _; rw [HCK2.out, HRR.out, hpn]; simp
                go_wp2_with fail
                have z2 := cell_regrown y2
                have z3 := cell_regrown y3
                have z4 := cell_regrown y4
                have z5 := cell_regrown y5
                have q13 := fun d os => Calls.regrown_of ((C13.out (grow (redrawn W d) os) (HG.out.below (below_regrown W d os))).mono fun _ _ h => ⟨h.1, by rw [h.2]; exact Below.refl _ _⟩)
                have q14 := fun d os => Calls.regrown_of ((C14.out (grow (redrawn W d) os)).mono fun _ _ h => ⟨h.1, by rw [h.2]; exact Below.refl _ _⟩)
                have q15 := fun d os => Calls.regrown_of (C15.out (grow (redrawn W d) os) (HG.out.below (below_regrown W d os)))
                refine wp_region_quiet_below (by kernel_rfl) (by kernel_rfl) ?_
                repeat (go_big_quiet_step ((first | (go_at_call 13; exact q13 _ _) | (go_at_call 11; exact q14 _ _) | (go_at_call 15; exact q15 _ _))))
                refine wpQuiet_nil ?_
                intro w5 hw'
                obtain ⟨⟨dq, osq⟩, hw''⟩ := hw'
                clear z2 z3 z4 z5 q13 q14 q15
                have hb2 : Below W.heap.size W w5 := by rw [hw'']; exact below_regrown W dq osq
                clear hw''
                go_wp2_with fail
                go_step3
                exact ⟨rfl, HF, HBB.out.trans (hb2.mono HBB.out.size), rfl, rfl⟩
              · skip
                have hpe : (p == d) = false := by simp [hpd]
                have hpn : (p != d) = true := by simp [hpd]
                clear hpd
                cases ab
                · skip
                  have HF : Hid (r = 50) := by show _ = _; rw [HCK2.out, HRR.out]; simp
                  go_wp2_with fail
                  have z2 := cell_regrown y2
                  have z3 := cell_regrown y3
                  have z4 := cell_regrown y4
                  have z5 := cell_regrown y5
                  have q13 := fun d os => Calls.regrown_of ((C13.out (grow (redrawn W d) os) (HG.out.below (below_regrown W d os))).mono fun _ _ h => ⟨h.1, by rw [h.2]; exact Below.refl _ _⟩)
                  have q14 := fun d os => Calls.regrown_of ((C14.out (grow (redrawn W d) os)).mono fun _ _ h => ⟨h.1, by rw [h.2]; exact Below.refl _ _⟩)
                  have q15 := fun d os => Calls.regrown_of (C15.out (grow (redrawn W d) os) (HG.out.below (below_regrown W d os)))
                  refine wp_region_quiet_below (by kernel_rfl) (by kernel_rfl) ?_
                  repeat (go_big_quiet_step ((first | (go_at_call 13; exact q13 _ _) | (go_at_call 11; exact q14 _ _) | (go_at_call 15; exact q15 _ _))))
                  refine wpQuiet_nil ?_
                  intro w5 hw'
                  obtain ⟨⟨dq, osq⟩, hw''⟩ := hw'
                  clear z2 z3 z4 z5 q13 q14 q15
                  have hb2 : Below W.heap.size W w5 := by rw [hw'']; exact below_regrown W dq osq
                  clear hw''
                  go_wp2_with fail
                  go_step3
                  exact ⟨rfl, HF, HBB.out.trans (hb2.mono HBB.out.size), rfl, rfl⟩
                · skip
                  cases e4
                  case' true =>
                    simp at j4
                    have HF : Hid (r = 50) := by show _ = _; rw [HCK2.out, HRR.out]; simp
                    go_wp2_with fail
                    have z2 := cell_regrown y2
                    have z3 := cell_regrown y3
                    have z4 := cell_regrown y4
                    have z5 := cell_regrown y5
                    have q13 := fun d os => Calls.regrown_of ((C13.out (grow (redrawn W d) os) (HG.out.below (below_regrown W d os))).mono fun _ _ h => ⟨h.1, by rw [h.2]; exact Below.refl _ _⟩)
                    have q14 := fun d os => Calls.regrown_of ((C14.out (grow (redrawn W d) os)).mono fun _ _ h => ⟨h.1, by rw [h.2]; exact Below.refl _ _⟩)
                    have q15 := fun d os => Calls.regrown_of (C15.out (grow (redrawn W d) os) (HG.out.below (below_regrown W d os)))
                    refine wp_region_quiet_below (by kernel_rfl) (by kernel_rfl) ?_
                    repeat (go_big_quiet_step ((first | (go_at_call 13; exact q13 _ _) | (go_at_call 11; exact q14 _ _) | (go_at_call 15; exact q15 _ _))))
                    refine wpQuiet_nil ?_
                    intro w5 hw'
                    obtain ⟨⟨dq, osq⟩, hw''⟩ := hw'
                    clear z2 z3 z4 z5 q13 q14 q15
                    have hb2 : Below W.heap.size W w5 := by rw [hw'']; exact below_regrown W dq osq
                    clear hw''
                    go_wp2_with fail
                    go_step3
                    exact ⟨rfl, HF, HBB.out.trans (hb2.mono HBB.out.size), rfl, rfl⟩
                  simp at j4
                  cases hcl : (C.toList == pa.toList)
                  · skip
                    have hcn : (C.toList != pa.toList) = true := by rw [bne, hcl]; rfl
                    have HF : Hid (r = 50) := by show _ = _; rw [HCK2.out, HRR.out, hcl]; simp
                    go_wp2_with fail
                    have z2 := cell_regrown y2
                    have z3 := cell_regrown y3
                    have z4 := cell_regrown y4
                    have z5 := cell_regrown y5
                    have q13 := fun d os => Calls.regrown_of ((C13.out (grow (redrawn W d) os) (HG.out.below (below_regrown W d os))).mono fun _ _ h => ⟨h.1, by rw [h.2]; exact Below.refl _ _⟩)
                    have q14 := fun d os => Calls.regrown_of ((C14.out (grow (redrawn W d) os)).mono fun _ _ h => ⟨h.1, by rw [h.2]; exact Below.refl _ _⟩)
                    have q15 := fun d os => Calls.regrown_of (C15.out (grow (redrawn W d) os) (HG.out.below (below_regrown W d os)))
                    refine wp_region_quiet_below (by kernel_rfl) (by kernel_rfl) ?_
                    repeat (go_big_quiet_step ((first | (go_at_call 13; exact q13 _ _) | (go_at_call 11; exact q14 _ _) | (go_at_call 15; exact q15 _ _))))
                    refine wpQuiet_nil ?_
                    intro w5 hw'
                    obtain ⟨⟨dq, osq⟩, hw''⟩ := hw'
                    clear z2 z3 z4 z5 q13 q14 q15
                    have hb2 : Below W.heap.size W w5 := by rw [hw'']; exact below_regrown W dq osq
                    clear hw''
                    go_wp2_with fail
                    go_step3
                    exact ⟨rfl, HF, HBB.out.trans (hb2.mono HBB.out.size), rfl, rfl⟩
                  · skip
                    have hcn : (C.toList != pa.toList) = false := by rw [bne, hcl]; rfl
                    have hck4 : r = if (qq && decide (tx.size ≤ 500)) then 0 else 50 := by rw [HCK2.out, HRR.out, hd0, hd1, hpn, hcl]; simp
                    have HCK4 := Lib.hid hck4
                    clear hck4
                    go_wp2_with fail
                    have z2 := cell_regrown y2
                    have z3 := cell_regrown y3
                    have z4 := cell_regrown y4
                    have z5 := cell_regrown y5
                    have q13 := fun d os => Calls.regrown_of ((C13.out (grow (redrawn W d) os) (HG.out.below (below_regrown W d os))).mono fun _ _ h => ⟨h.1, by rw [h.2]; exact Below.refl _ _⟩)
                    have q14 := fun d os => Calls.regrown_of ((C14.out (grow (redrawn W d) os)).mono fun _ _ h => ⟨h.1, by rw [h.2]; exact Below.refl _ _⟩)
                    have q15 := fun d os => Calls.regrown_of (C15.out (grow (redrawn W d) os) (HG.out.below (below_regrown W d os)))
                    refine wp_region_quiet_below (by kernel_rfl) (by kernel_rfl) ?_
                    repeat (go_big_quiet_step ((first | (go_at_call 13; exact q13 _ _) | (go_at_call 11; exact q14 _ _) | (go_at_call 15; exact q15 _ _))))
                    refine wpQuiet_nil ?_
                    intro w5 hw'
                    obtain ⟨⟨dq, osq⟩, hw''⟩ := hw'
                    clear z2 z3 z4 z5 q13 q14 q15
                    have hb2 : Below W.heap.size W w5 := by rw [hw'']; exact below_regrown W dq osq
                    clear hw''
                    cases e5
                    case' true =>
                      simp at j5
                      have hck3 : r = if decide (tx.size ≤ 500) then 0 else 50 := by rw [HCK4.out, HQQ.out]; simp
                      have HCK3 := Lib.hid hck3
                      clear hck3
                      have x0 := (hb2.cell (p := ⟨B, 0, none⟩) hltB).trans y0
                      have x1 := (hb2.cell (p := ⟨B, 1, none⟩) hltB).trans y1
                      have x2 := (hb2.cell (p := ⟨B, 2, none⟩) hltB).trans y2
                      have x3 := (hb2.cell (p := ⟨B, 3, none⟩) hltB).trans y3
                      have x4 := (hb2.cell (p := ⟨B, 4, none⟩) hltB).trans y4
                      have x5 := (hb2.cell (p := ⟨B, 5, none⟩) hltB).trans y5
                      have C17' := Lib.hid (C17.out w5 (HG.out.below hb2))
                      have HB5 := Lib.hid hb2
                      clear hb2
                      by_cases h500 : tx.size ≤ 500
                      · have HF : Hid (r = 0) := by show _ = _; rw [HCK3.out, if_pos (by simpa using h500)]
                        have h5i : (tx.size : Int) ≤ 500 := by omega
                        clear h500
                        go_wp2_with fail
                        with_reducible refine C17'.out.mono ?_
                        rintro e w6 ⟨rfl, hb6⟩
                        go_wp2
                        simp only [Exit.jump]
                        go_ret
                        exact ⟨ret_int HF.out.symm, HBB.out.trans ((HB5.out.trans (hb6.mono HB5.out.size)).mono HBB.out.size)⟩
                      · have HF : Hid (r = 50) := by show _ = _; rw [HCK3.out, if_neg (by simpa using h500)]
                        have h5i : ¬ (tx.size : Int) ≤ 500 := by omega
                        clear h500
                        go_wp2_with fail
                        with_reducible refine C17'.out.mono ?_
                        rintro e w6 ⟨rfl, hb6⟩
                        go_wp2
                        go_step3
                        go_wp2
                        simp only [Exit.jump]
                        go_ret
                        exact ⟨ret_int HF.out.symm, HBB.out.trans ((HB5.out.trans (hb6.mono HB5.out.size)).mono HBB.out.size)⟩
                    simp at j5
                    have x0 := (hb2.cell (p := ⟨B, 0, none⟩) hltB).trans y0
                    have x1 := (hb2.cell (p := ⟨B, 1, none⟩) hltB).trans y1
                    have x2 := (hb2.cell (p := ⟨B, 2, none⟩) hltB).trans y2
                    have x3 := (hb2.cell (p := ⟨B, 3, none⟩) hltB).trans y3
                    have x4 := (hb2.cell (p := ⟨B, 4, none⟩) hltB).trans y4
                    have x5 := (hb2.cell (p := ⟨B, 5, none⟩) hltB).trans y5
                    have hq0 : 0 < qu.size := by
                      have h1 := size_len qu
                      rcases Nat.eq_zero_or_pos qu.size with h | h
                      · exfalso
                        apply j5
                        rw [Lib.toList_data]
                        exact List.eq_nil_of_length_eq_zero (by omega)
                      · exact h
                    have hqh := HQQ.out
                    rw [head_at _ _ hq0] at hqh
                    have hq1 : (1 : Int) ≤ qu.size := by omega
                    cases hb63 : ((qu[0].toNat : Int) == 63)
                    · have hn63 : ((qu[0].toNat : Int) != 63) = true := by rw [bne, hb63]; rfl
                      have HF : Hid (r = 50) := by show _ = _; rw [HCK4.out, hqh, hb63]; simp
                      have HB5 := Lib.hid hb2
                      clear hqh hb2
                      go_wp2_with fail
                      go_step3
                      exact ⟨rfl, HF, HBB.out.trans (HB5.out.mono HBB.out.size), rfl, rfl⟩
                    · have hn63 : ((qu[0].toNat : Int) != 63) = false := by rw [bne, hb63]; rfl
                      have C16' := Lib.hid (C16.out w5)
                      cases aq
                      · have HF : Hid (r = 50) := by show _ = _; rw [HCK4.out, hqh]; simp
                        have HB5 := Lib.hid hb2
                        clear hqh hb2
                        go_wp2_with fail
                        with_reducible refine C16'.out.mono ?_
                        rintro e w6 ⟨rfl, hw⟩
                        obtain rfl : w5 = w6 := hw.symm
                        go_wp2_with fail
                        go_step3
                        exact ⟨rfl, HF, HBB.out.trans (HB5.out.mono HBB.out.size), rfl, rfl⟩
                      · have hck3 : r = if decide (tx.size ≤ 500) then 0 else 50 := by rw [HCK4.out, hqh, hb63]; simp
                        have HCK3 := Lib.hid hck3
                        clear hck3 hqh
                        have HB5' := Lib.hid hb2
                        clear hb2
                        go_wp2_with fail
                        with_reducible refine C16'.out.mono ?_
                        rintro e w6 ⟨rfl, hw⟩
                        obtain rfl : w5 = w6 := hw.symm
                        clear hw C16'
                        have hb2 := HB5'.out
                        clear x0 x1 x2 x3 x4 x5
                        have x0 := (hb2.cell (p := ⟨B, 0, none⟩) hltB).trans y0
                        have x1 := (hb2.cell (p := ⟨B, 1, none⟩) hltB).trans y1
                        have x2 := (hb2.cell (p := ⟨B, 2, none⟩) hltB).trans y2
                        have x3 := (hb2.cell (p := ⟨B, 3, none⟩) hltB).trans y3
                        have x4 := (hb2.cell (p := ⟨B, 4, none⟩) hltB).trans y4
                        have x5 := (hb2.cell (p := ⟨B, 5, none⟩) hltB).trans y5
                        have C17' := Lib.hid (C17.out w5 (HG.out.below hb2))
                        have HB5 := Lib.hid hb2
                        clear hb2
                        by_cases h500 : tx.size ≤ 500
                        · have HF : Hid (r = 0) := by show _ = _; rw [HCK3.out, if_pos (by simpa using h500)]
                          have h5i : (tx.size : Int) ≤ 500 := by omega
                          clear h500
                          go_wp2_with fail
                          with_reducible refine C17'.out.mono ?_
                          rintro e w6 ⟨rfl, hb6⟩
                          go_wp2
                          simp only [Exit.jump]
                          go_ret
                          exact ⟨ret_int HF.out.symm, HBB.out.trans ((HB5.out.trans (hb6.mono HB5.out.size)).mono HBB.out.size)⟩
                        · have HF : Hid (r = 50) := by show _ = _; rw [HCK3.out, if_neg (by simpa using h500)]
                          have h5i : ¬ (tx.size : Int) ≤ 500 := by omega
                          clear h500
                          go_wp2_with fail
                          with_reducible refine C17'.out.mono ?_
                          rintro e w6 ⟨rfl, hb6⟩
                          go_wp2
                          go_step3
                          go_wp2
                          simp only [Exit.jump]
                          go_ret
                          exact ⟨ret_int HF.out.symm, HBB.out.trans ((HB5.out.trans (hb6.mono HB5.out.size)).mono HBB.out.size)⟩
      · have HF : Hid (r = 50) := by show _ = _; rw [HCK.out, hz]; rfl
        go_wp2_with fail
        go_step3
        exact ⟨rfl, HF, HBB, rfl, rfl⟩
    · cases q
      · have HF : Hid (r = 50) := by show _ = _; rw [HCK.out, hz]; rfl
        go_wp2_with fail
        go_step3
        exact ⟨rfl, HF, HBB, rfl, rfl⟩
      · have hck2 : r = if (oo && decide (tx.size ≤ 500)) then 0 else 50 := by rw [HCK.out, hz]; rfl
        have HCK2 := Lib.hid hck2
        clear hck2
        cases e2
        · simp at j2
          have HF : Hid (r = 50) := by show _ = _; rw [HCK2.out, HOO.out]; rfl
          go_wp2_with fail
          have z2 := cell_regrown y2
          have z3 := cell_regrown y3
          have z4 := cell_regrown y4
          have z5 := cell_regrown y5
          have q10 := fun d os => Calls.regrown_of (C10.out (grow (redrawn W d) os))
          have q12 := fun d os => Calls.regrown_of ((C12.out (grow (redrawn W d) os)).mono fun _ _ h => ⟨h.1, by rw [h.2]; exact Below.refl _ _⟩)
          refine wp_region_quiet_below (by kernel_rfl) (by kernel_rfl) ?_
          repeat (go_big_quiet_step ((first | (go_at_call 10; exact q10 _ _) | (go_at_call 11; exact q12 _ _))))
          refine wpQuiet_nil ?_
          intro w5 hw'
          obtain ⟨⟨dq, osq⟩, hw''⟩ := hw'
          clear z2 z3 z4 z5 q10 q12
          have hb2 : Below W.heap.size W w5 := by rw [hw'']; exact below_regrown W dq osq
          clear hw''
          go_wp2_with fail
          go_step3
          exact ⟨rfl, HF, HBB.out.trans (hb2.mono HBB.out.size), rfl, rfl⟩
        · simp at j2
          cases e5
          · simp at j5
            have HF : Hid (r = 50) := by show _ = _; rw [HCK2.out, HOO.out]; rfl
            go_wp2_with fail
            have z2 := cell_regrown y2
            have z3 := cell_regrown y3
            have z4 := cell_regrown y4
            have z5 := cell_regrown y5
            have q10 := fun d os => Calls.regrown_of (C10.out (grow (redrawn W d) os))
            have q12 := fun d os => Calls.regrown_of ((C12.out (grow (redrawn W d) os)).mono fun _ _ h => ⟨h.1, by rw [h.2]; exact Below.refl _ _⟩)
            refine wp_region_quiet_below (by kernel_rfl) (by kernel_rfl) ?_
            repeat (go_big_quiet_step ((first | (go_at_call 10; exact q10 _ _) | (go_at_call 11; exact q12 _ _))))
            refine wpQuiet_nil ?_
            intro w5 hw'
            obtain ⟨⟨dq, osq⟩, hw''⟩ := hw'
            clear z2 z3 z4 z5 q10 q12
            have hb2 : Below W.heap.size W w5 := by rw [hw'']; exact below_regrown W dq osq
            clear hw''
            go_wp2_with fail
            go_step3
            exact ⟨rfl, HF, HBB.out.trans (hb2.mono HBB.out.size), rfl, rfl⟩
          · simp at j5
            by_cases hp : p = 0
            · have hpe : (p == 0) = true := by simp [hp]
              have hpn : (p != 0) = false := by simp [hp]
              clear hp
              cases ht : (T.toList == pa.toList)
              · have htn : (T.toList != pa.toList) = true := by rw [bne, ht]; rfl
                have HF : Hid (r = 50) := by show _ = _; rw [HCK2.out, HOO.out, hpe, ht]; rfl
                go_wp2_with fail
                have z2 := cell_regrown y2
                have z3 := cell_regrown y3
                have z4 := cell_regrown y4
                have z5 := cell_regrown y5
                have q10 := fun d os => Calls.regrown_of (C10.out (grow (redrawn W d) os))
                have q12 := fun d os => Calls.regrown_of ((C12.out (grow (redrawn W d) os)).mono fun _ _ h => ⟨h.1, by rw [h.2]; exact Below.refl _ _⟩)
                refine wp_region_quiet_below (by kernel_rfl) (by kernel_rfl) ?_
                repeat (go_big_quiet_step ((first | (go_at_call 10; exact q10 _ _) | (go_at_call 11; exact q12 _ _))))
                refine wpQuiet_nil ?_
                intro w5 hw'
                obtain ⟨⟨dq, osq⟩, hw''⟩ := hw'
                clear z2 z3 z4 z5 q10 q12
                have hb2 : Below W.heap.size W w5 := by rw [hw'']; exact below_regrown W dq osq
                clear hw''
                go_wp2_with fail
                go_step3
                exact ⟨rfl, HF, HBB.out.trans (hb2.mono HBB.out.size), rfl, rfl⟩
              · have htn : (T.toList != pa.toList) = false := by rw [bne, ht]; rfl
                cases ao
                · have HE := HOO.out
                  have HF : Hid (r = 50) := by show _ = _; rw [HCK2.out, HOO.out, hpe, ht]; rfl
                  go_wp2_with fail
                  have z2 := cell_regrown y2
                  have z3 := cell_regrown y3
                  have z4 := cell_regrown y4
                  have z5 := cell_regrown y5
                  have q10 := fun d os => Calls.regrown_of (C10.out (grow (redrawn W d) os))
                  have q12 := fun d os => Calls.regrown_of ((C12.out (grow (redrawn W d) os)).mono fun _ _ h => ⟨h.1, by rw [h.2]; exact Below.refl _ _⟩)
                  refine wp_region_quiet_below (by kernel_rfl) (by kernel_rfl) ?_
                  repeat (go_big_quiet_step ((first | (go_at_call 10; exact q10 _ _) | (go_at_call 11; exact q12 _ _))))
                  refine wpQuiet_nil ?_
                  intro w5 hw'
                  obtain ⟨⟨dq, osq⟩, hw''⟩ := hw'
                  clear z2 z3 z4 z5 q10 q12
                  have hb2 : Below W.heap.size W w5 := by rw [hw'']; exact below_regrown W dq osq
                  clear hw''
                  go_wp2_with fail
                  go_step3
                  exact ⟨rfl, HF, HBB.out.trans (hb2.mono HBB.out.size), rfl, rfl⟩
                · have hck3 : r = if decide (tx.size ≤ 500) then 0 else 50 := by rw [HCK2.out, HOO.out, hpe, ht]; rfl
                  have HCK3 := Lib.hid hck3
                  clear hck3
                  go_wp2_with fail
                  have z2 := cell_regrown y2
                  have z3 := cell_regrown y3
                  have z4 := cell_regrown y4
                  have z5 := cell_regrown y5
                  have q10 := fun d os => Calls.regrown_of (C10.out (grow (redrawn W d) os))
                  have q12 := fun d os => Calls.regrown_of ((C12.out (grow (redrawn W d) os)).mono fun _ _ h => ⟨h.1, by rw [h.2]; exact Below.refl _ _⟩)
                  refine wp_region_quiet_below (by kernel_rfl) (by kernel_rfl) ?_
                  repeat (go_big_quiet_step ((first | (go_at_call 10; exact q10 _ _) | (go_at_call 11; exact q12 _ _))))
                  refine wpQuiet_nil ?_
                  intro w5 hw'
                  obtain ⟨⟨dq, osq⟩, hw''⟩ := hw'
                  clear z2 z3 z4 z5 q10 q12
                  have hb2 : Below W.heap.size W w5 := by rw [hw'']; exact below_regrown W dq osq
                  clear hw''
                  have x0 := (hb2.cell (p := ⟨B, 0, none⟩) hltB).trans y0
                  have x1 := (hb2.cell (p := ⟨B, 1, none⟩) hltB).trans y1
                  have x2 := (hb2.cell (p := ⟨B, 2, none⟩) hltB).trans y2
                  have x3 := (hb2.cell (p := ⟨B, 3, none⟩) hltB).trans y3
                  have x4 := (hb2.cell (p := ⟨B, 4, none⟩) hltB).trans y4
                  have x5 := (hb2.cell (p := ⟨B, 5, none⟩) hltB).trans y5
                  have C17' := Lib.hid (C17.out w5 (HG.out.below hb2))
                  have HB5 := Lib.hid hb2
                  clear hb2
                  by_cases h500 : tx.size ≤ 500
                  · have HF : Hid (r = 0) := by show _ = _; rw [HCK3.out, if_pos (by simpa using h500)]
                    have h5i : (tx.size : Int) ≤ 500 := by omega
                    clear h500
                    go_wp2_with fail
                    with_reducible refine C17'.out.mono ?_
                    rintro e w6 ⟨rfl, hb6⟩
                    go_wp2
                    simp only [Exit.jump]
                    go_ret
                    exact ⟨ret_int HF.out.symm, HBB.out.trans ((HB5.out.trans (hb6.mono HB5.out.size)).mono HBB.out.size)⟩
                  · have HF : Hid (r = 50) := by show _ = _; rw [HCK3.out, if_neg (by simpa using h500)]
                    have h5i : ¬ (tx.size : Int) ≤ 500 := by omega
                    clear h500
                    go_wp2_with fail
                    with_reducible refine C17'.out.mono ?_
                    rintro e w6 ⟨rfl, hb6⟩
                    go_wp2
                    go_step3
                    go_wp2
                    simp only [Exit.jump]
                    go_ret
                    exact ⟨ret_int HF.out.symm, HBB.out.trans ((HB5.out.trans (hb6.mono HB5.out.size)).mono HBB.out.size)⟩
            · have hpn : (p != 0) = true := by simp [hp]
              have hpe : (p == 0) = false := beq_eq_false_iff_ne.2 hp
              have HF : Hid (r = 50) := by show _ = _; rw [HCK2.out, HOO.out, hpe]; rfl
              clear hpe hp
              go_wp2_with fail
              have z2 := cell_regrown y2
              have z3 := cell_regrown y3
              have z4 := cell_regrown y4
              have z5 := cell_regrown y5
              have q10 := fun d os => Calls.regrown_of (C10.out (grow (redrawn W d) os))
              have q12 := fun d os => Calls.regrown_of ((C12.out (grow (redrawn W d) os)).mono fun _ _ h => ⟨h.1, by rw [h.2]; exact Below.refl _ _⟩)
              refine wp_region_quiet_below (by kernel_rfl) (by kernel_rfl) ?_
              repeat (go_big_quiet_step ((first | (go_at_call 10; exact q10 _ _) | (go_at_call 11; exact q12 _ _))))
              refine wpQuiet_nil ?_
              intro w5 hw'
              obtain ⟨⟨dq, osq⟩, hw''⟩ := hw'
              clear z2 z3 z4 z5 q10 q12
              have hb2 : Below W.heap.size W w5 := by rw [hw'']; exact below_regrown W dq osq
              clear hw''
              go_wp2_with fail
              go_step3
              exact ⟨rfl, HF, HBB.out.trans (hb2.mono HBB.out.size), rfl, rfl⟩
end Go.Proofs.YtajokmcdhhiahaaGreatDoor
