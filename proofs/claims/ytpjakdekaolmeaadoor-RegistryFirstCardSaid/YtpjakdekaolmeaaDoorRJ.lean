/- The reference's Same of verdicts. -/
import Derived.Test.YtpjakdekaolmeaaDoorRI
namespace Go.Proofs.YtpjakdekaolmeaaDoor
open Go.RowKit Go.Shelf

theorem BreaksV.row {w : World} {A : Option Addr} {n c : Nat} {bl : List (Nat × Bool)} (h : BreaksV w (.slice A n c) bl) : bl.length = n := by
  obtain ⟨A', c', e, _⟩ := h
  injection e with _ e2
  exact e2.symm
set_option maxHeartbeats 4000000 in
set_option maxRecDepth 100000 in
theorem vsame_any (oa ob : Bool) (va vb : Value) (p q : List (Nat × Bool)) (w : World) (hp : BreaksV w va p) (hq : BreaksV w vb q) (hn : p.length ≤ 10000000) (hm : q.length ≤ 10000000) :
    Calls Tryd.prog 16 #[.agg #[.bool oa, va], .agg #[.bool ob, vb]] w fun e w' => e = .returned (.bool (decide (oa = ob ∧ p = q))) ∧ Below w.heap.size w w' := by
  obtain ⟨A, c, rfl, -, -, -⟩ := id hp
  obtain ⟨B, d, rfl, -, -, -⟩ := id hq
  obtain ⟨N, hN⟩ : ∃ N, N = p.length := ⟨_, rfl⟩
  obtain ⟨M, hM⟩ : ∃ M, M = q.length := ⟨_, rfl⟩
  rw [← hN] at hp hn ⊢
  rw [← hM] at hq hm ⊢
  have HP := Lib.hid hp
  have HQ := Lib.hid hq
  have HN := Lib.hid hN
  have HM := Lib.hid hM
  clear hp hq hN hM
  by_cases ho : oa = ob
  · subst ho
    by_cases hl : N = M
    · have HL := Lib.hid hl
      have hnb : ((N : Int) != (M : Int)) = false := by rw [hl]; simp
      clear hl
      have hbn : (oa != oa) = false := by cases oa <;> rfl
      go_enter Tryd.func16, Tryd.ntmps16
      go_wp2_with fail
      obtain ⟨W0, hW0⟩ : ∃ W0, W0 = (w.alloc (.cells #[.bool oa, .slice A N c] 32)).alloc (.cells #[.bool oa, .slice B M d] 32) := ⟨_, rfl⟩
      have hb0 : Below w.heap.size w W0 := by rw [hW0]; exact ((Below.refl _ w).alloc (Nat.le_refl _) _).alloc (by simp) _
      have hp1 : W0.heap[w.heap.size]? = some (.cells #[.bool oa, .slice A N c] 32 (0, 0)) := by
        rw [hW0]; exact (heap_alloc_old _ _ (by simp)).trans (heap_alloc_new w _)
      have hp2 : W0.heap[w.heap.size + 1]? = some (.cells #[.bool oa, .slice B M d] 32 (0, 0)) := by
        have := heap_alloc_new (w.alloc (.cells #[.bool oa, .slice A N c] 32)) (.cells #[.bool oa, .slice B M d] 32)
        rw [World.size_alloc] at this
        rw [hW0]; exact this
      rw [← hW0]
      clear hW0
      have HB0 := Lib.hid hb0
      have HP1 := Lib.hid hp1
      have HP2 := Lib.hid hp2
      clear hb0 hp1 hp2
      go_loopg [5] N (fun gk i wr => ∃ k : Nat, k + gk = N ∧ i = .int .i64 k ∧ Hid (p.take k = q.take k) ∧ Hid (wr.heap[w.heap.size]? = some (.cells #[.bool oa, .slice A N c] 32 (0, 0))) ∧ Hid (wr.heap[w.heap.size + 1]? = some (.cells #[.bool oa, .slice B M d] 32 (0, 0))) ∧ Hid (Below w.heap.size w wr))
      case atStart => exact ⟨0, by omega, rfl, rfl, HP1.out, HP2.out, HB0.out⟩
      case round =>
        obtain ⟨k, hk, rfl, HA, HX1, HX2, HB⟩ := hrel
        have HK := Lib.hid hk; clear hk
        have ha1 := cell_row HX1.out 1
        have hb1 := cell_row HX2.out 1
        simp at ha1 hb1
        by_cases hlt : k < N
        · have hk1 : k < p.length := by rw [← HN.out]; exact hlt
          have hlt2 : k < M := by rw [← HL.out]; exact hlt
          have hk2 : k < q.length := by rw [← HM.out]; exact hlt2
          obtain ⟨b1, o1, rfl, x1, x2, x3⟩ := (HP.out.below HB.out).at_ k hk1
          obtain ⟨b2, o2, rfl, y1, y2, y3⟩ := (HQ.out.below HB.out).at_ k hk2
          have ht1 : p.take (k + 1) = p.take k ++ [p[k]] := List.take_succ_eq_append_getElem hk1
          have ht2 : q.take (k + 1) = q.take k ++ [q[k]] := List.take_succ_eq_append_getElem hk2
          have hne : p[k] ≠ q[k] → decide (oa = oa ∧ p = q) = false := fun h => by
            rw [decide_eq_false_iff_not]
            rintro ⟨_, e⟩
            subst e; exact h rfl
          have hnx : p[k] = q[k] → p.take (k + 1) = q.take (k + 1) := fun h => by rw [ht1, ht2, HA.out, h]
          obtain ⟨⟨i, r⟩, hx⟩ : ∃ x, x = p[k] := ⟨_, rfl⟩
          obtain ⟨⟨j, s⟩, hy⟩ : ∃ x, x = q[k] := ⟨_, rfl⟩
          rw [← hx] at x1 x3 hne hnx
          rw [← hy] at y1 y3 hne hnx
          have HNE := Lib.hid hne
          have HNX := Lib.hid hnx
          clear hne hnx ht1 ht2 hx hy
          simp only at x1 x3 y1 y3
          by_cases hij : i = j
          · have hijb : ((i : Int) == (j : Int)) = true := by rw [hij]; simp
            have hijd : (i : Int) = (j : Int) := by rw [hij]
            by_cases hrs : r = s
            · have hrb : (r == s) = true := by rw [hrs]; simp
              have HE := Lib.hid (show ((i, r) : Nat × Bool) = (j, s) by rw [hij, hrs])
              clear hij
              go_wp2_with fail
              go_quiet (fail)
              go_wp2_with fail
              go_roundg (gk - 1)
              case measure => have := HK.out; omega
              case rel =>
                have := HK.out
                exact ⟨k + 1, by omega, by go_num, HNX.out HE.out, HX1.out, HX2.out, HB.out.trans ((below_drewN' _ _).mono HB.out.size)⟩
            · have hrb : (r == s) = false := by simpa using hrs
              have HE := Lib.hid (show ((i, r) : Nat × Bool) ≠ (j, s) from fun e => hrs (by injection e))
              clear hij hrs
              go_wp2_with fail
              go_quiet (fail)
              go_wp2_with fail
              go_ret
              exact ⟨ret_bool (HNE.out HE.out).symm, HB.out.trans ((below_drewN' _ _).mono HB.out.size)⟩
          · have hijb : ((i : Int) == (j : Int)) = false := by simp; omega
            have HE := Lib.hid (show ((i, r) : Nat × Bool) ≠ (j, s) from fun e => hij (by injection e))
            clear hij
            go_wp2_with fail
            go_quiet (fail)
            go_wp2_with fail
            go_ret
            exact ⟨ret_bool (HNE.out HE.out).symm, HB.out.trans ((below_drewN' _ _).mono HB.out.size)⟩
        · have ha := HA.out
          rw [List.take_of_length_le (by rw [← HN.out]; omega), List.take_of_length_le (by rw [← HM.out, ← HL.out]; omega)] at ha
          have HA2 := Lib.hid ha
          clear ha
          go_wp2_with fail
          go_ret
          exact ⟨ret_bool (by simp [HA2.out]), HB.out⟩
    · have hnb : ((N : Int) != (M : Int)) = true := by simp; omega
      have HL := Lib.hid hl
      clear hl
      have hbn : (oa != oa) = false := by cases oa <;> rfl
      go_enter Tryd.func16, Tryd.ntmps16
      go_wp2_with fail
      go_ret
      refine ⟨ret_bool ?_, ((Below.refl _ w).alloc (Nat.le_refl _) _).alloc (by simp) _⟩
      symm
      rw [decide_eq_false_iff_not]
      rintro ⟨_, e⟩
      exact HL.out (by rw [HN.out, HM.out, e])
  · have hbn : (oa != ob) = true := by simpa using ho
    have HO := Lib.hid ho
    clear ho
    go_enter Tryd.func16, Tryd.ntmps16
    go_wp2_with fail
    go_ret
    refine ⟨ret_bool ?_, ((Below.refl _ w).alloc (Nat.le_refl _) _).alloc (by simp) _⟩
    symm
    rw [decide_eq_false_iff_not]
    rintro ⟨e, _⟩
    exact HO.out e
end Go.Proofs.YtpjakdekaolmeaaDoor
