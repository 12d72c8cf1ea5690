/- The reference's Find. -/
import Derived.Test.YtpjakdekaolmeaaDoorHL
namespace Go.Proofs.YtpjakdekaolmeaaDoor
open Go.RowKit Go.Shelf

set_option maxHeartbeats 4000000 in
set_option maxRecDepth 100000 in
theorem ref_find_any (dv : Value) (r : Bool) (ds : List (ByteArray × List ByteArray)) (s : ByteArray) (w : World) (hd : DirsV w dv ds) (hs : s.size ≤ 10000000) (hn : ds.length ≤ 10000000) (hw : ∀ d ∈ ds, d.2.length ≤ 10000000) :
    Calls Tryd.prog 41 #[.agg #[dv, .bool r], .string s] w (OutFind (findB ds (Fo.lower s.data.toList)) w) := by
  obtain ⟨A, c, rfl, -, -, -⟩ := id hd
  obtain ⟨D, hD⟩ : ∃ D : ByteArray, D = ⟨(Fo.lower s.data.toList).toArray⟩ := ⟨_, rfl⟩
  have hDd : D.data.toList = Fo.lower s.data.toList := by rw [hD]
  have c28 := fun w' => ref_lower_any s w' hs
  rw [← hD] at c28
  rw [← hDd]
  have C28 := Lib.hid c28; clear c28 hD hDd
  obtain ⟨N, hN⟩ : ∃ N, N = ds.length := ⟨_, rfl⟩
  rw [← hN] at hn
  have HN := Lib.hid hN
  have HD := Lib.hid hd
  have HW := Lib.hid hw
  clear hd hw
  go_enter Tryd.func41, Tryd.ntmps41
  rw [← hN]
  clear hN
  go_wp2_with fail
  refine (C28.out _).mono ?_
  rintro e w1 ⟨rfl, hb1⟩
  have hbx1 := (hb1.block w.heap.size (by simp)).trans (heap_alloc_new w (.cells #[.slice A N c, .bool r] 42))
  have hc0 := cell_row hbx1 0
  simp at hc0
  have hbw1 : Below w.heap.size w w1 := (below_alloc' w _).trans (hb1.mono (by simp))
  have HB1 := Lib.hid hbw1
  clear hb1 hbw1 hbx1
  go_wp2_with fail
  go_loopg [7] N (fun gk v wr => ∃ k : Nat, k + gk = N ∧ v = .int .i64 k ∧ Hid (∀ j (h : j < ds.length), j < k → ds[j].1.data.toList ≠ D.data.toList) ∧ wr = w1)
  case atStart => exact ⟨0, by omega, rfl, (fun j _ h => absurd h (by omega)), rfl⟩
  case round =>
    obtain ⟨k, hk, rfl, HA, hwr⟩ := hrel
    obtain rfl : w1 = wr := hwr.symm
    have HK := Lib.hid hk; clear hk hwr
    by_cases hlt : k < N
    · have hkl : k < ds.length := by rw [← HN.out]; exact hlt
      obtain ⟨g, off, rfl, r1, WA, wc, r2, r3, r4, r5⟩ := (HD.out.below HB1.out).at_ k hkl
      have hl := HW.out _ (List.getElem_mem hkl)
      obtain ⟨x, hx⟩ : ∃ x, x = ds[k].1 := ⟨_, rfl⟩
      obtain ⟨ys, hys⟩ : ∃ ys, ys = ds[k].2 := ⟨_, rfl⟩
      rw [← hx] at r1
      rw [← hys] at r2 r3 r4 r5 hl
      have c27 := own_any WA ys.length wc ys w1 r5 r3 hl
      obtain ⟨M, hM⟩ : ∃ M, M = ys.length := ⟨_, rfl⟩
      rw [← hM] at c27 r2
      have HX := Lib.hid hx
      have HYS := Lib.hid hys
      have C27 := Lib.hid c27
      clear hx hys c27 r3 r4 r5 hl hM
      by_cases hq : x = D
      · have hqi : (x.toList == D.toList) = true := by rw [hq]; simp
        have HQ := Lib.hid hq
        clear hq
        go_wp2_with fail
        refine C27.out.mono ?_
        rintro e w5 ⟨A5, c5, rfl, h51, h52, h53, hb5⟩
        have hfi : findB ds D.data.toList = some ys := by
          unfold findB
          have hff : (ds.find? fun d => d.1.data.toList == D.data.toList) = some ds[k] := by
            rw [List.find?_eq_some_iff_getElem]
            refine ⟨by rw [← HX.out, HQ.out]; simp, k, hkl, rfl, fun j hj => ?_⟩
            have := HA.out j (by omega) hj
            rw [show (ds[j].1.data.toList == D.data.toList) = false from beq_eq_false_iff_ne.2 this]; rfl
          rw [hff, HYS.out]; rfl
        have HF := Lib.hid hfi; clear hfi
        go_wp2
        go_ret2
        unfold OutFind
        rw [HF.out]
        exact ⟨_, rfl, ⟨A5, c5, rfl, h51, h52, h53⟩, HB1.out.trans (hb5.mono HB1.out.size)⟩
      · have hqi : (x.toList == D.toList) = false := by
          rw [beq_eq_false_iff_ne, Lib.toList_data, Lib.toList_data]
          exact fun e => hq (ByteArray.ext (Array.toList_inj.1 e))
        have HQ := Lib.hid hq; clear hq
        go_wp2_with fail
        go_roundg (gk - 1)
        case rel =>
          have := HK.out
          refine ⟨k + 1, by omega, by go_num, fun j h hj e => ?_, rfl⟩
          rcases Nat.lt_or_ge j k with h' | h'
          · exact HA.out j h h' e
          · obtain rfl : j = k := by omega
            rw [← HX.out] at e
            exact HQ.out (ByteArray.ext (Array.toList_inj.1 e))
        case measure => have := HK.out; omega
    · have hfi : findB ds D.data.toList = none := by
        unfold findB
        have hff : (ds.find? fun d => d.1.data.toList == D.data.toList) = none := by
          rw [List.find?_eq_none]
          intro d hd
          obtain ⟨j, hj, rfl⟩ := List.getElem_of_mem hd
          have := HA.out j hj (by have := HN.out; omega)
          rw [show (ds[j].1.data.toList == D.data.toList) = false from beq_eq_false_iff_ne.2 this]
          exact Bool.false_ne_true
        rw [hff]; rfl
      have HF := Lib.hid hfi; clear hfi
      go_wp2
      go_ret2
      unfold OutFind
      rw [HF.out]
      exact ⟨_, rfl, ⟨none, 0, rfl, Nat.le_refl _, fun _ => rfl, Texts.nil _⟩, HB1.out⟩
end Go.Proofs.YtpjakdekaolmeaaDoor
