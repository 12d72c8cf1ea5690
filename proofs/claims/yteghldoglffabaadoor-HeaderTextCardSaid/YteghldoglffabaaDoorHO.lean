/- The reference's Right. -/
import Derived.Test.YteghldoglffabaaDoorHN
namespace Go.Proofs.YteghldoglffabaaDoor
open Go.RowKit Go.Shelf

theorem bcell' {B : Nat} {W W' : World} (hb : Below B W W') {b o : Nat} (h : b < B) : W'.cell? ⟨b, o, none⟩ = W.cell? ⟨b, o, none⟩ := hb.cell (p := ⟨b, o, none⟩) h
theorem oddB_take (ws : List ByteArray) (j : Nat) (h : j < ws.length) : oddB (ws.take (j + 1)) = (oddB (ws.take j) || !Hd.word ws[j].data.toList) := by
  unfold oddB
  rw [List.take_succ_eq_append_getElem h, List.any_append]; simp
theorem oddB_at (ws : List ByteArray) (j : Nat) (h : j < ws.length) (hw : Hd.word ws[j].data.toList = false) : oddB ws = true := by
  unfold oddB
  rw [List.any_eq_true]
  exact ⟨ws[j], List.getElem_mem h, by simp [hw]⟩

set_option maxHeartbeats 4000000 in
set_option maxRecDepth 100000 in
theorem ref_right_any (dv : Value) (r : Bool) (ds : List (ByteArray × List ByteArray)) (w : World) (hd : DirsV w dv ds) (hm : Mild ds) : Calls Tryd.prog 32 #[.agg #[dv, .bool r]] w fun e w' => e = .returned (.bool (rightB ds)) ∧ Below w.heap.size w w' := by
  obtain ⟨A, c, rfl, -, -, -⟩ := id hd
  obtain ⟨N, hN⟩ : ∃ N, N = ds.length := ⟨_, rfl⟩
  have hn : N ≤ 10000000 := by rw [hN]; exact hm.1
  have HN := Lib.hid hN
  have HD := Lib.hid hd
  have HM := Lib.hid hm
  clear hd hm
  go_enter Tryd.func32, Tryd.ntmps32
  rw [← hN]
  clear hN
  go_wp2_with fail
  go_loopg [3] N (fun gk i wr => ∃ k : Nat, k + gk = N ∧ i = .int .i64 k ∧ Hid (rightGo [] ds = rightGo ((ds.take k).map fun d => d.1.data.toList) (ds.drop k)) ∧ Hid (wr.heap[w.heap.size]? = some (.cells #[.slice A N c, .bool r] 29 (0, 0))) ∧ Hid (Below w.heap.size w wr))
  case atStart => exact ⟨0, by omega, rfl, rfl, heap_alloc_new w _, below_alloc' w _⟩
  case round =>
    obtain ⟨k, hk, rfl, HR, HP, HB⟩ := hrel
    have HK := Lib.hid hk; clear hk
    have hc0 := cell_row HP.out 0
    simp at hc0
    have hbl : w.heap.size < wr.heap.size := World.block_lt_of_cell? wr _ hc0
    by_cases hlt : k < N
    · have hkl : k < ds.length := by rw [← HN.out]; exact hlt
      obtain ⟨g, off, rfl, q1, WA, wc, q2, q3, q4, q5⟩ := (HD.out.below HB.out).at_ k hkl
      have hmk := HM.out.2 _ (List.getElem_mem hkl)
      obtain ⟨nm, hnm⟩ : ∃ nm, nm = ds[k].1 := ⟨_, rfl⟩
      obtain ⟨ws, hws⟩ : ∃ ws, ws = ds[k].2 := ⟨_, rfl⟩
      rw [← hnm] at q1 hmk
      rw [← hws] at q2 q5 hmk
      obtain ⟨hm1, hm2, hm3⟩ := hmk
      have hall := HR.out
      rw [List.drop_eq_getElem_cons hkl] at hall
      have hgo : rightGo ((ds.take k).map fun d => d.1.data.toList) (ds[k] :: ds.drop (k + 1)) = (Hd.name nm.data.toList && !((ds.take k).map fun d => d.1.data.toList).contains nm.data.toList && decide (ws.length ≤ 200) && !oddB ws && rightGo (((ds.take k).map fun d => d.1.data.toList) ++ [nm.data.toList]) (ds.drop (k + 1))) := by
        rw [hnm, hws]; rfl
      have hsucc : ((ds.take (k + 1)).map fun d => d.1.data.toList) = ((ds.take k).map fun d => d.1.data.toList) ++ [nm.data.toList] := by
        rw [List.take_succ_eq_append_getElem hkl, List.map_append, hnm]; rfl
      rw [hgo, ← hsucc] at hall
      obtain ⟨NB, hNB⟩ : ∃ b, b = Hd.name nm.data.toList := ⟨_, rfl⟩
      obtain ⟨M, hM⟩ : ∃ M, M = ws.length := ⟨_, rfl⟩
      have c44 := fun w' => ref_name_any nm w' hm1
      rw [← hNB] at c44 hall
      rw [← hM] at q2 hm2 hall
      have hge : g < wr.heap.size := World.block_lt_of_cell? wr _ q1
      have HALL := Lib.hid hall
      have C44 := Lib.hid c44
      have HM2 := Lib.hid hM
      have HM3 := Lib.hid hm3
      have HQ5 := Lib.hid q5
      clear hall c44 hM hm3 q5 hnm hws hgo hsucc q3 q4 hNB
      obtain ⟨G, hG⟩ : ∃ G, G = gk := ⟨_, rfl⟩
      have HG := Lib.hid hG
      clear hG
      have hfalse : ∀ b1 b2 b3 b4 b5 : Bool, rightGo [] ds = (b1 && b2 && b3 && b4 && b5) → (b1 = false ∨ b2 = false ∨ b3 = false ∨ b4 = false) → false = rightB ds := by
        intro b1 b2 b3 b4 b5 h h2
        unfold rightB
        rw [h]
        rcases h2 with rfl | rfl | rfl | rfl <;> simp
      have HF := Lib.hid hfalse
      clear hfalse
      go_wp2_with fail
      refine (C44.out _).mono ?_
      rintro e w5 ⟨rfl, rfl⟩
      cases NB
      · go_wp2_with fail
        go_ret
        refine ⟨ret_bool (HF.out _ _ _ _ _ HALL.out (.inl rfl)), ?_⟩
        exact HB.out.trans ((below_alloc' wr _).mono HB.out.size)
      · by_cases hM2 : M ≤ 200
        · have hM4 : ¬ (200 : Int) < (M : Int) := by omega
          go_wp2_with fail
          obtain ⟨W5, hW5⟩ : ∃ W5, W5 = wr.alloc (.cells #[.string nm, .slice WA M wc] 42) := ⟨_, rfl⟩
          rw [← hW5]
          have hb5 : Below wr.heap.size wr W5 := by rw [hW5]; exact below_alloc' wr _
          have hbx : W5.heap[wr.heap.size]? = some (.cells #[.string nm, .slice WA M wc] 42 (0, 0)) := by rw [hW5]; exact heap_alloc_new wr _
          have hlt5 : wr.heap.size < W5.heap.size := (Array.getElem?_eq_some_iff.1 hbx).1
          have hd0 := cell_row hbx 0
          have hd1 := cell_row hbx 1
          simp at hd0 hd1
          have hp5 : W5.cell? ⟨w.heap.size, 0, none⟩ = some (.slice (some ⟨g, off, none⟩) N c) := (hb5.cell hbl).trans hc0
          have HB5 := Lib.hid hb5
          have HB05 := Lib.hid (HB.out.trans (hb5.mono HB.out.size))
          clear hW5 hbx hb5 hM4
          go_loopg [5] M (fun gl i wr' => ∃ j : Nat, j + gl = M ∧ i = .int .i64 j ∧ Hid (oddB (ws.take j) = false) ∧ wr' = W5)
          case atStart => exact ⟨0, by omega, rfl, rfl, rfl⟩
          case round =>
            obtain ⟨j, hj, rfl, HOD, hwr⟩ := hrel
            obtain rfl : W5 = _ := hwr.symm
            have HJ := Lib.hid hj; clear hj hwr
            by_cases hlj : j < M
            · have hjl : j < ws.length := by rw [← HM2.out]; exact hlj
              obtain ⟨ad, rfl, hcj⟩ := HQ5.out.at_ HB5.out j hjl
              have ho := oddB_take ws j hjl
              have ho2 := oddB_at ws j hjl
              have hs := HM3.out _ (List.getElem_mem hjl)
              obtain ⟨x, hx⟩ : ∃ x, x = ws[j] := ⟨_, rfl⟩
              rw [← hx] at hcj ho ho2 hs
              obtain ⟨WB, hWB⟩ : ∃ b, b = Hd.word x.data.toList := ⟨_, rfl⟩
              have c43 := fun w' => ref_word_any x w' hs
              rw [← hWB] at c43 ho ho2
              have C43 := Lib.hid c43
              have HO1 := Lib.hid ho
              have HO2 := Lib.hid ho2
              clear ho ho2 hs c43 hWB hx
              go_wp2_with fail
              refine (C43.out _).mono ?_
              rintro e w6 ⟨rfl, rfl⟩
              cases WB
              · go_wp2_with fail
                go_ret
                exact ⟨ret_bool (HF.out _ _ _ _ _ HALL.out (.inr (.inr (.inr (by rw [HO2.out (by trivial)]; rfl))))), HB05.out⟩
              · go_wp2_with fail
                go_roundg (gk - 1)
                case rel =>
                  have hj := HJ.out
                  refine ⟨j + 1, by omega, by go_num, ?_, rfl⟩
                  show _ = _
                  rw [HO1.out, HOD.out]; rfl
                case measure => have hj := HJ.out; omega
            · have hjm : ws.length ≤ j := by have := HJ.out; rw [← HM2.out]; omega
              have hod := HOD.out
              rw [List.take_of_length_le hjm] at hod
              have HOA := Lib.hid hod
              clear hod hjm
              go_wp2_with fail
              go_loopg [6] k (fun gm i wr' => ∃ m : Nat, m + gm = k ∧ i = .int .i64 m ∧ Hid (∀ (q : Nat) (h : q < ds.length), q < m → ds[q].1 ≠ nm) ∧ Hid (Below W5.heap.size W5 wr'))
              case atStart => exact ⟨0, by omega, rfl, (fun q _ h => absurd h (by omega)), Below.refl _ _⟩
              case round =>
                obtain ⟨m, hm, rfl, HNE, HBW⟩ := hrel
                have HMM := Lib.hid hm; clear hm
                by_cases hlm : m < k
                · have hml : m < ds.length := by omega
                  have hmN : m < N := by omega
                  obtain ⟨g', off', e', q1', -⟩ := (HD.out.below (HB05.out.trans (HBW.out.mono HB05.out.size))).at_ m hml
                  injection e' with e'
                  injection e' with e1' e2' _
                  subst e1' e2'
                  obtain ⟨x, hx⟩ : ∃ x, x = ds[m].1 := ⟨_, rfl⟩
                  rw [← hx] at q1'
                  have r0 := (bcell' HBW.out hlt5).trans hd0
                  have rp := (bcell' HBW.out (Nat.lt_trans hbl hlt5)).trans hp5
                  have HX := Lib.hid hx
                  clear hx
                  by_cases hq : x = nm
                  · have hqi : (x.toList == nm.toList) = true := by rw [hq]; simp
                    have HQ := Lib.hid hq; clear hq
                    go_wp2_with fail
                    go_quiet (fail)
                    go_wp2
                    go_ret
                    refine ⟨ret_bool (HF.out _ _ _ _ _ HALL.out (.inr (.inl ?_))), HB05.out.trans ((HBW.out.trans ((below_drewN' _ _).mono HBW.out.size)).mono HB05.out.size)⟩
                    simp only [Bool.not_eq_false', List.contains_iff_mem]
                    refine List.mem_map.2 ⟨ds[m], List.mem_take_iff_getElem.2 ⟨m, by omega, rfl⟩, ?_⟩
                    rw [← HX.out, HQ.out]
                  · have hqi : (x.toList == nm.toList) = false := by
                      rw [beq_eq_false_iff_ne, Lib.toList_data, Lib.toList_data]
                      exact fun e => hq (ByteArray.ext (Array.toList_inj.1 e))
                    have HQ := Lib.hid hq; clear hq
                    go_wp2_with fail
                    go_quiet (fail)
                    go_wp2
                    go_roundg (gk - 1)
                    case rel =>
                      have hm := HMM.out
                      refine ⟨m + 1, by omega, by go_num, fun q h h2 e => ?_, HBW.out.trans ((below_drewN' _ _).mono HBW.out.size)⟩
                      rcases Nat.lt_or_ge q m with h' | h'
                      · exact HNE.out q h h' e
                      · obtain rfl : q = m := by omega
                        rw [← HX.out] at e
                        exact HQ.out e
                    case measure => have hm := HMM.out; omega
                · go_wp2_with fail
                  go_roundg (G - 1)
                  case measure => have hk := HK.out; have hg := HG.out; omega
                  case rel =>
                    have hk := HK.out; have hg := HG.out
                    have hm := HMM.out
                    refine ⟨k + 1, by omega, by go_num, ?_, ?_, HB05.out.trans (HBW.out.mono HB05.out.size)⟩
                    · show _ = _
                      have hnc : ((ds.take k).map fun d => d.1.data.toList).contains nm.data.toList = false := by
                        rw [Bool.eq_false_iff]
                        intro h
                        obtain ⟨d, hd, e⟩ := List.mem_map.1 (List.contains_iff_mem.1 h)
                        obtain ⟨q, hq, rfl⟩ := List.mem_take_iff_getElem.1 hd
                        exact HNE.out q (by omega) (by omega) (ByteArray.ext (Array.toList_inj.1 e))
                      rw [HALL.out, hnc, HOA.out, decide_eq_true hM2]; rfl
                    · exact (HBW.out.block _ (Nat.lt_trans hbl hlt5)).trans ((HB5.out.block _ hbl).trans HP.out)
        · have hM4 : (200 : Int) < (M : Int) := by omega
          go_wp2_with fail
          go_ret
          refine ⟨ret_bool (HF.out _ _ _ _ _ HALL.out (.inr (.inr (.inl (by simp; omega))))), ?_⟩
          exact HB.out.trans ((below_alloc' wr _).mono HB.out.size)
    · go_wp2_with fail
      go_ret
      refine ⟨ret_bool ?_, HB.out⟩
      have hk := HK.out
      have hkn : ds.length ≤ k := by rw [← HN.out]; omega
      unfold rightB
      have hall := HR.out
      rw [List.drop_eq_nil_of_le hkn] at hall
      rw [hall, HN.out]
      cases ds with
      | nil => rfl
      | cons x r => simp [rightGo]
end Go.Proofs.YteghldoglffabaaDoor
