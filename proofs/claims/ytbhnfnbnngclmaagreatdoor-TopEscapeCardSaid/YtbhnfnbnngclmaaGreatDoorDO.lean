/- Below, Text; New. -/
import Derived.Test.YtbhnfnbnngclmaaGreatDoorDN
import Derived.Test.YtbhnfnbnngclmaaGreatDoorEA
import Derived.Test.YtbhnfnbnngclmaaGreatDoorDD
namespace Go.Proofs.YtbhnfnbnngclmaaGreatDoor
open Go.RowKit Go.Sort Go.BigFrame Go.Maps Go.WideMaps Go.Shelf
set_option maxRecDepth 100000

set_option maxHeartbeats 2000000 in
/-- Below. -/
theorem below_any (l : List Kd) (m i : Nat) (v : Value) (w : World) (hd : Doc w v l m) (hg : Good l m) (hi : i < l.length) : Calls Tryz.prog 17 #[v, .int .i64 i] w (OutInts (seqF (m - 1 - i) i) w) := by
  have ct := fun w' h => there_any l m i v w' h hg hi
  obtain ⟨g, cap, rfl, hcap, hn⟩ := hd
  obtain ⟨nn, hnl⟩ : ∃ nn, nn = l.length := ⟨_, rfl⟩
  have hb0 := below_alloc' w (.cells #[.slice (some ⟨g, 0, none⟩) nn cap] 26)
  have hr0 := heap_alloc_new w (.cells #[.slice (some ⟨g, 0, none⟩) nn cap] 26)
  obtain ⟨W, hW⟩ : ∃ W, W = w.alloc (.cells #[.slice (some ⟨g, 0, none⟩) nn cap] 26) := ⟨_, rfl⟩
  rw [← hW] at hb0 hr0
  have hD : ∀ w', Below w.heap.size w w' → Doc w' (.agg #[.slice (some ⟨g, 0, none⟩) nn cap]) l m := fun w' hb => ⟨g, cap, by rw [hnl], hcap, hn.below hb⟩
  have hN : ∀ w', Below w.heap.size w w' → Nodes w' g l m := fun w' hb => hn.below hb
  rw [← hnl] at ct ⊢
  have x0 := cell_row hr0 0
  simp at x0
  have HW := Lib.hid hW
  have HB := Lib.hid hb0
  have HR := Lib.hid hr0
  have HD := Lib.hid hD
  have HN := Lib.hid hN
  have HC := Lib.hid ct
  have HNL := Lib.hid hnl
  have HI := Lib.hid hi
  have HG := Lib.hid hg
  clear hW hb0 hr0 hD hN ct hnl hi hg hn hcap
  go_enter Tryz.func17, Tryz.ntmps17
  go_upto_region 1 with fail
  rw [← HW.out]
  go_wp2_with fail
  with_reducible refine (HC.out _ (HD.out _ HB.out)).mono ?_
  rintro e w1 ⟨rfl, hb1⟩
  have y0 := (hb1.cell (p := ⟨w.heap.size, 0, none⟩) (hlt HR.out)).trans x0
  have HB1 := Lib.hid (nx HB.out hb1)
  clear x0 hb1
  go_wp2_with fail
  with_reducible refine (walk_any _ _ _).mono ?_
  rintro e w2 ⟨rfl, hw2⟩
  have hbA := below_alloc' w1 (.cells #[.slice (some ⟨g, 0, none⟩) nn cap] 26)
  have hrA := heap_alloc_new w1 (.cells #[.slice (some ⟨g, 0, none⟩) nn cap] 26)
  have hbB := below_alloc' (w1.alloc (.cells #[.slice (some ⟨g, 0, none⟩) nn cap] 26)) (.cells #[.int .i64 i] 3)
  have hrB := heap_alloc_new (w1.alloc (.cells #[.slice (some ⟨g, 0, none⟩) nn cap] 26)) (.cells #[.int .i64 i] 3)
  have hrA' := (hbB.block _ (hlt hrA)).trans hrA
  rw [World.size_alloc] at hrB
  rw [← hw2] at hrB hrA'
  have hb2 : Below w.heap.size w w2 := by rw [hw2]; exact nx HB1.out (nx hbA hbB)
  have co := collect_any g cap m i (m - 1 - i) w1.heap.size (w1.heap.size + 1) l w2 (HN.out _ hb2) HG.out.ml rfl HI.out (by have := HG.out.len; omega) (by rw [← HNL.out]; exact cell_row hrA' 0) (cell_row hrB 0) (hlt hrA') (hlt hrB)
  have HCO := Lib.hid co
  have HB2 := Lib.hid hb2
  clear co hb2 hbA hrA hbB hrB hrA' hw2 y0
  go_wp2_with fail
  with_reducible refine HCO.out.mono ?_
  rintro e w3 ⟨A, n, c, rfl, ho, hb3⟩
  have HO := Lib.hid ho
  have HB3 := Lib.hid hb3
  clear ho hb3
  go_wp2_with fail
  go_ret
  refine ⟨A, n, c, rfl, ?_, nx HB2.out HB3.out⟩
  have h := HO.out
  refine ⟨h.1, ?_⟩
  rcases h.2 with hn | ⟨g', cap', cur, h1, h2, h3⟩
  · exact .inl hn
  · exact .inr ⟨g', cap', cur, h1, by have := HB2.out.size; omega, h3⟩
/-- The text of a node. -/
def dat (l : List Kd) (k : Nat) : List UInt8 := match l[k]? with
  | some (.tx t) => t.data.toList
  | _ => []
/-- The texts of so many nodes. -/
def acc (l : List Kd) (i : Nat) : Nat → List UInt8
  | 0 => []
  | j + 1 => acc l i j ++ dat l (i + j)
theorem dat_len {l : List Kd} (h : ∀ x ∈ l, x.ok) (k : Nat) : (dat l k).length ≤ 100000 := by
  unfold dat
  split
  · rename_i t ht
    have := h _ (List.mem_of_getElem? ht)
    rw [size_len]
    exact this
  · simp
theorem acc_len {l : List Kd} (h : ∀ x ∈ l, x.ok) (i j : Nat) : (acc l i j).length ≤ 100000 * j := by
  induction j with
  | zero => simp [acc]
  | succ j ih => have := dat_len h (i + j); simp only [acc, List.length_append]; omega
theorem seqF_get (d i j : Nat) (h : j ≤ d) : (seqF d i)[j]? = some ((i + j : Nat) : Int) := by
  induction d generalizing i j with
  | zero => obtain rfl : j = 0 := by omega
            rfl
  | succ d ih =>
    cases j with
    | zero => rfl
    | succ j =>
      have := ih (i + 1) j (by omega)
      simp only [seqF, List.getElem?_cons_succ]
      rw [this, show i + 1 + j = i + (j + 1) by omega]
/-- New. -/
theorem new_any (w : World) : Calls Tryz.prog 25 #[] w (OutDoc [.root] 1 w) := by
  go_enter Tryz.func25, Tryz.ntmps25
  go_wp2_with fail
  have hr := heap_alloc_new (w.alloc (.cells #[.slice (some ⟨w.heap.size + 1, 0, none⟩) 1 1] 26)) (.cells #[.int .i64 1, .string ⟨#[]⟩, .string ⟨#[]⟩, .slice none 0 0, .int .i64 (-1), .slice none 0 0, .bool false, .bool false] 37)
  have h0 := ((below_alloc' (w.alloc (.cells #[.slice (some ⟨w.heap.size + 1, 0, none⟩) 1 1] 26)) (.cells #[.int .i64 1, .string ⟨#[]⟩, .string ⟨#[]⟩, .slice none 0 0, .int .i64 (-1), .slice none 0 0, .bool false, .bool false] 37)).cell (p := ⟨w.heap.size, 0, none⟩) (by simp)).trans (cell_row (heap_alloc_new w (.cells #[.slice (some ⟨w.heap.size + 1, 0, none⟩) 1 1] 26)) 0)
  have hb : Below w.heap.size w ((w.alloc (.cells #[.slice (some ⟨w.heap.size + 1, 0, none⟩) 1 1] 26)).alloc (.cells #[.int .i64 1, .string ⟨#[]⟩, .string ⟨#[]⟩, .slice none 0 0, .int .i64 (-1), .slice none 0 0, .bool false, .bool false] 37)) := nx (below_alloc' w _) (below_alloc' _ _)
  rw [World.size_alloc] at hr
  obtain ⟨W, hW⟩ : ∃ W, W = (w.alloc (.cells #[.slice (some ⟨w.heap.size + 1, 0, none⟩) 1 1] 26)).alloc (.cells #[.int .i64 1, .string ⟨#[]⟩, .string ⟨#[]⟩, .slice none 0 0, .int .i64 (-1), .slice none 0 0, .bool false, .bool false] 37) := ⟨_, rfl⟩
  rw [← hW] at hr h0 hb ⊢
  simp at h0
  refine bodyPost_ret (v := .agg #[.slice (some ⟨w.heap.size + 1, 0, none⟩) 1 1]) (by simp [results, Tryz.results25, go_sem, h0]) rfl ⟨w.heap.size + 1, 1, rfl, ⟨_, hr, by omega, Nat.le_refl _, by unfold maxLen; omega, rfl, fun i x hx => ?_⟩, hb⟩
  match i, hx with
  | 0, hx =>
    injection hx with hx
    subst hx
    refine ⟨.slice none 0 0, .slice none 0 0, rfl, rfl, fun j u hu => ?_⟩
    rw [Nat.zero_mul, Nat.zero_add, ← hu]
    have hj : j < 8 := (List.getElem?_eq_some_iff.1 hu).1
    rcases (show j = 0 ∨ j = 1 ∨ j = 2 ∨ j = 3 ∨ j = 4 ∨ j = 5 ∨ j = 6 ∨ j = 7 by omega) with rfl | rfl | rfl | rfl | rfl | rfl | rfl | rfl <;> rfl
  | i + 1, hx => simp at hx
theorem dat_holds {l : List Kd} {k : Nat} {x : Kd} (hx : l[k]? = some x) (h : x.holds = true) : dat l k = [] := by
  unfold dat
  rw [hx]
  cases x with
  | tx t => cases h
  | _ => rfl
set_option maxHeartbeats 4000000 in
/-- Text. -/
theorem text_any (l : List Kd) (m i : Nat) (v : Value) (w : World) (hd : Doc w v l m) (hg : Good l m) (hi : i < l.length) (him : i < m) : Calls Tryz.prog 8 #[v, .int .i64 i] w fun e w' => e = .returned (.string ⟨(acc l i (m - 1 - i + 1)).toArray⟩) ∧ Below w.heap.size w w' := by
  have cb := fun w' h => below_any l m i v w' h hg hi
  obtain ⟨g, cap, rfl, hcap, hn⟩ := hd
  obtain ⟨nn, hnl⟩ : ∃ nn, nn = l.length := ⟨_, rfl⟩
  obtain ⟨d, hdd⟩ : ∃ d, d = m - 1 - i := ⟨_, rfl⟩
  have hb0 := below_alloc' w (.cells #[.slice (some ⟨g, 0, none⟩) nn cap] 26)
  have hr0 := heap_alloc_new w (.cells #[.slice (some ⟨g, 0, none⟩) nn cap] 26)
  have hs0 : (w.alloc (.cells #[.slice (some ⟨g, 0, none⟩) nn cap] 26)).heap.size = w.heap.size + 1 := by simp
  obtain ⟨W, hW⟩ : ∃ W, W = w.alloc (.cells #[.slice (some ⟨g, 0, none⟩) nn cap] 26) := ⟨_, rfl⟩
  rw [← hW] at hb0 hr0 hs0
  have hD : ∀ w', Below w.heap.size w w' → Doc w' (.agg #[.slice (some ⟨g, 0, none⟩) nn cap]) l m := fun w' hb => ⟨g, cap, by rw [hnl], hcap, hn.below hb⟩
  have hN : ∀ w', Below w.heap.size w w' → Nodes w' g l m := fun w' hb => hn.below hb
  rw [← hnl, ← hdd] at cb
  rw [← hnl, ← hdd]
  have hfb := Lib.fresh_isBuilder 43 5 W
  have hbb := below_alloc' W (.cells #[.pointer none, .slice none 0 0] 43)
  obtain ⟨V, hV⟩ : ∃ V, V = W.alloc (.cells #[.pointer none, .slice none 0 0] 43) := ⟨_, rfl⟩
  rw [← hV] at hfb hbb
  rw [hs0] at hfb
  have hrV := (hbb.block _ (hlt hr0)).trans hr0
  have HV := Lib.hid hV
  clear hV
  have hdm : i + d + 1 = m := by omega
  have hml := hg.ml
  have hl100 := hg.len
  have hin : i + d < nn := by omega
  have hd100 : d ≤ 100 := by omega
  have hcw : 0 < w.heap.size + 1 := by omega
  have x0 := cell_row hrV 0
  simp at x0
  have HW := Lib.hid hW
  have HB := Lib.hid hb0
  have HR := Lib.hid hrV
  have HS := Lib.hid hs0
  have HD := Lib.hid hD
  have HN := Lib.hid hN
  have HC := Lib.hid cb
  have HNL := Lib.hid hnl
  have HI := Lib.hid hi
  have HG := Lib.hid hg
  have HFB := Lib.hid hfb
  have HBB := Lib.hid hbb
  have HDM := Lib.hid hdm
  clear hW hb0 hr0 hs0 hD hN cb hnl hi hg hn hcap hfb hbb hdd hdm hml him hl100 hrV
  go_enter Tryz.func8, Tryz.ntmps8
  go_upto_region 2 with fail
  rw [← HW.out, ← HV.out]
  go_wp2_with fail
  with_reducible refine (HC.out _ (HD.out _ (nx HB.out HBB.out))).mono ?_
  rintro e w1 ⟨A, n, c, rfl, ho, hb1⟩
  have hn1 : n = d + 1 := by
    have h := ho.1
    obtain ⟨A', cp, he, _⟩ := own_form ho
    injection he with _ he _
    rw [seqF_len] at he
    exact he
  subst hn1
  have hA : ∃ r, A = some ⟨r, 0, none⟩ := by
    rcases ho.2 with ⟨hv, h0⟩ | ⟨r, cap', cur, hv, _⟩
    · rw [seqF_len] at h0; omega
    · injection hv with hv _ _; exact ⟨r, hv⟩
  obtain ⟨r, rfl⟩ := hA
  have ho' : w1.ownsRow V.heap.size 3 1 (.slice (some ⟨r, 0, none⟩) (d + 1) c) (d + 1) ((seqF d i).map (Value.int .i64)) := by
    have h := ho
    rw [seqF_len] at h
    exact h
  obtain ⟨cur, hrr, hrB, hcc, _, hrx⟩ := own_block ho'
  have hib := builder_below HFB.out hb1
  have hVB : Below (w.heap.size + 1) W V := HBB.out.mono (by rw [HS.out]; exact Nat.le_refl _)
  have hb2 : Below (w.heap.size + 1) W w1 := hVB.trans (hb1.mono (by have := hlt HR.out; have := HS.out; have := HBB.out.size; omega))
  have hlr := hlt hrr
  have HIB := Lib.hid hib
  have HB2 := Lib.hid hb2
  have HRR := Lib.hid hrr
  have HRX := Lib.hid hrx
  clear hib hb2 hrr hrx ho ho' hb1 hVB hrB x0
  go_wp2_with fail
  go_loopg [12] (d + 1) (fun gk v wr => ∃ j : Nat, j + gk = d + 1 ∧ v = .int .i64 j ∧ Hid (Lib.IsBuilder 43 5 (w.heap.size + 1) (w.heap.size + 1) (Lib.byteCells (acc l i j)) wr) ∧ Hid (Below (w.heap.size + 1) W wr) ∧ Hid (j ≤ d → Below w1.heap.size w1 wr))
  case atStart => exact ⟨0, by omega, rfl, HIB.out, HB2.out, fun _ => Below.refl _ _⟩
  case round =>
    obtain ⟨j, hj, rfl, HIJ, HBJ, HKJ⟩ := hrel
    by_cases hjd : j < d + 1
    · have j5 : decide ((j : Int) < (d : Int) + 1) = true := by simp; omega
      have hbj := HKJ.out (by omega)
      have hbw : Below w.heap.size w wr := HB.out.trans (HBJ.out.mono (by have := HB.out.size; have := HS.out; omega))
      obtain ⟨x, hx⟩ : ∃ x, l[i + j]? = some x := ⟨_, List.getElem?_eq_getElem (by have := HNL.out; omega)⟩
      obtain ⟨va, vk, ha, hk, hra⟩ := (HN.out _ hbw).at_ (i + j) x hx
      have hW0 : w.heap.size < W.heap.size := by rw [HS.out]; omega
      have r0 : wr.cell? ⟨g, (i + j) * 8, none⟩ = some (.int .i64 x.num) := hra 0 _ rfl
      have r2 : wr.cell? ⟨g, (i + j) * 8 + 2, none⟩ = some (.string x.dt) := hra 2 _ rfl
      have hcj : wr.cell? ⟨r, j, none⟩ = some (.int .i64 ((i + j : Nat) : Int)) := by
        rw [hbj.cell (p := ⟨r, j, none⟩) hlr, cell_row HRR.out]
        refine HRX.out j _ ?_
        rw [List.getElem?_map, seqF_get d i j (by omega)]
        rfl
      have c0 : wr.cell? ⟨w.heap.size, 0, none⟩ = some (.slice (some ⟨g, 0, none⟩) nn cap) := by
        have h1 := HBJ.out.cell (p := ⟨w.heap.size, 0, none⟩) (by show w.heap.size < _; omega)
        have h2 := HR.out
        have h3 := (HBB.out.block w.heap.size hW0)
        rw [h1, ← World.cell?_of_block (a := ⟨w.heap.size, 0, none⟩) h3]
        exact cell_row h2 0
      obtain ⟨k, hk'⟩ : ∃ k, k = i + j := ⟨_, rfl⟩
      rw [← hk'] at r0 r2 hcj hx
      have hkn : k < nn := by omega
      have k1 : (0 : Int) ≤ (k : Int) := by omega
      have k2 : (k : Int) < (nn : Int) := by omega
      have hacc : acc l i (j + 1) = acc l i j ++ dat l k := by rw [hk']; rfl
      have HACC := Lib.hid hacc
      have HX := Lib.hid hx
      have HKK := Lib.hid hk'
      clear ha hk hra hbw hbj hacc hx hk'
      by_cases hth : x.holds = true
      · have hnum : (x.num == 3) = false := by cases x <;> first | rfl | cases hth
        have hdt := dat_holds HX.out hth
        have HDT := Lib.hid hdt
        clear hdt hth
        go_wp2_with fail
        go_roundg (gk - 1)
        case measure => omega
        case rel => exact ⟨j + 1, by omega, by go_num, by show Lib.IsBuilder _ _ _ _ _ _; rw [HACC.out, HDT.out, List.append_nil]; exact HIJ.out, HBJ.out, fun h => HKJ.out (by omega)⟩
      · obtain ⟨t, rfl⟩ : ∃ t, x = .tx t := by
          cases x with
          | tx t => exact ⟨t, rfl⟩
          | _ => exact absurd rfl hth
        have hjl : j = d := by
          by_cases h : j < d
          · have := HG.out.holds k _ HX.out (by have := HKK.out; have := HDM.out; omega)
            exact absurd this hth
          · omega
        have hdt : dat l k = t.data.toList := by unfold dat; rw [HX.out]
        have htl : t.size ≤ 100000 := HG.out.ok _ (List.mem_of_getElem? HX.out)
        have hal := acc_len HG.out.ok i j
        have HDT := Lib.hid hdt
        have HJL := Lib.hid hjl
        simp only [Kd.num, Kd.dt] at r0 r2
        clear hdt hth hjl
        go_wp2_with fail
        with_reducible refine (writeString_any (w.heap.size + 1) (w.heap.size + 1) _ _ _ HIJ.out (by omega) (by have := HBJ.out.size; have := HS.out; omega)).mono ?_
        rintro e w3 ⟨rfl, hi3, hb3⟩
        have HI3 := Lib.hid hi3
        have HB3 := Lib.hid hb3
        clear hi3 hb3 r0 r2 hcj c0
        go_wp2_with fail
        go_roundg (gk - 1)
        case measure => omega
        case rel => exact ⟨j + 1, by omega, by go_num, by show Lib.IsBuilder _ _ _ _ _ _; rw [HACC.out, HDT.out]; exact HI3.out, HBJ.out.trans HB3.out, fun h => absurd h (by have := HJL.out; omega)⟩
    · have hje : j = d + 1 := by omega
      subst hje
      have hwB : w.heap.size + 1 ≤ wr.heap.size := by have := HBJ.out.size; have := HS.out; omega
      go_wp2_with fail
      with_reducible refine (Tryz.Builder_String_any (w.heap.size + 1) (w.heap.size + 1) _ _ HIJ.out hwB).mono ?_
      rintro e w3 ⟨rfl, hb3⟩
      have HB3 := Lib.hid hb3
      clear hb3
      go_wp2_with fail
      go_ret
      exact ⟨rfl, HB.out.trans ((HBJ.out.trans HB3.out).mono (by omega))⟩
end Go.Proofs.YtbhnfnbnngclmaaGreatDoor
