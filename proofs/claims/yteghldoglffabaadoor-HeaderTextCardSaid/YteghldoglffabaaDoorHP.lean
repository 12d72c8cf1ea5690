/- The reference's Print. -/
import Derived.Test.YteghldoglffabaaDoorHO
import Derived.Test.YteghldoglffabaaDoorHPure
namespace Go.Proofs.YteghldoglffabaaDoor
open Go.RowKit Go.Shelf

theorem join_snoc (xs : List (List UInt8)) (x sep : List UInt8) : Lib.join (xs ++ [x]) sep = (if xs = [] then [] else Lib.join xs sep ++ sep) ++ x := by
  cases xs with
  | nil => simp [Lib.join_one]
  | cons y r =>
    rw [if_neg (by simp), List.cons_append, Lib.join_cons, Lib.join_cons]
    simp [Lib.joinTail]
theorem join_snoc0 (xs : List (List UInt8)) (x sep : List UInt8) (h : xs = []) : Lib.join (xs ++ [x]) sep = x := by rw [join_snoc, if_pos h]; rfl
theorem dirText_snoc (nm : ByteArray) (ws : List ByteArray) (j : Nat) (h : j < ws.length) : dirTextB (nm, ws.take (j + 1)) = dirTextB (nm, ws.take j) ++ [32] ++ ws[j].data.toList := by
  rw [dirText_cons, dirText_cons]
  show _ ++ Lib.joinTail [32] ((ws.take (j + 1)).map (·.data.toList)) = _ ++ Lib.joinTail [32] ((ws.take j).map (·.data.toList)) ++ [32] ++ _
  rw [List.take_succ_eq_append_getElem h, List.map_append]
  simp [Lib.joinTail]
theorem dirText_nil (nm : ByteArray) (ws : List ByteArray) : dirTextB (nm, ws.take 0) = nm.data.toList := by
  rw [dirText_cons]; simp [Lib.joinTail]

set_option maxHeartbeats 4000000 in
set_option maxRecDepth 100000 in
theorem ref_print_any (dv : Value) (r : Bool) (ds : List (ByteArray × List ByteArray)) (w : World) (hd : DirsV w dv ds) (hm : Mild ds) (hsm : ds.length ≤ 10000) :
    Calls Tryd.prog 18 #[.agg #[dv, .bool r]] w fun e w' => e = .returned (.tuple #[.string (if rightB ds then ⟨(printB ds).toArray⟩ else ⟨#[]⟩), .bool (rightB ds)]) ∧ Below w.heap.size w w' := by
  have c32 := fun w' (hb : Below w.heap.size w w') => ref_right_any dv r ds w' (hd.below hb) hm
  obtain ⟨A, c, rfl, -, -, -⟩ := id hd
  obtain ⟨N, hN⟩ : ∃ N, N = ds.length := ⟨_, rfl⟩
  obtain ⟨RB, hRB⟩ : ∃ RB, RB = rightB ds := ⟨_, rfl⟩
  rw [← hN] at c32
  rw [← hRB] at c32 ⊢
  have hn : N ≤ 10000 := by rw [hN]; exact hsm
  have HN := Lib.hid hN
  have HD := Lib.hid hd
  have HM := Lib.hid hm
  have HRB := Lib.hid hRB
  have C32 := Lib.hid c32
  clear hd hm hRB c32 hsm
  go_enter Tryd.func18, Tryd.ntmps18
  rw [← hN]
  clear hN
  go_wp2_with fail
  refine (C32.out _ (below_alloc' w _)).mono ?_
  rintro e w1 ⟨rfl, hb1⟩
  have hbx1 := (hb1.block w.heap.size (by simp)).trans (heap_alloc_new w (.cells #[.slice A N c, .bool r] 29))
  have hc0 := cell_row hbx1 0
  simp at hc0
  have hbw1 : Below w.heap.size w w1 := (below_alloc' w _).trans (hb1.mono (by simp))
  have HBW1 := Lib.hid hbw1
  clear hb1 hbw1 hbx1
  cases RB
  · go_wp2_with fail
    go_ret2
    exact ⟨rfl, HBW1.out⟩
  have hrt := rightB_go HRB.out.symm
  have HMEM := Lib.hid (right_mem ds [] hrt)
  clear hrt
  go_wp2_with fail
  go_loopg [4, 5] N (fun gk tv i wr => ∃ (k : Nat) (t : ByteArray), k + gk = N ∧ i = .int .i64 k ∧ tv = .string t ∧ Hid (t.data.toList = Lib.join ((ds.take k).map dirTextB) [59, 32]) ∧ t.size ≤ k * 2010000300 ∧ wr = w1)
  case atStart => exact ⟨0, ⟨#[]⟩, by omega, rfl, rfl, rfl, (by show ByteArray.size ⟨#[]⟩ ≤ _; exact Nat.zero_le _), rfl⟩
  case round =>
    obtain ⟨k, t, hk, rfl, rfl, HT, hts, hwr⟩ := hrel
    obtain rfl : w1 = _ := hwr.symm
    have HK := Lib.hid hk; clear hk hwr
    by_cases hlt : k < N
    · have hkl : k < ds.length := by rw [← HN.out]; exact hlt
      obtain ⟨g, off, rfl, q1, WA, wc, q2, q3, q4, q5⟩ := (HD.out.below HBW1.out).at_ k hkl
      have hmk := HM.out.2 _ (List.getElem_mem hkl)
      have hmm := HMEM.out _ (List.getElem_mem hkl)
      have htk : (ds.take (k + 1)).map dirTextB = (ds.take k).map dirTextB ++ [dirTextB ds[k]] := by rw [List.take_succ_eq_append_getElem hkl, List.map_append]; rfl
      have hemp : k = 0 → (ds.take k).map dirTextB = [] := fun h => by subst h; rfl
      have hnemp : k ≠ 0 → (ds.take k).map dirTextB ≠ [] := fun h e => by
        have := congrArg List.length e
        rw [List.length_map, List.length_take, List.length_nil] at this
        omega
      obtain ⟨nm, hnm⟩ : ∃ nm, nm = ds[k].1 := ⟨_, rfl⟩
      obtain ⟨ws, hws⟩ : ∃ ws, ws = ds[k].2 := ⟨_, rfl⟩
      have hdk : ds[k] = (nm, ws) := by rw [hnm, hws]
      rw [hdk] at htk
      rw [← hnm] at q1 hmk hmm
      rw [← hws] at q2 q5 hmk hmm
      obtain ⟨hm1, hm2, hm3⟩ := hmk
      obtain ⟨hn1, hn2⟩ := hmm
      obtain ⟨M, hM⟩ : ∃ M, M = ws.length := ⟨_, rfl⟩
      rw [← hM] at q2 hn2
      have HM2 := Lib.hid hM
      have HM3 := Lib.hid hm3
      have HQ5 := Lib.hid q5
      have HTK := Lib.hid htk
      have HEMP := Lib.hid hemp
      have HNEMP := Lib.hid hnemp
      obtain ⟨G, hG⟩ : ∃ G, G = gk := ⟨_, rfl⟩
      have HG := Lib.hid hG
      clear hM hm3 q5 htk hemp hnemp hnm hws hdk q3 q4 hm1 hm2 hG
      have key : ∃ (U V : ByteArray), Hid ((k = 0 → t = U) ∧ (k ≠ 0 → t ++ ⟨#[59, 32]⟩ = U)) ∧ Hid (U ++ nm = V) ∧ Hid (∀ x, Lib.join ((ds.take k).map dirTextB ++ [x]) [59, 32] = U.data.toList ++ x) ∧ U.size ≤ k * 2010000300 + 2 ∧ V.size ≤ k * 2010000300 + 42 := by
        by_cases h0 : k = 0
        · refine ⟨t, _, ⟨fun _ => rfl, fun h => absurd h0 h⟩, rfl, fun x => ?_, Nat.le_trans hts (Nat.le_add_right _ _), by rw [ByteArray.size_append]; omega⟩
          rw [join_snoc0 _ _ _ (HEMP.out h0), HT.out, HEMP.out h0, Lib.join_nil, List.nil_append]
        · refine ⟨_, _, ⟨fun h => absurd h h0, fun _ => rfl⟩, rfl, fun x => ?_, ?_, ?_⟩
          · rw [join_snoc, if_neg (HNEMP.out h0), cat_data, HT.out]
          · rw [ByteArray.size_append]; show t.size + 2 ≤ _; omega
          · rw [ByteArray.size_append, ByteArray.size_append]; show t.size + 2 + nm.size ≤ _; omega
      obtain ⟨U, V, HU, HV, HX, hUs, hVs⟩ := key
      have hV : U ++ nm = V := HV.out
      have hnoV : ¬ 9223372036854775807 < U.size + nm.size := by omega
      have hl2 : (⟨#[59, 32]⟩ : ByteArray).size = 2 := rfl
      have hno2 : ¬ 9223372036854775807 < t.size + 2 := by omega
      by_cases h0 : k = 0
      case' pos =>
        have hgt : ¬ (0 : Int) < (k : Int) := by omega
        obtain rfl : U = t := (HU.out.1 h0).symm
      case' neg =>
        have hgt : (0 : Int) < (k : Int) := by omega
        have htu := HU.out.2 h0
      all_goals
        have HVV := HV
        clear HU HV HT hts HEMP HNEMP h0
        go_wp2_with fail
        go_loopg [4, 6] M (fun gl tv i wr => ∃ (j : Nat) (T : ByteArray), j + gl = M ∧ i = .int .i64 j ∧ tv = .string T ∧ Hid (T.data.toList = U.data.toList ++ dirTextB (nm, ws.take j)) ∧ T.size ≤ k * 2010000300 + 42 + j * 10000001 ∧ wr = w1)
        case atStart => exact ⟨0, V, by omega, rfl, rfl, (by show _ = _; rw [dirText_nil, ← HVV.out, cat_data]), by omega, rfl⟩
        case round =>
          obtain ⟨j, T, hj, rfl, rfl, HTT, hTs, hwr⟩ := hrel
          obtain rfl : w1 = _ := hwr.symm
          have HJ := Lib.hid hj; clear hj hwr
          by_cases hlj : j < M
          · have hjl : j < ws.length := by rw [← HM2.out]; exact hlj
            obtain ⟨ad, rfl, hcj⟩ := HQ5.out.at_ (Below.refl _ _) j hjl
            have hs := HM3.out _ (List.getElem_mem hjl)
            have hsn := dirText_snoc nm ws j hjl
            obtain ⟨x, hx⟩ : ∃ x, x = ws[j] := ⟨_, rfl⟩
            rw [← hx] at hcj hs hsn
            obtain ⟨T1, hT1⟩ : ∃ T1, T ++ (⟨#[32]⟩ : ByteArray) = T1 := ⟨_, rfl⟩
            have hT1s : T1.size = T.size + 1 := by rw [← hT1, ByteArray.size_append]; rfl
            obtain ⟨T2, hT2⟩ : ∃ T2, T1 ++ x = T2 := ⟨_, rfl⟩
            have hT2s : T2.size = T1.size + x.size := by rw [← hT2, ByteArray.size_append]
            have hl1 : (⟨#[32]⟩ : ByteArray).size = 1 := rfl
            have hno3 : ¬ 9223372036854775807 < T.size + 1 := by omega
            have hno4 : ¬ 9223372036854775807 < T1.size + x.size := by omega
            have hT2b : T2.size ≤ k * 2010000300 + 42 + (j + 1) * 10000001 := by omega
            have HS := Lib.hid hsn
            have HT1 := Lib.hid hT1
            have HT2 := Lib.hid hT2
            clear hsn hx hT1s hT2s
            go_wp2_with fail
            go_roundg (gk - 1)
            case measure => have hj := HJ.out; omega
            case rel =>
              have hj := HJ.out
              refine ⟨j + 1, T2, by omega, by go_num, rfl, ?_, hT2b, rfl⟩
              show _ = _
              rw [HS.out, ← HT2.out, cat_data, ← HT1.out, cat_data, HTT.out]
              simp
          · have hjm : ws.length ≤ j := by have := HJ.out; rw [← HM2.out]; omega
            have ht := HTT.out
            rw [List.take_of_length_le hjm] at ht
            have HTA := Lib.hid ht
            clear ht hjm
            go_wp2_with fail
            go_roundg (G - 1)
            case measure => have hk := HK.out; have hg := HG.out; omega
            case rel =>
              have hk := HK.out; have hg := HG.out; have hj := HJ.out
              refine ⟨k + 1, T, by omega, by go_num, rfl, ?_, by omega, rfl⟩
              show _ = _
              rw [HTK.out, HX.out, HTA.out]
    · go_wp2_with fail
      go_ret2
      refine ⟨?_, HBW1.out⟩
      have hk := HK.out
      have ht := HT.out
      rw [List.take_of_length_le (by rw [← HN.out]; omega)] at ht
      have : t = ⟨(printB ds).toArray⟩ := ByteArray.ext (by apply Array.toList_inj.1; rw [ht]; rfl)
      rw [this]; rfl
end Go.Proofs.YteghldoglffabaaDoor
