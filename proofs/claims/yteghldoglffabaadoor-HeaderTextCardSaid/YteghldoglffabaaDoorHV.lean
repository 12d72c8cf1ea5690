/- The law HeaderText. -/
import Derived.Test.YteghldoglffabaaDoorHU
namespace Go.Proofs.YteghldoglffabaaDoor
open Go.RowKit Go.Shelf

theorem printB_head (ds : List (ByteArray × List ByteArray)) (h : 0 < ds.length) : ∃ t, printB ds = ds[0].1.data.toList ++ t := by
  cases ds with
  | nil => simp at h
  | cons d r => exact printB_first d r
/-- A policy that is let in. -/
theorem big_not {ds : List (ByteArray × List ByteArray)} {r : Bool} (h : bigP [(ds, r)] = false) : ds.length ≤ 20 ∧ ∀ d ∈ ds, d.1.size ≤ 200 ∧ d.2.length ≤ 210 ∧ ∀ s ∈ d.2, s.size ≤ 300 := by
  unfold bigP at h
  rw [Bool.or_eq_false_iff] at h
  have h2 := h.2
  simp only [List.any_cons, List.any_nil, Bool.or_false] at h2
  unfold bigPol at h2
  rw [Bool.or_eq_false_iff, decide_eq_false_iff_not] at h2
  refine ⟨by omega, fun d hd => ?_⟩
  have h3 := List.any_eq_false.1 h2.2 d hd
  rw [Bool.not_eq_true, Bool.or_eq_false_iff, decide_eq_false_iff_not] at h3
  have h4 := h3.2
  unfold bigT at h4
  rw [Bool.or_eq_false_iff, decide_eq_false_iff_not] at h4
  refine ⟨by omega, by omega, fun s hs => ?_⟩
  have h5 := List.any_eq_false.1 h4.2 s hs
  rw [decide_eq_true_eq] at h5
  omega
theorem big_mild {ds : List (ByteArray × List ByteArray)} {r : Bool} (h : bigP [(ds, r)] = false) : Mild ds := by
  obtain ⟨h1, h2⟩ := big_not h
  exact ⟨by omega, fun d hd => ⟨by have := (h2 d hd).1; omega, by have := (h2 d hd).2.1; omega, fun s hs => by have := (h2 d hd).2.2 s hs; omega⟩⟩
/-- A row of one policy. -/
theorem polsV_lit {w W : World} {dv : Value} {r : Bool} {ds : List (ByteArray × List ByteArray)} (hd : DirsV w dv ds) (hb : Below w.heap.size w W) :
    PolsV (W.alloc (.cells #[dv, .bool r] 29)) (.slice (some ⟨W.heap.size, 0, none⟩) 1 1) [(ds, r)] := by
  refine ⟨_, 1, rfl, Nat.le_refl _, (fun e => by cases e), fun _ => ⟨W.heap.size, 0, rfl, by simp, fun j hj => ?_⟩⟩
  obtain rfl : j = 0 := by simp at hj; exact hj
  have h := heap_alloc_new W (.cells #[dv, .bool r] 29)
  exact ⟨dv, cell_row h 0, cell_row h 1, (hd.below hb).below (below_alloc' W _)⟩
theorem print_len {ds : List (ByteArray × List ByteArray)} {r : Bool} (h : bigP [(ds, r)] = false) : (printB ds).length ≤ 10000000 := by
  obtain ⟨h1, h2⟩ := big_not h
  have h3 := join_length (ds.map dirTextB) [59, 32] 70000 (fun x hx => by
    obtain ⟨d, hd, rfl⟩ := List.mem_map.1 hx
    obtain ⟨g1, g2, g3⟩ := h2 d hd
    have h4 := join_length ((d.1 :: d.2).map (·.data.toList)) [32] 300 (fun x hx => by
      obtain ⟨y, hy, rfl⟩ := List.mem_map.1 hx
      rw [size_len]
      cases hy with
      | head => omega
      | tail _ hy => exact g3 y hy)
    refine Nat.le_trans h4 ?_
    rw [List.length_map, List.length_cons, show ([32] : List UInt8).length = 1 from rfl]
    omega)
  refine Nat.le_trans h3 ?_
  rw [List.length_map, show ([59, 32] : List UInt8).length = 2 from rfl]
  omega

set_option maxHeartbeats 4000000 in
set_option maxRecDepth 100000 in
theorem law_text_any (dv : Value) (r : Bool) (ds : List (ByteArray × List ByteArray)) (w : World) (hd : DirsV w dv ds) : Calls Tryd.prog 8 #[.agg #[dv, .bool r]] w (True1 w) := by
  obtain ⟨A, c, rfl, -, -, -⟩ := id hd
  obtain ⟨N, hN⟩ : ∃ N, N = ds.length := ⟨_, rfl⟩
  have c13 := big_any _ _ _ (polsV_lit (r := r) hd (below_alloc' w (.cells #[.slice A N c, .bool r] 29)))
  obtain ⟨B, hB⟩ : ∃ B, B = bigP [(ds, r)] := ⟨_, rfl⟩
  rw [← hB, World.size_alloc] at c13
  rw [← hN] at c13
  have HN := Lib.hid hN
  have HD := Lib.hid hd
  have C13 := Lib.hid c13
  have HB := Lib.hid hB
  clear hd c13 hB
  go_enter Tryd.func8, Tryd.ntmps8
  rw [← hN]
  clear hN
  go_wp2_with fail
  refine C13.out.mono ?_
  rintro e w1 ⟨rfl, hw1⟩
  have hbx1 : w1.heap[w.heap.size]? = some (.cells #[.slice A N c, .bool r] 29 (0, 0)) := by
    rw [hw1]
    exact (heap_alloc_old _ _ (by simp)).trans (heap_alloc_new w _)
  have hb1 : Below w.heap.size w w1 := by rw [hw1]; exact ((Below.refl _ w).alloc (Nat.le_refl _) _).alloc (by simp) _
  clear hw1
  have HB1 := Lib.hid hb1
  have HX1 := Lib.hid hbx1
  have hc0 := cell_row hbx1 0
  have hc1 := cell_row hbx1 1
  simp at hc0 hc1
  clear hb1 hbx1
  cases B
  case true =>
    go_wp2_with fail
    go_ret
    exact ⟨rfl, HB1.out⟩
  have hbig := HB.out.symm
  have hmild := big_mild hbig
  have hlen := print_len hbig
  have hN20 : N ≤ 20 := by rw [HN.out]; exact (big_not hbig).1
  have c17 := print_any (.slice A N c) r ds w1 (by rw [HN.out]; exact HD.out.below HB1.out) hmild (by rw [← HN.out]; omega)
  obtain ⟨RB, hRB⟩ : ∃ RB, RB = rightB ds := ⟨_, rfl⟩
  rw [← hRB] at c17
  have HRB := Lib.hid hRB
  cases RB
  · rw [if_neg (by decide)] at c17
    have C17 := Lib.hid c17
    clear c17 hRB hmild hbig hlen
    go_wp2_with fail
    refine C17.out.mono ?_
    rintro e w2 ⟨rfl, hb2⟩
    go_wp2_with fail
    refine (reads_any _).mono ?_
    rintro e w3 ⟨rfl, hb3⟩
    go_wp2_with fail
    go_ret
    exact ⟨rfl, nx (nx HB1.out hb2) hb3⟩
  · rw [if_pos rfl] at c17
    obtain ⟨S, hS⟩ : ∃ S : ByteArray, S = ⟨(printB ds).toArray⟩ := ⟨_, rfl⟩
    rw [← hS] at c17
    have hSd : S.data.toList = printB ds := by rw [hS]
    have hSs : S.size ≤ 10000000 := by rw [← size_len, hSd]; exact hlen
    have hcount := printB_count hRB.symm
    have hcomma := printB_comma hRB.symm
    rw [← hSd, ← HN.out] at hcount
    rw [← hSd] at hcomma
    have C17 := Lib.hid c17
    have HCOUNT := Lib.hid hcount
    have HCOMMA := Lib.hid hcomma
    have HSD := Lib.hid hSd
    clear c17 hRB hmild hbig hlen hS hSd hcount hcomma
    go_wp2_with fail
    refine C17.out.mono ?_
    rintro e w2 ⟨rfl, hb2⟩
    have HB2 := Lib.hid (nx HB1.out hb2)
    have hbx2 := (hb2.block w.heap.size (Array.getElem?_eq_some_iff.1 HX1.out).1).trans HX1.out
    have hd0 := cell_row hbx2 0
    simp at hd0
    clear hb2 hbx2
    go_wp2_with fail
    go_loopg [5, 6] S.size (fun gk v i wr => ∃ k : Nat, k + gk = S.size ∧ i = .int .i64 k ∧ v = .int .i64 ((1 + (S.data.toList.take k).count 59 : Nat) : Int) ∧ wr = w2)
    case atStart => exact ⟨0, by omega, rfl, rfl, rfl⟩
    case round =>
      obtain ⟨k, hk, rfl, rfl, hwr⟩ := hrel
      obtain rfl : w2 = _ := hwr.symm
      have HK := Lib.hid hk; clear hk hwr
      by_cases hlt : k < S.size
      · have hts := take_snoc S k hlt
        have hct : (S.data.toList.take (k + 1)).count 59 = (S.data.toList.take k).count 59 + (if S[k] = 59 then 1 else 0) := by
          rw [hts, List.count_append]
          congr 1
          by_cases e : S[k] = 59
          · rw [e]; simp
          · rw [if_neg e]; simp [e]
        have hcb := List.count_le_length (a := (59 : UInt8)) (l := S.data.toList.take k)
        rw [List.length_take] at hcb
        have hn44 : S[k] ≠ 44 := fun e => HCOMMA.out (by rw [← e]; exact byte_mem S k hlt)
        have hi44 : ((S[k].toNat : Int) == 44) = false := by rw [beq_eq_false_iff_ne]; intro e; exact hn44 (UInt8.toNat_inj.1 (by simpa using (by omega : S[k].toNat = 44)))
        obtain ⟨m, hm⟩ : ∃ m, m = (S.data.toList.take k).count 59 := ⟨_, rfl⟩
        rw [← hm] at hct hcb ⊢
        have hmb : m ≤ 10000000 := by omega
        clear hcb hm hn44 hts
        by_cases he : S[k] = 59
        · have hse : ((S[k].toNat : Int) == 59) = true := by rw [he]; rfl
          rw [if_pos he] at hct
          have HCT := Lib.hid hct
          clear he hct
          go_wp2_with fail
          go_roundg (gk - 1)
          case rel => have := HK.out; have hc := HCT.out; exact ⟨k + 1, by omega, by go_num, by rw [hc]; go_num, rfl⟩
          case measure => have := HK.out; omega
        · have hse : ((S[k].toNat : Int) == 59) = false := by rw [beq_eq_false_iff_ne]; intro e; exact he (UInt8.toNat_inj.1 (by simpa using (by omega : S[k].toNat = 59)))
          rw [if_neg he] at hct
          have HCT := Lib.hid hct
          clear he hct
          go_wp2_with fail
          go_roundg (gk - 1)
          case rel => have := HK.out; have hc := HCT.out; exact ⟨k + 1, by omega, by go_num, by rw [hc]; go_num, rfl⟩
          case measure => have := HK.out; omega
      · obtain rfl : k = S.size := by have := HK.out; omega
        rw [take_all, HCOUNT.out]
        have h0 : 0 < N := by have := HCOUNT.out; omega
        obtain ⟨g, off, rfl, q1, -⟩ := (HD.out.below HB2.out).at_ 0 (by rw [← HN.out]; exact h0)
        rw [Nat.zero_mul, Nat.add_zero] at q1
        have hpre : ∃ t, S.data.toList = ds[0].1.data.toList ++ t := by
          have h2 : 0 < ds.length := by rw [← HN.out]; exact h0
          rw [HSD.out]
          exact printB_head ds h2
        obtain ⟨F, hF⟩ : ∃ F, F = ds[0].1 := ⟨_, rfl⟩
        rw [← hF] at q1 hpre
        obtain ⟨t, ht⟩ := hpre
        have hFS : F.size ≤ S.size := by rw [← size_len F, ← size_len S, ht, List.length_append]; omega
        have hex : S.extract 0 F.size = F := by
          apply ByteArray.ext
          apply Array.toList_inj.1
          rw [slice_data, ht, ← size_len F]
          simp
        have hfi : (F.toList == F.toList) = true := beq_self_eq_true _
        clear hF ht
        go_wp2_with fail
        refine (reads_any _).mono ?_
        rintro e w3 ⟨rfl, hb3⟩
        go_wp2_with fail
        go_ret
        exact ⟨rfl, nx HB2.out hb3⟩
end Go.Proofs.YteghldoglffabaaDoor
