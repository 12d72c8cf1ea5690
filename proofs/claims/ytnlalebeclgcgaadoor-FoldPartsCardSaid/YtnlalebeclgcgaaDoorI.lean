import Derived.Test.YtnlalebeclgcgaaDoorH
import Derived.Deep.RegionHeld3
namespace Go.Proofs.YtnlalebeclgcgaaDoor
open Go.RowKit

set_option maxRecDepth 100000 in
set_option maxHeartbeats 2000000 in
theorem law_twice_any (s : ByteArray) (w : World) (hs : s.size ≤ 9223372036854775807) : Calls Tryd.prog 4 #[.string s] w (True1 w) := by
  by_cases h1 : 5000 < s.size
  · go_enter Tryd.func4, Tryd.ntmps4
    go_wp2
    go_ret
    exact ⟨rfl, Below.refl _ _⟩
  have hsl := size_len s
  obtain ⟨D, hD⟩ : ∃ D : ByteArray, D = ⟨(Fo.lower s.data.toList).toArray⟩ := ⟨_, rfl⟩
  obtain ⟨T, hT⟩ : ∃ T : ByteArray, T = ⟨(Fo.trim s.data.toList).toArray⟩ := ⟨_, rfl⟩
  have hDd : D.data.toList = Fo.lower s.data.toList := by rw [hD]
  have hTd : T.data.toList = Fo.trim s.data.toList := by rw [hT]
  have hDs : D.size = s.size := by rw [← size_len, hDd, Fo.lower_length, hsl]
  have hTs : T.size ≤ s.size := by rw [← size_len, hTd, ← hsl]; exact Fo.trim_length _
  have c8 := Lib.hid (fun w' => lower_any s w' (by omega))
  have c10 := Lib.hid (fun w' => trim_any s w' (by omega))
  have c8D := Lib.hid (fun w' => lower_any D w' (by omega))
  have c10T := Lib.hid (fun w' => trim_any T w' (by omega))
  have c12 := Lib.hid (fun w' => same_any s D w' (by omega) (by omega))
  rw [hDd, Fo.lower_lower] at c8D
  rw [hTd, Fo.trim_trim] at c10T
  rw [show decide (Fo.lower s.data.toList = Fo.lower D.data.toList) = true by rw [hDd, Fo.lower_lower]; simp] at c12
  rw [← hD] at c8 c8D
  rw [← hT] at c10 c10T
  have hqD : (D.toList == D.toList) = true := beq_self_eq_true _
  have hqT : (T.toList == T.toList) = true := beq_self_eq_true _
  have hqS : ((D.size : Int) == (s.size : Int)) = true := by rw [hDs]; simp
  by_cases h0 : T.size = 0
  · have hTe : T.data.toList = [] := List.eq_nil_of_length_eq_zero (by rw [size_len]; exact h0)
    have hq1 : (T.toList == []) = true := by rw [Lib.toList_data, hTe]; rfl
    have hq2 : T.toList.isEmpty = true := by rw [Lib.toList_data, hTe]; rfl
    clear hD hT hDd hTd hDs hTs hsl h0 hTe
    go_enter Tryd.func4, Tryd.ntmps4
    go_wp2_with fail
    refine (c8.out _).mono ?_
    rintro e w1 ⟨rfl, hb1⟩
    go_wp2_with fail
    refine (c10.out _).mono ?_
    rintro e w2 ⟨rfl, hb2⟩
    go_wp2_with fail
    refine (folds_any _).mono ?_
    rintro e w3 ⟨rfl, hb3⟩
    go_wp2_with fail
    refine (c8D.out _).mono ?_
    rintro e w4 ⟨rfl, hb4⟩
    go_wp2_with fail
    refine (c10T.out _).mono ?_
    rintro e w5 ⟨rfl, hb5⟩
    go_wp2_with fail
    refine (c12.out _).mono ?_
    rintro e w6 ⟨rfl, hb6⟩
    go_wp2
    go_ret
    exact ⟨rfl, nx (nx (nx (nx (nx hb1 hb2) hb3) hb4) hb5) hb6⟩
  · obtain ⟨m, hm⟩ : ∃ m, T.size = m + 1 := ⟨T.size - 1, by omega⟩
    have h00 : 0 < T.size := by omega
    have hml : m < T.size := by omega
    have hmi : (T.size : Int) - 1 = (m : Int) := by omega
    have hne : T.data.toList ≠ [] := fun e => by have := size_len T; rw [e] at this; simp at this; omega
    have hq1 : (T.toList == []) = false := by rw [Lib.toList_data, beq_eq_false_iff_ne]; exact hne
    have hq2 : T.toList.isEmpty = false := by rw [Lib.toList_data]; exact Bool.eq_false_iff.2 (fun e => hne (List.isEmpty_iff.1 e))
    have hf : Fo.bl T[0] = false := Fo.trim_first s.data.toList _ (by rw [← hTd, List.head?_eq_getElem?]; exact byte_at T 0 h00)
    have hl : Fo.bl T[m] = false := Fo.trim_last s.data.toList _ (by
      rw [← hTd, List.getLast?_eq_getElem?, size_len, hm, Nat.add_sub_cancel]; exact byte_at T m hml)
    have cf := Lib.hid (fun w' => blank_any T[0] w')
    have cl := Lib.hid (fun w' => blank_any T[m] w')
    rw [hf] at cf
    rw [hl] at cl
    have hTb : T.size ≤ 5000 := by omega
    clear hD hT hDd hTd hDs hTs hsl h0 hm hne hf hl
    go_enter Tryd.func4, Tryd.ntmps4
    go_wp2_with fail
    refine (c8.out _).mono ?_
    rintro e w1 ⟨rfl, hb1⟩
    go_wp2_with fail
    refine (c10.out _).mono ?_
    rintro e w2 ⟨rfl, hb2⟩
    go_wp2_with fail
    refine (folds_any _).mono ?_
    rintro e w3 ⟨rfl, hb3⟩
    go_wp2_with fail
    refine (c8D.out _).mono ?_
    rintro e w4 ⟨rfl, hb4⟩
    go_wp2_with fail
    refine (c10T.out _).mono ?_
    rintro e w5 ⟨rfl, hb5⟩
    go_wp2_with fail
    refine (c12.out _).mono ?_
    rintro e w6 ⟨rfl, hb6⟩
    go_wp2_with fail
    refine (cf.out _).mono ?_
    rintro e w7 ⟨rfl, rfl⟩
    go_wp2_with fail
    refine (cl.out _).mono ?_
    rintro e w8 ⟨rfl, rfl⟩
    go_wp2
    go_ret
    exact ⟨rfl, nx (nx (nx (nx (nx hb1 hb2) hb3) hb4) hb5) hb6⟩

/-- string([]byte{..}). -/
theorem lit_string (w : World) (l : List UInt8) : (convert 32 9 (.slice (some ⟨w.heap.size, 0, none⟩) l.length l.length)).run Tryd.prog (w.alloc (.cells (Lib.byteCells l).toArray 5)) = .ok (.string ⟨l.toArray⟩) (w.alloc (.cells (Lib.byteCells l).toArray 5)) := by
  have := run_convert_bytes_arg (P := Tryd.prog) (w.alloc (.cells (Lib.byteCells l).toArray 5)) 32 5 Tryd.underlying32 Tryd.underlying5 w.heap.size 0 l.length l.length (l.map fun c => (c.toNat : Int)) (by simp) (fun i hi => ?_) 9 Tryd.underlying9
  · rw [strOfNums_bytes] at this; exact this
  · rw [Nat.zero_add, cell_of_row _ w.heap.size i _ 5 (0, 0) (heap_alloc_new w _)]
    simp [Lib.byteCells, List.getElem?_eq_getElem hi, List.getD_eq_getElem?_getD]
theorem count_take (l : List UInt8) (c : UInt8) (s : ByteArray) (k : Nat) (h : k < s.size) : (s.data.toList.take (k + 1)).count c = (s.data.toList.take k).count c + (if s[k] = c then 1 else 0) := by
  rw [take_snoc s k h, List.count_append]
  congr 1
  by_cases e : s[k] = c
  · rw [e]; simp
  · rw [if_neg e]; simp [e]
theorem mem_sum (l : List (List UInt8)) (q : List UInt8) (h : q ∈ l) : q.length ≤ (l.map List.length).sum := by
  induction l with
  | nil => cases h
  | cons a l ih =>
    rw [List.map_cons, List.sum_cons]
    rcases List.mem_cons.1 h with rfl | h
    · omega
    · have := ih h; omega
theorem inter_length (sep : UInt8) (ps : List (List UInt8)) : (Fo.inter sep ps).length ≤ (ps.map List.length).sum + ps.length := by
  induction ps with
  | nil => simp [Fo.inter]
  | cons a l ih =>
    cases l with
    | nil => simp [Fo.inter]
    | cons b l => rw [Fo.inter]; simp only [List.length_append, List.length_cons, List.map_cons, List.sum_cons] at ih ⊢; omega
theorem sum_take (ps : List (List UInt8)) (i : Nat) : ((ps.take i).map List.length).sum ≤ (ps.map List.length).sum := by
  conv => rhs; rw [← List.take_append_drop i ps]
  rw [List.map_append, List.sum_append]; omega
theorem sum_trim (ps : List (List UInt8)) : ((ps.map Fo.trim).map List.length).sum ≤ (ps.map List.length).sum := by
  induction ps with
  | nil => simp
  | cons a l ih => have := Fo.trim_length a; simp only [List.map_cons, List.sum_cons]; omega
theorem inter_bound (sep : UInt8) (l : List UInt8) (i : Nat) : (Fo.inter sep ((Fo.parts sep l).take i)).length ≤ 2 * l.length + 1 := by
  have h1 := inter_length sep ((Fo.parts sep l).take i)
  have h2 := sum_take (Fo.parts sep l) i
  have h3 := sum_trim (Fo.split sep l)
  have h4 := Fo.sgo_total sep [] l
  have h5 := Fo.parts_length sep l
  have h6 := List.count_le_length (a := sep) (l := l)
  rw [List.length_take] at h1
  unfold Fo.parts at *
  unfold Fo.split at *
  simp only [List.length_nil] at h4
  omega
theorem bs_at (l : List (List UInt8)) (i : Nat) (h : i < (bs l).length) (x : ByteArray) (e : x = (bs l)[i]) (h2 : i < l.length) : x.data.toList = l[i] := by
  subst e; simp [bs]

set_option maxRecDepth 100000 in
set_option maxHeartbeats 2000000 in
theorem law_parts_any (s : ByteArray) (c : UInt8) (w : World) (hs : s.size ≤ 9223372036854775807) : Calls Tryd.prog 6 #[.string s, .int .u8 c.toNat] w (True1 w) := by
  by_cases h1 : 5000 < s.size
  · go_enter Tryd.func6, Tryd.ntmps6
    go_wp2
    go_ret
    exact ⟨rfl, Below.refl _ _⟩
  have hsl := size_len s
  have c17 := Lib.hid (fun w' => parts_any s c w' (by omega))
  have hlen := Fo.parts_length c s.data.toList
  have hcl := List.count_le_length (a := c) (l := s.data.toList)
  obtain ⟨ps, hps⟩ : ∃ ps, ps = Fo.parts c s.data.toList := ⟨_, rfl⟩
  have hbd : ∀ i, (Fo.inter c (ps.take i)).length ≤ 10001 := fun i => by have := inter_bound c s.data.toList i; rw [hps]; omega
  have hfin : Fo.parts c (Fo.inter c ps) = ps := by rw [hps]; exact Fo.parts_inter c _
  have hpl : ∀ p ∈ ps, p.length ≤ 10001 := fun p hp => by
    rw [hps] at hp
    simp only [Fo.parts, List.mem_map] at hp
    obtain ⟨q, hq, rfl⟩ := hp
    have h2 := Fo.sgo_total c [] s.data.toList
    have h3 : q.length ≤ ((Fo.split c s.data.toList).map List.length).sum := mem_sum _ q hq
    have h4 := Fo.trim_length q
    unfold Fo.split at h3
    simp only [List.length_nil] at h2
    omega
  rw [← hps] at c17 hlen
  obtain ⟨L, hL⟩ : ∃ L, L = bs ps := ⟨_, rfl⟩
  have hLl : L.length = ps.length := by rw [hL, bs_length]
  rw [← hL] at c17
  obtain ⟨n, hn⟩ : ∃ n, n = L.length := ⟨_, rfl⟩
  have hnc : n = 1 + s.data.toList.count c := by rw [hn, hLl, hlen]
  have hn1 : n ≤ 5001 := by omega
  unfold OutTexts at c17
  rw [← hn] at c17
  have HN := Lib.hid hn
  have HNC := Lib.hid hnc
  have HLL := Lib.hid hLl
  have HL := Lib.hid hL
  have HBD := Lib.hid hbd
  have HPL := Lib.hid hpl
  have HF := Lib.hid hfin
  clear hn hnc hLl hL hbd hpl hfin hps hlen hcl hsl
  go_enter Tryd.func6, Tryd.ntmps6
  go_wp2_with fail
  refine (c17.out _).mono ?_
  rintro e w1 ⟨A1, d1, rfl, hd1, _, r1, hb1⟩
  go_wp2_with fail
  go_loopg [6, 7] s.size (fun gk v i wr => ∃ k : Nat, k + gk = s.size ∧ i = .int .i64 k ∧ v = .int .i64 ((1 + (s.data.toList.take k).count c : Nat) : Int) ∧ wr = w1)
  case atStart => exact ⟨0, by omega, rfl, rfl, rfl⟩
  case round =>
    obtain ⟨k, hk, rfl, rfl, rfl⟩ := hrel
    have HK := Lib.hid hk; clear hk
    by_cases hlt : k < s.size
    · have hct := count_take [] c s k hlt
      have hcb := List.count_le_length (a := c) (l := s.data.toList.take k)
      rw [List.length_take] at hcb
      obtain ⟨m, hm⟩ : ∃ m, m = (s.data.toList.take k).count c := ⟨_, rfl⟩
      rw [← hm] at hct hcb ⊢
      have hmb : m ≤ 5000 := by omega
      clear hcb hm
      by_cases he : s[k] = c
      · have hse : ((s[k].toNat : Int) == (c.toNat : Int)) = true := by rw [he]; simp
        rw [if_pos he] at hct
        have HCT := Lib.hid hct
        clear he hct
        go_wp2
        go_roundg (gk - 1)
        case rel => have := HK.out; have hc := HCT.out; exact ⟨k + 1, by omega, by go_num, by rw [hc]; go_num, rfl⟩
        case measure => have := HK.out; omega
      · have hse : ((s[k].toNat : Int) == (c.toNat : Int)) = false := by rw [beq_eq_false_iff_ne]; intro e; exact he (UInt8.toNat_inj.1 (by omega))
        rw [if_neg he] at hct
        have HCT := Lib.hid hct
        clear he hct
        go_wp2
        go_roundg (gk - 1)
        case rel => have := HK.out; have hc := HCT.out; exact ⟨k + 1, by omega, by go_num, by rw [hc]; go_num, rfl⟩
        case measure => have := HK.out; omega
    · obtain rfl : k = s.size := by have := HK.out; omega
      rw [take_all, ← HNC.out]
      obtain ⟨w1, rfl⟩ : ∃ w1, w1 = wr := ⟨_, rfl⟩
      go_wp2_with fail
      go_loopg [8, 9] n (fun gk v i wr => ∃ (k : Nat) (t : ByteArray), k + gk = n ∧ i = .int .i64 k ∧ v = .string t ∧ Hid (t.data.toList = Fo.inter c (ps.take k)) ∧ Below w1.heap.size w1 wr)
      case atStart => exact ⟨0, ⟨#[]⟩, by omega, rfl, rfl, rfl, Below.refl _ _⟩
      case round =>
        obtain ⟨k, t, hk, rfl, rfl, HT, hbw⟩ := hrel
        have HK2 := Lib.hid hk; clear hk
        have hsz := hbw.size
        have htb : t.size ≤ 10001 := by rw [← size_len, HT.out]; exact HBD.out k
        by_cases hlt2 : k < n
        · have hkl : k < L.length := by rw [← HN.out]; exact hlt2
          obtain ⟨ad, rfl, hc1⟩ := r1.at_ hbw k hkl
          have hkp : k < ps.length := by rw [← HLL.out]; exact hkl
          obtain ⟨x, hx⟩ : ∃ x, x = L[k] := ⟨_, rfl⟩
          rw [← hx] at hc1
          have hxd : x.data.toList = ps[k] := bs_at ps k (by rw [← HL.out]; exact hkl) x (by rw [hx]; simp only [HL.out]) hkp
          have hxs : x.size ≤ 10001 := by rw [← size_len, hxd]; exact HPL.out _ (List.getElem_mem hkp)
          have htk : ps.take (k + 1) = ps.take k ++ [ps[k]] := List.take_succ_eq_append_getElem hkp
          have HTK := Lib.hid htk; clear htk
          have HXD := Lib.hid hxd; clear hxd hx
          by_cases hk0 : k = 0
          · have hgt : ¬ (0 : Int) < (k : Int) := by omega
            have hno : ¬ 9223372036854775807 < t.size + x.size := by omega
            obtain ⟨V, hV⟩ : ∃ V, t ++ x = V := ⟨_, rfl⟩
            have HV := Lib.hid hV
            have HK0 := Lib.hid hk0; clear hk0
            go_wp2
            go_roundg (gk - 1)
            case rel =>
              have := HK2.out
              have hk0 := HK0.out
              refine ⟨k + 1, V, by omega, by go_num, rfl, ?_, hbw⟩
              show _ = _
              rw [← HV.out, cat_data, HT.out, HXD.out, HTK.out]
              subst hk0
              simp [Fo.inter]
            case measure => have := HK2.out; omega
          · have hgt : (0 : Int) < (k : Int) := by omega
            have HK0 := Lib.hid hk0; clear hk0
            obtain ⟨C, hC⟩ : ∃ C : ByteArray, C = ⟨[c].toArray⟩ := ⟨_, rfl⟩
            have hcv : (convert 32 9 (.slice (some ⟨wr.heap.size, 0, none⟩) 1 1)).run Tryd.prog (wr.alloc (.cells #[.int .u8 c.toNat] 5)) = .ok (.string C) (wr.alloc (.cells #[.int .u8 c.toNat] 5)) := by rw [hC]; exact lit_string wr [c]
            have hCs : C.size = 1 := by rw [hC]; rfl
            have hCd : C.data.toList = [c] := by rw [hC]
            have HCD := Lib.hid hCd
            obtain ⟨U, hU⟩ : ∃ U, t ++ C = U := ⟨_, rfl⟩
            have hUs : U.size = t.size + 1 := by rw [← hU, ByteArray.size_append, hCs]
            have hno : ¬ 9223372036854775807 < t.size + C.size := by omega
            have hno2 : ¬ 9223372036854775807 < U.size + x.size := by omega
            obtain ⟨V, hV⟩ : ∃ V, U ++ x = V := ⟨_, rfl⟩
            have HV := Lib.hid hV
            have HU := Lib.hid hU
            have hc2 := hc1
            have hcell : (wr.alloc (.cells #[.int .u8 c.toNat] 5)).cell? (ad.add k) = some (.string x) := by
              rw [← hc1]
              exact (below_alloc' wr _).cell (World.block_lt_of_cell? wr _ hc1)
            clear hC hCs hCd hUs
            go_wp2
            go_roundg (gk - 1)
            case rel =>
              have := HK2.out
              refine ⟨k + 1, V, by omega, by go_num, rfl, ?_, hbw.trans ((below_alloc' wr _).mono hsz)⟩
              show _ = _
              rw [← HV.out, cat_data, ← HU.out, cat_data, HT.out, HXD.out, HTK.out, HCD.out, Fo.inter_snoc c _ (fun e => by have e2 := congrArg List.length e; rw [List.length_take, List.length_nil] at e2; have := HK0.out; omega)]
              simp
            case measure => have := HK2.out; omega
        · obtain rfl : k = n := by have := HK2.out; omega
          have hall : ps.take k = ps := List.take_of_length_le (by rw [← HLL.out, ← HN.out]; exact Nat.le_refl _)
          have htd : t.data.toList = Fo.inter c ps := by rw [HT.out, hall]
          have c17b := fun w' => parts_any t c w' (by omega)
          rw [htd, HF.out, ← HL.out] at c17b
          have C17B := Lib.hid c17b
          clear htd hall c17b
          have B1 := Lib.hid (nx hb1 hbw)
          have rb := r1.below hbw
          clear hb1
          go_wp2_with fail
          refine (folds_any _).mono ?_
          rintro e w2 ⟨rfl, hb2⟩
          have rb2 := rb.below hb2
          go_wp2_with fail
          refine (C17B.out _).mono ?_
          rintro e w3 ⟨A3, d3, rfl, _, _, r3, hb3⟩
          have c14 := texts_same A3 A1 L.length d3 d1 L w3 r3 (by rw [← HN.out]; exact rb2.below hb3) (by rw [← HN.out]; omega)
          have C14 := Lib.hid c14; clear c14
          go_wp2_with fail
          refine (by rw [HN.out]; exact C14.out : Calls Tryd.prog 14 #[.slice A3 L.length d3, .slice A1 k d1] w3 (True1 w3)).mono ?_
          rintro e w4 ⟨rfl, hb4⟩
          go_wp2
          go_ret
          exact ⟨rfl, nx (nx (nx B1.out hb2) hb3) hb4⟩
end Go.Proofs.YtnlalebeclgcgaaDoor
