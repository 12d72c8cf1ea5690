import Derived.Test.YtnlalebeclgcgaaDoorI
namespace Go.Proofs.YtnlalebeclgcgaaDoor
open Go.RowKit

theorem spread_length (c : UInt8) (ws : List (List UInt8)) : (Fo.spread c ws).length = (ws.map List.length).sum + 2 * ws.length := by
  induction ws with
  | nil => rfl
  | cons a l ih => rw [Fo.spread, List.flatMap_cons, ← Fo.spread]; simp only [List.length_append, List.length_cons, List.length_nil, List.map_cons, List.sum_cons]; omega
theorem spread_bound (c : UInt8) (l : List UInt8) (i : Nat) : (Fo.spread c ((Fo.words l).take i)).length ≤ 3 * l.length := by
  have h1 := spread_length c ((Fo.words l).take i)
  have h2 := sum_take (Fo.words l) i
  have h3 := Fo.wgo_total [] l
  have h4 := Fo.words_length l
  rw [List.length_take] at h1
  unfold Fo.words at *
  simp only [List.length_nil] at h3
  omega
theorem spread_snoc (c : UInt8) (ws : List (List UInt8)) (w : List UInt8) : Fo.spread c (ws ++ [w]) = Fo.spread c ws ++ (w ++ [c, c]) := by simp [Fo.spread]

set_option maxRecDepth 100000 in
set_option maxHeartbeats 4000000 in
theorem law_words_any (s : ByteArray) (c : UInt8) (w : World) (hs : s.size ≤ 9223372036854775807) : Calls Tryd.prog 5 #[.string s, .int .u8 c.toNat] w (True1 w) := by
  by_cases h1 : 5000 < s.size
  · go_enter Tryd.func5, Tryd.ntmps5
    go_wp2_with fail
    refine (folds_any _).mono ?_
    rintro e w1 ⟨rfl, hb1⟩
    go_wp2
    go_ret
    exact ⟨rfl, hb1⟩
  have c19 := Lib.hid (fun w' => blank_any c w')
  cases hbc : Fo.bl c with
  | false =>
    rw [hbc] at c19
    clear hbc
    go_enter Tryd.func5, Tryd.ntmps5
    go_wp2_with fail
    refine (c19.out _).mono ?_
    rintro e w1 ⟨rfl, rfl⟩
    go_wp2_with fail
    refine (folds_any _).mono ?_
    rintro e w2 ⟨rfl, hb2⟩
    go_wp2
    go_ret
    exact ⟨rfl, hb2⟩
  | true =>
    rw [hbc] at c19
    have hsl := size_len s
    have c15 := Lib.hid (fun w' => words_any s w' (by omega))
    have hlen := Fo.words_length s.data.toList
    have hall := Fo.words_all s.data.toList
    obtain ⟨ws, hws⟩ : ∃ ws, ws = Fo.words s.data.toList := ⟨_, rfl⟩
    have hbd : ∀ i, (Fo.spread c (ws.take i)).length ≤ 15000 := fun i => by have := spread_bound c s.data.toList i; rw [hws]; omega
    have hwl : ∀ p ∈ ws, p.length ≤ 5000 := fun p hp => by
      have h2 := Fo.wgo_total [] s.data.toList
      have h3 := mem_sum ws p hp
      rw [hws] at h3
      unfold Fo.words at h3
      simp only [List.length_nil] at h2
      omega
    rw [← hws] at c15 hlen hall
    have hfin : Fo.words (c :: Fo.spread c ws) = ws := Fo.words_spread c hbc ws hall
    obtain ⟨L, hL⟩ : ∃ L, L = bs ws := ⟨_, rfl⟩
    have hLl : L.length = ws.length := by rw [hL, bs_length]
    rw [← hL] at c15
    obtain ⟨n, hn⟩ : ∃ n, n = L.length := ⟨_, rfl⟩
    have hn1 : n ≤ 5000 := by omega
    unfold OutTexts at c15
    rw [← hn] at c15
    have HN := Lib.hid hn
    have HLL := Lib.hid hLl
    have HL := Lib.hid hL
    have HBD := Lib.hid hbd
    have HWL := Lib.hid hwl
    have HF := Lib.hid hfin
    have HALL := Lib.hid hall
    clear hn hLl hL hbd hwl hfin hws hlen hsl hall hbc
    obtain ⟨C, hC⟩ : ∃ C : ByteArray, C = ⟨[c].toArray⟩ := ⟨_, rfl⟩
    have hCd : C.data.toList = [c] := by rw [hC]
    obtain ⟨E, hE⟩ : ∃ E : ByteArray, E = ⟨[c, c].toArray⟩ := ⟨_, rfl⟩
    have hEd : E.data.toList = [c, c] := by rw [hE]
    have hEs : E.size = 2 := by rw [hE]; rfl
    have HCD := Lib.hid hCd
    have HED := Lib.hid hEd
    have HES := Lib.hid hEs
    have hlit1 := fun W : World => (lit_string W [c])
    rw [← hC] at hlit1
    have hlit2 := fun W : World => (lit_string W [c, c])
    rw [← hE] at hlit2
    have H1 := Lib.hid hlit1
    have H2 := Lib.hid hlit2
    clear hC hCd hE hEd hEs hlit1 hlit2
    go_enter Tryd.func5, Tryd.ntmps5
    go_wp2_with fail
    refine (c19.out _).mono ?_
    rintro e w0 ⟨rfl, rfl⟩
    go_wp2_with fail
    refine (c15.out _).mono ?_
    rintro e w1 ⟨A1, d1, rfl, hd1, _, r1, hb1⟩
    have hcv : (convert 32 9 (.slice (some ⟨w1.heap.size, 0, none⟩) 1 1)).run Tryd.prog (w1.alloc (.cells #[.int .u8 c.toNat] 5)) = .ok (.string C) (w1.alloc (.cells #[.int .u8 c.toNat] 5)) := H1.out w1
    go_wp2_with fail
    clear hcv
    go_loopg [6, 7] n (fun gk v i wr => ∃ (k : Nat) (t : ByteArray), k + gk = n ∧ i = .int .i64 k ∧ v = .string t ∧ Hid (t.data.toList = c :: Fo.spread c (ws.take k)) ∧ Below w1.heap.size w1 wr)
    case atStart => exact ⟨0, C, by omega, rfl, rfl, HCD.out, below_alloc' w1 _⟩
    case round =>
      obtain ⟨k, t, hk, rfl, rfl, HT, hbw⟩ := hrel
      have HK2 := Lib.hid hk; clear hk
      have hsz := hbw.size
      have htb : t.size ≤ 15001 := by have := HBD.out k; rw [← size_len, HT.out, List.length_cons]; omega
      obtain ⟨wo, rfl⟩ : ∃ wo, wo = wr := ⟨_, rfl⟩
      obtain ⟨gn, rfl⟩ : ∃ gn, gn = gk := ⟨_, rfl⟩
      by_cases hlt2 : k < n
      · have hkl : k < L.length := by rw [← HN.out]; exact hlt2
        obtain ⟨ad, rfl, hc1⟩ := r1.at_ hbw k hkl
        have hkp : k < ws.length := by rw [← HLL.out]; exact hkl
        obtain ⟨x, hx⟩ : ∃ x, x = L[k] := ⟨_, rfl⟩
        rw [← hx] at hc1
        have hxd : x.data.toList = ws[k] := bs_at ws k (by rw [← HL.out]; exact hkl) x (by rw [hx]; simp only [HL.out]) hkp
        have hxs : x.size ≤ 5000 := by rw [← size_len, hxd]; exact HWL.out _ (List.getElem_mem hkp)
        have hxa := HALL.out ws[k] (List.getElem_mem hkp)
        rw [← hxd] at hxa
        have hq1 : (x.toList == []) = false := by rw [Lib.toList_data, beq_eq_false_iff_ne]; exact hxa.1
        have hq2 : x.toList.isEmpty = false := by rw [Lib.toList_data]; exact Bool.eq_false_iff.2 (fun e => hxa.1 (List.isEmpty_iff.1 e))
        have HXB : Hid (∀ j (h : j < x.size), Fo.bl x[j] = false) := fun j h => hxa.2 _ (byte_mem x j h)
        have htk : ws.take (k + 1) = ws.take k ++ [ws[k]] := List.take_succ_eq_append_getElem hkp
        have HTK := Lib.hid htk; clear htk
        have HXD := Lib.hid hxd; clear hxd hx hxa
        go_wp2_with fail
        go_loopg [8] x.size (fun gk2 v wr2 => ∃ j : Nat, j + gk2 = x.size ∧ v = .int .i64 j ∧ wr2 = wo)
        case atStart => exact ⟨0, by omega, rfl, rfl⟩
        case round =>
          obtain ⟨j, hj, rfl, rfl⟩ := hrel
          have HJ := Lib.hid hj; clear hj
          by_cases hj2 : j < x.size
          · have cb := Lib.hid (fun w' => blank_any x[j] w')
            rw [HXB.out j hj2] at cb
            go_wp2_with fail
            refine (cb.out _).mono ?_
            rintro e w2 ⟨rfl, rfl⟩
            go_wp2
            go_roundg (gk - 1)
            case rel => have := HJ.out; exact ⟨j + 1, by omega, by go_num, rfl⟩
            case measure => have := HJ.out; omega
          · obtain rfl : j = x.size := by have := HJ.out; omega
            obtain ⟨U, hU⟩ : ∃ U, t ++ x = U := ⟨_, rfl⟩
            have hUs : U.size = t.size + x.size := by rw [← hU, ByteArray.size_append]
            have hno : ¬ 9223372036854775807 < t.size + x.size := by omega
            have hno2 : ¬ 9223372036854775807 < U.size + E.size := by have := HES.out; omega
            obtain ⟨V, hV⟩ : ∃ V, U ++ E = V := ⟨_, rfl⟩
            have HV := Lib.hid hV
            have HU := Lib.hid hU
            clear hUs
            go_wp2_with fail
            have hcv2 : (convert 32 9 (.slice (some ⟨wr.heap.size, 0, none⟩) 2 2)).run Tryd.prog (wr.alloc (.cells #[.int .u8 c.toNat, .int .u8 c.toNat] 5)).drew = .ok (.string E) (wr.alloc (.cells #[.int .u8 c.toNat, .int .u8 c.toNat] 5)).drew := H2.out wr.drew
            have hlen0 : ad.block < wr.heap.size := by have := World.block_lt_of_cell? wr _ hc1; rwa [add_block] at this
            have hcell : (wr.alloc (.cells #[.int .u8 c.toNat, .int .u8 c.toNat] 5)).cell? (ad.add k) = some (.string x) := by
              rw [← hc1]
              exact (below_alloc' wr _).cell (World.block_lt_of_cell? wr _ hc1)
            go_region
            go_wp2
            go_roundg (gn - 1)
            case rel =>
              have := HK2.out
              refine ⟨k + 1, V, by omega, by go_num, rfl, ?_, ?_⟩
              · show _ = _
                rw [← HV.out, cat_data, ← HU.out, cat_data, HT.out, HXD.out, HTK.out, HED.out, spread_snoc]
                simp
              · have hb := hbw.trans ((below_alloc' wr (.cells #[.int .u8 c.toNat, .int .u8 c.toNat] 5)).mono hsz)
                exact ⟨hb.os, hb.tape, hb.output, hb.size, hb.block⟩
            case measure => have := HK2.out; omega
      · obtain rfl : k = n := by have := HK2.out; omega
        have hall : ws.take k = ws := List.take_of_length_le (by rw [← HLL.out, ← HN.out]; exact Nat.le_refl _)
        have htd : t.data.toList = c :: Fo.spread c ws := by rw [HT.out, hall]
        have c15b := fun w' => words_any t w' (by omega)
        rw [htd, HF.out, ← HL.out] at c15b
        have C15B := Lib.hid c15b
        clear htd hall c15b
        have B1 := Lib.hid (nx hb1 hbw)
        have rb := r1.below hbw
        clear hb1
        go_wp2_with fail
        refine (folds_any _).mono ?_
        rintro e w2 ⟨rfl, hb2⟩
        have rb2 := rb.below hb2
        go_wp2_with fail
        refine (C15B.out _).mono ?_
        rintro e w3 ⟨A3, d3, rfl, _, _, r3, hb3⟩
        have c14 := texts_same A3 A1 L.length d3 d1 L w3 r3 (by rw [← HN.out]; exact rb2.below hb3) (by rw [← HN.out]; omega)
        have C14 := Lib.hid c14; clear c14
        go_wp2_with fail
        refine (by rw [HN.out]; exact C14.out : Calls Tryd.prog 14 #[.slice A3 L.length d3, .slice A1 k d1] w3 (True1 w3)).mono ?_
        rintro e w4 ⟨rfl, hb4⟩
        go_wp2
        go_ret
        exact ⟨rfl, nx (nx (nx B1.out hb2) hb3) hb4⟩
end Go.Proofs.YtnlalebeclgcgaaDoor
