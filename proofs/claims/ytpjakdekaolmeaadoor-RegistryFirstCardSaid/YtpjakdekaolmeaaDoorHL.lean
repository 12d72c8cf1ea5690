/- The reference's Big and Find. -/
import Derived.Test.YtpjakdekaolmeaaDoorHK
namespace Go.Proofs.YtpjakdekaolmeaaDoor
open Go.RowKit Go.Shelf

def bigT (ss : List ByteArray) (n m : Nat) : Bool := decide (n < ss.length) || ss.any fun s => decide (m < s.size)
set_option maxHeartbeats 2000000 in
/-- Are texts too many, or too great. -/
theorem bigt_any (A : Option Addr) (k c n m : Nat) (ss : List ByteArray) (w : World) (ht : Texts w A k ss) (hn : n ≤ 1000) (hm : m ≤ 1000) :
    Calls Tryd.prog 32 #[.slice A k c, .int .i64 n, .int .i64 m] w fun e w' => e = .returned (.bool (bigT ss n m)) ∧ w' = w := by
  have hl := ht.1
  obtain ⟨N, hN⟩ : ∃ N, N = k := ⟨_, rfl⟩
  have HT := Lib.hid ht
  have HL := Lib.hid hl
  clear ht hl
  by_cases hbig : n < k
  · have hf : bigT ss n m = true := by unfold bigT; rw [HL.out]; simp [hbig]
    have HF := Lib.hid hf; clear hf
    go_enter Tryd.func32, Tryd.ntmps32
    go_wp2_with fail
    go_ret
    exact ⟨ret_bool HF.out.symm, rfl⟩
  · go_enter Tryd.func32, Tryd.ntmps32
    go_wp2_with fail
    go_loopg [7] k (fun gk i wr => ∃ j : Nat, j + gk = k ∧ i = .int .i64 j ∧ Hid ((ss.take j).any (fun s => decide (m < s.size)) = false) ∧ wr = w)
    case atStart => exact ⟨0, by omega, rfl, rfl, rfl⟩
    case round =>
      obtain ⟨j, hj, rfl, HA, rfl⟩ := hrel
      have HJ := Lib.hid hj; clear hj
      by_cases hlt : j < k
      · have hjl : j < ss.length := by rw [HL.out]; exact hlt
        obtain ⟨ad, rfl, hc⟩ := HT.out.at_ (Below.refl _ _) j hjl
        have ht1 : ss.take (j + 1) = ss.take j ++ [ss[j]] := List.take_succ_eq_append_getElem hjl
        have hmem : ss[j] ∈ ss := List.getElem_mem hjl
        obtain ⟨x, hx⟩ : ∃ x, x = ss[j] := ⟨_, rfl⟩
        rw [← hx] at hc ht1 hmem
        have HT1 := Lib.hid ht1
        have HMEM := Lib.hid hmem
        clear ht1 hmem hx
        by_cases hb : m < x.size
        · go_wp2_with fail
          go_ret
          refine ⟨ret_bool ?_, rfl⟩
          unfold bigT
          symm
          rw [Bool.or_eq_true]
          exact .inr (List.any_eq_true.2 ⟨x, HMEM.out, by simpa using hb⟩)
        · go_wp2_with fail
          go_roundg (gk - 1)
          case rel =>
            have hj := HJ.out
            refine ⟨j + 1, by omega, by go_num, ?_, rfl⟩
            show _ = _
            rw [HT1.out, List.any_append, HA.out]
            simp; omega
          case measure => have hj := HJ.out; omega
      · go_wp2_with fail
        go_ret
        refine ⟨ret_bool ?_, rfl⟩
        have hj := HJ.out
        have ha := HA.out
        rw [List.take_of_length_le (by rw [HL.out]; omega)] at ha
        unfold bigT
        rw [ha, HL.out]
        simp; omega
def bigPol (ds : List (ByteArray × List ByteArray)) : Bool := decide (20 < ds.length) || ds.any fun d => decide (200 < d.1.size) || bigT d.2 210 300
def bigP (ps : List PolB) : Bool := decide (15 < ps.length) || ps.any fun p => bigPol p.1

set_option maxHeartbeats 4000000 in
set_option maxRecDepth 100000 in
/-- Big. -/
theorem big_any (v : Value) (ps : List PolB) (w : World) (hv : PolsV w v ps) : Calls Tryd.prog 22 #[v] w fun e w' => e = .returned (.bool (bigP ps)) ∧ w' = w := by
  obtain ⟨A, c, rfl, -, -, -⟩ := id hv
  obtain ⟨N, hN⟩ : ∃ N, N = ps.length := ⟨_, rfl⟩
  have HN := Lib.hid hN
  have HV := Lib.hid hv
  clear hv
  by_cases hbig : 15 < N
  · have hf : bigP ps = true := by unfold bigP; rw [← hN]; simp [hbig]
    have HF := Lib.hid hf; clear hf
    go_enter Tryd.func22, Tryd.ntmps22
    rw [← hN]
    clear hN
    go_wp2_with fail
    go_ret
    exact ⟨ret_bool HF.out.symm, rfl⟩
  go_enter Tryd.func22, Tryd.ntmps22
  rw [← hN]
  clear hN
  go_wp2_with fail
  go_loopg [3] N (fun gk i wr => ∃ j : Nat, j + gk = N ∧ i = .int .i64 j ∧ Hid ((ps.take j).any (fun p => bigPol p.1) = false) ∧ wr = w)
  case atStart => exact ⟨0, by omega, rfl, rfl, rfl⟩
  case round =>
    obtain ⟨j, hj, rfl, HA, hwr⟩ := hrel
    obtain rfl : w = wr := hwr.symm
    have HJ := Lib.hid hj; clear hj hwr
    by_cases hlt : j < N
    · have hjl : j < ps.length := by rw [← HN.out]; exact hlt
      obtain ⟨g, off, dv, rfl, q1, q2, q3⟩ := HV.out.at_ j hjl
      have ht1 : ps.take (j + 1) = ps.take j ++ [ps[j]] := List.take_succ_eq_append_getElem hjl
      have hmem : ps[j] ∈ ps := List.getElem_mem hjl
      obtain ⟨p, hp⟩ : ∃ p, p = ps[j] := ⟨_, rfl⟩
      rw [← hp] at q3 ht1 hmem
      obtain ⟨A2, c2, rfl, -, -, -⟩ := id q3
      obtain ⟨M, hM⟩ : ∃ M, M = p.1.length := ⟨_, rfl⟩
      rw [← hM] at q1
      have HT1 := Lib.hid ht1
      have HMEM := Lib.hid hmem
      have HM := Lib.hid hM
      have HQ := Lib.hid q3
      clear ht1 hmem hp q3 q2
      by_cases hb : 20 < M
      · have hf : bigP ps = true := by
          unfold bigP
          rw [Bool.or_eq_true]
          refine .inr (List.any_eq_true.2 ⟨p, HMEM.out, ?_⟩)
          unfold bigPol
          rw [← hM]
          simp [hb]
        have HF := Lib.hid hf
        clear hf hM
        go_wp2_with fail
        go_ret
        exact ⟨ret_bool HF.out.symm, rfl⟩
      · clear hM
        obtain ⟨G, hG⟩ : ∃ G, G = gk := ⟨_, rfl⟩
        go_wp2_with fail
        go_loopg [4] M (fun gl i wr' => ∃ l : Nat, l + gl = M ∧ i = .int .i64 l ∧ Hid ((p.1.take l).any (fun d => decide (200 < d.1.size) || bigT d.2 210 300) = false) ∧ wr' = w)
        case atStart => exact ⟨0, by omega, rfl, rfl, rfl⟩
        case round =>
          obtain ⟨l, hl, rfl, HB, hwr⟩ := hrel
          obtain rfl : w = wr := hwr.symm
          have HL := Lib.hid hl; clear hl hwr
          by_cases hlt2 : l < M
          · have hkl : l < p.1.length := by rw [← HM.out]; exact hlt2
            obtain ⟨g2, o2, rfl, r1, WA, wc, r2, r3, r4, r5⟩ := HQ.out.at_ l hkl
            have ht2 : p.1.take (l + 1) = p.1.take l ++ [p.1[l]] := List.take_succ_eq_append_getElem hkl
            have hmem2 : p.1[l] ∈ p.1 := List.getElem_mem hkl
            obtain ⟨d, hd⟩ : ∃ d, d = p.1[l] := ⟨_, rfl⟩
            rw [← hd] at r1 r2 r5 ht2 hmem2
            have c26 := bigt_any WA d.2.length wc 210 300 d.2 w r5 (by omega) (by omega)
            obtain ⟨b, hb2⟩ : ∃ b, b = bigT d.2 210 300 := ⟨_, rfl⟩
            obtain ⟨K2, hK2⟩ : ∃ K, K = d.2.length := ⟨_, rfl⟩
            rw [← hb2, ← hK2] at c26
            rw [← hK2] at r2
            have hf : (decide (200 < d.1.size) || b) = true → bigP ps = true := fun h => by
              unfold bigP
              rw [Bool.or_eq_true]
              refine .inr (List.any_eq_true.2 ⟨p, HMEM.out, ?_⟩)
              unfold bigPol
              rw [Bool.or_eq_true]
              refine .inr (List.any_eq_true.2 ⟨d, hmem2, ?_⟩)
              rw [← hb2]
              exact h
            have HF := Lib.hid hf
            have HT2 := Lib.hid ht2
            have C26 := Lib.hid c26
            have HB2 := Lib.hid hb2
            clear hf ht2 hmem2 hd c26 hb2 hK2 r3 r4 r5
            obtain ⟨x, hx⟩ : ∃ x, x = d.1 := ⟨_, rfl⟩
            rw [← hx] at r1
            by_cases hxb : 200 < x.size
            · have hf2 := HF.out (by rw [← hx]; simp [hxb])
              have HF2 := Lib.hid hf2
              clear hx hf2
              go_wp2_with fail
              go_ret
              exact ⟨ret_bool HF2.out.symm, rfl⟩
            · have HX := Lib.hid hx
              clear hx
              go_wp2_with fail
              refine C26.out.mono ?_
              rintro e w2 ⟨rfl, rfl⟩
              cases b
              · go_wp2_with fail
                go_roundg (gk - 1)
                case rel =>
                  have hl := HL.out
                  refine ⟨l + 1, by omega, by go_num, ?_, rfl⟩
                  show _ = _
                  rw [HT2.out, List.any_append, HB.out]
                  simp [← HB2.out, ← HX.out]
                  omega
                case measure => have hl := HL.out; omega
              · have hf2 := HF.out (by simp)
                have HF2 := Lib.hid hf2
                clear hf2
                go_wp2_with fail
                go_ret
                exact ⟨ret_bool HF2.out.symm, rfl⟩
          · go_wp2_with fail
            go_roundg (G - 1)
            case rel =>
              have hj := HJ.out
              have hl := HL.out
              refine ⟨j + 1, by omega, by go_num, ?_, rfl⟩
              show _ = _
              have hb3 := HB.out
              rw [List.take_of_length_le (by rw [← HM.out]; omega)] at hb3
              rw [HT1.out, List.any_append, HA.out]
              unfold bigPol
              simp only [List.any_cons, List.any_nil, Bool.or_false, Bool.false_or]
              rw [hb3, ← HM.out]
              simp; omega
            case measure => have hj := HJ.out; omega
    · go_wp2_with fail
      go_ret
      refine ⟨ret_bool ?_, rfl⟩
      have hj := HJ.out
      have ha := HA.out
      rw [List.take_of_length_le (by rw [← HN.out]; omega)] at ha
      unfold bigP
      rw [ha, ← HN.out]
      simp; omega
end Go.Proofs.YtpjakdekaolmeaaDoor
