import Derived.Test.YtigjmelngddbjaaC
namespace Go.Proofs.Ytigjmelngddbjaa
open Go.RowKit

/-- The k-th byte of a text, 0 behind its end. -/
def xb (l : List UInt8) (k : Nat) : Nat := (l.getD k 0).toNat
theorem xb_lt (l : List UInt8) (k : Nat) : xb l k < 256 := UInt8.toNat_lt _
theorem xb_at (t : ByteArray) (k : Nat) (h : k < t.size) : t[k].toNat = xb t.data.toList k := by
  unfold xb; rw [List.getD_eq_getElem?_getD, byte_at t k h]; rfl
theorem xb_none (l : List UInt8) (k : Nat) (h : l.length ≤ k) : xb l k = 0 := by
  unfold xb; rw [List.getD_eq_getElem?_getD, List.getElem?_eq_none h]; rfl
/-- The number that the first k bytes are. -/
def pre (l : List UInt8) : Nat → Nat
  | 0 => 0
  | k + 1 => pre l k * 256 + xb l k
theorem pre_lt (l : List UInt8) : pre l 0 < 1 ∧ pre l 1 < 256 ∧ pre l 2 < 65536 ∧ pre l 3 < 16777216 := by
  have := xb_lt l 0; have := xb_lt l 1; have := xb_lt l 2
  simp only [pre]; omega
/-- The signs of the first three bytes. -/
def quad (l : List UInt8) : List UInt8 := [Bs.sg (pre l 3 / 262144 % 64), Bs.sg (pre l 3 / 4096 % 64), if 2 ≤ l.length then Bs.sg (pre l 3 / 64 % 64) else 61, if 3 ≤ l.length then Bs.sg (pre l 3 % 64) else 61]
theorem enc_step (l : List UInt8) (h : l ≠ []) : Bs.enc l = quad l ++ Bs.enc (l.drop 3) := by
  match l, h with
  | [a], _ =>
    have := a.toNat_lt
    have e : pre [a] 3 = a.toNat * 65536 := by simp [pre, xb]; omega
    simp only [Bs.enc, quad, e, List.drop, List.append_nil]
    rw [show a.toNat * 65536 / 262144 % 64 = a.toNat / 4 by omega, show a.toNat * 65536 / 4096 % 64 = a.toNat % 4 * 16 by omega]
    simp
  | [a, b], _ =>
    have := a.toNat_lt; have := b.toNat_lt
    have e : pre [a, b] 3 = a.toNat * 65536 + b.toNat * 256 := by simp [pre, xb]; omega
    simp only [Bs.enc, quad, e, List.drop, List.append_nil]
    rw [show (a.toNat * 65536 + b.toNat * 256) / 262144 % 64 = a.toNat / 4 by omega, show (a.toNat * 65536 + b.toNat * 256) / 4096 % 64 = a.toNat % 4 * 16 + b.toNat / 16 by omega,
      show (a.toNat * 65536 + b.toNat * 256) / 64 % 64 = b.toNat % 16 * 4 by omega]
    simp
  | a :: b :: c :: r, _ =>
    have := a.toNat_lt; have := b.toNat_lt; have := c.toNat_lt
    have e : pre (a :: b :: c :: r) 3 = a.toNat * 65536 + b.toNat * 256 + c.toNat := by simp [pre, xb]; omega
    simp only [Bs.enc, quad, e, List.drop]
    rw [show (a.toNat * 65536 + b.toNat * 256 + c.toNat) / 262144 % 64 = a.toNat / 4 by omega, show (a.toNat * 65536 + b.toNat * 256 + c.toNat) / 4096 % 64 = a.toNat % 4 * 16 + b.toNat / 16 by omega,
      show (a.toNat * 65536 + b.toNat * 256 + c.toNat) / 64 % 64 = b.toNat % 16 * 4 + c.toNat / 64 by omega, show (a.toNat * 65536 + b.toNat * 256 + c.toNat) % 64 = c.toNat % 64 by omega]
    simp
theorem quad_take (l : List UInt8) : quad l = (quad l).take 4 := rfl

theorem ext_drop (t : ByteArray) : (t.extract (min 3 (t.size : Int)).toNat t.size).data.toList = t.data.toList.drop 3 ∧ (t.extract (min 3 (t.size : Int)).toNat t.size).size = t.size - min 3 t.size := by
  have hm : (min 3 (t.size : Int)).toNat = min 3 t.size := by omega
  have h1 : (t.extract (min 3 (t.size : Int)).toNat t.size).data.toList = t.data.toList.drop 3 := by
    rw [hm, Lib.extract_data, List.take_of_length_le (by rw [List.length_drop, size_len]; omega)]
    by_cases h : 3 ≤ t.size
    · rw [Nat.min_eq_left h]
    · rw [Nat.min_eq_right (by omega), List.drop_eq_nil_of_le (by rw [size_len]; omega), List.drop_eq_nil_of_le (by rw [size_len]; omega)]
  refine ⟨h1, ?_⟩
  rw [← size_len, h1, List.length_drop, size_len]; omega
theorem lit_sg (d : Nat) (h : d < 64) : Bs.sg d = (⟨Bs.signs.toArray⟩ : ByteArray)[d]'h := by
  have h' : d < Bs.signs.length := h
  show _ = Bs.signs.toArray[d]
  rw [Bs.sg, List.getElem_toArray, List.getD_eq_getElem?_getD, List.getElem?_eq_getElem h']; rfl

set_option maxHeartbeats 2000000 in
theorem enc_any (s : ByteArray) (w : World) (hs : s.size ≤ 1000000000) : Calls Try.prog 10 #[.string s] w fun e w' => e = .returned (.string ⟨(Bs.enc s.data.toList).toArray⟩) ∧ Below w.heap.size w w' := by
  go_enter Try.func10, Try.ntmps10
  go_wp2
  go_loopg [0] s.size (fun gk v wr => ∃ (t : ByteArray) (acc : List UInt8), v = .string t ∧ t.size ≤ gk ∧ Hid (acc ++ Bs.enc t.data.toList = Bs.enc s.data.toList) ∧ acc.length + 4 * t.size ≤ 4000000000 ∧ t.size ≤ 1000000000 ∧ Lib.IsBuilder 31 5 w.heap.size w.heap.size (Lib.byteCells acc) wr ∧ Below w.heap.size w wr)
  case atStart => exact ⟨s, [], rfl, Nat.le_refl _, rfl, by simp; omega, hs, Lib.fresh_isBuilder 31 5 w, below_alloc' w _⟩
  case round =>
    obtain ⟨t, acc, rfl, hgk, HA, hlen, htz, hI, hbw⟩ := hrel
    have hsz := hbw.size
    by_cases ht : 0 < t.size
    · go_wp2
      go_loopg [4, 15] 3 (fun gj n i wq => ∃ k : Nat, k + gj = 3 ∧ i = .int .i64 k ∧ n = .int .i64 (pre t.data.toList k : Nat) ∧ wr = wq)
      case atStart => exact ⟨0, rfl, rfl, rfl, rfl⟩
      case round =>
        obtain ⟨k, hk, rfl, rfl, rfl⟩ := hrel
        have HK := Lib.hid hk
        have hpl := pre_lt t.data.toList
        by_cases hk3 : k < 3
        · have hp : pre t.data.toList k < 65536 := by
            rcases (show k = 0 ∨ k = 1 ∨ k = 2 by omega) with rfl | rfl | rfl <;> omega
          have hs1 : pre t.data.toList (k + 1) = pre t.data.toList k * 256 + xb t.data.toList k := rfl
          have H1 := Lib.hid hs1
          clear hs1 hk hpl
          by_cases hkt : k < t.size
          · have hx := xb_at t k hkt
            have hxl := xb_lt t.data.toList k
            rw [← hx] at hxl
            have HX := Lib.hid hx; clear hx
            have ho := or8 (pre t.data.toList k) t[k].toNat (by omega) (by omega) (by omega) (by omega)
            go_wp2
            go_roundg (gk - 1)
            case rel =>
              have hk := HK.out
              refine ⟨k + 1, by omega, by go_num, ?_, rfl⟩
              rw [H1.out, HX.out]; simp
            case measure => have := HK.out; omega
          · have hx := xb_none t.data.toList k (by rw [size_len]; omega)
            have HX := Lib.hid hx; clear hx
            go_wp2
            go_roundg (gk - 1)
            case rel =>
              have hk := HK.out
              refine ⟨k + 1, by omega, by go_num, ?_, rfl⟩
              rw [H1.out, HX.out]; simp
            case measure => have := HK.out; omega
        · obtain rfl : k = 3 := by omega
          have hp : pre t.data.toList 3 < 16777216 := hpl.2.2.2
          clear hk HK hpl
          obtain ⟨n, hn⟩ : ∃ n, n = pre t.data.toList 3 := ⟨_, rfl⟩
          rw [← hn] at hp ⊢
          have HN := Lib.hid hn; clear hn
          go_wp2
          go_loopg [31] 4 (fun gj i wq => ∃ k : Nat, k + gj = 4 ∧ i = .int .i64 k ∧ Lib.IsBuilder 31 5 w.heap.size w.heap.size (Lib.byteCells (acc ++ (quad t.data.toList).take k)) wq ∧ Below w.heap.size w wq)
          case atStart => exact ⟨0, rfl, rfl, by simpa using hI, hbw⟩
          case round =>
            obtain ⟨k, hk, rfl, hI2, hbw2⟩ := hrel
            have hsz2 := hbw2.size
            have HK := Lib.hid hk
            have a0 := and63 ((n : Int) / 262144) (by omega) (by omega)
            have a1 := and63 ((n : Int) / 4096) (by omega) (by omega)
            have a2 := and63 ((n : Int) / 64) (by omega) (by omega)
            have a3 := and63 (n : Int) (by omega) (by omega)
            by_cases hk4 : k < 4
            · rcases (show k = 0 ∨ k = 1 ∨ k = 2 ∨ k = 3 by omega) with rfl | rfl | rfl | rfl
              · clear hk hk4
                go_wp2_with fail
                refine (writeByte_any w.heap.size w.heap.size _ _ _ hI2 (by rw [List.length_append]; have := List.length_take_le 0 (quad t.data.toList); omega) hsz2).mono ?_
                rintro e w1 ⟨rfl, hI3, hb3⟩
                go_wp2
                go_roundg (gk - 1)
                case rel =>
                  have hk := HK.out
                  refine ⟨1, by omega, by go_num, ?_, hbw2.trans hb3⟩
                  have e : acc ++ (quad t.data.toList).take 1 = (acc ++ (quad t.data.toList).take 0) ++ [Bs.sg (n / 262144 % 64)] := by rw [HN.out]; simp [quad]
                  rw [e, lit_sg (n / 262144 % 64) (by omega)]
                  exact hI3
                case measure => have := HK.out; omega
              · clear hk hk4
                go_wp2_with fail
                refine (writeByte_any w.heap.size w.heap.size _ _ _ hI2 (by rw [List.length_append]; have := List.length_take_le 1 (quad t.data.toList); omega) hsz2).mono ?_
                rintro e w1 ⟨rfl, hI3, hb3⟩
                go_wp2
                go_roundg (gk - 1)
                case rel =>
                  have hk := HK.out
                  refine ⟨2, by omega, by go_num, ?_, hbw2.trans hb3⟩
                  have e : acc ++ (quad t.data.toList).take 2 = (acc ++ (quad t.data.toList).take 1) ++ [Bs.sg (n / 4096 % 64)] := by rw [HN.out]; simp [quad]
                  rw [e, lit_sg (n / 4096 % 64) (by omega)]
                  exact hI3
                case measure => have := HK.out; omega
              · clear hk hk4
                by_cases h2 : 2 ≤ t.size
                · go_wp2_with fail
                  refine (writeByte_any w.heap.size w.heap.size _ _ _ hI2 (by rw [List.length_append]; have := List.length_take_le 2 (quad t.data.toList); omega) hsz2).mono ?_
                  rintro e w1 ⟨rfl, hI3, hb3⟩
                  go_wp2
                  go_roundg (gk - 1)
                  case rel =>
                    have hk := HK.out
                    refine ⟨3, by omega, by go_num, ?_, hbw2.trans hb3⟩
                    have e : acc ++ (quad t.data.toList).take 3 = (acc ++ (quad t.data.toList).take 2) ++ [Bs.sg (n / 64 % 64)] := by 
                      simp only [quad, List.take_succ_cons, List.take_zero, List.append_assoc, List.cons_append, List.nil_append, size_len]
                      rw [if_pos (show 2 ≤ t.size by omega), HN.out]
                    rw [e, lit_sg (n / 64 % 64) (by omega)]
                    exact hI3
                  case measure => have := HK.out; omega
                · go_wp2_with fail
                  refine (writeByte_any w.heap.size w.heap.size _ 61 _ hI2 (by rw [List.length_append]; have := List.length_take_le 2 (quad t.data.toList); omega) hsz2).mono ?_
                  rintro e w1 ⟨rfl, hI3, hb3⟩
                  go_wp2
                  go_roundg (gk - 1)
                  case rel =>
                    have hk := HK.out
                    refine ⟨3, by omega, by go_num, ?_, hbw2.trans hb3⟩
                    have e : acc ++ (quad t.data.toList).take 3 = (acc ++ (quad t.data.toList).take 2) ++ [61] := by
                      simp only [quad, List.take_succ_cons, List.take_zero, List.append_assoc, List.cons_append, List.nil_append, size_len]
                      rw [if_neg (show ¬ 2 ≤ t.size by omega)]
                    rw [e]
                    exact hI3
                  case measure => have := HK.out; omega
              · clear hk hk4
                by_cases h2 : 3 ≤ t.size
                · go_wp2_with fail
                  refine (writeByte_any w.heap.size w.heap.size _ _ _ hI2 (by rw [List.length_append]; have := List.length_take_le 3 (quad t.data.toList); omega) hsz2).mono ?_
                  rintro e w1 ⟨rfl, hI3, hb3⟩
                  go_wp2
                  go_roundg (gk - 1)
                  case rel =>
                    have hk := HK.out
                    refine ⟨4, by omega, by go_num, ?_, hbw2.trans hb3⟩
                    have e : acc ++ (quad t.data.toList).take 4 = (acc ++ (quad t.data.toList).take 3) ++ [Bs.sg (n % 64)] := by 
                      simp only [quad, List.take_succ_cons, List.take_zero, List.append_assoc, List.cons_append, List.nil_append, size_len]
                      rw [if_pos (show 3 ≤ t.size by omega), HN.out]
                    rw [e, lit_sg (n % 64) (by omega)]
                    exact hI3
                  case measure => have := HK.out; omega
                · go_wp2_with fail
                  refine (writeByte_any w.heap.size w.heap.size _ 61 _ hI2 (by rw [List.length_append]; have := List.length_take_le 3 (quad t.data.toList); omega) hsz2).mono ?_
                  rintro e w1 ⟨rfl, hI3, hb3⟩
                  go_wp2
                  go_roundg (gk - 1)
                  case rel =>
                    have hk := HK.out
                    refine ⟨4, by omega, by go_num, ?_, hbw2.trans hb3⟩
                    have e : acc ++ (quad t.data.toList).take 4 = (acc ++ (quad t.data.toList).take 3) ++ [61] := by
                      simp only [quad, List.take_succ_cons, List.take_zero, List.append_assoc, List.cons_append, List.nil_append, size_len]
                      rw [if_neg (show ¬ 3 ≤ t.size by omega)]
                    rw [e]
                    exact hI3
                  case measure => have := HK.out; omega
            · obtain rfl : k = 4 := by omega
              have hne : t.data.toList ≠ [] := by intro e; have := size_len t; rw [e] at this; simp at this; omega
              have hst := enc_step t.data.toList hne
              have HST := Lib.hid hst
              clear hst hne hk HK
              have hex := ext_drop t
              have HEX := Lib.hid hex; clear hex
              go_wp2
              go_roundg (t.size - min 3 t.size)
              case rel =>
                refine ⟨_, acc ++ quad t.data.toList, rfl, by rw [HEX.out.2]; exact Nat.le_refl _, ?_, ?_, by rw [HEX.out.2]; omega, hI2, hbw2⟩
                · show _ = _
                  rw [HEX.out.1, List.append_assoc, ← HST.out]; exact HA.out
                · rw [HEX.out.2, List.length_append, show (quad t.data.toList).length = 4 from rfl]; omega
              case measure => omega
    · have ht0 : t.data.toList = [] := List.eq_nil_of_length_eq_zero (by rw [size_len]; omega)
      have HT := Lib.hid ht0; clear ht0
      go_wp2_with fail
      refine (Try.Builder_String_any w.heap.size w.heap.size acc _ hI hsz).mono ?_
      rintro e w1 ⟨rfl, hb1⟩
      go_wp2
      go_ret
      refine ⟨ret_str ?_, hbw.trans hb1⟩
      have := HA.out
      rw [HT.out, show Bs.enc [] = [] from rfl, List.append_nil] at this
      rw [this]
end Go.Proofs.Ytigjmelngddbjaa
