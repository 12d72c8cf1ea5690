import Derived.Test.YtfhkjegmhnpgeaaDoorE
namespace Go.Proofs.YtfhkjegmhnpgeaaDoor
open Go.RowKit

theorem encode_by (r : Nat) (h : Ut.ok r = true) : Lib.runeCells r = Lib.byteCells (Ut.by_ r) := by
  simp only [Ut.ok, decide_eq_true_eq] at h
  unfold Lib.runeCells Ut.by_
  split
  · rw [Lib.encodeRuneZ_one (by omega) (by omega)]
    simp only [Lib.byteCells, List.map_cons, List.map_nil]
    rw [Ut.toNat_lt (by omega)]
  · split
    · rw [Lib.encodeRuneZ_two (by omega) (by omega)]
      simp only [Lib.byteCells, List.map_cons, List.map_nil]
      rw [Ut.toNat_lt (by omega), Ut.toNat_lt (by omega)]; rfl
    · split
      · rw [Lib.encodeRuneZ_three (by omega)]
        simp only [Lib.byteCells, List.map_cons, List.map_nil]
        rw [Ut.toNat_lt (by omega), Ut.toNat_lt (by omega), Ut.toNat_lt (by omega)]; rfl
      · rw [Lib.encodeRuneZ_four (by omega) (by omega)]
        simp only [Lib.byteCells, List.map_cons, List.map_nil]
        rw [Ut.toNat_lt (by omega), Ut.toNat_lt (by omega), Ut.toNat_lt (by omega), Ut.toNat_lt (by omega)]; rfl

set_option maxHeartbeats 1000000 in
theorem ref_text_any (A : Option Addr) (n c : Nat) (p : List Int) (w : World) (hr : Row w A n (ic p)) (hn : n ≤ 100000) :
    Calls Tryd.prog 17 #[.slice A n c] w (OutTxt (txt p) w) := by
  have hl : p.length = n := by have := hr.1; rw [ic_length] at this; exact this
  have HL := Lib.hid hl; clear hl
  obtain ⟨R, hR⟩ : ∃ R, R = txt p := ⟨_, rfl⟩
  rw [← hR]
  have HR := Lib.hid hR; clear hR
  go_enter Tryd.func17, Tryd.ntmps17
  go_wp2
  go_loopg [4] n (fun gk i wr => ∃ k : Nat, k + gk = n ∧ i = .int .i64 k ∧ Hid ((p.take k).all pok = true) ∧ w = wr)
  case atStart => exact ⟨0, by omega, rfl, rfl, rfl⟩
  case round =>
    obtain ⟨k, hk, rfl, HA, rfl⟩ := hrel
    have HK := Lib.hid hk; clear hk
    by_cases hlt : k < n
    · have hkl : k < p.length := by rw [HL.out]; exact hlt
      obtain ⟨ad, rfl, hc⟩ := hr.at_ (Below.refl _ _) k (.int .i64 p[k]) (by simp [ic, List.getElem?_eq_getElem hkl])
      have htk : p.take (k + 1) = p.take k ++ [p[k]] := List.take_succ_eq_append_getElem hkl
      have hmem := List.getElem_mem hkl
      obtain ⟨x, hx⟩ : ∃ x, x = p[k] := ⟨_, rfl⟩
      rw [← hx] at hc htk hmem
      have HT := Lib.hid htk; clear htk hx
      cases hok : pok x with
      | true =>
        have hok' : (decide (0 ≤ x) && Ut.ok x.toNat) = true := hok
        have HO := Lib.hid hok'; clear hok' hmem
        go_wp2_with fail
        refine (point_any x _).mono ?_
        rw [HO.out]
        rintro e w' ⟨rfl, rfl⟩
        go_wp2
        go_roundg (gk - 1)
        case rel =>
          have hk := HK.out
          exact ⟨k + 1, by omega, by go_num, by show _ = _; rw [HT.out, List.all_append, HA.out]; simp [hok], rfl⟩
        case measure => have := HK.out; omega
      | false =>
        have hok' : (decide (0 ≤ x) && Ut.ok x.toNat) = false := hok
        have hnone : R = none := by
          rw [HR.out, txt, if_neg]
          intro h
          have := List.all_eq_true.1 h x hmem
          rw [hok] at this; cases this
        subst hnone
        have HO := Lib.hid hok'; clear hok' hmem hok
        go_wp2_with fail
        refine (point_any x _).mono ?_
        rw [HO.out]
        rintro e w' ⟨rfl, rfl⟩
        go_wp2
        go_ret2
        exact ⟨rfl, Below.refl _ _⟩
    · obtain rfl : k = n := by have := HK.out; omega
      have hall : p.take k = p := List.take_of_length_le (by rw [HL.out]; exact Nat.le_refl _)
      have ha := HA.out
      rw [hall] at ha
      have hsome : R = some (jn p) := by rw [HR.out, txt, if_pos ha]
      subst hsome
      clear hall
      go_wp2_with fail
      refine (join_any A k c p w hr (fun x hx => List.all_eq_true.1 ha x hx) hn).mono ?_
      rintro e w1 ⟨rfl, hb1⟩
      go_wp2
      go_ret2
      exact ⟨rfl, hb1⟩
end Go.Proofs.YtfhkjegmhnpgeaaDoor
