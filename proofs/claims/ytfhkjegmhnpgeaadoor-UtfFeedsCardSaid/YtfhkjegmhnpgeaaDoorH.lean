import Derived.Test.YtfhkjegmhnpgeaaDoorG
namespace Go.Proofs.YtfhkjegmhnpgeaaDoor
open Go.RowKit

theorem valid_eq (x : Int) (h0 : ¬ x < 0) (h1 : ¬ 1114111 < x) : Lib.validRune x = pok x := by
  simp only [Lib.validRune, pok, Ut.ok]
  rw [Bool.eq_iff_iff, Bool.and_eq_true, decide_eq_true_eq, decide_eq_true_eq, decide_eq_true_eq]
  omega

set_option maxHeartbeats 1000000 in
theorem text_any (A : Option Addr) (n c : Nat) (p : List Int) (w : World) (hr : Row w A n (ic p)) (hn : n ≤ 100000) :
    Calls Tryd.prog 16 #[.slice A n c] w (OutTxt (txt p) w) := by
  have hl : p.length = n := by have := hr.1; rw [ic_length] at this; exact this
  have HL := Lib.hid hl; clear hl
  obtain ⟨R, hR⟩ : ∃ R, R = txt p := ⟨_, rfl⟩
  rw [← hR]
  have HR := Lib.hid hR; clear hR
  go_enter Tryd.func16, Tryd.ntmps16
  go_wp2
  go_loopg [9] n (fun gk i wr => ∃ (k : Nat) (acc : List UInt8), k + gk = n ∧ i = .int .i64 k ∧ Hid ((p.take k).all pok = true) ∧ Hid (acc = jn (p.take k)) ∧ acc.length ≤ 4 * k ∧ Lib.IsBuilder 43 5 w.heap.size w.heap.size (Lib.byteCells acc) wr ∧ Below w.heap.size w wr)
  case atStart => exact ⟨0, [], by omega, rfl, rfl, rfl, by simp, Lib.fresh_isBuilder 43 5 w, below_alloc' w _⟩
  case round =>
    obtain ⟨k, acc, hk, rfl, HA, HC, hlen, hI, hbw⟩ := hrel
    have HK := Lib.hid hk; clear hk
    have hsz := hbw.size
    by_cases hlt : k < n
    · have hkl : k < p.length := by rw [HL.out]; exact hlt
      obtain ⟨ad, rfl, hc⟩ := hr.at_ hbw k (.int .i64 p[k]) (by simp [ic, List.getElem?_eq_getElem hkl])
      have htk : p.take (k + 1) = p.take k ++ [p[k]] := List.take_succ_eq_append_getElem hkl
      have hmem := List.getElem_mem hkl
      obtain ⟨x, hx⟩ : ∃ x, x = p[k] := ⟨_, rfl⟩
      rw [← hx] at hc htk hmem
      have HT := Lib.hid htk; clear htk hx
      have hno : pok x = false → R = none := by
        intro hok
        rw [HR.out, txt, if_neg]
        intro h
        have := List.all_eq_true.1 h x hmem
        rw [hok] at this; cases this
      have HNO := Lib.hid hno; clear hno hmem
      by_cases h0 : x < 0
      · have hnone := HNO.out (by simp [pok]; omega)
        subst hnone
        go_wp2
        go_ret2
        exact ⟨rfl, hbw⟩
      by_cases h1 : 1114111 < x
      · have hnone := HNO.out (by simp [pok, Ut.ok]; omega)
        subst hnone
        go_wp2
        go_ret2
        exact ⟨rfl, hbw⟩
      have hve := valid_eq x h0 h1
      cases hok : pok x with
      | false =>
        have hnone := HNO.out hok
        subst hnone
        rw [hok] at hve
        have HV := Lib.hid hve; clear hve hok
        go_wp2_with fail
        refine (Tryd.utf8_ValidRune x _).mono ?_
        rw [HV.out]
        rintro e w' ⟨rfl, rfl⟩
        go_wp2
        go_ret2
        exact ⟨rfl, hbw⟩
      | true =>
        rw [hok] at hve
        have HV := Lib.hid hve; clear hve
        obtain ⟨r, rfl, hr1, hr2⟩ := pok_of hok
        have hbl := (Ut.by_len r).2
        have HOK := Lib.hid hok; clear hok
        have hjn : acc ++ Ut.by_ r = jn (p.take (k + 1)) := by rw [HT.out, jn_snoc, ← HC.out]
        have HJ := Lib.hid hjn; clear hjn
        have hw := writeRune_any w.heap.size w.heap.size acc r wr hr1 hI (by omega) hsz
        have HW := Lib.hid hw; clear hw
        obtain ⟨m, hm⟩ : ∃ m, m = Ut.by_ r := ⟨_, rfl⟩
        rw [← hm] at HJ HW hbl
        clear hm
        go_wp2_with fail
        refine (Tryd.utf8_ValidRune r _).mono ?_
        rw [HV.out]
        rintro e w' ⟨rfl, rfl⟩
        go_wp2_with fail
        refine (HW.out).mono ?_
        rintro e w1 ⟨⟨x, rfl⟩, hI1, hb1⟩
        go_wp2
        go_roundg (gk - 1)
        case rel =>
          have hk := HK.out
          exact ⟨k + 1, acc ++ m, by omega, by go_num, by show _ = _; rw [HT.out, List.all_append, HA.out]; simp [HOK.out], HJ.out, by rw [List.length_append]; omega, hI1, hbw.trans hb1⟩
        case measure => have := HK.out; omega
    · obtain rfl : k = n := by have := HK.out; omega
      have hall : p.take k = p := List.take_of_length_le (by rw [HL.out]; exact Nat.le_refl _)
      have ha := HA.out
      have hj := HC.out
      rw [hall] at ha hj
      have hsome : R = some acc := by rw [HR.out, txt, if_pos ha, hj]
      subst hsome
      clear hall hj
      go_wp2_with fail
      refine (Tryd.Builder_String_any _ _ acc wr hI hsz).mono ?_
      rintro e w1 ⟨rfl, hb1⟩
      go_wp2
      go_ret2
      exact ⟨rfl, hbw.trans hb1⟩
end Go.Proofs.YtfhkjegmhnpgeaaDoor
