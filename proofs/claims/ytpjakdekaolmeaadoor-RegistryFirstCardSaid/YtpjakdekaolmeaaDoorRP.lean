/- The law RegistryFirst. -/
import Derived.Test.YtpjakdekaolmeaaDoorRO
namespace Go.Proofs.YtpjakdekaolmeaaDoor
open Go.RowKit Go.Shelf

theorem PolsV.nil (w : World) : PolsV w (.slice none 0 0) [] := ⟨none, 0, rfl, Nat.le_refl _, fun _ => rfl, fun h => absurd h (by simp)⟩
set_option maxHeartbeats 4000000 in
set_option maxRecDepth 100000 in
theorem law_first_any (A : Option Addr) (N c : Nat) (ms : List ByteArray) (n : ByteArray) (w : World) (ht : Texts w A N ms) :
    Calls Tryd.prog 8 #[.slice A N c, .string n] w (True1 w) := by
  have c9 := large_any (.slice none 0 0) [] A N c ms n w (PolsV.nil w) ht
  obtain ⟨LG, hLG⟩ : ∃ b, b = largeM [] ms n := ⟨_, rfl⟩
  rw [← hLG] at c9
  have C9 := Lib.hid c9
  clear c9
  cases LG
  case true =>
    clear hLG ht
    go_enter Tryd.func8, Tryd.ntmps8
    go_wp2_with fail
    with_reducible refine C9.out.mono ?_
    rintro e w1 ⟨rfl, hw1⟩
    obtain rfl : w = w1 := hw1.symm
    go_wp2_with fail
    go_ret
    exact ⟨rfl, Below.refl _ _⟩
  obtain ⟨-, -, hl, hs⟩ := not_large hLG.symm
  have hln := ht.1
  rw [hln] at hl
  have c14 := find19_any A N c ms n w ht (by omega)
  have hr := findM_range ms n
  obtain ⟨FM, hFM⟩ : ∃ b, b = findM ms n := ⟨_, rfl⟩
  have hno : FM < 0 → n ∉ ms := fun h => (findM_none ms n).1 (by rw [← hFM]; exact h)
  have hsm := fun k => findM_some ms n k
  rw [← hFM] at c14 hr
  rw [← hFM] at hsm
  have C14 := Lib.hid c14
  have HT := Lib.hid ht
  have HLN := Lib.hid hln
  have hr2 := hr.2
  rw [hln] at hr2
  have hr1 := hr.1
  clear c14 ht hln hFM hr hLG
  by_cases hneg : FM < 0
  · obtain rfl : FM = -1 := by omega
    have HNO := Lib.hid (hno hneg)
    clear hno hsm hr1 hr2 hneg
    go_enter Tryd.func8, Tryd.ntmps8
    go_wp2_with fail
    with_reducible refine C9.out.mono ?_
    rintro e w1 ⟨rfl, hw1⟩
    obtain rfl : w = w1 := hw1.symm
    go_wp2_with fail
    with_reducible refine C14.out.mono ?_
    rintro e w1 ⟨rfl, hb1⟩
    have hN0 : decide ((N : Int) ≤ -1) = false := by simp; omega
    have HB1 := Lib.hid hb1
    clear hb1
    go_wp2_with fail
    go_loopg [6] N (fun gk i wr => ∃ k : Nat, k + gk = N ∧ i = .int .i64 k ∧ wr = w1)
    case atStart => exact ⟨0, by omega, rfl, rfl⟩
    case round =>
      obtain ⟨k, hk, rfl, hwr⟩ := hrel
      obtain rfl : w1 = _ := hwr.symm
      have HK := Lib.hid hk; clear hk hwr
      by_cases hlt : k < N
      · have hkl : k < ms.length := by rw [HLN.out]; exact hlt
        obtain ⟨b, off, rfl, hbl, hcc⟩ := (HT.out.below HB1.out).row (by omega)
        have hck := hcc k hkl
        have hqi := str_ne (show ms[k] ≠ n from fun e => HNO.out (e ▸ List.getElem_mem hkl))
        obtain ⟨x, hx⟩ : ∃ x, x = ms[k] := ⟨_, rfl⟩
        rw [← hx] at hck hqi
        clear hcc hx
        go_wp2_with fail
        go_roundg (gk - 1)
        case measure => have := HK.out; omega
        case rel =>
          have := HK.out
          exact ⟨k + 1, by omega, by go_num, rfl⟩
      · go_wp2_with fail
        with_reducible refine (registers_any w1).mono ?_
        rintro e w2 ⟨rfl, hb2⟩
        go_wp2_with fail
        go_ret
        exact ⟨rfl, nx HB1.out hb2⟩
  · obtain ⟨f, rfl⟩ : ∃ f : Nat, FM = f := ⟨FM.toNat, by omega⟩
    obtain ⟨hf, hfe, hfa⟩ := hsm f rfl
    have hfN : f < N := by omega
    have hqf := str_eq hfe
    have hqf2 : (ms[f].toList != n.toList) = false := by rw [bne, hqf]; rfl
    obtain ⟨y, hy⟩ : ∃ y, y = ms[f] := ⟨_, rfl⟩
    obtain ⟨b, off, rfl, hbl, hcc⟩ := HT.out.row (by omega)
    have hcf := hcc f hf
    rw [← hy] at hqf hqf2 hcf
    have HCC := Lib.hid hcc
    have HFA := Lib.hid hfa
    clear hno hsm hr1 hr2 hneg hf hfe hfa hy hcc
    go_enter Tryd.func8, Tryd.ntmps8
    go_wp2_with fail
    with_reducible refine C9.out.mono ?_
    rintro e w1 ⟨rfl, hw1⟩
    obtain rfl : w = w1 := hw1.symm
    go_wp2_with fail
    with_reducible refine C14.out.mono ?_
    rintro e w1 ⟨rfl, hb1⟩
    have hcf1 := (bcell' hb1 hbl).trans hcf
    have g1 : decide ((f : Int) < -1) = false := by simp
    have g2 : decide ((N : Int) ≤ f) = false := by simp; omega
    have g5 : decide (N ≤ f) = false := by simp; omega
    have g3 : (0 : Int) ≤ f := by omega
    have g4 : decide ((f : Int) < 0) = false := by simp
    have HB1 := Lib.hid hb1
    clear hb1 hcf
    go_wp2_with fail
    go_loopg [6] N (fun gk i wr => ∃ k : Nat, k + gk = N ∧ i = .int .i64 k ∧ wr = w1)
    case atStart => exact ⟨0, by omega, rfl, rfl⟩
    case round =>
      obtain ⟨k, hk, rfl, hwr⟩ := hrel
      obtain rfl : w1 = _ := hwr.symm
      have HK := Lib.hid hk; clear hk hwr
      by_cases hlt : k < N
      · have hkl : k < ms.length := by rw [HLN.out]; exact hlt
        have hck := (bcell' HB1.out hbl).trans (HCC.out k hkl)
        by_cases hq : ms[k] = n
        · have hkf : decide ((k : Int) < f) = false := by
            simp
            rcases Nat.lt_or_ge k f with h | h
            · exact absurd hq (HFA.out k hkl h)
            · exact h
          have hkn : decide (k < f) = false := by simpa using hkf
          have hqi := str_eq hq
          obtain ⟨x, hx⟩ : ∃ x, x = ms[k] := ⟨_, rfl⟩
          rw [← hx] at hck hqi
          clear hq hx
          go_wp2_with fail
          go_roundg (gk - 1)
          case measure => have := HK.out; omega
          case rel =>
            have := HK.out
            exact ⟨k + 1, by omega, by go_num, rfl⟩
        · have hqi := str_ne hq
          obtain ⟨x, hx⟩ : ∃ x, x = ms[k] := ⟨_, rfl⟩
          rw [← hx] at hck hqi
          clear hq hx
          go_wp2_with fail
          go_roundg (gk - 1)
          case measure => have := HK.out; omega
          case rel =>
            have := HK.out
            exact ⟨k + 1, by omega, by go_num, rfl⟩
      · go_wp2_with fail
        with_reducible refine (registers_any w1).mono ?_
        rintro e w2 ⟨rfl, hb2⟩
        go_wp2_with fail
        go_ret
        exact ⟨rfl, nx HB1.out hb2⟩
end Go.Proofs.YtpjakdekaolmeaaDoor
