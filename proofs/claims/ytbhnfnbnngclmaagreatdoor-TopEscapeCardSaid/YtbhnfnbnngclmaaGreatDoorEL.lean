/- value, where it stands in quotes and was encoded. -/
import Derived.Test.YtbhnfnbnngclmaaGreatDoorEK
namespace Go.Proofs.YtbhnfnbnngclmaaGreatDoor
open Go.RowKit
set_option maxRecDepth 100000

theorem isB_head (s : ByteArray) (a : Nat) (x y : UInt8) (r : List UInt8) (h : (s.extract a s.size).data.toList = y :: r) : isB s a ⟨#[x]⟩ = decide (Fo.lower [y] = Fo.lower [x]) := by
  unfold isB
  have h1 : 1 ≤ (s.extract a s.size).size := by rw [← size_len, h]; simp
  have h2 : ((s.extract a s.size).extract 0 (⟨#[x]⟩ : ByteArray).size).data.toList = [y] := by
    rw [Lib.extract_data, h]; rfl
  rw [h2]
  have h3 : (⟨#[x]⟩ : ByteArray).size = 1 := rfl
  rw [h3, decide_eq_true h1, Bool.true_and]
theorem ext_succ (s : ByteArray) (a : Nat) (y : UInt8) (r : List UInt8) (h : (s.extract a s.size).data.toList = y :: r) : (s.extract (a + 1) s.size).data.toList = r ∧ a + 1 ≤ s.size := by
  have h1 : a + 1 ≤ s.size := by
    have h2 := congrArg List.length h
    rw [size_len, ByteArray.size_extract, List.length_cons] at h2
    omega
  refine ⟨?_, h1⟩
  rw [Lib.extract_data, List.take_of_length_le (by rw [List.length_drop, size_len]; omega)] at h ⊢
  rw [← List.drop_drop, h]
  rfl
theorem value_any (c : Nat) (s : ByteArray) (a : Nat) (vo vf : Value) (l z : List UInt8) (w : World) (hg : GN w) (hl : l.length ≤ 100000) (hs : s.size ≤ 1000000) (hc : Cur w c s a vo vf) (hc2 : 2 ≤ c) (hr : (s.extract a s.size).data.toList = 39 :: (En.enc l ++ 39 :: z)) :
    Calls Tryz.prog 71 #[.pointer (some ⟨c, 0, none⟩)] w fun e w' => e = .returned (.tuple #[.string ⟨l.toArray⟩, .bool true]) ∧ Cur w' c s (a + 1 + (En.enc l).length + 1) vo vf ∧ Keep [c] w w' := by
  obtain ⟨hr1, ha1⟩ := ext_succ s a 39 _ hr
  have ha : a ≤ s.size := by omega
  have i34 := isB_head s a 34 39 _ hr
  have i39 := isB_head s a 39 39 _ hr
  rw [show decide (Fo.lower [(39 : UInt8)] = Fo.lower [(34 : UInt8)]) = false by decide] at i34
  rw [show decide (Fo.lower [(39 : UInt8)] = Fo.lower [(39 : UInt8)]) = true by decide] at i39
  have q34 := fun w' h => is_any c s a vo vf ⟨#[34]⟩ w' hs (by decide) ha h
  have q39 := fun w' h => is_any c s a vo vf ⟨#[39]⟩ w' hs (by decide) ha h
  rw [i34] at q34
  rw [i39] at q39
  have cl := fun w' h => left_any c s a vo vf w' ha h
  obtain ⟨R, hR⟩ : ∃ R, R = s.extract a s.size := ⟨_, rfl⟩
  rw [← hR] at cl hr
  have hR1 : R.extract 0 1 = ⟨#[39]⟩ := ba_ext (by rw [Lib.extract_data, hr]; rfl)
  have hRs : (1 : Int) ≤ (R.size : Int) := by
    have := congrArg List.length hr
    rw [size_len, List.length_cons] at this
    omega
  have cu := fun w' h1 h2 => upto_any c s (a + 1) vo vf (En.enc l) z 39 w' h1 hs ha1 h2 hr1 (En.enc_no39 l)
  have cd := fun w' k h => decoded_any c l k w' hl h
  obtain ⟨N, hN⟩ : ∃ N, N = (En.enc l).length := ⟨_, rfl⟩
  obtain ⟨E, hE⟩ : ∃ E : ByteArray, E = ⟨(En.enc l).toArray⟩ := ⟨_, rfl⟩
  obtain ⟨T, hT⟩ : ∃ T : ByteArray, T = ⟨l.toArray⟩ := ⟨_, rfl⟩
  rw [← hN, ← hE] at cu
  rw [← hE, ← hT] at cd
  rw [← hN, ← hT]
  have Q34 := Lib.hid q34
  have Q39 := Lib.hid q39
  have CL := Lib.hid cl
  have CU := Lib.hid cu
  have CD := Lib.hid cd
  have HC := Lib.hid hc
  have HG := Lib.hid hg
  clear q34 q39 i34 i39 cl cu cd hR hr hr1 hN hE hT hc hg
  go_enter Tryz.func71, Tryz.ntmps71
  go_wp2_with fail
  with_reducible refine (Q34.out _ HC.out).mono ?_
  rintro e w1 ⟨rfl, hb1⟩
  have HC1 := Lib.hid (HC.out.below hb1)
  have HK1 : Hid (Keep [c] w w1) := Keep.of_below hb1
  clear hb1
  go_wp2_with fail
  with_reducible refine (Q39.out _ HC1.out).mono ?_
  rintro e w2 ⟨rfl, hb2⟩
  have HC2 := Lib.hid (HC1.out.below hb2)
  have HK2 : Hid (Keep [c] w w2) := HK1.out.trans (Keep.of_below hb2)
  clear hb2
  go_wp2_with fail
  with_reducible refine (CL.out _ HC2.out).mono ?_
  rintro e w3 ⟨rfl, hb3⟩
  have hc3 := HC2.out.below hb3
  have c31 := hc3.c1
  have f31 := hc3.fz 1
  have HK3 : Hid (Keep [c] w w3) := HK2.out.trans (Keep.of_below hb3)
  obtain ⟨m1, m2⟩ := hc3.move (a + 1)
  have ew : (w3.setCell ⟨c, 1, none⟩ (.int .i64 ((a + 1 : Nat) : Int))) = w3.setCell ⟨c, 1, none⟩ (.int .i64 ((a : Int) + 1)) := rfl
  rw [ew] at m1 m2
  have HC4 := Lib.hid m1
  have HK4 := Lib.hid (HK3.out.trans m2)
  have d1 := m1.c1
  clear hb3 hc3 m1 m2 ew
  go_wp2_with fail
  have h2c : ∀ k ∈ [c], 2 ≤ k := fun k hk => by rw [List.mem_singleton.1 hk]; exact hc2
  with_reducible refine (CU.out _ (HK4.out.gn HG.out h2c) HC4.out).mono ?_
  rintro e w5 ⟨rfl, hc5, hk5⟩
  have HC5 := Lib.hid hc5
  have HK5 := Lib.hid (HK4.out.trans hk5)
  have H2C := Lib.hid h2c
  clear hc5 hk5 h2c d1 c31 f31
  go_wp2_with fail
  with_reducible refine (CD.out _ _ (HK5.out.gn HG.out H2C.out)).mono ?_
  rintro e w6 ⟨rfl, hb6⟩
  go_wp2_with fail
  go_ret2
  exact ⟨rfl, HC5.out.below hb6, HK5.out.trans (Keep.of_below hb6)⟩
end Go.Proofs.YtbhnfnbnngclmaaGreatDoor
