/- makes and large. -/
import Derived.Test.YtpjakdekaolmeaaDoorRL
namespace Go.Proofs.YtpjakdekaolmeaaDoor
open Go.RowKit Go.Shelf

/-- What is told of a making. -/
def OutTold (x : List ByteArray × Int × Bool × List (Nat × Bool) × Nat) (w : World) (e : Ending) (w' : World) : Prop := ∃ bv,
  e = .returned (.tuple #[.int .i64 x.2.1, .agg #[.bool x.2.2.1, bv], .int .i64 x.2.2.2.2]) ∧ w'.ownsRow w.heap.size 56 3 bv x.2.2.2.1.length (flatB x.2.2.2.1) ∧ Below w.heap.size w w'
def polsF (t : ByteArray) : List PolB := (parseB t.data.toList).map fun d => (d, false)
set_option maxHeartbeats 4000000 in
set_option maxRecDepth 100000 in
theorem makes_any (t n : ByteArray) (A : Option Addr) (N c : Nat) (ms : List ByteArray) (w : World) (hp : PMild (polsF t)) (ht : Texts w A N ms) (hz : A = none → N = 0 ∧ c = 0) (hn : N ≤ 10000000) (hs : n.size ≤ 10000000) (hts : t.size ≤ 10000000) :
    Calls Tryd.prog 25 #[.string t, .string n, .slice A N c] w (OutTold (makeM (polsF t) ms n) w) := by
  have c35 := fun w' => parse_any t false w' hts
  have c20 := fun pv w' (h : PolsV w' pv (polsF t)) (hb : Below w.heap.size w w') => make_any pv (polsF t) A N c ms n w' h hp (ht.below hb) hz hn hs
  obtain ⟨X, hX⟩ : ∃ X, X = makeM (polsF t) ms n := ⟨_, rfl⟩
  rw [← hX] at c20 ⊢
  obtain ⟨ml, nn, ok, bl, en⟩ := X
  have C35 := Lib.hid c35
  have C20 := Lib.hid c20
  clear c35 c20 hX hp ht hz
  go_enter Tryd.func25, Tryd.ntmps25
  go_wp2_with fail
  with_reducible refine (C35.out _).mono ?_
  rintro e w1 ⟨pv, rfl, hpv, hb1⟩
  have hb2 := nx (below_alloc' w _) hb1
  have hp1 := carry (heap_alloc_new w (.cells #[.bool false, .slice none 0 0] 32)) hb1
  have HPV := Lib.hid (show PolsV w1 pv (polsF t) from hpv.toV)
  have HB2 := Lib.hid hb2
  have HP1 := Lib.hid hp1
  clear hpv hb2 hp1
  go_wp2_with fail
  with_reducible refine (C20.out pv w1 HPV.out HB2.out).mono ?_
  rintro e w2 ⟨av, bv, rfl, -, hbv, hb3⟩
  obtain ⟨BA, bc, rfl, -, -⟩ := own_form hbv
  have hp2 := carry HP1.out hb3
  have HB3 := Lib.hid (nx HB2.out hb3)
  have h12 := hb3.size
  have h01 : w.heap.size < w1.heap.size := (Array.getElem?_eq_some_iff.1 HP1.out).1
  have hq2 := (heap_alloc_old w2 (.cells #[.bool ok, .slice BA bl.length bc] 32) (show w.heap.size < w2.heap.size by omega)).trans hp2
  have hr0 := cell_row hq2 0
  have hr1 := cell_row hq2 1
  have hrf := frozen_row hq2
  simp at hr0 hr1
  have HBV := Lib.hid (own_below hbv (below_alloc' w2 (.cells #[.bool ok, .slice BA bl.length bc] 32)))
  have HQ2 := Lib.hid hq2
  clear hb3 hp2 hbv hq2
  go_wp2_with fail
  have hn0 := cell_row (heap_alloc_new w2 (.cells #[.bool ok, .slice BA bl.length bc] 32)) 0
  have hn1 := cell_row (heap_alloc_new w2 (.cells #[.bool ok, .slice BA bl.length bc] 32)) 1
  simp at hn0 hn1
  go_region
  all_goals
    go_wp2_with fail
    have hx1 := heap_setAt (k := 0) HQ2.out (.bool ok)
    have hx2 := heap_setAt (k := 1) hx1 (.slice BA bl.length bc)
    have hq0 := cell_row hx2 0
    have hq1 := cell_row hx2 1
    simp at hq0 hq1
    have hbf := ((HB3.out.trans ((below_alloc' w2 (.cells #[.bool ok, .slice BA bl.length bc] 32)).mono HB3.out.size)).setCell (p := ⟨w.heap.size, 0, none⟩) (Nat.le_refl _) (.bool ok)).setCell (p := ⟨w.heap.size, 1, none⟩) (Nat.le_refl _) (.slice BA bl.length bc)
    refine bodyPost_ret (v := .tuple #[.int .i64 nn, .agg #[.bool ok, .slice BA bl.length bc], .int .i64 en]) (by simp [results, Tryd.results25, go_sem, hq0, hq1]) rfl ⟨_, rfl, own_le (ownsRow_setCell_below (ownsRow_setCell_below HBV.out (a := ⟨w.heap.size, 0, none⟩) h01 (.bool ok)) (a := ⟨w.heap.size, 1, none⟩) h01 (.slice BA bl.length bc)) (Nat.le_of_lt h01), below_drewR hbf⟩
def largeM (ps : List PolB) (ms : List ByteArray) (n : ByteArray) : Bool := bigP ps || bigM ms || decide (300 < n.size)
theorem large_any (pv : Value) (ps : List PolB) (A : Option Addr) (N c : Nat) (ms : List ByteArray) (n : ByteArray) (w : World) (hp : PolsV w pv ps) (ht : Texts w A N ms) :
    Calls Tryd.prog 9 #[pv, .slice A N c, .string n] w fun e w' => e = .returned (.bool (largeM ps ms n)) ∧ w' = w := by
  have c22 := big_any pv ps w hp
  have c24 := bigm_any A N c ms w ht
  unfold largeM
  obtain ⟨P, hP⟩ : ∃ b, b = bigP ps := ⟨_, rfl⟩
  obtain ⟨M, hM⟩ : ∃ b, b = bigM ms := ⟨_, rfl⟩
  rw [← hP] at c22 ⊢
  rw [← hM] at c24 ⊢
  have C22 := Lib.hid c22
  have C24 := Lib.hid c24
  clear c22 c24 hP hM hp ht
  cases P
  · cases M
    · by_cases h : 300 < n.size
      · have hi : (300 : Int) < n.size := by omega
        have H := Lib.hid h
        clear h
        go_enter Tryd.func9, Tryd.ntmps9
        go_wp2_with fail
        with_reducible refine C22.out.mono ?_
        rintro e w1 ⟨rfl, hw1⟩
        obtain rfl : w = w1 := hw1.symm
        go_wp2_with fail
        with_reducible refine C24.out.mono ?_
        rintro e w1 ⟨rfl, hw1⟩
        obtain rfl : w = w1 := hw1.symm
        go_wp2_with fail
        go_ret
        exact ⟨ret_bool (by simp [H.out]), rfl⟩
      · have hi : decide ((300 : Int) < n.size) = false := by simp; omega
        have H := Lib.hid h
        clear h
        go_enter Tryd.func9, Tryd.ntmps9
        go_wp2_with fail
        with_reducible refine C22.out.mono ?_
        rintro e w1 ⟨rfl, hw1⟩
        obtain rfl : w = w1 := hw1.symm
        go_wp2_with fail
        with_reducible refine C24.out.mono ?_
        rintro e w1 ⟨rfl, hw1⟩
        obtain rfl : w = w1 := hw1.symm
        go_wp2_with fail
        go_ret
        exact ⟨ret_bool (by simp; have := H.out; omega), rfl⟩
    · go_enter Tryd.func9, Tryd.ntmps9
      go_wp2_with fail
      with_reducible refine C22.out.mono ?_
      rintro e w1 ⟨rfl, hw1⟩
      obtain rfl : w = w1 := hw1.symm
      go_wp2_with fail
      with_reducible refine C24.out.mono ?_
      rintro e w1 ⟨rfl, hw1⟩
      obtain rfl : w = w1 := hw1.symm
      go_wp2_with fail
      go_ret
      exact ⟨rfl, rfl⟩
  · go_enter Tryd.func9, Tryd.ntmps9
    go_wp2_with fail
    with_reducible refine C22.out.mono ?_
    rintro e w1 ⟨rfl, hw1⟩
    obtain rfl : w = w1 := hw1.symm
    go_wp2_with fail
    go_ret
    exact ⟨rfl, rfl⟩
theorem big_not {ds : List DB} (h : bigPol ds = false) : ds.length ≤ 20 ∧ ∀ d ∈ ds, d.1.size ≤ 200 ∧ d.2.length ≤ 210 ∧ ∀ s ∈ d.2, s.size ≤ 300 := by
  unfold bigPol at h
  rw [Bool.or_eq_false_iff, decide_eq_false_iff_not] at h
  refine ⟨by omega, fun d hd => ?_⟩
  have h3 := List.any_eq_false.1 h.2 d hd
  rw [Bool.not_eq_true, Bool.or_eq_false_iff, decide_eq_false_iff_not] at h3
  have h4 := h3.2
  unfold bigT at h4
  rw [Bool.or_eq_false_iff, decide_eq_false_iff_not] at h4
  refine ⟨by omega, by omega, fun s hs => ?_⟩
  have h5 := List.any_eq_false.1 h4.2 s hs
  rw [decide_eq_true_eq] at h5
  omega
theorem pmild {ps : List PolB} (h : bigP ps = false) : PMild ps := by
  unfold bigP at h
  rw [Bool.or_eq_false_iff, decide_eq_false_iff_not] at h
  refine ⟨by omega, fun p hp => ?_⟩
  have h3 := List.any_eq_false.1 h.2 p hp
  obtain ⟨h1, h2⟩ := big_not (Bool.not_eq_true _ ▸ h3)
  exact ⟨by omega, fun d hd => ⟨by have := (h2 d hd).1; omega, by have := (h2 d hd).2.1; omega, fun s hs => by have := (h2 d hd).2.2 s hs; omega⟩⟩
theorem not_large {ps : List PolB} {ms : List ByteArray} {n : ByteArray} (h : largeM ps ms n = false) : PMild ps ∧ ps.length ≤ 15 ∧ ms.length ≤ 210 ∧ n.size ≤ 300 := by
  unfold largeM at h
  rw [Bool.or_eq_false_iff, Bool.or_eq_false_iff, decide_eq_false_iff_not] at h
  obtain ⟨⟨h1, h2⟩, h3⟩ := h
  have h4 := h1
  unfold bigP at h4
  rw [Bool.or_eq_false_iff, decide_eq_false_iff_not] at h4
  unfold bigM at h2
  rw [Bool.or_eq_false_iff, decide_eq_false_iff_not] at h2
  exact ⟨pmild h1, by omega, by omega, by omega⟩
/-- Small concrete rows. -/
def mildB (ds : List DB) : Bool := decide (ds.length ≤ 10000000) && ds.all fun d => decide (d.1.size ≤ 10000000) && decide (d.2.length ≤ 10000000) && d.2.all fun s => decide (s.size ≤ 10000000)
theorem d_mild {ds : List DB} (h : mildB ds = true) : Mild ds := by
  simp only [mildB, Bool.and_eq_true, decide_eq_true_eq, List.all_eq_true] at h
  exact ⟨h.1, fun d hd => ⟨(h.2 d hd).1.1, (h.2 d hd).1.2, (h.2 d hd).2⟩⟩
theorem p_mild {ps : List PolB} (h : (decide (ps.length ≤ 10000000) && ps.all fun p => mildB p.1) = true) : PMild ps := by
  simp only [Bool.and_eq_true, decide_eq_true_eq, List.all_eq_true] at h
  exact ⟨h.1, fun p hp => d_mild (h.2 p hp)⟩
end Go.Proofs.YtpjakdekaolmeaaDoor
