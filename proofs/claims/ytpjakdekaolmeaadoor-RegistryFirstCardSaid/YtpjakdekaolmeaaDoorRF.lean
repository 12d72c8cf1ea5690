/- Does a policy let a name be. -/
import Derived.Test.YtpjakdekaolmeaaDoorRE
namespace Go.Proofs.YtpjakdekaolmeaaDoor
open Go.RowKit Go.Shelf

/-- Directives of texts that are not great. -/
def Mild (ds : List (ByteArray × List ByteArray)) : Prop := ds.length ≤ 10000000 ∧ ∀ d ∈ ds, d.1.size ≤ 10000000 ∧ d.2.length ≤ 10000000 ∧ ∀ s ∈ d.2, s.size ≤ 10000000
theorem tt_low : Fo.lower (⟨#[116, 114, 117, 115, 116, 101, 100, 45, 116, 121, 112, 101, 115]⟩ : ByteArray).data.toList = ttB := by decide +kernel
theorem findB_mild {ds : List (ByteArray × List ByteArray)} {n : List UInt8} {ws : List ByteArray} (hm : Mild ds) (h : findB ds n = some ws) : ws.length ≤ 10000000 ∧ ∀ s ∈ ws, s.size ≤ 10000000 := by
  unfold findB at h
  obtain ⟨d, hd, rfl⟩ := Option.map_eq_some_iff.1 h
  exact (hm.2 d (List.mem_of_find?_eq_some hd)).2

def letsR (R : Option (List ByteArray)) (ms : List ByteArray) (n : ByteArray) : Bool :=
  match R with
  | none => true
  | some ws => namedM ws n && (decide (findM ms n < 0) || twiceM ws)
set_option maxHeartbeats 4000000 in
set_option maxRecDepth 100000 in
theorem lets_any (dv : Value) (r : Bool) (ds : List (ByteArray × List ByteArray)) (A : Option Addr) (N c : Nat) (ms : List ByteArray) (n : ByteArray) (w : World) (hd : DirsV w dv ds) (hm : Mild ds) (ht : Texts w A N ms) (hn : N ≤ 10000000) :
    Calls Tryd.prog 29 #[.agg #[dv, .bool r], .slice A N c, .string n] w fun e w' => e = .returned (.bool (letsM ds ms n)) ∧ Below w.heap.size w w' := by
  obtain ⟨D, dc, rfl, -, -, -⟩ := id hd
  obtain ⟨K, hK⟩ : ∃ K, K = ds.length := ⟨_, rfl⟩
  rw [← hK] at hd ⊢
  have c23 := fun w' (hb : Below w.heap.size w w') => find_any (.slice D K dc) r ds ⟨#[116, 114, 117, 115, 116, 101, 100, 45, 116, 121, 112, 101, 115]⟩ w' (hd.below hb) (by decide) (by have := hm.1; omega) (fun d hd => (hm.2 d hd).2.1)
  rw [tt_low] at c23
  obtain ⟨R, hR⟩ : ∃ R, R = findB ds ttB := ⟨_, rfl⟩
  have hl : letsM ds ms n = letsR R ms n := by rw [hR]; rfl
  rw [← hR] at c23
  rw [hl]
  have hws : ∀ ws, R = some ws → ws.length ≤ 10000000 ∧ ∀ s ∈ ws, s.size ≤ 10000000 := fun ws h => findB_mild hm (by rw [← hR, h])
  have C23 := Lib.hid c23
  have HT := Lib.hid ht
  have HWS := Lib.hid hws
  clear c23 hR hl hws hd hm ht hK
  have hb2 : Below w.heap.size w ((w.alloc (.cells #[.slice D K dc, .bool r] 42)).alloc (.cells #[.string n] 9)) := ((Below.refl _ w).alloc (Nat.le_refl _) _).alloc (by simp) _
  have HB2 := Lib.hid hb2
  clear hb2
  cases R with
  | none =>
    go_enter Tryd.func29, Tryd.ntmps29
    go_wp2_with fail
    with_reducible refine (C23.out _ HB2.out).mono ?_
    rintro e w1 ⟨v, rfl, hv, hb1⟩
    go_wp2_with fail
    go_ret
    exact ⟨rfl, HB2.out.trans (hb1.mono (by simp; omega))⟩
  | some ws =>
    obtain ⟨hw1, hw2⟩ := HWS.out ws rfl
    have HW2 := Lib.hid hw2
    obtain ⟨RB, hRB⟩ : ∃ b, b = letsR (some ws) ms n := ⟨_, rfl⟩
    rw [← hRB]
    have HRB := Lib.hid hRB
    clear hw2 hRB
    go_enter Tryd.func29, Tryd.ntmps29
    go_wp2_with fail
    with_reducible refine (C23.out _ HB2.out).mono ?_
    rintro e w1 ⟨v, rfl, hv, hb1⟩
    obtain ⟨VA, vc, rfl, hvc, hvz, hvt⟩ := hv
    have hvt2 : Texts w1 VA ws.length ws := hvt
    rw [show ((some ws).getD []).length = ws.length from rfl]
    have hbx0 : ((w.alloc (.cells #[.slice D K dc, .bool r] 42)).alloc (.cells #[.string n] 9)).heap[w.heap.size + 1]? = some (.cells #[.string n] 9 (0, 0)) := by
      have := heap_alloc_new (w.alloc (.cells #[.slice D K dc, .bool r] 42)) (.cells #[.string n] 9)
      rwa [World.size_alloc] at this
    have hbx := (hb1.block (w.heap.size + 1) (by simp)).trans hbx0
    have hn0 := cell_row hbx 0
    simp at hn0
    have hlt : w.heap.size + 1 < w1.heap.size := (Array.getElem?_eq_some_iff.1 hbx).1
    have HB1 := Lib.hid (HB2.out.trans (hb1.mono (by simp; omega)))
    obtain ⟨M, hM⟩ : ∃ M, M = ws.length := ⟨_, rfl⟩
    have hvt3 := hvt2
    rw [← hM] at hvt3 hw1 ⊢
    have c37 := some_any 38 (.inl rfl) #[.pointer (some ⟨w.heap.size + 1, 0, none⟩)] (fun x => decide (x = starB) || decide (x = n)) VA M vc ws w1 hvt3 hw1 (fun x _ W hW => ask1_any (w.heap.size + 1) n x W ((bcell' hW hlt).trans hn0))
    rw [show ws.any (fun x => decide (x = starB) || decide (x = n)) = namedM ws n from rfl] at c37
    obtain ⟨NM, hNM⟩ : ∃ b, b = namedM ws n := ⟨_, rfl⟩
    rw [← hNM] at c37
    have c14 := fun w' (hb : Below w.heap.size w w') => find19_any A N c ms n w' (HT.out.below hb) hn
    obtain ⟨FM, hFM⟩ : ∃ x, x = findM ms n := ⟨_, rfl⟩
    rw [← hFM] at c14
    have c37b := fun w' (hb : Below w1.heap.size w1 w') => some_any 39 (.inr rfl) #[] (fun x => decide (Fo.lower x.data.toList = dupB)) VA M vc ws w' (hvt3.below hb) hw1 (fun x hx W hW => ask2_any x W (HW2.out x hx))
    rw [show ws.any (fun x => decide (Fo.lower x.data.toList = dupB)) = twiceM ws from rfl] at c37b
    obtain ⟨TW, hTW⟩ : ∃ b, b = twiceM ws := ⟨_, rfl⟩
    rw [← hTW] at c37b
    have hres : letsR (some ws) ms n = (NM && (decide (FM < 0) || TW)) := by rw [hNM, hFM, hTW]; rfl
    have hres0 : (namedM ws n && (decide (findM ms n < 0) || twiceM ws)) = (NM && (decide (FM < 0) || TW)) := by rw [hNM, hFM, hTW]
    clear hres0
    have HRES := Lib.hid hres
    have C37 := Lib.hid c37
    have C37B := Lib.hid c37b
    have C14 := Lib.hid c14
    clear hres c37 c37b c14 hNM hFM hTW hvt hvt2 hvt3 hM hb1 hvz hvc
    go_wp2_with fail
    with_reducible refine C37.out.mono ?_
    rintro e w2 ⟨rfl, hb2⟩
    have hn1 := (bcell' hb2 hlt).trans hn0
    have HB02 := Lib.hid (nx HB1.out hb2)
    have HB12 := Lib.hid hb2
    clear hb2
    cases NM
    · go_wp2_with fail
      go_ret
      exact ⟨ret_bool (by rw [HRB.out, HRES.out]; simp), HB02.out⟩
    · by_cases hf : FM < 0
      · go_wp2_with fail
        with_reducible refine (C14.out _ HB02.out).mono ?_
        rintro e w3 ⟨rfl, hb3⟩
        go_wp2_with fail
        go_ret
        exact ⟨ret_bool (by rw [HRB.out, HRES.out]; simp [hf]), nx HB02.out hb3⟩
      · go_wp2_with fail
        with_reducible refine (C14.out _ HB02.out).mono ?_
        rintro e w3 ⟨rfl, hb3⟩
        have HB13 := Lib.hid (nx HB12.out hb3)
        have HB03 := Lib.hid (nx HB02.out hb3)
        clear hb3
        go_wp2_with fail
        with_reducible refine (C37B.out _ HB13.out).mono ?_
        rintro e w4 ⟨rfl, hb4⟩
        go_wp2_with fail
        go_ret
        exact ⟨ret_bool (by rw [HRB.out, HRES.out]; simp [hf]), nx HB03.out hb4⟩
end Go.Proofs.YtpjakdekaolmeaaDoor
