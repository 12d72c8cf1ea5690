import Derived.Test.YtbbgelgjepjpgaaDoorH
namespace Go.Proofs.YtbbgelgjepjpgaaDoor
open Go.RowKit

theorem cat_le (ss : List ByteArray) (k : Nat) (h : ∀ s ∈ ss, s.size ≤ k) : (cat ss).length ≤ ss.length * k := by
  induction ss with
  | nil => simp [cat]
  | cons s ss ih =>
    have h1 := h s (List.mem_cons_self ..)
    have h2 := ih fun t ht => h t (List.mem_cons_of_mem _ ht)
    simp only [cat, List.flatMap_cons, List.length_append, List.length_cons, size_len] at h2 ⊢
    rw [Nat.add_mul]
    omega
theorem small_of_big {ss : List ByteArray} (h : big 20 500 ss = false) : ss.length ≤ 20 ∧ (cat ss).length ≤ 10000 := by
  unfold big at h
  rw [Bool.or_eq_false_iff] at h
  obtain ⟨h1, h2⟩ := h
  have h1 : ss.length ≤ 20 := by have := of_decide_eq_false h1; omega
  have h3 := cat_le ss 500 fun s hs => by
    rw [List.any_eq_false] at h2
    have := h2 s hs
    simp only [decide_eq_true_eq] at this
    omega
  exact ⟨h1, Nat.le_trans h3 (by omega)⟩

set_option maxHeartbeats 1000000 in
theorem law_of_any (A : Option Addr) (n c : Nat) (ss : List ByteArray) (w : World) (hr : Texts w A n ss) (hn : n ≤ 9223372036854775807) (hA : A = none → c = 0) (hg : G w) : Calls Tryd.prog 3 #[.slice A n c] w (True1 w) := by
  cases hbig : big 20 500 ss with
  | true =>
    have HB := Lib.hid hbig; clear hbig
    go_enter Tryd.func3, Tryd.ntmps3
    go_wp2_with fail
    refine (big_any A n c 20 500 ss w hr hn).mono ?_
    rw [HB.out]
    rintro e w1 ⟨rfl, rfl⟩
    go_wp2
    go_ret
    exact ⟨rfl, Below.refl _ _⟩
  | false =>
    obtain ⟨hl, hcl⟩ := small_of_big hbig
    rw [hr.1] at hl
    have HB := Lib.hid hbig; clear hbig
    have HA := Lib.hid hA; clear hA
    go_enter Tryd.func3, Tryd.ntmps3
    go_wp2_with fail
    refine (big_any A n c 20 500 ss w hr hn).mono ?_
    rw [HB.out]
    rintro e w1 ⟨rfl, rfl⟩
    go_wp2_with fail
    refine (own_any A n c ss w hr (by omega) HA.out).mono ?_
    rintro e w1 ⟨A', c', rfl, hA', hr1, hb1⟩
    have HA' := Lib.hid hA'; clear hA'
    have hg1 := hg.below hb1 hg.pos
    go_wp2_with fail
    refine (marks_any w1 hg1).mono ?_
    rintro e w2 ⟨rfl, hb2⟩
    have hg2 := hg1.below hb2 hg1.pos
    have hr2 := (hr.below hb1).below hb2
    go_wp2_with fail
    refine (of_mk A n c ss w2 hr2 (by omega) (by omega) hg2).mono ?_
    rintro e w3 ⟨rfl, hb3⟩
    have hr3 := (hr1.below hb2).below hb3
    go_wp2_with fail
    refine (join_any A' n c' ss w3 hr3 (by omega) (by omega)).mono ?_
    rintro e w4 ⟨rfl, rfl⟩
    go_wp2_with fail
    refine (ref_of_mk ⟨(cat ss).toArray⟩ w3 (by rw [← size_len]; simp; omega)).mono ?_
    rintro e w4 ⟨rfl, hb4⟩
    have hr4 := hr3.below hb4
    have hr4' := (hr2.below hb3).below hb4
    go_wp2_with fail
    refine (texts_same A A' n c c' ss w4 hr4' hr4 hn).mono ?_
    rintro e w5 ⟨rfl, hb5⟩
    go_wp2
    go_ret
    exact ⟨rfl, nx (nx (nx (nx hb1 hb2) hb3) hb4) hb5⟩

set_option maxHeartbeats 1000000 in
theorem law_makes_any (A : Option Addr) (n c : Nat) (ss : List ByteArray) (w : World) (hr : Texts w A n ss) (hn : n ≤ 9223372036854775807) (hg : G w) : Calls Tryd.prog 4 #[.slice A n c] w (True1 w) := by
  cases hbig : big 20 500 ss with
  | true =>
    have HB := Lib.hid hbig; clear hbig
    go_enter Tryd.func4, Tryd.ntmps4
    go_wp2_with fail
    refine (big_any A n c 20 500 ss w hr hn).mono ?_
    rw [HB.out]
    rintro e w1 ⟨rfl, rfl⟩
    go_wp2
    go_ret
    exact ⟨rfl, Below.refl _ _⟩
  | false =>
    obtain ⟨hl, hcl⟩ := small_of_big hbig
    rw [hr.1] at hl
    have HB := Lib.hid hbig; clear hbig
    have hp := hg.pos
    have HN := Lib.hid hr.1
    go_enter Tryd.func4, Tryd.ntmps4
    go_wp2_with fail
    refine (big_any A n c 20 500 ss w hr hn).mono ?_
    rw [HB.out]
    rintro e w1 ⟨rfl, rfl⟩
    go_wp2_with fail
    refine (new_any _).mono ?_
    rintro e w1 ⟨rfl, rfl⟩
    have HG := Lib.hid hg; clear hg
    go_wp2
    go_loopg [4, 5] n (fun gk s i wr => ∃ k : Nat, k + gk = n ∧ i = .int .i64 k ∧ s = .string ⟨(cat (ss.take k)).toArray⟩ ∧ Mk3 wr w.heap.size (Mk.run 257 7 (cat (ss.take k))) (Mk.run 65539 11 (cat (ss.take k))) ((cat (ss.take k)).length : Nat) ∧ Below w.heap.size w wr)
    case atStart => exact ⟨0, by omega, rfl, rfl, by simp [cat, Mk.run]; exact heap_alloc_new w _, (Below.refl _ _).alloc (Nat.le_refl _) _⟩
    case round =>
      obtain ⟨k, hk, rfl, rfl, hm, hbw⟩ := hrel
      have hck := cat_take_le ss k
      have hg := HG.out.below hbw hp
      have hs := hm.lt
      have HM := Lib.hid hm; clear hm
      have HK := Lib.hid hk; clear hk
      obtain ⟨m, hmm⟩ : ∃ m, m = cat (ss.take k) := ⟨_, rfl⟩
      rw [← hmm] at hck
      rw [← hmm]
      have hsz : (⟨m.toArray⟩ : ByteArray).size = m.length := by rw [← size_len]
      by_cases hlt : k < n
      · have hkl : k < ss.length := by rw [HN.out]; exact hlt
        obtain ⟨ad, rfl, hc⟩ := hr.at_ hbw k hkl
        have h1 := cat_take_succ ss k hkl
        have hsl : m.length + (ss[k]).size ≤ 10000 := by
          have h2 := cat_take_le ss (k + 1)
          rw [h1, ← hmm, List.length_append, size_len] at h2
          omega
        have HMM := Lib.hid hmm; clear hmm
        have H1 := Lib.hid h1; clear h1
        have HS := Lib.hid hsz; clear hsz
        go_wp2_with fail
        refine (mark_mk wr w.heap.size m (by rw [HMM.out]; exact HM.out) (by omega)).mono ?_
        rintro e w1 ⟨rfl, hb1⟩
        have hg1 := hg.below hb1 hg.pos
        go_wp2_with fail
        refine (ref_of_mk ⟨m.toArray⟩ w1 (by rw [HS.out]; omega)).mono ?_
        rintro e w2 ⟨rfl, hb2⟩
        have hg2 := hg1.below hb2 hg1.pos
        have hb2 := nx hb1 hb2
        have hm2 := HM.out.below hb2 hs
        have HM2 := Lib.hid hm2; clear hm2
        go_wp2_with fail
        refine (count_any w2 w.heap.size _ HM2.out.c2).mono ?_
        rintro e w3 ⟨rfl, rfl⟩
        rw [← HMM.out]
        have hc2 := (hb2.cell (World.block_lt_of_cell? wr _ hc)).trans hc
        go_wp2_with fail
        refine (add_mk ss[k] w2 w.heap.size m (by rw [HMM.out]; exact HM2.out) (by omega) (by omega) hg2 hp).mono ?_
        rintro e w3 ⟨rfl, hI⟩
        have hbw2 : Below w.heap.size w w2 := hbw.trans (hb2.mono hbw.size)
        have hbw3 : Below w.heap.size w w3 := hbw2.grown hI.grown hbw2.size (by simp)
        obtain ⟨ad', hat, hc3⟩ := hr.at_ hbw3 k hkl
        injection hat with hat
        subst hat
        clear hc2 hc
        go_wp2
        go_roundg (gk - 1)
        case rel =>
          have hk := HK.out
          have hI' := hI.own
          refine ⟨k + 1, by omega, by go_num, ?_, ?_, hbw3⟩
          · rw [H1.out, ← cat_str, ← HMM.out]
          · rw [H1.out, ← HMM.out]; exact hI'
        case measure => have := HK.out; omega
      · obtain rfl : k = n := by have := HK.out; omega
        have HMM := Lib.hid hmm; clear hmm
        have HS := Lib.hid hsz; clear hsz
        go_wp2_with fail
        refine (marks_any wr hg).mono ?_
        rintro e w1 ⟨rfl, hb1⟩
        have hg1 := hg.below hb1 hg.pos
        go_wp2_with fail
        refine (mark_mk w1 w.heap.size m (by rw [HMM.out]; exact HM.out.below hb1 hs) (by omega)).mono ?_
        rintro e w2 ⟨rfl, hb2⟩
        have hb2 := nx hb1 hb2
        go_wp2_with fail
        refine (ref_of_mk ⟨m.toArray⟩ w2 (by rw [HS.out]; omega)).mono ?_
        rintro e w3 ⟨rfl, hb3⟩
        have hb3 := nx hb2 hb3
        go_wp2_with fail
        refine (count_any w3 w.heap.size _ (HM.out.below hb3 hs).c2).mono ?_
        rintro e w4 ⟨rfl, rfl⟩
        rw [← HMM.out]
        go_wp2
        go_ret
        exact ⟨rfl, hbw.trans (hb3.mono hbw.size)⟩
end Go.Proofs.YtbbgelgjepjpgaaDoor
