import Derived.Test.YtbbgelgjepjpgaaDoorG
namespace Go.Proofs.YtbbgelgjepjpgaaDoor
open Go.RowKit

def True1 (w : World) (e : Ending) (w' : World) : Prop := e = .returned (.bool true) ∧ Below w.heap.size w w'

theorem law_nil_any (s : ByteArray) (w : World) (hg : G w) (hs : s.size ≤ 9223372036854775807) : Calls Tryd.prog 7 #[.string s] w (True1 w) := by
  by_cases h : 3000 < s.size
  · go_enter Tryd.func7, Tryd.ntmps7
    go_wp2
    go_ret
    exact ⟨rfl, Below.refl _ _⟩
  · go_enter Tryd.func7, Tryd.ntmps7
    go_wp2_with fail
    refine (marks_any w hg).mono ?_
    rintro e w1 ⟨rfl, hb1⟩
    go_wp2_with (first | (go_at_call 19; refine (add_nil _ _).mono ?_; rintro e w' ⟨rfl, rfl⟩) | (go_at_call 17; refine (mark_nil _).mono ?_; rintro e w' ⟨rfl, rfl⟩) | (go_at_call 18; refine (count_nil _).mono ?_; rintro e w' ⟨rfl, rfl⟩))
    go_ret
    exact ⟨rfl, hb1⟩

theorem mk_ne (a b : ByteArray) (ha : a.size ≤ 3000) (hb : b.size ≤ 3000) (h : a.size ≠ b.size) : ((mk a.data.toList).toList == (mk b.data.toList).toList) = false := by
  rw [mk_toList, mk_toList, beq_eq_false_iff_ne]
  exact Mk.mark_ne (by rw [size_len]; omega) (by rw [size_len]; omega) (by rw [size_len, size_len]; exact h)

theorem law_lengths_any (a b : ByteArray) (w : World) (hg : G w) (ha : a.size ≤ 9223372036854775807) (hb : b.size ≤ 9223372036854775807) : Calls Tryd.prog 6 #[.string a, .string b] w (True1 w) := by
  by_cases h1 : 3000 < a.size
  · go_enter Tryd.func6, Tryd.ntmps6
    go_wp2_with fail
    refine (marks_any w hg).mono ?_
    rintro e w1 ⟨rfl, hb1⟩
    go_wp2
    go_ret
    exact ⟨rfl, hb1⟩
  by_cases h2 : 3000 < b.size
  · go_enter Tryd.func6, Tryd.ntmps6
    go_wp2_with fail
    refine (marks_any w hg).mono ?_
    rintro e w1 ⟨rfl, hb1⟩
    go_wp2
    go_ret
    exact ⟨rfl, hb1⟩
  by_cases h3 : a.size = b.size
  · have h3' : ((a.size : Int) == (b.size : Int)) = true := by simp [h3]
    clear h3
    go_enter Tryd.func6, Tryd.ntmps6
    go_wp2_with fail
    refine (marks_any w hg).mono ?_
    rintro e w1 ⟨rfl, hb1⟩
    go_wp2
    go_ret
    exact ⟨rfl, hb1⟩
  have h3' : ((a.size : Int) == (b.size : Int)) = false := by rw [beq_eq_false_iff_ne]; omega
  have hne := mk_ne a b (by omega) (by omega) h3
  clear h3
  go_enter Tryd.func6, Tryd.ntmps6
  go_wp2_with fail
  refine (marks_any w hg).mono ?_
  rintro e w1 ⟨rfl, hb1⟩
  have hg1 := hg.below hb1 hg.pos
  go_wp2_with fail
  refine (of_one w1 a hg1 (by omega)).mono ?_
  rintro e w2 ⟨rfl, hb2⟩
  have hg2 := hg1.below hb2 hg1.pos
  go_wp2_with fail
  refine (of_one w2 b hg2 (by omega)).mono ?_
  rintro e w3 ⟨rfl, hb3⟩
  go_wp2
  go_ret
  exact ⟨rfl, nx (nx hb1 hb2) hb3⟩

set_option maxHeartbeats 1000000 in
theorem law_adds_any (a b : ByteArray) (w : World) (hg : G w) (ha : a.size ≤ 9223372036854775807) (hb : b.size ≤ 9223372036854775807) : Calls Tryd.prog 8 #[.string a, .string b] w (True1 w) := by
  by_cases h1 : 3000 < a.size
  · go_enter Tryd.func8, Tryd.ntmps8
    go_wp2
    go_ret
    exact ⟨rfl, Below.refl _ _⟩
  by_cases h2 : 3000 < b.size
  · go_enter Tryd.func8, Tryd.ntmps8
    go_wp2
    go_ret
    exact ⟨rfl, Below.refl _ _⟩
  have hp := hg.pos
  go_enter Tryd.func8, Tryd.ntmps8
  go_wp2_with fail
  refine (new_any _).mono ?_
  rintro e w1 ⟨rfl, rfl⟩
  have hg1 := hg.alloc (.cells #[.int .u64 7, .int .u64 11, .int .i64 0] 44)
  have hm1 : Mk3 (w.alloc (.cells #[.int .u64 7, .int .u64 11, .int .i64 0] 44)) w.heap.size (Mk.run 257 7 []) (Mk.run 65539 11 []) (([] : List UInt8).length : Nat) := heap_alloc_new w _
  have hb1 : Below w.heap.size w (w.alloc (.cells #[.int .u64 7, .int .u64 11, .int .i64 0] 44)) := (Below.refl _ _).alloc (Nat.le_refl _) _
  have hs1 : (w.alloc (.cells #[.int .u64 7, .int .u64 11, .int .i64 0] 44)).heap.size = w.heap.size + 1 := by simp
  go_wp2_with fail
  refine (add_mk a _ w.heap.size [] hm1 (by decide) (by omega) hg1 hp).mono ?_
  rintro e w2 ⟨rfl, hI⟩
  have hg2 := hg1.grown hI.grown hp
  have hm2 : Mk3 w2 w.heap.size (Mk.run 257 7 a.data.toList) (Mk.run 65539 11 a.data.toList) (a.data.toList.length : Nat) := hI.own
  have hb2 : Below w.heap.size w w2 := hb1.grown hI.grown (by simp) (by simp)
  clear hg1 hm1 hb1 hs1 hI
  have HM2 := Lib.hid hm2; clear hm2
  go_wp2_with fail
  refine (add_mk b _ w.heap.size _ HM2.out (by rw [size_len]; omega) (by omega) hg2 hp).mono ?_
  rintro e w3 ⟨rfl, hI⟩
  have hg3 := hg2.grown hI.grown hp
  have hm3 : Mk3 w3 w.heap.size (Mk.run 257 7 (a.data.toList ++ b.data.toList)) (Mk.run 65539 11 (a.data.toList ++ b.data.toList)) ((a.data.toList ++ b.data.toList).length : Nat) := hI.own
  have hb3 : Below w.heap.size w w3 := hb2.grown hI.grown hb2.size (by simp)
  have hs3 : w.heap.size < w3.heap.size := hm3.lt
  clear hg2 HM2 hb2 hI
  have HM := Lib.hid hm3; clear hm3
  have hl : (a.data.toList ++ b.data.toList).length = a.size + b.size := by rw [List.length_append, size_len, size_len]
  have HL := Lib.hid hl; clear hl
  obtain ⟨m, hm⟩ : ∃ m, m = a.data.toList ++ b.data.toList := ⟨_, rfl⟩
  have hab : (a ++ b).data.toList = m := by rw [hm, ByteArray.data_append]; simp
  have hml : m.length = a.size + b.size := by rw [hm]; exact HL.out
  have HMM := Lib.hid hm; clear hm
  have HAB := Lib.hid hab; clear hab
  have HML := Lib.hid hml; clear hml
  go_wp2_with fail
  refine (marks_any w3 hg3).mono ?_
  rintro e w4 ⟨rfl, hb4⟩
  have hg4 := hg3.below hb4 hg3.pos
  go_wp2_with fail
  refine (mark_mk w4 w.heap.size m (by rw [HMM.out]; exact HM.out.below hb4 hs3) (by rw [HML.out]; omega)).mono ?_
  rintro e w5 ⟨rfl, hb5⟩
  have hg5 := hg4.below hb5 hg4.pos
  have hb5 := nx hb4 hb5
  clear hb4 hg4
  go_wp2_with fail
  refine (of_two w5 a b hg5 (by omega)).mono ?_
  rintro e w6 ⟨rfl, hb6⟩
  rw [← HMM.out]
  have hg6 := hg5.below hb6 hg5.pos
  have hb6 := nx hb5 hb6
  clear hb5 hg5
  go_wp2_with fail
  refine (mark_mk w6 w.heap.size m (by rw [HMM.out]; exact HM.out.below hb6 hs3) (by rw [HML.out]; omega)).mono ?_
  rintro e w7 ⟨rfl, hb7⟩
  have hg7 := hg6.below hb7 hg6.pos
  have hb7 := nx hb6 hb7
  clear hb6 hg6
  go_wp2_with fail
  refine (of_one w7 (a ++ b) hg7 (by rw [← size_len, HAB.out, HML.out]; omega)).mono ?_
  rintro e w8 ⟨rfl, hb8⟩
  rw [HAB.out]
  have hb8 := nx hb7 hb8
  clear hb7 hg7
  go_wp2_with fail
  refine (count_any w8 w.heap.size _ (HM.out.below hb8 hs3).c2).mono ?_
  rintro e w9 ⟨rfl, rfl⟩
  rw [HL.out]
  go_wp2
  go_ret
  exact ⟨rfl, hb3.trans (hb8.mono (Nat.le_of_lt hs3))⟩
end Go.Proofs.YtbbgelgjepjpgaaDoor
