import Derived.Test.YtbbgelgjepjpgaaDoorI
import Derived.Deep.RegionWith
import Derived.Deep.RegionHeld3
import Derived.Lib.Strings
namespace Go.Proofs.YtbbgelgjepjpgaaDoor
open Go.RowKit

theorem parts_eq (s : ByteArray) (a t : Nat) (h1 : a ≤ t) (h2 : t ≤ s.size) : (s.extract 0 a).data.toList ++ ((s.extract a t).data.toList ++ (s.extract t s.size).data.toList) = s.data.toList := by
  rw [Lib.extract_data, Lib.extract_data, Lib.extract_data]
  have hl := size_len s
  have e1 : (s.data.toList.drop t).take (s.size - t) = s.data.toList.drop t := List.take_of_length_le (by rw [List.length_drop]; omega)
  rw [e1]
  have e2 : (s.data.toList.drop a).take (t - a) ++ s.data.toList.drop t = s.data.toList.drop a := by
    have := List.take_append_drop (t - a) (s.data.toList.drop a)
    rw [List.drop_drop, show a + (t - a) = t from by omega] at this
    exact this
  rw [e2]
  simp

theorem three_parts (s : ByteArray) (a t : Nat) (h1 : a ≤ t) (h2 : t ≤ s.size) (hs : s.size ≤ 1000000000) : ∀ w : World, G w →
    Calls Tryd.prog 12 #[.slice (some ⟨w.heap.size, 0, none⟩) 3 3] (w.alloc (.cells #[.string (s.extract 0 a), .string (s.extract a t), .string (s.extract t s.size)] 9)) fun e w' => e = .returned (.string (mk s.data.toList)) ∧ Below w.heap.size w w' := by
  intro w hg
  have h := of_three w (s.extract 0 a) (s.extract a t) (s.extract t s.size) hg (by simp; omega)
  rw [parts_eq s a t h1 h2] at h
  exact h

set_option maxHeartbeats 1000000 in
theorem law_parted_main (s : ByteArray) (a t : Nat) (w : World) (hg : G w) (h0 : s.size ≤ 3000) (h1 : a ≤ t) (h2 : t ≤ s.size) : Calls Tryd.prog 5 #[.string s, .int .i64 a, .int .i64 t] w (True1 w) := by
  have hp := hg.pos
  go_enter Tryd.func5, Tryd.ntmps5
  go_wp2_with fail
  refine (of_one w s hg (by omega)).mono ?_
  rintro e w1 ⟨rfl, hb1⟩
  have hg1 := hg.below hb1 hg.pos
  go_wp2_with fail
  have hg1' : G w1.drew := ⟨hg1.g0, hg1.g1⟩
  have c3 := three_parts s a t h1 h2 (by omega)
  have C3 := Lib.hid c3; clear c3
  have HG1 := Lib.hid hg1; clear hg1
  have HB1 := Lib.hid hb1; clear hb1
  have HG := Lib.hid hg; clear hg
  have sz : (((mk s.data.toList).size : Int) == 16) = true := by rw [mk_size]; rfl
  have b1 : (0 : Int) ≤ a := by omega
  have b2 : (a : Int) ≤ t := by omega
  have b3 : (t : Int) ≤ s.size := by omega
  have b4 : (0 : Int) ≤ t := by omega
  have b5 : (a : Int) ≤ s.size := by omega
  have b6 : a ≤ s.size := by omega
  go_region_held3 (fun _ => True) (trivial) (first | (go_at_call 11; refine (marks_any w1.drew hg1').mono ?_; rintro e w2 ⟨rfl, hb2⟩; have hg2 := hg1'.below hb2 hg1'.pos) | (go_at_call 12; refine (C3.out w2 hg2).mono ?_; rintro e w3 ⟨rfl, hb3⟩))
  go_wp2
  go_ret
  exact ⟨rfl, nx HB1.out (nx (a := w2) ⟨hb2.os, hb2.tape, hb2.output, hb2.size, hb2.block⟩ hb3)⟩

theorem law_parted_any (s : ByteArray) (a t : Int) (w : World) (hg : G w) (hs : s.size ≤ 9223372036854775807) : Calls Tryd.prog 5 #[.string s, .int .i64 a, .int .i64 t] w (True1 w) := by
  by_cases h1 : 3000 < s.size
  · go_enter Tryd.func5, Tryd.ntmps5
    go_wp2_with fail
    refine (marks_any w hg).mono ?_
    rintro e w1 ⟨rfl, hb1⟩
    go_wp2
    go_ret
    exact ⟨rfl, hb1⟩
  by_cases h2 : a < 0
  · go_enter Tryd.func5, Tryd.ntmps5
    go_wp2_with fail
    refine (marks_any w hg).mono ?_
    rintro e w1 ⟨rfl, hb1⟩
    go_wp2
    go_ret
    exact ⟨rfl, hb1⟩
  by_cases h3 : t < a
  · go_enter Tryd.func5, Tryd.ntmps5
    go_wp2_with fail
    refine (marks_any w hg).mono ?_
    rintro e w1 ⟨rfl, hb1⟩
    go_wp2
    go_ret
    exact ⟨rfl, hb1⟩
  by_cases h4 : (s.size : Int) < t
  · go_enter Tryd.func5, Tryd.ntmps5
    go_wp2_with fail
    refine (marks_any w hg).mono ?_
    rintro e w1 ⟨rfl, hb1⟩
    go_wp2
    go_ret
    exact ⟨rfl, hb1⟩
  obtain ⟨a', rfl⟩ := Int.eq_ofNat_of_zero_le (show 0 ≤ a by omega)
  obtain ⟨t', rfl⟩ := Int.eq_ofNat_of_zero_le (show 0 ≤ t by omega)
  exact law_parted_main s a' t' w hg (by omega) (by omega) (by omega)
end Go.Proofs.YtbbgelgjepjpgaaDoor
