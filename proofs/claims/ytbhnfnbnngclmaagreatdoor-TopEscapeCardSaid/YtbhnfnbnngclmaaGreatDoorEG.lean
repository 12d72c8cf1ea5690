/- upto, at a byte that is there; decoded, where a text was encoded. -/
import Derived.Test.YtbhnfnbnngclmaaGreatDoorEF
namespace Go.Proofs.YtbhnfnbnngclmaaGreatDoor
open Go.RowKit
set_option maxRecDepth 100000

theorem upto_any (c : Nat) (s : ByteArray) (a : Nat) (vo vf : Value) (y z : List UInt8) (x : UInt8) (w : World) (hg : GN w) (hs : s.size ≤ 1000000) (ha : a ≤ s.size) (hc : Cur w c s a vo vf) (hr : (s.extract a s.size).data.toList = y ++ x :: z) (hx : x ∉ y) :
    Calls Tryz.prog 57 #[.pointer (some ⟨c, 0, none⟩), .string ⟨#[x]⟩] w fun e w' => e = .returned (.tuple #[.string ⟨y.toArray⟩, .bool true]) ∧ Cur w' c s (a + y.length + 1) vo vf ∧ Keep [c] w w' := by
  have cl := left_any c s a vo vf w ha hc
  obtain ⟨R, hR⟩ : ∃ R, R = s.extract a s.size := ⟨_, rfl⟩
  rw [← hR] at cl hr
  have hRs : R.size ≤ 1000000 := by rw [hR]; exact Nat.le_trans (extract_le _ _ _) hs
  have hcut : Lib.cut R.data.toList (⟨#[x]⟩ : ByteArray).data.toList = (y, z, true) := by rw [hr]; exact En.cut_at hx
  have hlen : a + y.length + 1 ≤ s.size := by
    have h1 := congrArg List.length hr
    rw [size_len, List.length_append, List.length_cons] at h1
    have h2 : R.size = s.size - a := by rw [hR, ByteArray.size_extract]; omega
    omega
  have cc : ∀ w', GN w' → Calls Tryz.prog 60 #[.string R, .string ⟨#[x]⟩] w' fun e w'' => e = .returned (.tuple #[.string ⟨y.toArray⟩, .string ⟨z.toArray⟩, .bool true]) ∧ ∃ n, w'' = w'.drewN n := by
    intro w' hg'
    obtain ⟨m, hm⟩ := hg'.ml
    have := Tryz.strings_Cut R ⟨#[x]⟩ m w' (by omega) hm
    rw [hcut] at this
    exact this
  obtain ⟨Y, hY⟩ : ∃ Y : ByteArray, Y = ⟨y.toArray⟩ := ⟨_, rfl⟩
  have hYs : Y.size = y.length := by rw [← size_len, hY]
  rw [← hY] at cc
  rw [← hY, ← hYs]
  have hYl : a + Y.size + 1 ≤ s.size := by omega
  have CL := Lib.hid cl
  have CC := Lib.hid cc
  have HC := Lib.hid hc
  have HG := Lib.hid hg
  clear cl cc hR hr hcut hY hYs hlen hc hg hRs
  go_enter Tryz.func57, Tryz.ntmps57
  go_wp2_with fail
  with_reducible refine CL.out.mono ?_
  rintro e w1 ⟨rfl, hb1⟩
  have HB1 := Lib.hid hb1
  clear hb1
  go_wp2_with fail
  with_reducible refine (CC.out w1 (HG.out.below HB1.out)).mono ?_
  rintro e w2 ⟨rfl, n, hw2⟩
  have hb2 : Below w1.heap.size w1 w2 := by rw [hw2]; exact below_drewN' _ _
  have HB2 := Lib.hid (nx HB1.out hb2)
  clear hw2 hb2
  have hcur := HC.out.below HB2.out
  have d1 := hcur.c1
  have f1 := hcur.fz 1
  obtain ⟨m1, m2⟩ := hcur.move (a + Y.size)
  have d2 := m1.c1
  have f2 := m1.fz 1
  obtain ⟨m3, m4⟩ := m1.move (a + Y.size + 1)
  have M3 := Lib.hid m3
  have M4 := Lib.hid (m2.trans m4)
  clear hcur m1 m2 m3 m4
  go_wp2_with fail
  go_ret2
  exact ⟨rfl, M3.out, (Keep.of_below HB2.out).trans M4.out⟩
theorem decoded_any (c : Nat) (l : List UInt8) (k : Int) (w : World) (hl : l.length ≤ 100000) (hg : GN w) :
    Calls Tryz.prog 23 #[.pointer (some ⟨c, 0, none⟩), .string ⟨(En.enc l).toArray⟩, .int .i64 k] w fun e w' => e = .returned (.string ⟨l.toArray⟩) ∧ Below w.heap.size w w' := by
  have cd := decode_any l hl w hg
  obtain ⟨E, hE⟩ : ∃ E : ByteArray, E = ⟨(En.enc l).toArray⟩ := ⟨_, rfl⟩
  obtain ⟨T, hT⟩ : ∃ T : ByteArray, T = ⟨l.toArray⟩ := ⟨_, rfl⟩
  rw [← hE, ← hT] at cd
  rw [← hE, ← hT]
  have CD := Lib.hid cd
  clear cd hE hT hg hl
  go_enter Tryz.func23, Tryz.ntmps23
  go_wp2_with fail
  with_reducible refine CD.out.mono ?_
  rintro e w1 ⟨rfl, hb1⟩
  go_wp2_with fail
  go_loopg [18] 0 (fun gk v wr => v = .int .i64 0 ∧ wr = w1)
  case atStart => exact ⟨rfl, rfl⟩
  case round =>
    obtain ⟨rfl, hw⟩ := hrel
    obtain rfl : wr = w1 := hw
    go_wp2_with fail
    go_ret
    exact ⟨rfl, hb1⟩
end Go.Proofs.YtbhnfnbnngclmaaGreatDoor
