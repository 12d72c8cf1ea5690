import Derived.Test.YtfhkjegmhnpgeaaDoorU
import Derived.Test.YtfhkjegmhnpgeaaDoorPlainInv
namespace Go.Proofs.YtfhkjegmhnpgeaaDoor
open Go.RowKit

set_option maxRecDepth 100000 in
set_option maxHeartbeats 1000000 in
theorem end_any (rb : Nat) (kept : List UInt8) (w : World) (hT : T w) (h2 : 2 ≤ rb) (hR : Rd w rb kept) :
    Calls Tryd.prog 19 #[.pointer (some ⟨rb, 0, none⟩)] w fun e w' => e = .returned (.tuple #[.string ⟨(Ut.dec kept).toArray⟩, .int .i64 0]) ∧ Rd w' rb [] ∧ Bar rb w w' := by
  obtain ⟨cs, hcs, hsz, hk3, htk, h4, hby⟩ := hR
  have hrb : rb < w.heap.size := (Array.getElem?_eq_some_iff.1 hcs).1
  have hmany : w.cell? ⟨rb, 4, none⟩ = some (.int .i64 kept.length) := by rw [cell_of_row _ rb 4 cs 60 (0, 0) hcs]; exact h4
  have hkin : BytesIn w (some ⟨rb, 0, none⟩) kept.length kept := ⟨rfl, fun _ => ⟨rb, 0, rfl, hrb, fun j u hj => by
    have hj' : j < kept.length := by have := (List.getElem?_eq_some_iff.1 hj).1; rwa [Lib.byteCells_length] at this
    rw [Nat.zero_add, cell_of_row _ rb j cs 60 (0, 0) hcs, ← hj, ← htk, List.getElem?_take, if_pos hj', Array.getElem?_toList]⟩⟩
  obtain ⟨m, hm⟩ : ∃ m, m = kept.length := ⟨_, rfl⟩
  rw [← hm] at hmany hkin hk3
  have hmi : (0 : Int) ≤ (m : Int) ∧ (m : Int) ≤ 4 := by omega
  have hb0 : Below w.heap.size w w.drew := ⟨rfl, rfl, rfl, Nat.le_refl _, fun _ _ => rfl⟩
  have HC := Lib.hid (dec_any (some ⟨rb, 0, none⟩) m 4 kept w.drew (T.below hT hb0) (hkin.below hb0) (by omega) (by omega))
  have HCS := Lib.hid hcs
  have HSZ := Lib.hid hsz
  have HBY := Lib.hid hby
  clear hkin htk hm h4 hcs hsz hby hb0
  go_enter Tryd.func19, Tryd.ntmps19
  go_wp2_with fail
  go_region_held3 (fun w' => w'.cell? ⟨rb, 4, none⟩ = some (.int .i64 m))
    (first | (exact (hb1.cell hrb).trans hmany) | go_keep)
    (first | (go_at_call 10; refine HC.out.mono ?_; rintro e w1 ⟨rfl, hb1⟩))
  have hcs1 : w1.heap[rb]? = some (.cells cs 60 (0, 0)) := (hb1.block rb hrb).trans HCS.out
  have hc1 : w1.cell? ⟨rb, 4, none⟩ = some (.int .i64 m) := (hb1.cell hrb).trans hmany
  have hf1 : w1.frozen? ⟨rb, 4, none⟩ = false := by unfold World.frozen?; rw [hcs1]; simp
  have HRD : Hid (Rd (w1.setCell ⟨rb, 4, none⟩ (.int .i64 0)) rb []) := by
    have hs := HSZ.out
    refine ⟨cs.setIfInBounds 4 (.int .i64 0), heap_setCell_same w1 rb 4 cs 60 _ hcs1, by rw [Array.size_setIfInBounds]; exact hs, by simp, rfl, ?_, ?_⟩
    · rw [Array.getElem?_setIfInBounds_self, if_pos (by omega)]; rfl
    · intro j hj
      rw [Array.getElem?_setIfInBounds_ne (by omega)]
      exact HBY.out j hj
  have HB1 : Hid (Bar rb w w1) := ⟨hb1.os, hb1.tape, hb1.output, hb1.size, fun i hi _ => hb1.block i hi⟩
  clear hcs1 hb1
  go_wp2
  go_ret2
  exact ⟨rfl, HRD.out, HB1.out.trans (bar_set w1 _)⟩
theorem behind_any (s b : ByteArray) (w : World) (hs : b.size ≤ 100000) (kk : Nat) (h1 : 1 ≤ kk) (h3 : kk ≤ 3) (hk : kk ≤ b.size) (he : s.data.toList = Ut.dec (b.data.toList.take (b.size - kk))) :
    Calls Tryd.prog 21 #[.string s, .string b] w (True1 w) := by
  have HE := Lib.hid he; clear he
  go_enter Tryd.func21, Tryd.ntmps21
  go_wp2
  go_loopg [5] 4 (fun gk v wr => ∃ k : Nat, k + gk = 5 ∧ 1 ≤ k ∧ k ≤ kk ∧ v = .int .i64 k ∧ Below w.heap.size w wr)
  case atStart => exact ⟨1, rfl, Nat.le_refl _, h1, rfl, Below.refl _ _⟩
  case round =>
    obtain ⟨k, hkg, hk1, hkk, rfl, hbw⟩ := hrel
    have HK := Lib.hid hkg; clear hkg
    have hki : (k : Int) ≤ 3 := by omega
    have hkb : (k : Int) ≤ (b.size : Int) := by omega
    obtain ⟨j, hj⟩ : ∃ j, j = b.size - k := ⟨_, rfl⟩
    have hji : (b.size : Int) - (k : Int) = (j : Int) := by omega
    have hjb : j ≤ b.size := by omega
    have hx : (b.extract 0 j).data.toList = b.data.toList.take j := by
      rw [Lib.extract_data]; simp
    have c12 := fun w' => ref_dec_any (b.extract 0 j) w' (by rw [← size_len, hx, List.length_take, size_len]; omega)
    rw [hx] at c12
    obtain ⟨D, hD⟩ : ∃ D : ByteArray, D = ⟨(Ut.dec (b.data.toList.take j)).toArray⟩ := ⟨_, rfl⟩
    rw [← hD] at c12
    have C12 := Lib.hid c12; clear c12
    have hsz := hbw.size
    by_cases hq : s = D
    · have hqi : (s.toList == D.toList) = true := by rw [hq]; simp
      have HQ := Lib.hid hq
      clear hq hD hx hj
      go_wp2_with fail
      refine (C12.out _).mono ?_
      rintro e w1 ⟨rfl, hb1⟩
      go_wp2
      go_ret
      exact ⟨rfl, hbw.trans (hb1.mono hsz)⟩
    · have hqi : (s.toList == D.toList) = false := by
        rw [beq_eq_false_iff_ne, Lib.toList_data, Lib.toList_data]
        exact fun e => hq (ByteArray.ext (Array.toList_inj.1 e))
      have hlt : k < kk := by
        rcases Nat.lt_or_ge k kk with h | h
        · exact h
        · exfalso
          obtain rfl : k = kk := by omega
          apply hq
          rw [hD, hj, ← HE.out, mk_data']
      clear hq hD hx hj
      go_wp2_with fail
      refine (C12.out _).mono ?_
      rintro e w1 ⟨rfl, hb1⟩
      go_wp2
      go_roundg (gk - 1)
      case rel => have := HK.out; exact ⟨k + 1, by omega, by omega, by omega, by go_num, hbw.trans (hb1.mono hsz)⟩
      case measure => have := HK.out; omega
end Go.Proofs.YtfhkjegmhnpgeaaDoor
