import Derived.Test.YtigjmelngddbjaaKit
import Derived.Test.YtigjmelngddbjaaBuild
import Derived.Test.YtigjmelngddbjaaShelf
import Derived.Test.YtigjmelngddbjaaPlain
import Derived.Deep.LoopGhost
import Derived.Laws.BitsAllLaws
namespace Go.Proofs.Ytigjmelngddbjaa
open Go.RowKit

theorem value_any (c : UInt8) (w : World) : Calls Try.prog 22 #[.int .u8 c.toNat] w fun e w' => e = .returned (.int .i64 (Bs.vl c)) ∧ w = w' := by
  by_cases h1 : c = 45
  · subst h1
    go_enter Try.func22, Try.ntmps22
    go_wp2_with (go_at_call 27; refine (Try.strings_IndexByte _ _ _).mono ?_; rintro e w' ⟨rfl, rfl⟩)
    go_ret
    exact ⟨rfl, rfl⟩
  by_cases h2 : c = 95
  · subst h2
    go_enter Try.func22, Try.ntmps22
    go_wp2_with (go_at_call 27; refine (Try.strings_IndexByte _ _ _).mono ?_; rintro e w' ⟨rfl, rfl⟩)
    go_ret
    exact ⟨rfl, rfl⟩
  have e1 : ((c.toNat : Int) == 45) = false := by
    rw [beq_eq_false_iff_ne]; intro h; exact h1 (by apply UInt8.toNat_inj.1; simpa using (by omega : c.toNat = 45))
  have e2 : ((c.toNat : Int) == 95) = false := by
    rw [beq_eq_false_iff_ne]; intro h; exact h2 (by apply UInt8.toNat_inj.1; simpa using (by omega : c.toNat = 95))
  have ev : Lib.indexByte Bs.signs c = Bs.vl c := by rw [Bs.vl, Bs.plain, if_neg h1, if_neg h2]
  have EV := Lib.hid ev; clear ev
  go_enter Try.func22, Try.ntmps22
  go_wp2_with fail
  refine (Try.strings_IndexByte _ _ _).mono ?_
  rintro e w' ⟨rfl, rfl⟩
  go_wp2
  go_ret
  exact ⟨ret_int EV.out, rfl⟩

theorem head_any (s : ByteArray) (w : World) (hs : s.size ≤ 9223372036854775807) : Calls Try.prog 21 #[.string s] w fun e w' => e = .returned (.string ⟨(Bs.hd s.data.toList).toArray⟩) ∧ w = w' := by
  have hl : (Lib.trimSuffix s.data.toList [61]).length ≤ s.size := by
    rw [← size_len]; unfold Lib.trimSuffix; split
    · rw [List.length_take]; omega
    · exact Nat.le_refl _
  go_enter Try.func21, Try.ntmps21
  go_wp2_with fail
  refine (Try.strings_TrimSuffix s ⟨#[61]⟩ _ hs).mono ?_
  rintro e w' ⟨rfl, rfl⟩
  go_wp2_with fail
  refine (Try.strings_TrimSuffix _ ⟨#[61]⟩ _ (by rw [← size_len]; exact Nat.le_trans hl hs)).mono ?_
  rintro e w' ⟨rfl, rfl⟩
  go_wp2
  go_ret
  exact ⟨rfl, rfl⟩

set_option maxHeartbeats 1000000 in
theorem form_any (s : ByteArray) (w : World) (hs : s.size ≤ 1000000000) : Calls Try.prog 14 #[.string s] w fun e w' => e = .returned (.bool (Bs.form s.data.toList)) ∧ w = w' := by
  have hl : (Bs.hd s.data.toList).length ≤ s.size := by
    rw [← size_len]
    obtain ⟨k, _, h⟩ := Bs.hd_eq s.data.toList
    have := congrArg List.length h
    rw [List.length_append] at this; omega
  go_enter Try.func14, Try.ntmps14
  go_wp2_with fail
  refine (head_any s _ (by omega)).mono ?_
  rintro e w' ⟨rfl, rfl⟩
  obtain ⟨hb, hhb⟩ : ∃ hb : ByteArray, hb = ⟨(Bs.hd s.data.toList).toArray⟩ := ⟨_, rfl⟩
  have hbl : hb.data.toList = Bs.hd s.data.toList := by rw [hhb]
  have hbs : hb.size = (Bs.hd s.data.toList).length := by rw [← size_len, hbl]
  have hbz : hb.size ≤ 1000000000 := by rw [hbs]; omega
  rw [← hhb]
  have HL := Lib.hid hbl
  have HH := Lib.hid hhb
  have HS := Lib.hid hbs
  clear hbl hhb hbs
  go_wp2
  go_loopg [9] hb.size (fun gk i wr => ∃ k : Nat, k + gk = hb.size ∧ i = .int .i64 k ∧ Hid (((hb.data.toList.take k).all fun c => decide (0 ≤ Bs.vl c)) = true) ∧ w = wr)
  case atStart => exact ⟨0, by omega, rfl, rfl, rfl⟩
  case round =>
    obtain ⟨k, hk, rfl, HA, rfl⟩ := hrel
    have HK := Lib.hid hk; clear hk
    by_cases hlt : k < hb.size
    · have hts := take_snoc hb k hlt
      have HT := Lib.hid hts; clear hts
      by_cases hv : Bs.vl hb[k] < 0
      · have hmem : hb[k] ∈ hb.data.toList := by
          have : hb[k] ∈ hb.data.toList.take (k + 1) := by rw [HT.out]; simp
          exact List.mem_of_mem_take this
        have hall : (hb.data.toList.all fun c => decide (0 ≤ Bs.vl c)) = false := by
          rw [List.all_eq_false]
          exact ⟨hb[k], hmem, by simp; omega⟩
        have HALL := Lib.hid hall; clear hall hmem
        go_wp2_with (go_at_call 22; refine (value_any _ _).mono ?_; rintro e w' ⟨rfl, rfl⟩)
        go_ret
        refine ⟨ret_bool ?_, rfl⟩
        rw [Bs.form, ← HL.out, HALL.out]; rfl
      · go_wp2_with (go_at_call 22; refine (value_any _ _).mono ?_; rintro e w' ⟨rfl, rfl⟩)
        go_roundg (gk - 1)
        case rel =>
          have hk := HK.out
          refine ⟨k + 1, by omega, by go_num, ?_, rfl⟩
          show _ = _
          rw [HT.out, List.all_append, HA.out]
          simp; omega
        case measure => have := HK.out; omega
    · obtain rfl : k = hb.size := by have := HK.out; omega
      have hl : List.take hb.size hb.data.toList = hb.data.toList := List.take_of_length_le (by rw [size_len]; exact Nat.le_refl _)
      have HLT := Lib.hid hl; clear hl
      go_wp2
      go_ret
      refine ⟨ret_bool ?_, rfl⟩
      have := HA.out
      rw [HLT.out] at this
      rw [Bs.form, ← HL.out, this, Lib.toList_data]
      cases hb.data.toList <;> rfl
end Go.Proofs.Ytigjmelngddbjaa
