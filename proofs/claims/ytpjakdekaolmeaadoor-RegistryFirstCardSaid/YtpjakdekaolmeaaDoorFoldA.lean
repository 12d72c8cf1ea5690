import Derived.Test.YtpjakdekaolmeaaDoorKit
import Derived.Test.YtpjakdekaolmeaaDoorShelf
import Derived.Test.YtpjakdekaolmeaaDoorFoldFields
import Derived.Lib.ConvBytes
namespace Go.Proofs.YtpjakdekaolmeaaDoor
open Go.RowKit

theorem u8_eq (c : UInt8) (n : Nat) (h : n < 256) : ((c.toNat : Int) == (n : Int)) = (c == UInt8.ofNat n) := by
  rw [Bool.eq_iff_iff, beq_iff_eq, beq_iff_eq, ← UInt8.toNat_inj, UInt8.toNat_ofNat']
  omega
theorem bl_int (c : UInt8) : Fo.bl c = ((c.toNat : Int) == 9 || (c.toNat : Int) == 10 || (c.toNat : Int) == 12 || (c.toNat : Int) == 13 || (c.toNat : Int) == 32) := by
  unfold Fo.bl
  rw [show (9 : Int) = ((9 : Nat) : Int) from rfl, show (10 : Int) = ((10 : Nat) : Int) from rfl, show (12 : Int) = ((12 : Nat) : Int) from rfl, show (13 : Int) = ((13 : Nat) : Int) from rfl, show (32 : Int) = ((32 : Nat) : Int) from rfl,
    u8_eq c 9 (by decide), u8_eq c 10 (by decide), u8_eq c 12 (by decide), u8_eq c 13 (by decide), u8_eq c 32 (by decide)]
  rfl
theorem lc_int (c : UInt8) : ((65 ≤ (c.toNat : Int) ∧ (c.toNat : Int) ≤ 90) → ((Fo.lc c).toNat : Int) = (c.toNat : Int) + 32) ∧ (¬ (65 ≤ (c.toNat : Int) ∧ (c.toNat : Int) ≤ 90) → Fo.lc c = c) := by
  have e1 : (65 ≤ c) = (65 ≤ c.toNat) := propext UInt8.le_iff_toNat_le
  have e2 : (c ≤ 90) = (c.toNat ≤ 90) := propext UInt8.le_iff_toNat_le
  unfold Fo.lc
  refine ⟨fun h => ?_, fun h => ?_⟩
  · rw [if_pos ⟨by rw [e1]; omega, by rw [e2]; omega⟩, UInt8.toNat_add]; simp; omega
  · rw [if_neg (by rw [e1, e2]; omega)]
theorem ref_lower_snoc (s : ByteArray) (k : Nat) (h : k < s.size) : Fo.lower (s.data.toList.take (k + 1)) = Fo.lower (s.data.toList.take k) ++ [Fo.lc s[k]] := by
  rw [take_snoc s k h]; simp [Fo.lower]

set_option maxHeartbeats 1000000 in
/-- The reference's Lower. -/
theorem ref_lower_any (s : ByteArray) (w : World) (hs : s.size ≤ 10000000) : Calls Tryd.prog 27 #[.string s] w fun e w' => e = .returned (.string ⟨(Fo.lower s.data.toList).toArray⟩) ∧ Below w.heap.size w w' := by
  go_enter Tryd.func27, Tryd.ntmps27
  go_wp2
  go_loopg [3, 4] s.size (fun gk v i wr => ∃ k : Nat, k + gk = s.size ∧ i = .int .i64 k ∧ wr.ownsRow w.heap.size 5 1 v k (Lib.byteCells (Fo.lower (s.data.toList.take k))) ∧ Below w.heap.size w wr)
  case atStart => exact ⟨0, by omega, rfl, World.ownsRow_nil _ _ _ _, Below.refl _ _⟩
  case round =>
    obtain ⟨k, hk, rfl, hown, hbw⟩ := hrel
    have HK := Lib.hid hk; clear hk
    have hsz := hbw.size
    by_cases hlt : k < s.size
    · have hsn := ref_lower_snoc s k hlt
      have HS := Lib.hid hsn; clear hsn
      have hlc := lc_int s[k]
      have hcb : s[k].toNat < 256 := s[k].toNat_lt
      have hcb2 : 0 ≤ (s[k].toNat : Int) ∧ (s[k].toNat : Int) < 256 := by omega
      by_cases hup : 65 ≤ (s[k].toNat : Int) ∧ (s[k].toNat : Int) ≤ 90
      · have H1 := Lib.hid (hlc.1 hup).symm; clear hlc
        obtain ⟨hu1, hu2⟩ := hup
        go_wp2_with (at_builtin; refine wpList_append_byte rfl (.tmp 23) (.tmp 25) rfl wr w w.heap.size _ k _ (Fo.lc s[k]) _ H1.out rfl rfl hown hbw hsz (by omega) ?_; intro v' w1 hown1 hbw1)
        go_roundg (gk - 1)
        case rel => have := HK.out; exact ⟨k + 1, by omega, by go_num, by rw [HS.out]; exact hown1, hbw1⟩
        case measure => have := HK.out; omega
      · have H1 := Lib.hid (hlc.2 hup); clear hlc
        by_cases hu1 : 65 ≤ (s[k].toNat : Int)
        · have hu2 : ¬ (s[k].toNat : Int) ≤ 90 := by omega
          clear hup
          go_wp2_with (at_builtin; refine wpList_append_byte rfl (.tmp 23) (.tmp 25) rfl wr w w.heap.size _ k _ s[k] _ rfl rfl rfl hown hbw hsz (by omega) ?_; intro v' w1 hown1 hbw1)
          go_roundg (gk - 1)
          case rel => have := HK.out; exact ⟨k + 1, by omega, by go_num, by rw [HS.out, H1.out]; exact hown1, hbw1⟩
          case measure => have := HK.out; omega
        · clear hup
          go_wp2_with (at_builtin; refine wpList_append_byte rfl (.tmp 23) (.tmp 25) rfl wr w w.heap.size _ k _ s[k] _ rfl rfl rfl hown hbw hsz (by omega) ?_; intro v' w1 hown1 hbw1)
          go_roundg (gk - 1)
          case rel => have := HK.out; exact ⟨k + 1, by omega, by go_num, by rw [HS.out, H1.out]; exact hown1, hbw1⟩
          case measure => have := HK.out; omega
    · obtain rfl : k = s.size := by have := HK.out; omega
      rw [take_all] at hown
      have hcv := own_string hown
      go_wp2
      go_ret
      exact ⟨rfl, hbw⟩
end Go.Proofs.YtpjakdekaolmeaaDoor
