import Derived.Test.YtbhnfnbnngclmaaGreatDoorKit
import Derived.Test.YtbhnfnbnngclmaaGreatDoorShelf
import Derived.Test.YtbhnfnbnngclmaaGreatDoorFoldFields
import Derived.Lib.ConvBytes
namespace Go.Proofs.YtbhnfnbnngclmaaGreatDoor
open Go.RowKit

theorem u8_eq (c : UInt8) (n : Nat) (h : n < 256) : ((c.toNat : Int) == (n : Int)) = (c == UInt8.ofNat n) := by
  rw [Bool.eq_iff_iff, beq_iff_eq, beq_iff_eq, ← UInt8.toNat_inj, UInt8.toNat_ofNat']
  omega
theorem bl_int (c : UInt8) : Fo.bl c = ((c.toNat : Int) == 9 || (c.toNat : Int) == 10 || (c.toNat : Int) == 12 || (c.toNat : Int) == 13 || (c.toNat : Int) == 32) := by
  unfold Fo.bl
  rw [show (9 : Int) = ((9 : Nat) : Int) from rfl, show (10 : Int) = ((10 : Nat) : Int) from rfl, show (12 : Int) = ((12 : Nat) : Int) from rfl, show (13 : Int) = ((13 : Nat) : Int) from rfl, show (32 : Int) = ((32 : Nat) : Int) from rfl,
    u8_eq c 9 (by decide), u8_eq c 10 (by decide), u8_eq c 12 (by decide), u8_eq c 13 (by decide), u8_eq c 32 (by decide)]
  rfl
theorem lc_int (c : UInt8) : ((65 ≤ (c.toNat : Int) ∧ (c.toNat : Int) ≤ 90) → ((Fo.lc c).toNat : Int) = (c.toNat : Int) + 32) ∧ (¬ (65 ≤ (c.toNat : Int) ∧ (c.toNat : Int) ≤ 90) → Fo.lc c = c) := by
  have e1 : (65 ≤ c) = (65 ≤ c.toNat) := propext UInt8.le_iff_toNat_le
  have e2 : (c ≤ 90) = (c.toNat ≤ 90) := propext UInt8.le_iff_toNat_le
  unfold Fo.lc
  refine ⟨fun h => ?_, fun h => ?_⟩
  · rw [if_pos ⟨by rw [e1]; omega, by rw [e2]; omega⟩, UInt8.toNat_add]; simp; omega
  · rw [if_neg (by rw [e1, e2]; omega)]
theorem ref_lower_snoc (s : ByteArray) (k : Nat) (h : k < s.size) : Fo.lower (s.data.toList.take (k + 1)) = Fo.lower (s.data.toList.take k) ++ [Fo.lc s[k]] := by
  rw [take_snoc s k h]; simp [Fo.lower]

end Go.Proofs.YtbhnfnbnngclmaaGreatDoor
