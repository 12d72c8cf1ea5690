/- Small questions at the names that the pages have. -/
import Derived.Test.YtbhnfnbnngclmaaGreatDoorEM
namespace Go.Proofs.YtbhnfnbnngclmaaGreatDoor
open Go.RowKit
set_option maxRecDepth 100000

theorem raw_b (w : World) : Calls Tryz.prog 53 #[.string ⟨#[98]⟩] w fun e w' => e = .returned (.bool false) ∧ w' = w := by
  have e1 : ((⟨#[98]⟩ : ByteArray).toList == (⟨#[115, 99, 114, 105, 112, 116]⟩ : ByteArray).toList) = false := by decide +kernel
  have e2 : ((⟨#[98]⟩ : ByteArray).toList == (⟨#[115, 116, 121, 108, 101]⟩ : ByteArray).toList) = false := by decide +kernel
  have e3 : ((⟨#[98]⟩ : ByteArray).toList == (⟨#[116, 101, 120, 116, 97, 114, 101, 97]⟩ : ByteArray).toList) = false := by decide +kernel
  have e4 : ((⟨#[98]⟩ : ByteArray).toList == (⟨#[116, 105, 116, 108, 101]⟩ : ByteArray).toList) = false := by decide +kernel
  go_enter Tryz.func53, Tryz.ntmps53
  go_wp2_with fail
  go_ret
  exact ⟨rfl, rfl⟩
theorem letter_b (w : World) : Calls Tryz.prog 33 #[.int .u8 98] w fun e w' => e = .returned (.bool true) ∧ w' = w := by
  go_enter Tryz.func33, Tryz.ntmps33
  go_wp2_with fail
  go_ret
  exact ⟨rfl, rfl⟩
theorem letter_slash (w : World) : Calls Tryz.prog 33 #[.int .u8 47] w fun e w' => e = .returned (.bool false) ∧ w' = w := by
  go_enter Tryz.func33, Tryz.ntmps33
  go_wp2_with fail
  go_ret
  exact ⟨rfl, rfl⟩
end Go.Proofs.YtbhnfnbnngclmaaGreatDoor
