import Derived.Test.YtnlalebeclgcgaaDoorF
namespace Go.Proofs.YtnlalebeclgcgaaDoor
open Go.RowKit

def True1 (w : World) (e : Ending) (w' : World) : Prop := e = .returned (.bool true) ∧ Below w.heap.size w w'
theorem lit_low : Fo.lower [65, 98, 49, 195, 132] = [97, 98, 49, 195, 132] := by decide +kernel
theorem lit_same : decide (Fo.lower [78, 79, 78, 69] = Fo.lower [110, 111, 110, 101]) = true := by decide +kernel
theorem lit_not : decide (Fo.lower [97] = Fo.lower [98]) = false := by decide +kernel
theorem lit_trim : Fo.trim [32, 97, 32, 98, 32] = [97, 32, 98] := by decide +kernel
theorem lit_words : Fo.words [32, 97, 32, 32, 98, 32] = [[97], [98]] := by decide +kernel
theorem lit_parts : Fo.parts 59 [97, 59, 32, 98, 59, 59] = [[97], [98], [], []] := by decide +kernel
theorem lit_none : Fo.parts 59 [] = [[]] := by decide +kernel
theorem lit_b1 : Fo.bl 12 = true := by decide +kernel
theorem lit_b2 : Fo.bl 11 = false := by decide +kernel
theorem texts_same (A B : Option Addr) (n c d : Nat) (p : List ByteArray) (w : World) (hp : Texts w A n p) (hq : Texts w B n p) (hn : n ≤ 1000000) : Calls Tryd.prog 14 #[.slice A n c, .slice B n d] w (True1 w) :=
  (texts_any A B n n c d p p w hp hq hn hn).mono fun e w' ⟨he, hb⟩ => ⟨by rw [he]; simp, hb⟩
theorem texts_lit (A : Option Addr) (c : Nat) (p : List ByteArray) (w : World) (hp : Texts w A p.length p) (hn : p.length ≤ 1000000) :
    Calls Tryd.prog 14 #[.slice A p.length c, .slice (some ⟨w.heap.size, 0, none⟩) p.length p.length] (w.alloc (.cells (p.map Value.string).toArray 9)) (True1 w) :=
  (texts_same A _ p.length c p.length p _ (hp.below (below_alloc' w _)) (Texts.lit w p) hn).mono fun e w' ⟨he, hb⟩ => ⟨he, (below_alloc' w _).trans (hb.mono (by simp))⟩
theorem lower_lit (w : World) : Calls Tryd.prog 8 #[.string ⟨#[65, 98, 49, 195, 132]⟩] w fun e w' => e = .returned (.string ⟨#[97, 98, 49, 195, 132]⟩) ∧ Below w.heap.size w w' := by
  have := lower_any ⟨#[65, 98, 49, 195, 132]⟩ w (by decide)
  rw [show (⟨#[65, 98, 49, 195, 132]⟩ : ByteArray).data.toList = [65, 98, 49, 195, 132] from rfl, lit_low] at this; exact this
theorem same_lit (w : World) : Calls Tryd.prog 12 #[.string ⟨#[78, 79, 78, 69]⟩, .string ⟨#[110, 111, 110, 101]⟩] w fun e w' => e = .returned (.bool true) ∧ Below w.heap.size w w' := by
  have := same_any ⟨#[78, 79, 78, 69]⟩ ⟨#[110, 111, 110, 101]⟩ w (by decide) (by decide)
  rw [show (⟨#[78, 79, 78, 69]⟩ : ByteArray).data.toList = [78, 79, 78, 69] from rfl, show (⟨#[110, 111, 110, 101]⟩ : ByteArray).data.toList = [110, 111, 110, 101] from rfl, lit_same] at this; exact this
theorem not_lit (w : World) : Calls Tryd.prog 12 #[.string ⟨#[97]⟩, .string ⟨#[98]⟩] w fun e w' => e = .returned (.bool false) ∧ Below w.heap.size w w' := by
  have := same_any ⟨#[97]⟩ ⟨#[98]⟩ w (by decide) (by decide)
  rw [show (⟨#[97]⟩ : ByteArray).data.toList = [97] from rfl, show (⟨#[98]⟩ : ByteArray).data.toList = [98] from rfl, lit_not] at this; exact this
theorem trim_lit (w : World) : Calls Tryd.prog 10 #[.string ⟨#[32, 97, 32, 98, 32]⟩] w fun e w' => e = .returned (.string ⟨#[97, 32, 98]⟩) ∧ Below w.heap.size w w' := by
  have := trim_any ⟨#[32, 97, 32, 98, 32]⟩ w (by decide)
  rw [show (⟨#[32, 97, 32, 98, 32]⟩ : ByteArray).data.toList = [32, 97, 32, 98, 32] from rfl, lit_trim] at this; exact this
theorem words_lit (w : World) : Calls Tryd.prog 15 #[.string ⟨#[32, 97, 32, 32, 98, 32]⟩] w (OutTexts [⟨#[97]⟩, ⟨#[98]⟩] w) := by
  have := words_any ⟨#[32, 97, 32, 32, 98, 32]⟩ w (by decide)
  rw [show (⟨#[32, 97, 32, 32, 98, 32]⟩ : ByteArray).data.toList = [32, 97, 32, 32, 98, 32] from rfl, lit_words] at this; exact this
theorem parts_lit (w : World) : Calls Tryd.prog 17 #[.string ⟨#[97, 59, 32, 98, 59, 59]⟩, .int .u8 59] w (OutTexts [⟨#[97]⟩, ⟨#[98]⟩, ⟨#[]⟩, ⟨#[]⟩] w) := by
  have := parts_any ⟨#[97, 59, 32, 98, 59, 59]⟩ 59 w (by decide)
  rw [show (⟨#[97, 59, 32, 98, 59, 59]⟩ : ByteArray).data.toList = [97, 59, 32, 98, 59, 59] from rfl, lit_parts] at this; exact this
theorem none_lit (w : World) : Calls Tryd.prog 17 #[.string ⟨#[]⟩, .int .u8 59] w (OutTexts [⟨#[]⟩] w) := by
  have := parts_any ⟨#[]⟩ 59 w (by decide)
  rw [show (⟨#[]⟩ : ByteArray).data.toList = [] from rfl, lit_none] at this; exact this
theorem b1_lit (w : World) : Calls Tryd.prog 19 #[.int .u8 12] w fun e w' => e = .returned (.bool true) ∧ w' = w := by
  have := blank_any 12 w
  rw [lit_b1] at this; exact this
theorem b2_lit (w : World) : Calls Tryd.prog 19 #[.int .u8 11] w fun e w' => e = .returned (.bool false) ∧ w' = w := by
  have := blank_any 11 w
  rw [lit_b2] at this; exact this

set_option maxRecDepth 100000 in
set_option maxHeartbeats 2000000 in
theorem folds_any (w : World) : Calls Tryd.prog 13 #[] w (True1 w) := by
  go_enter Tryd.func13, Tryd.ntmps13
  go_wp2_with fail
  refine (lower_lit _).mono ?_
  rintro e w1 ⟨rfl, hb1⟩
  go_wp2_with fail
  refine (same_lit _).mono ?_
  rintro e w2 ⟨rfl, hb2⟩
  go_wp2_with fail
  refine (not_lit _).mono ?_
  rintro e w3 ⟨rfl, hb3⟩
  go_wp2_with fail
  refine (trim_lit _).mono ?_
  rintro e w4 ⟨rfl, hb4⟩
  go_wp2_with fail
  refine (words_lit _).mono ?_
  rintro e w5 ⟨A5, c5, rfl, _, _, h5, hb5⟩
  go_wp2_with fail
  refine (texts_lit A5 c5 [⟨#[97]⟩, ⟨#[98]⟩] w5 h5 (by decide)).mono ?_
  rintro e w6 ⟨rfl, hb6⟩
  go_wp2_with fail
  refine (parts_lit _).mono ?_
  rintro e w7 ⟨A7, c7, rfl, _, _, h7, hb7⟩
  go_wp2_with fail
  refine (texts_lit A7 c7 [⟨#[97]⟩, ⟨#[98]⟩, ⟨#[]⟩, ⟨#[]⟩] w7 h7 (by decide)).mono ?_
  rintro e w8 ⟨rfl, hb8⟩
  go_wp2_with fail
  refine (none_lit _).mono ?_
  rintro e w9 ⟨A9, c9, rfl, _, _, h9, hb9⟩
  go_wp2_with fail
  refine (texts_lit A9 c9 [⟨#[]⟩] w9 h9 (by decide)).mono ?_
  rintro e w10 ⟨rfl, hb10⟩
  go_wp2_with fail
  refine (b1_lit _).mono ?_
  rintro e w11 ⟨rfl, rfl⟩
  go_wp2_with fail
  refine (b2_lit _).mono ?_
  rintro e w12 ⟨rfl, rfl⟩
  go_wp2
  go_ret
  exact ⟨rfl, nx (nx (nx (nx (nx (nx (nx (nx (nx hb1 hb2) hb3) hb4) hb5) hb6) hb7) hb8) hb9) hb10⟩
end Go.Proofs.YtnlalebeclgcgaaDoor
