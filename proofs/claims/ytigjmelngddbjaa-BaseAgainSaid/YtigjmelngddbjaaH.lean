import Derived.Test.YtigjmelngddbjaaD
namespace Go.Proofs.Ytigjmelngddbjaa
open Go.RowKit

def True1 (w : World) (e : Ending) (w' : World) : Prop := e = .returned (.bool true) ∧ Below w.heap.size w w'

theorem enc_at (s : ByteArray) (r : ByteArray) (h : Bs.enc s.data.toList = r.data.toList) (hs : s.size ≤ 1000000000) (w : World) : Calls Try.prog 10 #[.string s] w fun e w' => e = .returned (.string r) ∧ Below w.heap.size w w' := by
  refine (enc_any s w hs).mono fun e w' ⟨he, hb⟩ => ⟨?_, hb⟩
  rw [he, h, mk_data']
theorem dec_at (s : ByteArray) (r : ByteArray) (h : Bs.dec s.data.toList = some r.data.toList) (hs : s.size ≤ 1000000000) (w : World) : Calls Try.prog 12 #[.string s] w fun e w' => e = .returned (.tuple #[.string r, .bool true]) ∧ Below w.heap.size w w' := by
  refine (dec_any s w hs).mono fun e w' ⟨he, hb⟩ => ⟨?_, hb⟩
  rw [he, h]; simp only [Option.getD_some, Option.isSome_some, mk_data']
theorem dec_no (s : ByteArray) (h : Bs.dec s.data.toList = none) (hs : s.size ≤ 1000000000) (w : World) : Calls Try.prog 12 #[.string s] w fun e w' => e = .returned (.tuple #[.string ⟨#[]⟩, .bool false]) ∧ Below w.heap.size w w' := by
  refine (dec_any s w hs).mono fun e w' ⟨he, hb⟩ => ⟨?_, hb⟩
  rw [he, h]; rfl
theorem form_at (s : ByteArray) (b : Bool) (h : Bs.form s.data.toList = b) (hs : s.size ≤ 1000000000) (w : World) : Calls Try.prog 14 #[.string s] w fun e w' => e = .returned (.bool b) ∧ w = w' := by
  subst h; exact form_any s w hs

set_option maxHeartbeats 2000000 in
set_option maxRecDepth 100000 in
theorem codes_any (w : World) : Calls Try.prog 9 #[] w (True1 w) := by
  have c1 := dec_at ⟨#[89, 81]⟩ ⟨#[97]⟩ (by decide +kernel) (by decide)
  have c2 := dec_at ⟨#[95, 45, 55, 57]⟩ ⟨#[255, 238, 253]⟩ (by decide +kernel) (by decide)
  have c3 := dec_no ⟨#[89, 82, 61, 61]⟩ (by decide +kernel) (by decide)
  have c4 := dec_no ⟨#[89, 81, 61]⟩ (by decide +kernel) (by decide)
  have c5 := enc_at ⟨#[97]⟩ ⟨#[89, 81, 61, 61]⟩ (by decide +kernel) (by decide)
  have c6 := enc_at ⟨#[97, 98, 99]⟩ ⟨#[89, 87, 74, 106]⟩ (by decide +kernel) (by decide)
  have c7 := enc_at ⟨#[255, 254, 253]⟩ ⟨#[47, 47, 55, 57]⟩ (by decide +kernel) (by decide)
  have c8 := form_at ⟨#[89, 81]⟩ true (by decide +kernel) (by decide)
  have c9 := form_at ⟨#[61]⟩ false (by decide +kernel) (by decide)
  have c10 := form_at ⟨#[89, 32, 81]⟩ false (by decide +kernel) (by decide)
  have C1 := Lib.hid c1; clear c1
  have C2 := Lib.hid c2; clear c2
  have C3 := Lib.hid c3; clear c3
  have C4 := Lib.hid c4; clear c4
  have C5 := Lib.hid c5; clear c5
  have C6 := Lib.hid c6; clear c6
  have C7 := Lib.hid c7; clear c7
  have C8 := Lib.hid c8; clear c8
  have C9 := Lib.hid c9; clear c9
  have C10 := Lib.hid c10; clear c10
  go_enter Try.func9, Try.ntmps9
  go_wp2_with fail
  refine (C1.out _).mono ?_
  rintro e w1 ⟨rfl, hb1⟩
  go_wp2_with fail
  refine (C2.out _).mono ?_
  rintro e w2 ⟨rfl, hb2⟩
  go_wp2_with fail
  refine (C3.out _).mono ?_
  rintro e w3 ⟨rfl, hb3⟩
  go_wp2_with fail
  refine (C4.out _).mono ?_
  rintro e w4 ⟨rfl, hb4⟩
  have hb4 := nx (nx (nx hb1 hb2) hb3) hb4
  clear hb1 hb2 hb3
  go_wp2_with fail
  refine (C5.out _).mono ?_
  rintro e w5 ⟨rfl, hb5⟩
  go_wp2_with fail
  refine (C6.out _).mono ?_
  rintro e w6 ⟨rfl, hb6⟩
  go_wp2_with fail
  refine (C7.out _).mono ?_
  rintro e w7 ⟨rfl, hb7⟩
  have hb7 := nx (nx (nx hb4 hb5) hb6) hb7
  clear hb4 hb5 hb6
  go_wp2_with fail
  refine (C8.out _).mono ?_
  rintro e w8 ⟨rfl, rfl⟩
  go_wp2_with fail
  refine (C9.out _).mono ?_
  rintro e w9 ⟨rfl, rfl⟩
  go_wp2_with fail
  refine (C10.out _).mono ?_
  rintro e w10 ⟨rfl, rfl⟩
  go_wp2
  go_ret
  exact ⟨rfl, hb7⟩
end Go.Proofs.Ytigjmelngddbjaa
