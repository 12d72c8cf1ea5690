/- url's small functions: bytes, Default, all, scheme. -/
import Derived.Test.YtajokmcdhhiahaaGreatDoorKit
namespace Go.Proofs.YtajokmcdhhiahaaGreatDoor
open Go.RowKit

namespace Ur
def lt (x : Int) : Bool := decide (97 ≤ x) && decide (x ≤ 122)
def dg (x : Int) : Bool := decide (48 ≤ x) && decide (x ≤ 57)
def sc (x : Int) : Bool := lt x || dg x || x == 43 || x == 45 || x == 46
def ho (x : Int) : Bool := lt x || dg x || x == 45 || x == 46
def byt (x : Int) : Bool := decide (32 < x) && decide (x < 127) && x != 63 && x != 35
def oq (x : Int) : Bool := decide (32 ≤ x) && decide (x < 127) && x != 35
def qy (x : Int) : Bool := byt x || x == 63
def dflt (s : ByteArray) : Int := if s.toList == [104, 116, 116, 112] || s.toList == [119, 115] then 80 else if s.toList == [104, 116, 116, 112, 115] || s.toList == [119, 115, 115] then 443 else 0
def all (p : Int → Bool) (s : ByteArray) : Bool := s.data.toList.all fun c => p c.toNat
def head (p : Int → Bool) (s : ByteArray) : Bool := match s.data.toList with | [] => false | c :: _ => p c.toNat
def scheme (s : ByteArray) : Bool := decide (s.size ≤ 20) && head lt s && all sc s
end Ur

theorem letter_any (x : Int) (w : World) : Calls Tryz.prog 20 #[.int .u8 x] w fun e w' => e = .returned (.bool (Ur.lt x)) ∧ w' = w := by
  by_cases h1 : 97 ≤ x
  · by_cases h2 : x ≤ 122
    · have HB := Lib.hid (show Ur.lt x = true by simp [Ur.lt, h1, h2])
      go_enter Tryz.func20, Tryz.ntmps20; go_wp2; go_ret; exact ⟨ret_bool HB.out.symm, rfl⟩
    · have HB := Lib.hid (show Ur.lt x = false by simp [Ur.lt, h2])
      go_enter Tryz.func20, Tryz.ntmps20; go_wp2; go_ret; exact ⟨ret_bool HB.out.symm, rfl⟩
  · have HB := Lib.hid (show Ur.lt x = false by simp [Ur.lt, h1])
    go_enter Tryz.func20, Tryz.ntmps20; go_wp2; go_ret; exact ⟨ret_bool HB.out.symm, rfl⟩
theorem digit_any (x : Int) (w : World) : Calls Tryz.prog 22 #[.int .u8 x] w fun e w' => e = .returned (.bool (Ur.dg x)) ∧ w' = w := by
  by_cases h1 : 48 ≤ x
  · by_cases h2 : x ≤ 57
    · have HB := Lib.hid (show Ur.dg x = true by simp [Ur.dg, h1, h2])
      go_enter Tryz.func22, Tryz.ntmps22; go_wp2; go_ret; exact ⟨ret_bool HB.out.symm, rfl⟩
    · have HB := Lib.hid (show Ur.dg x = false by simp [Ur.dg, h2])
      go_enter Tryz.func22, Tryz.ntmps22; go_wp2; go_ret; exact ⟨ret_bool HB.out.symm, rfl⟩
  · have HB := Lib.hid (show Ur.dg x = false by simp [Ur.dg, h1])
    go_enter Tryz.func22, Tryz.ntmps22; go_wp2; go_ret; exact ⟨ret_bool HB.out.symm, rfl⟩
theorem scheme1_any (x : Int) (w : World) : Calls Tryz.prog 21 #[.int .u8 x] w fun e w' => e = .returned (.bool (Ur.sc x)) ∧ w' = w := by
  have c1 := letter_any x w
  have c2 := digit_any x w
  have hs : Ur.sc x = (Ur.lt x || Ur.dg x || x == 43 || x == 45 || x == 46) := rfl
  obtain ⟨r, hr⟩ : ∃ r, r = Ur.sc x := ⟨_, rfl⟩
  obtain ⟨a, ha⟩ : ∃ r, r = Ur.lt x := ⟨_, rfl⟩
  obtain ⟨b, hb⟩ : ∃ r, r = Ur.dg x := ⟨_, rfl⟩
  rw [← hr, ← ha, ← hb] at hs
  rw [← ha] at c1
  rw [← hb] at c2
  rw [← hr]
  have C1 := Lib.hid c1
  have C2 := Lib.hid c2
  have HS := Lib.hid hs
  clear c1 c2 hs hr ha hb
  cases a
  · cases b
    · by_cases h1 : x = 43
      · subst h1
        go_enter Tryz.func21, Tryz.ntmps21
        go_wp2_with fail
        with_reducible refine C1.out.mono ?_
        rintro e w1 ⟨rfl, rfl⟩
        go_wp2_with fail
        with_reducible refine C2.out.mono ?_
        rintro e w1 ⟨rfl, rfl⟩
        go_wp2
        go_ret
        exact ⟨ret_bool (by rw [HS.out]; rfl), rfl⟩
      · by_cases h2 : x = 45
        · subst h2
          go_enter Tryz.func21, Tryz.ntmps21
          go_wp2_with fail
          with_reducible refine C1.out.mono ?_
          rintro e w1 ⟨rfl, rfl⟩
          go_wp2_with fail
          with_reducible refine C2.out.mono ?_
          rintro e w1 ⟨rfl, rfl⟩
          go_wp2
          go_ret
          exact ⟨ret_bool (by rw [HS.out]; rfl), rfl⟩
        · have e1 : (x == 43) = false := beq_eq_false_iff_ne.2 h1
          have e2 : (x == 45) = false := beq_eq_false_iff_ne.2 h2
          have hf : r = (x == 46) := by rw [HS.out, e1, e2]; rfl
          have HF := Lib.hid hf
          clear h1 h2 hf
          go_enter Tryz.func21, Tryz.ntmps21
          go_wp2_with fail
          with_reducible refine C1.out.mono ?_
          rintro e w1 ⟨rfl, rfl⟩
          go_wp2_with fail
          with_reducible refine C2.out.mono ?_
          rintro e w1 ⟨rfl, rfl⟩
          go_wp2
          go_ret
          exact ⟨ret_bool HF.out.symm, rfl⟩
    · have hf : r = true := by rw [HS.out]; rfl
      have HF := Lib.hid hf
      clear hf
      go_enter Tryz.func21, Tryz.ntmps21
      go_wp2_with fail
      with_reducible refine C1.out.mono ?_
      rintro e w1 ⟨rfl, rfl⟩
      go_wp2_with fail
      with_reducible refine C2.out.mono ?_
      rintro e w1 ⟨rfl, rfl⟩
      go_wp2
      go_ret
      exact ⟨ret_bool HF.out.symm, rfl⟩
  · have hf : r = true := by rw [HS.out]; rfl
    have HF := Lib.hid hf
    clear hf
    go_enter Tryz.func21, Tryz.ntmps21
    go_wp2_with fail
    with_reducible refine C1.out.mono ?_
    rintro e w1 ⟨rfl, rfl⟩
    go_wp2
    go_ret
    exact ⟨ret_bool HF.out.symm, rfl⟩
end Go.Proofs.YtajokmcdhhiahaaGreatDoor
