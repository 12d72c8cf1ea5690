/- url's bytes, all, scheme, Default, host. -/
import Derived.Test.YtajokmcdhhiahaaGreatDoorUA
import Derived.Test.YtajokmcdhhiahaaGreatDoorHA
namespace Go.Proofs.YtajokmcdhhiahaaGreatDoor
open Go.RowKit
set_option maxRecDepth 100000

theorem host1_any (x : Int) (w : World) : Calls Tryz.prog 24 #[.int .u8 x] w fun e w' => e = .returned (.bool (Ur.ho x)) ∧ w' = w := by
  have c1 := letter_any x w
  have c2 := digit_any x w
  have hs : Ur.ho x = (Ur.lt x || Ur.dg x || x == 45 || x == 46) := rfl
  obtain ⟨r, hr⟩ : ∃ r, r = Ur.ho x := ⟨_, rfl⟩
  obtain ⟨a, ha⟩ : ∃ r, r = Ur.lt x := ⟨_, rfl⟩
  obtain ⟨b, hb⟩ : ∃ r, r = Ur.dg x := ⟨_, rfl⟩
  rw [← hr, ← ha, ← hb] at hs
  rw [← ha] at c1
  rw [← hb] at c2
  rw [← hr]
  have C1 := Lib.hid c1
  have C2 := Lib.hid c2
  have HS := Lib.hid hs
  clear c1 c2 hs hr ha hb
  cases a
  · cases b
    · by_cases h2 : x = 45
      · subst h2
        go_enter Tryz.func24, Tryz.ntmps24
        go_wp2_with fail
        with_reducible refine C1.out.mono ?_
        rintro e w1 ⟨rfl, rfl⟩
        go_wp2_with fail
        with_reducible refine C2.out.mono ?_
        rintro e w1 ⟨rfl, rfl⟩
        go_wp2
        go_ret
        exact ⟨ret_bool (by rw [HS.out]; rfl), rfl⟩
      · have e2 : (x == 45) = false := beq_eq_false_iff_ne.2 h2
        have hf : r = (x == 46) := by rw [HS.out, e2]; rfl
        have HF := Lib.hid hf
        clear h2 hf
        go_enter Tryz.func24, Tryz.ntmps24
        go_wp2_with fail
        with_reducible refine C1.out.mono ?_
        rintro e w1 ⟨rfl, rfl⟩
        go_wp2_with fail
        with_reducible refine C2.out.mono ?_
        rintro e w1 ⟨rfl, rfl⟩
        go_wp2
        go_ret
        exact ⟨ret_bool HF.out.symm, rfl⟩
    · have hf : r = true := by rw [HS.out]; rfl
      have HF := Lib.hid hf
      clear hf
      go_enter Tryz.func24, Tryz.ntmps24
      go_wp2_with fail
      with_reducible refine C1.out.mono ?_
      rintro e w1 ⟨rfl, rfl⟩
      go_wp2_with fail
      with_reducible refine C2.out.mono ?_
      rintro e w1 ⟨rfl, rfl⟩
      go_wp2
      go_ret
      exact ⟨ret_bool HF.out.symm, rfl⟩
  · have hf : r = true := by rw [HS.out]; rfl
    have HF := Lib.hid hf
    clear hf
    go_enter Tryz.func24, Tryz.ntmps24
    go_wp2_with fail
    with_reducible refine C1.out.mono ?_
    rintro e w1 ⟨rfl, rfl⟩
    go_wp2
    go_ret
    exact ⟨ret_bool HF.out.symm, rfl⟩
theorem byteOf_any (x : Int) (w : World) : Calls Tryz.prog 14 #[.int .u8 x] w fun e w' => e = .returned (.bool (Ur.byt x)) ∧ w' = w := by
  have hi : Ur.byt x = (decide (32 < x) && decide (x < 127) && x != 63 && x != 35) := rfl
  obtain ⟨r, hr⟩ : ∃ r, r = Ur.byt x := ⟨_, rfl⟩
  rw [← hr] at hi ⊢
  have HI := Lib.hid hi
  clear hi hr
  by_cases h1 : 32 < x
  · by_cases h2 : x < 127
    · by_cases h3 : x = 63
      · subst h3; go_enter Tryz.func14, Tryz.ntmps14; go_wp2; go_ret; exact ⟨ret_bool (by rw [HI.out]; rfl), rfl⟩
      · have n3 : (x != 63) = true := by simp [h3]
        have HB := Lib.hid (show r = (x != 35) by rw [HI.out, n3]; simp [h1, h2])
        clear h3
        go_enter Tryz.func14, Tryz.ntmps14; go_wp2; go_ret; exact ⟨ret_bool HB.out.symm, rfl⟩
    · have HB := Lib.hid (show r = false by rw [HI.out]; simp [h2])
      go_enter Tryz.func14, Tryz.ntmps14; go_wp2; go_ret; exact ⟨ret_bool HB.out.symm, rfl⟩
  · have HB := Lib.hid (show r = false by rw [HI.out]; simp [h1])
    go_enter Tryz.func14, Tryz.ntmps14; go_wp2; go_ret; exact ⟨ret_bool HB.out.symm, rfl⟩
theorem check1_any (x : Int) (w : World) : Calls Tryz.prog 12 #[.int .u8 x] w fun e w' => e = .returned (.bool (Ur.oq x)) ∧ w' = w := by
  have hi : Ur.oq x = (decide (32 ≤ x) && decide (x < 127) && x != 35) := rfl
  obtain ⟨r, hr⟩ : ∃ r, r = Ur.oq x := ⟨_, rfl⟩
  rw [← hr] at hi ⊢
  have HI := Lib.hid hi
  clear hi hr
  by_cases h1 : 32 ≤ x
  · by_cases h2 : x < 127
    · have HB := Lib.hid (show r = (x != 35) by rw [HI.out]; simp [h1, h2])
      go_enter Tryz.func12, Tryz.ntmps12; go_wp2; go_ret; exact ⟨ret_bool HB.out.symm, rfl⟩
    · have HB := Lib.hid (show r = false by rw [HI.out]; simp [h2])
      go_enter Tryz.func12, Tryz.ntmps12; go_wp2; go_ret; exact ⟨ret_bool HB.out.symm, rfl⟩
  · have HB := Lib.hid (show r = false by rw [HI.out]; simp [h1])
    go_enter Tryz.func12, Tryz.ntmps12; go_wp2; go_ret; exact ⟨ret_bool HB.out.symm, rfl⟩
theorem check2_any (x : Int) (w : World) : Calls Tryz.prog 16 #[.int .u8 x] w fun e w' => e = .returned (.bool (Ur.qy x)) ∧ w' = w := by
  have c1 := byteOf_any x w
  have hs : Ur.qy x = (Ur.byt x || x == 63) := rfl
  obtain ⟨r, hr⟩ : ∃ r, r = Ur.qy x := ⟨_, rfl⟩
  obtain ⟨a, ha⟩ : ∃ r, r = Ur.byt x := ⟨_, rfl⟩
  rw [← hr, ← ha] at hs
  rw [← ha] at c1
  rw [← hr]
  have C1 := Lib.hid c1
  have HS := Lib.hid hs
  clear c1 hs hr ha
  cases a
  · go_enter Tryz.func16, Tryz.ntmps16
    go_wp2_with fail
    with_reducible refine C1.out.mono ?_
    rintro e w1 ⟨rfl, rfl⟩
    go_wp2
    go_ret
    exact ⟨ret_bool (by rw [HS.out]; rfl), rfl⟩
  · go_enter Tryz.func16, Tryz.ntmps16
    go_wp2_with fail
    with_reducible refine C1.out.mono ?_
    rintro e w1 ⟨rfl, rfl⟩
    go_wp2
    go_ret
    exact ⟨ret_bool (by rw [HS.out]; rfl), rfl⟩


set_option maxHeartbeats 2000000 in
theorem urall_any (g : FuncId) (p : Int → Bool) (hg : g = 21 ∨ g = 24 ∨ g = 14 ∨ g = 12 ∨ g = 16) (hp : ∀ x w, Calls Tryz.prog g #[.int .u8 x] w fun e w' => e = .returned (.bool (p x)) ∧ w' = w) (s : ByteArray) (w : World) (hs : s.size ≤ 10000000) :
    Calls Tryz.prog 11 #[.string s, .func (.func g) #[] #[]] w fun e w' => e = .returned (.bool (Ur.all p s)) ∧ w' = w := by
  have HP := Lib.hid hp; clear hp
  obtain ⟨q, hq⟩ : ∃ q : UInt8 → Bool, q = fun c => p c.toNat := ⟨_, rfl⟩
  have hall : Ur.all p s = s.data.toList.all q := by rw [hq]; rfl
  rw [hall]
  have hpq : ∀ c : UInt8, p c.toNat = q c := fun c => by rw [hq]
  have HPQ := Lib.hid hpq
  clear hpq hq hall
  rcases hg with rfl | rfl | rfl | rfl | rfl
  all_goals
    go_enter Tryz.func11, Tryz.ntmps11
    go_wp2
    go_loopg [8] s.size (fun gk v wr => ∃ k : Nat, k + gk = s.size ∧ v = .int .i64 k ∧ Hid ((s.data.toList.take k).all q = true) ∧ wr = w)
    case atStart => exact ⟨0, by omega, rfl, rfl, rfl⟩
    case round =>
      obtain ⟨k, hk, rfl, HA, rfl⟩ := hrel
      have HK := Lib.hid hk; clear hk
      by_cases hlt : k < s.size
      · have hc := HP.out s[k].toNat
        have hsn := all_snoc q s k hlt
        rw [HPQ.out] at hc
        cases hpc : q s[k] with
        | true =>
          rw [hpc] at hc hsn
          have HC := Lib.hid hc; clear hc
          have HS := Lib.hid hsn; clear hsn hpc
          go_wp2_with fail
          refine (HC.out _).mono ?_
          rintro e w1 ⟨rfl, rfl⟩
          go_wp2
          go_roundg (gk - 1)
          case rel => have := HK.out; exact ⟨k + 1, by omega, by go_num, by show _ = _; rw [HS.out, HA.out]; rfl, rfl⟩
          case measure => have := HK.out; omega
        | false =>
          have HN := Lib.hid (all_not q s k hlt hpc)
          rw [hpc] at hc
          have HC := Lib.hid hc; clear hc hsn hpc
          go_wp2_with fail
          refine (HC.out _).mono ?_
          rintro e w1 ⟨rfl, rfl⟩
          go_wp2
          go_ret
          exact ⟨ret_bool (by rw [HN.out]), rfl⟩
      · obtain rfl : k = s.size := by have := HK.out; omega
        have hall := HA.out
        rw [take_all] at hall
        have HALL := Lib.hid hall; clear hall
        go_wp2
        go_ret
        exact ⟨ret_bool (by rw [HALL.out]), rfl⟩
/-- Default. -/
theorem default_any (s : ByteArray) (w : World) : Calls Tryz.prog 8 #[.string s] w fun e w' => e = .returned (.int .i64 (Ur.dflt s)) ∧ w' = w := by
  have hd : Ur.dflt s = if s.toList == [104, 116, 116, 112] || s.toList == [119, 115] then 80 else if s.toList == [104, 116, 116, 112, 115] || s.toList == [119, 115, 115] then 443 else 0 := rfl
  obtain ⟨r, hr⟩ : ∃ r, r = Ur.dflt s := ⟨_, rfl⟩
  rw [← hr] at hd ⊢
  have HD := Lib.hid hd
  clear hd hr
  cases h1 : (s.toList == [104, 116, 116, 112])
  · cases h2 : (s.toList == [119, 115])
    · cases h3 : (s.toList == [104, 116, 116, 112, 115])
      · cases h4 : (s.toList == [119, 115, 115])
        · have HF := Lib.hid (show r = 0 by rw [HD.out, h1, h2, h3, h4]; rfl)
          go_enter Tryz.func8, Tryz.ntmps8; go_wp2; go_ret; exact ⟨ret_int HF.out.symm, rfl⟩
        · have HF := Lib.hid (show r = 443 by rw [HD.out, h1, h2, h3, h4]; rfl)
          go_enter Tryz.func8, Tryz.ntmps8; go_wp2; go_ret; exact ⟨ret_int HF.out.symm, rfl⟩
      · have HF := Lib.hid (show r = 443 by rw [HD.out, h1, h2, h3]; rfl)
        go_enter Tryz.func8, Tryz.ntmps8; go_wp2; go_ret; exact ⟨ret_int HF.out.symm, rfl⟩
    · have HF := Lib.hid (show r = 80 by rw [HD.out, h1, h2]; rfl)
      go_enter Tryz.func8, Tryz.ntmps8; go_wp2; go_ret; exact ⟨ret_int HF.out.symm, rfl⟩
  · have HF := Lib.hid (show r = 80 by rw [HD.out, h1]; rfl)
    go_enter Tryz.func8, Tryz.ntmps8; go_wp2; go_ret; exact ⟨ret_int HF.out.symm, rfl⟩
end Go.Proofs.YtajokmcdhhiahaaGreatDoor
