import Derived.Test.YtajokmcdhhiahaaGreatDoorFoldF
import Derived.Test.YtajokmcdhhiahaaGreatDoorHdPlain
namespace Go.Proofs.YtajokmcdhhiahaaGreatDoor
open Go.RowKit

theorem wc_int (c : UInt8) : Hd.wc c = (decide ((32 : Int) < c.toNat) && decide ((c.toNat : Int) < 127) && !((c.toNat : Int) == 44) && !((c.toNat : Int) == 59)) := by
  unfold Hd.wc
  rw [show (44 : Int) = ((44 : Nat) : Int) from rfl, show (59 : Int) = ((59 : Nat) : Int) from rfl, u8_eq c 44 (by decide), u8_eq c 59 (by decide)]
  have e1 : decide (32 < c.toNat) = decide ((32 : Int) < c.toNat) := by rw [Bool.eq_iff_iff, decide_eq_true_eq, decide_eq_true_eq]; omega
  have e2 : decide (c.toNat < 127) = decide ((c.toNat : Int) < 127) := by rw [Bool.eq_iff_iff, decide_eq_true_eq, decide_eq_true_eq]; omega
  rw [e1, e2]; rfl
theorem nc_int (c : UInt8) : Hd.nc c = ((decide ((97 : Int) ≤ c.toNat) && decide ((c.toNat : Int) ≤ 122)) || (decide ((48 : Int) ≤ c.toNat) && decide ((c.toNat : Int) ≤ 57)) || ((c.toNat : Int) == 45)) := by
  unfold Hd.nc
  rw [show (45 : Int) = ((45 : Nat) : Int) from rfl, u8_eq c 45 (by decide)]
  have e1 : decide (97 ≤ c.toNat) = decide ((97 : Int) ≤ c.toNat) := by rw [Bool.eq_iff_iff, decide_eq_true_eq, decide_eq_true_eq]; omega
  have e2 : decide (c.toNat ≤ 122) = decide ((c.toNat : Int) ≤ 122) := by rw [Bool.eq_iff_iff, decide_eq_true_eq, decide_eq_true_eq]; omega
  have e3 : decide (48 ≤ c.toNat) = decide ((48 : Int) ≤ c.toNat) := by rw [Bool.eq_iff_iff, decide_eq_true_eq, decide_eq_true_eq]; omega
  have e4 : decide (c.toNat ≤ 57) = decide ((c.toNat : Int) ≤ 57) := by rw [Bool.eq_iff_iff, decide_eq_true_eq, decide_eq_true_eq]; omega
  rw [e1, e2, e3, e4]; rfl
/-- word's byte. -/
theorem word1_any (c : UInt8) (w : World) : Calls Tryz.prog 85 #[.int .u8 c.toNat] w fun e w' => e = .returned (.bool (Hd.wc c)) ∧ w' = w := by
  have hi := wc_int c
  obtain ⟨b, hb⟩ : ∃ b, b = Hd.wc c := ⟨_, rfl⟩
  rw [← hb] at hi ⊢
  obtain ⟨x, hx⟩ : ∃ x : Int, x = c.toNat := ⟨_, rfl⟩
  rw [← hx] at hi ⊢
  have HI := Lib.hid hi; clear hi hb hx
  by_cases h1 : 32 < x
  · by_cases h2 : x < 127
    · by_cases h3 : x = 44
      · subst h3; go_enter Tryz.func85, Tryz.ntmps85; go_wp2; go_ret; exact ⟨ret_bool (by rw [HI.out]; rfl), rfl⟩
      · by_cases h4 : x = 59
        · subst h4; go_enter Tryz.func85, Tryz.ntmps85; go_wp2; go_ret; exact ⟨ret_bool (by rw [HI.out]; rfl), rfl⟩
        · have e3 : (x == 44) = false := beq_eq_false_iff_ne.2 h3
          have e4 : (x == 59) = false := beq_eq_false_iff_ne.2 h4
          have HB := Lib.hid (show b = true by rw [HI.out, e3, e4]; simp [h1, h2])
          have n3 : (x != 44) = true := by simp [h3]
          have n4 : (x != 59) = true := by simp [h4]
          clear h3 h4 e3 e4
          go_enter Tryz.func85, Tryz.ntmps85; go_wp2; go_ret; exact ⟨ret_bool HB.out.symm, rfl⟩
    · have HB := Lib.hid (show b = false by rw [HI.out]; simp [h1, h2])
      go_enter Tryz.func85, Tryz.ntmps85; go_wp2; go_ret; exact ⟨ret_bool HB.out.symm, rfl⟩
  · have HB := Lib.hid (show b = false by rw [HI.out]; simp [h1])
    go_enter Tryz.func85, Tryz.ntmps85; go_wp2; go_ret; exact ⟨ret_bool HB.out.symm, rfl⟩
/-- named's byte. -/
theorem named1_any (c : UInt8) (w : World) : Calls Tryz.prog 86 #[.int .u8 c.toNat] w fun e w' => e = .returned (.bool (Hd.nc c)) ∧ w' = w := by
  have hi := nc_int c
  obtain ⟨b, hb⟩ : ∃ b, b = Hd.nc c := ⟨_, rfl⟩
  rw [← hb] at hi ⊢
  obtain ⟨x, hx⟩ : ∃ x : Int, x = c.toNat := ⟨_, rfl⟩
  rw [← hx] at hi ⊢
  have HI := Lib.hid hi; clear hi hb hx
  by_cases h45 : x = 45
  · subst h45; go_enter Tryz.func86, Tryz.ntmps86; go_wp2; go_ret; exact ⟨ret_bool (by rw [HI.out]; rfl), rfl⟩
  have e45 : (x == 45) = false := beq_eq_false_iff_ne.2 h45
  clear h45
  by_cases h1 : 97 ≤ x
  · by_cases h2 : x ≤ 122
    · have HB := Lib.hid (show b = true by rw [HI.out]; simp [h1, h2])
      go_enter Tryz.func86, Tryz.ntmps86; go_wp2; go_ret; exact ⟨ret_bool HB.out.symm, rfl⟩
    · have h3 : 48 ≤ x := by omega
      have h4 : ¬ x ≤ 57 := by omega
      have HB := Lib.hid (show b = false by rw [HI.out, e45]; simp [h1, h2, h4])
      go_enter Tryz.func86, Tryz.ntmps86; go_wp2; go_ret; exact ⟨ret_bool HB.out.symm, rfl⟩
  · by_cases h3 : 48 ≤ x
    · by_cases h4 : x ≤ 57
      · have HB := Lib.hid (show b = true by rw [HI.out]; simp [h3, h4])
        go_enter Tryz.func86, Tryz.ntmps86; go_wp2; go_ret; exact ⟨ret_bool HB.out.symm, rfl⟩
      · have HB := Lib.hid (show b = false by rw [HI.out, e45]; simp [h1, h4])
        go_enter Tryz.func86, Tryz.ntmps86; go_wp2; go_ret; exact ⟨ret_bool HB.out.symm, rfl⟩
    · have HB := Lib.hid (show b = false by rw [HI.out, e45]; simp [h1, h3])
      go_enter Tryz.func86, Tryz.ntmps86; go_wp2; go_ret; exact ⟨ret_bool HB.out.symm, rfl⟩

theorem all_snoc (p : UInt8 → Bool) (s : ByteArray) (k : Nat) (h : k < s.size) : (s.data.toList.take (k + 1)).all p = ((s.data.toList.take k).all p && p s[k]) := by
  rw [take_snoc s k h, List.all_append]; simp
theorem all_not (p : UInt8 → Bool) (s : ByteArray) (k : Nat) (h : k < s.size) (hp : p s[k] = false) : s.data.toList.all p = false := by
  rw [List.all_eq_false]
  exact ⟨s[k], byte_mem s k h, by simp [hp]⟩
theorem empty_iff (s : ByteArray) : (s.toList == []) = s.data.toList.isEmpty := by
  rw [Lib.toList_data]; cases s.data.toList <;> rfl
theorem all_any (g : FuncId) (p : UInt8 → Bool) (hg : g = 85 ∨ g = 86) (hp : ∀ c w, Calls Tryz.prog g #[.int .u8 (c : UInt8).toNat] w fun e w' => e = .returned (.bool (p c)) ∧ w' = w) (s : ByteArray) (w : World) (hs : s.size ≤ 10000000) :
    Calls Tryz.prog 84 #[.string s, .func (.func g) #[] #[]] w fun e w' => e = .returned (.bool (s.data.toList.all p && !s.data.toList.isEmpty)) ∧ w' = w := by
  have HP := Lib.hid hp; clear hp
  have hem := empty_iff s
  obtain ⟨b, hb⟩ : ∃ b, b = s.data.toList.isEmpty := ⟨_, rfl⟩
  rw [← hb] at hem ⊢
  have HE := Lib.hid hb
  rcases hg with rfl | rfl
  all_goals
    go_enter Tryz.func84, Tryz.ntmps84
    go_wp2
    go_loopg [8] s.size (fun gk v wr => ∃ k : Nat, k + gk = s.size ∧ v = .int .i64 k ∧ Hid ((s.data.toList.take k).all p = true) ∧ wr = w)
    case atStart => exact ⟨0, by omega, rfl, rfl, rfl⟩
    case round =>
      obtain ⟨k, hk, rfl, HA, rfl⟩ := hrel
      have HK := Lib.hid hk; clear hk
      by_cases hlt : k < s.size
      · have hc := HP.out s[k]
        have hsn := all_snoc p s k hlt
        cases hpc : p s[k] with
        | true =>
          rw [hpc] at hc hsn
          have HC := Lib.hid hc; clear hc
          have HS := Lib.hid hsn; clear hsn hpc
          go_wp2_with fail
          refine (HC.out _).mono ?_
          rintro e w1 ⟨rfl, rfl⟩
          go_wp2
          go_roundg (gk - 1)
          case rel => have := HK.out; exact ⟨k + 1, by omega, by go_num, by show _ = _; rw [HS.out, HA.out]; rfl, rfl⟩
          case measure => have := HK.out; omega
        | false =>
          have HN := Lib.hid (all_not p s k hlt hpc)
          rw [hpc] at hc
          have HC := Lib.hid hc; clear hc hsn hpc
          go_wp2_with fail
          refine (HC.out _).mono ?_
          rintro e w1 ⟨rfl, rfl⟩
          go_wp2
          go_ret
          exact ⟨ret_bool (by rw [HN.out]; rfl), rfl⟩
      · obtain rfl : k = s.size := by have := HK.out; omega
        have hall := HA.out
        rw [take_all] at hall
        have HALL := Lib.hid hall; clear hall
        go_wp2
        go_ret
        exact ⟨ret_bool (by rw [HALL.out]; simp [HE.out]), rfl⟩
/-- word. -/
theorem word_any (s : ByteArray) (w : World) (hs : s.size ≤ 10000000) : Calls Tryz.prog 60 #[.string s] w fun e w' => e = .returned (.bool (Hd.word s.data.toList)) ∧ w' = w := by
  have c := all_any 85 Hd.wc (Or.inl rfl) word1_any s w hs
  obtain ⟨r, hr⟩ : ∃ r, r = Hd.word s.data.toList := ⟨_, rfl⟩
  rw [show (s.data.toList.all Hd.wc && !s.data.toList.isEmpty) = r from hr.symm] at c
  rw [← hr]
  have C := Lib.hid c; clear c hr
  go_enter Tryz.func60, Tryz.ntmps60
  go_wp2_with fail
  refine C.out.mono ?_
  rintro e w1 ⟨rfl, rfl⟩
  go_wp2
  go_ret
  exact ⟨rfl, rfl⟩
/-- named. -/
theorem named_any (s : ByteArray) (w : World) (hs : s.size ≤ 10000000) : Calls Tryz.prog 61 #[.string s] w fun e w' => e = .returned (.bool (Hd.name s.data.toList)) ∧ w' = w := by
  have c := all_any 86 Hd.nc (Or.inr rfl) named1_any s w hs
  by_cases h : s.size ≤ 40
  · have hn : Hd.name s.data.toList = (s.data.toList.all Hd.nc && !s.data.toList.isEmpty) := by unfold Hd.name; rw [size_len]; simp [h]
    rw [hn]
    obtain ⟨r, hr⟩ : ∃ r, r = (s.data.toList.all Hd.nc && !s.data.toList.isEmpty) := ⟨_, rfl⟩
    rw [← hr] at c ⊢
    have C := Lib.hid c; clear c hr
    have hi : (s.size : Int) ≤ 40 := by omega
    clear h hn
    go_enter Tryz.func61, Tryz.ntmps61
    go_wp2_with fail
    refine C.out.mono ?_
    rintro e w1 ⟨rfl, rfl⟩
    go_wp2
    go_ret
    exact ⟨rfl, rfl⟩
  · have hn : Hd.name s.data.toList = false := by unfold Hd.name; rw [size_len]; simp [h]
    rw [hn]
    have hi : ¬ (s.size : Int) ≤ 40 := by omega
    clear h hn
    go_enter Tryz.func61, Tryz.ntmps61
    go_wp2
    go_ret
    exact ⟨rfl, rfl⟩
end Go.Proofs.YtajokmcdhhiahaaGreatDoor
