/- Names of makers. -/
import Derived.Test.YtpjakdekaolmeaaDoorRA
namespace Go.Proofs.YtpjakdekaolmeaaDoor
open Go.RowKit Go.Shelf

theorem u8_all (p : UInt8 → Bool) (h : ((List.range 256).all fun n => p (UInt8.ofNat n)) = true) (c : UInt8) : p c = true := by
  have := List.all_eq_true.1 h c.toNat (List.mem_range.2 (UInt8.toNat_lt c))
  rwa [UInt8.ofNat_toNat] at this
/-- A byte with the bit of small letters. -/
def ob (c : UInt8) : Int := bits BinOp.or IntKind.u8 (c.toNat : Int) 32
def signs : List UInt8 := [45, 35, 61, 95, 47, 64, 46, 37]
theorem mb_int (c : UInt8) : mb c = ((decide (97 ≤ ob c) && decide (ob c ≤ 122)) || (decide ((48 : Int) ≤ c.toNat) && decide ((c.toNat : Int) ≤ 57)) || decide (0 ≤ Lib.indexByte signs c)) := by
  have := u8_all (fun c => mb c == ((decide (97 ≤ ob c) && decide (ob c ≤ 122)) || (decide ((48 : Int) ≤ c.toNat) && decide ((c.toNat : Int) ≤ 57)) || decide (0 ≤ Lib.indexByte signs c))) (by decide +kernel) c
  simpa using this
theorem mb_ref (c : UInt8) : mb c = ((decide ((97 : Int) ≤ (Fo.lc c).toNat) && decide (((Fo.lc c).toNat : Int) ≤ 122)) || (decide ((48 : Int) ≤ (Fo.lc c).toNat) && decide (((Fo.lc c).toNat : Int) ≤ 57)) || signs.any fun x => ((Fo.lc c).toNat : Int) == (x.toNat : Int)) := by
  have := u8_all (fun c => mb c == ((decide ((97 : Int) ≤ (Fo.lc c).toNat) && decide (((Fo.lc c).toNat : Int) ≤ 122)) || (decide ((48 : Int) ≤ (Fo.lc c).toNat) && decide (((Fo.lc c).toNat : Int) ≤ 57)) || signs.any fun x => ((Fo.lc c).toNat : Int) == (x.toNat : Int))) (by decide +kernel) c
  simpa using this
set_option maxHeartbeats 1000000 in
/-- Name. -/
theorem name_any (s : ByteArray) (w : World) (hs : s.size ≤ 10000000) : Calls Tryd.prog 12 #[.string s] w fun e w' => e = .returned (.bool (mname s.data.toList)) ∧ w' = w := by
  have hem := empty_iff s
  obtain ⟨b, hb⟩ : ∃ b, b = s.data.toList.isEmpty := ⟨_, rfl⟩
  obtain ⟨r, hr⟩ : ∃ r, r = mname s.data.toList := ⟨_, rfl⟩
  rw [← hb] at hem
  rw [← hr]
  have HE := Lib.hid hb
  have HR := Lib.hid hr
  clear hb hr
  have hne : (s.toList != []) = !b := by rw [bne, hem]
  go_enter Tryd.func12, Tryd.ntmps12
  go_wp2
  go_loopg [8] s.size (fun gk v wr => ∃ k : Nat, k + gk = s.size ∧ v = .int .i64 k ∧ Hid ((s.data.toList.take k).all mb = true) ∧ wr = w)
  case atStart => exact ⟨0, by omega, rfl, rfl, rfl⟩
  case round =>
    obtain ⟨k, hk, rfl, HA, hwr⟩ := hrel
    obtain rfl : w = _ := hwr.symm
    have HK := Lib.hid hk; clear hk hwr
    by_cases hlt : k < s.size
    · have hsn := all_snoc mb s k hlt
      have hmi := mb_int s[k]
      have hix := index_at ⟨#[45, 35, 61, 95, 47, 64, 46, 37]⟩ s[k] w
      have hnot : mb s[k] = false → r = false := fun h => by rw [HR.out]; unfold mname; rw [all_not mb s k hlt h]; simp
      obtain ⟨x, hx⟩ : ∃ x : Int, x = Lib.indexByte (⟨#[45, 35, 61, 95, 47, 64, 46, 37]⟩ : ByteArray).data.toList s[k] := ⟨_, rfl⟩
      rw [← hx] at hix
      rw [show Lib.indexByte signs s[k] = x from hx.symm] at hmi
      obtain ⟨o, ho⟩ : ∃ o : Int, o = ob s[k] := ⟨_, rfl⟩
      rw [← ho] at hmi
      have hbits : bits BinOp.or IntKind.u8 (↑s[k].toNat) 32 = o := ho.symm
      have HIX := Lib.hid hix
      have HSN := Lib.hid hsn
      have HMI := Lib.hid hmi
      have HNOT := Lib.hid hnot
      clear hsn hmi hix hx ho hnot
      have good : mb s[k] = true → (s.data.toList.take (k + 1)).all mb = true := fun h => by rw [HSN.out, HA.out, h]; rfl
      have GOOD := Lib.hid good
      clear good
      by_cases h1 : 97 ≤ o ∧ o ≤ 122
      · obtain ⟨h1, h2⟩ := h1
        go_wp2_with fail
        go_roundg (gk - 1)
        case measure => have := HK.out; omega
        case rel => have := HK.out; exact ⟨k + 1, by omega, by go_num, GOOD.out (by rw [HMI.out]; simp [h1, h2]), rfl⟩
      · by_cases h3 : 48 ≤ (s[k].toNat : Int) ∧ (s[k].toNat : Int) ≤ 57
        · obtain ⟨h3, h4⟩ := h3
          rcases Int.lt_or_le o 97 with h5 | h5
          case' inr =>
            have h6 : 122 < o := by omega
            have h6d : decide (o ≤ 122) = false := by simpa using h6
          all_goals
            clear h1
            go_wp2_with fail
            go_roundg (gk - 1)
            case measure => have := HK.out; omega
            case rel => have := HK.out; exact ⟨k + 1, by omega, by go_num, GOOD.out (by rw [HMI.out]; simp [h3, h4]), rfl⟩
        · have hnl : (decide (97 ≤ o) && decide (o ≤ 122)) = false := by simpa using fun h => by omega
          have hnd : (decide ((48 : Int) ≤ s[k].toNat) && decide ((s[k].toNat : Int) ≤ 57)) = false := by simpa using fun h => by omega
          have HNL := Lib.hid hnl
          have HND := Lib.hid hnd
          clear hnl hnd
          by_cases hx0 : x < 0
          · have HB : Hid (r = false) := HNOT.out (by rw [HMI.out, HNL.out, HND.out]; simp; omega)
            rcases Int.lt_or_le o 97 with h5 | h5
            case' inr =>
              have h6 : 122 < o := by omega
              have h6d : decide (o ≤ 122) = false := by simpa using h6
            all_goals
              clear h1
              rcases Int.lt_or_le (s[k].toNat : Int) 48 with h7 | h7
              case' inr => have h8 : 57 < (s[k].toNat : Int) := by omega
              all_goals
                clear h3
                go_wp2_with fail
                with_reducible refine HIX.out.mono ?_
                rintro e w1 ⟨rfl, hw1⟩
                obtain rfl : w = w1 := hw1.symm
                clear hw1
                go_wp2_with fail
                go_ret
                exact ⟨ret_bool HB.out.symm, rfl⟩
          · rcases Int.lt_or_le o 97 with h5 | h5
            case' inr =>
              have h6 : 122 < o := by omega
              have h6d : decide (o ≤ 122) = false := by simpa using h6
            all_goals
              clear h1
              rcases Int.lt_or_le (s[k].toNat : Int) 48 with h7 | h7
              case' inr => have h8 : 57 < (s[k].toNat : Int) := by omega
              all_goals
                clear h3
                go_wp2_with fail
                with_reducible refine HIX.out.mono ?_
                rintro e w1 ⟨rfl, hw1⟩
                obtain rfl : w = w1 := hw1.symm
                clear hw1
                go_wp2_with fail
                go_roundg (gk - 1)
                case measure => have := HK.out; omega
                case rel => have := HK.out; exact ⟨k + 1, by omega, by go_num, GOOD.out (by rw [HMI.out]; simp; omega), rfl⟩
    · obtain rfl : k = s.size := by have := HK.out; omega
      have hall := HA.out
      rw [take_all] at hall
      have hfin : r = (decide (s.size ≤ 40) && !b) := by rw [HR.out, mname, hall, size_len, HE.out]; simp
      have HF := Lib.hid hfin
      clear hall hfin
      cases b
      · by_cases h40 : s.size ≤ 40
        · have h40' : (s.size : Int) ≤ 40 := by omega
          go_wp2_with fail
          go_ret
          exact ⟨ret_bool (by rw [HF.out]; simp [h40]), rfl⟩
        · have h40' : ¬ (s.size : Int) ≤ 40 := by omega
          go_wp2_with fail
          go_ret
          exact ⟨ret_bool (by rw [HF.out]; simp [h40]), rfl⟩
      · go_wp2_with fail
        go_ret
        exact ⟨ret_bool (by rw [HF.out]; simp), rfl⟩
end Go.Proofs.YtpjakdekaolmeaaDoor
