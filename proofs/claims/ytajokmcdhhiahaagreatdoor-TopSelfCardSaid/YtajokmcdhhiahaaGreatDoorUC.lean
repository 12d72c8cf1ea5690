/- url's scheme and host. -/
import Derived.Test.YtajokmcdhhiahaaGreatDoorUB
import Derived.Test.YtajokmcdhhiahaaGreatDoorShelf
namespace Go.Proofs.YtajokmcdhhiahaaGreatDoor
open Go.RowKit
set_option maxRecDepth 100000

namespace Ur
def dots (s : ByteArray) : Bool := Lib.contains (((⟨#[46]⟩ ++ s : ByteArray) ++ ⟨#[46]⟩ : ByteArray).data.toList) [46, 46]
def host (s : ByteArray) : Bool := !s.data.toList.isEmpty && decide (s.size ≤ 100) && all ho s && !dots s
end Ur
theorem toList_empty (s : ByteArray) (z : Bool) (h : s.data.toList.isEmpty = z) : s.toList.isEmpty = z ∧ (s.toList = [] ↔ z = true) := by
  rw [Lib.toList_data]
  refine ⟨h, ?_⟩
  rw [← h, List.isEmpty_iff]
theorem head_at (p : Int → Bool) (s : ByteArray) (h : 0 < s.size) : Ur.head p s = p s[0].toNat := by
  have := drop_cons s 0 h
  rw [List.drop_zero] at this
  unfold Ur.head
  rw [this]
theorem scheme_any (s : ByteArray) (w : World) (hs : s.size ≤ 10000000) : Calls Tryz.prog 9 #[.string s] w fun e w' => e = .returned (.bool (Ur.scheme s)) ∧ w' = w := by
  have hem := empty_iff s
  have hd : Ur.scheme s = (decide (s.size ≤ 20) && Ur.head Ur.lt s && Ur.all Ur.sc s) := rfl
  have c11 := urall_any 21 Ur.sc (Or.inl rfl) scheme1_any s w hs
  obtain ⟨r, hr⟩ : ∃ r, r = Ur.scheme s := ⟨_, rfl⟩
  obtain ⟨q, hq⟩ : ∃ q, q = Ur.all Ur.sc s := ⟨_, rfl⟩
  rw [← hr, ← hq] at hd
  rw [← hq] at c11
  rw [← hr]
  have C11 := Lib.hid c11
  clear c11 hr hq
  by_cases h0 : 0 < s.size
  · have he : s.data.toList.isEmpty = false := by
      rw [List.isEmpty_eq_false_iff]
      intro e
      have := size_len s
      rw [e] at this
      simp at this
      omega
    obtain ⟨hn1, hn2⟩ := toList_empty s _ he
    have hn3 : ¬ s.toList = [] := by rw [hn2]; simp
    clear hn2
    rw [head_at _ _ h0] at hd
    have c20 := letter_any s[0].toNat w
    obtain ⟨a, ha⟩ : ∃ a, a = Ur.lt s[0].toNat := ⟨_, rfl⟩
    rw [← ha] at hd c20
    have HD := Lib.hid hd
    have C20 := Lib.hid c20
    clear hd c20 ha he hem
    by_cases h20 : s.size ≤ 20
    · have h20i : (s.size : Int) ≤ 20 := by omega
      cases a
      · have HF := Lib.hid (show r = false by rw [HD.out]; simp)
        go_enter Tryz.func9, Tryz.ntmps9
        go_wp2_with fail
        with_reducible refine C20.out.mono ?_
        rintro e w1 ⟨rfl, rfl⟩
        go_wp2
        go_ret
        exact ⟨ret_bool HF.out.symm, rfl⟩
      · have HF := Lib.hid (show r = q by rw [HD.out]; simp [h20])
        go_enter Tryz.func9, Tryz.ntmps9
        go_wp2_with fail
        with_reducible refine C20.out.mono ?_
        rintro e w1 ⟨rfl, rfl⟩
        go_wp2_with fail
        with_reducible refine C11.out.mono ?_
        rintro e w1 ⟨rfl, rfl⟩
        go_wp2
        go_ret
        exact ⟨ret_bool HF.out.symm, rfl⟩
    · have h20i : ¬ (s.size : Int) ≤ 20 := by omega
      have HF := Lib.hid (show r = false by rw [HD.out]; simp [h20])
      clear h20
      go_enter Tryz.func9, Tryz.ntmps9
      go_wp2
      go_ret
      exact ⟨ret_bool HF.out.symm, rfl⟩
  · have hz : s.data.toList = [] := by
      rw [← List.length_eq_zero_iff, size_len]; omega
    obtain ⟨hn1, hn2⟩ := toList_empty s true (by rw [hz]; rfl)
    have hn3 : s.toList = [] := by rw [hn2]
    clear hn2
    have HF := Lib.hid (show r = false by rw [hd, Ur.head, hz]; simp)
    clear hd hem hz h0
    go_enter Tryz.func9, Tryz.ntmps9
    go_wp2
    go_ret
    exact ⟨ret_bool HF.out.symm, rfl⟩
theorem host_any (s : ByteArray) (w : World) (hs : s.size ≤ 10000000) (m : Int) (hm : w.cell? ⟨0, 0, none⟩ = some (.int .i64 m)) : Calls Tryz.prog 13 #[.string s] w fun e w' => e = .returned (.bool (Ur.host s)) ∧ w' = w := by
  have hem := empty_iff s
  have hd : Ur.host s = (!s.data.toList.isEmpty && decide (s.size ≤ 100) && Ur.all Ur.ho s && !Ur.dots s) := rfl
  have c11 := urall_any 24 Ur.ho (Or.inr (Or.inl rfl)) host1_any s w hs
  have c25 := Tryz.strings_Contains ((⟨#[46]⟩ ++ s : ByteArray) ++ ⟨#[46]⟩) ⟨#[46, 46]⟩ m w (by simp [ByteArray.size_append]; have : (⟨#[46]⟩ : ByteArray).size = 1 := rfl; omega) hm
  rw [show Lib.contains (((⟨#[46]⟩ ++ s : ByteArray) ++ ⟨#[46]⟩ : ByteArray).data.toList) (⟨#[46, 46]⟩ : ByteArray).data.toList = Ur.dots s from rfl] at c25
  obtain ⟨r, hr⟩ : ∃ r, r = Ur.host s := ⟨_, rfl⟩
  obtain ⟨q, hq⟩ : ∃ q, q = Ur.all Ur.ho s := ⟨_, rfl⟩
  obtain ⟨d, hdd⟩ : ∃ d, d = Ur.dots s := ⟨_, rfl⟩
  obtain ⟨z, hz⟩ : ∃ z, z = s.data.toList.isEmpty := ⟨_, rfl⟩
  rw [← hr, ← hq, ← hdd, ← hz] at hd
  rw [← hq] at c11
  rw [← hdd] at c25
  rw [← hz] at hem
  rw [← hr]
  have C11 := Lib.hid c11
  have C25 := Lib.hid c25
  obtain ⟨hn1, hn2⟩ := toList_empty s z hz.symm
  have HD := Lib.hid hd
  clear c11 c25 hr hq hdd hz hm hem hd
  cases z
  all_goals simp only [Bool.false_eq_true, iff_false, iff_true] at hn2
  · by_cases h20 : s.size ≤ 100
    · have h20i : (s.size : Int) ≤ 100 := by omega
      cases q
      · have HF := Lib.hid (show r = false by rw [HD.out]; simp)
        go_enter Tryz.func13, Tryz.ntmps13
        go_wp2_with fail
        with_reducible refine C11.out.mono ?_
        rintro e w1 ⟨rfl, rfl⟩
        go_wp2
        go_ret
        exact ⟨ret_bool HF.out.symm, rfl⟩
      · have HF := Lib.hid (show r = !d by rw [HD.out]; simp [h20])
        go_enter Tryz.func13, Tryz.ntmps13
        go_wp2_with fail
        with_reducible refine C11.out.mono ?_
        rintro e w1 ⟨rfl, rfl⟩
        go_wp2_with fail
        with_reducible refine C25.out.mono ?_
        rintro e w1 ⟨rfl, rfl⟩
        go_wp2
        go_ret
        exact ⟨ret_bool HF.out.symm, rfl⟩
    · have h20i : ¬ (s.size : Int) ≤ 100 := by omega
      have HF := Lib.hid (show r = false by rw [HD.out]; simp [h20])
      clear h20
      go_enter Tryz.func13, Tryz.ntmps13
      go_wp2
      go_ret
      exact ⟨ret_bool HF.out.symm, rfl⟩
  · have HF := Lib.hid (show r = false by rw [HD.out]; simp)
    go_enter Tryz.func13, Tryz.ntmps13
    go_wp2
    go_ret
    exact ⟨ret_bool HF.out.symm, rfl⟩
end Go.Proofs.YtajokmcdhhiahaaGreatDoor
