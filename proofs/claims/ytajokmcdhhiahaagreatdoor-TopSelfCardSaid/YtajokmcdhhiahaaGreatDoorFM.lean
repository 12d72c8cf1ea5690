/- firm; long. -/
import Derived.Test.YtajokmcdhhiahaaGreatDoorSD
namespace Go.Proofs.YtajokmcdhhiahaaGreatDoor
open Go.RowKit Go.Shelf
set_option maxRecDepth 100000

theorem p0 : parseB (⟨#[]⟩ : ByteArray).data.toList = [] := by decide +kernel
theorem p1 : parseB (⟨#[115, 99, 114, 105, 112, 116, 45, 115, 114, 99, 32, 39, 110, 111, 110, 101, 39]⟩ : ByteArray).data.toList = [[(⟨#[115, 99, 114, 105, 112, 116, 45, 115, 114, 99]⟩, [word 1])]] := by decide +kernel
theorem p2 : parseB (⟨#[100, 101, 102, 97, 117, 108, 116, 45, 115, 114, 99, 32, 39, 117, 110, 115, 97, 102, 101, 45, 105, 110, 108, 105, 110, 101, 39]⟩ : ByteArray).data.toList = [[(⟨#[100, 101, 102, 97, 117, 108, 116, 45, 115, 114, 99]⟩, [word 3])]] := by decide +kernel
theorem p3 : parseB (⟨#[115, 99, 114, 105, 112, 116, 45, 115, 114, 99, 32, 39, 115, 101, 108, 102, 39]⟩ : ByteArray).data.toList = [[(⟨#[115, 99, 114, 105, 112, 116, 45, 115, 114, 99]⟩, [word 2])]] := by decide +kernel
theorem one_s (x : ByteArray) : PolOne [(⟨#[115, 99, 114, 105, 112, 116, 45, 115, 114, 99]⟩, [x])] 1 x := by
  refine ⟨⟨by simp, fun d hd => by simp at hd; rw [hd]; simp⟩, by decide, fun k hk hk1 => ?_⟩
  rcases (show k = 0 ∨ k = 1 by omega) with rfl | rfl
  · have e : ((⟨#[115, 99, 114, 105, 112, 116, 45, 115, 114, 99]⟩ : ByteArray).data.toList == Fo.lower (namesL[0]'(by decide)).data.toList) = false := by decide +kernel
    rw [if_neg (by omega)]
    unfold findB
    rw [List.find?_cons]
    simp only [e]
    rfl
  · have e : ((⟨#[115, 99, 114, 105, 112, 116, 45, 115, 114, 99]⟩ : ByteArray).data.toList == Fo.lower (namesL[1]'(by decide)).data.toList) = true := by decide +kernel
    rw [if_pos rfl]
    unfold findB
    rw [List.find?_cons]
    simp only [e]
    rfl
theorem one_d (x : ByteArray) : PolOne [(⟨#[100, 101, 102, 97, 117, 108, 116, 45, 115, 114, 99]⟩, [x])] 2 x := by
  refine ⟨⟨by simp, fun d hd => by simp at hd; rw [hd]; simp⟩, by decide, fun k hk hk1 => ?_⟩
  rcases (show k = 0 ∨ k = 1 ∨ k = 2 by omega) with rfl | rfl | rfl
  · have e : ((⟨#[100, 101, 102, 97, 117, 108, 116, 45, 115, 114, 99]⟩ : ByteArray).data.toList == Fo.lower (namesL[0]'(by decide)).data.toList) = false := by decide +kernel
    rw [if_neg (by omega)]
    unfold findB
    rw [List.find?_cons]
    simp only [e]
    rfl
  · have e : ((⟨#[100, 101, 102, 97, 117, 108, 116, 45, 115, 114, 99]⟩ : ByteArray).data.toList == Fo.lower (namesL[1]'(by decide)).data.toList) = false := by decide +kernel
    rw [if_neg (by omega)]
    unfold findB
    rw [List.find?_cons]
    simp only [e]
    rfl
  · have e : ((⟨#[100, 101, 102, 97, 117, 108, 116, 45, 115, 114, 99]⟩ : ByteArray).data.toList == Fo.lower (namesL[2]'(by decide)).data.toList) = true := by decide +kernel
    rw [if_pos rfl]
    unfold findB
    rw [List.find?_cons]
    simp only [e]
    rfl
theorem sn0 (w' : World) (hg' : Gl w') : Calls Tryz.prog 7 #[.string ⟨#[]⟩, inlineV ⟨#[102, 40, 41]⟩ false ⟨#[]⟩ ⟨#[]⟩ 0 ⟨#[]⟩ ⟨#[]⟩] w' (Ret true w') :=
  says_none ⟨#[]⟩ (by decide) p0 ⟨#[102, 40, 41]⟩ false ⟨#[]⟩ ⟨#[]⟩ 0 ⟨#[]⟩ ⟨#[]⟩ w' hg'
theorem sn1 (w' : World) (hg' : Gl w') : Calls Tryz.prog 7 #[.string ⟨#[115, 99, 114, 105, 112, 116, 45, 115, 114, 99, 32, 39, 110, 111, 110, 101, 39]⟩, inlineV ⟨#[102, 40, 41]⟩ false ⟨#[]⟩ ⟨#[]⟩ 0 ⟨#[]⟩ ⟨#[]⟩] w' (Ret false w') :=
  says_inline ⟨#[115, 99, 114, 105, 112, 116, 45, 115, 114, 99, 32, 39, 110, 111, 110, 101, 39]⟩ (by decide) _ 1 (word 1) p1 (word_quo 1 (by decide)) (one_s _) 1 (by decide) (word_is 1 (by decide)) ⟨#[102, 40, 41]⟩ (by decide) false ⟨#[]⟩ ⟨#[]⟩ 0 ⟨#[]⟩ ⟨#[]⟩ w' hg'
theorem sn2 (w' : World) (hg' : Gl w') : Calls Tryz.prog 7 #[.string ⟨#[100, 101, 102, 97, 117, 108, 116, 45, 115, 114, 99, 32, 39, 117, 110, 115, 97, 102, 101, 45, 105, 110, 108, 105, 110, 101, 39]⟩, inlineV ⟨#[102, 40, 41]⟩ false ⟨#[]⟩ ⟨#[]⟩ 0 ⟨#[]⟩ ⟨#[]⟩] w' (Ret true w') :=
  says_inline ⟨#[100, 101, 102, 97, 117, 108, 116, 45, 115, 114, 99, 32, 39, 117, 110, 115, 97, 102, 101, 45, 105, 110, 108, 105, 110, 101, 39]⟩ (by decide) _ 2 (word 3) p2 (word_quo 3 (by decide)) (one_d _) 3 (by decide) (word_is 3 (by decide)) ⟨#[102, 40, 41]⟩ (by decide) false ⟨#[]⟩ ⟨#[]⟩ 0 ⟨#[]⟩ ⟨#[]⟩ w' hg'
/-- Is a text more than is looked at? -/
def longS (ss : List ByteArray) : Bool := ss.any fun s => decide (1500 < s.size)
set_option maxHeartbeats 2000000 in
theorem long_any (A : Option Addr) (N c : Nat) (ss : List ByteArray) (w : World) (ht : Texts w A N ss) (hn : N ≤ 1000) : Calls Tryz.prog 4 #[.slice A N c] w fun e w' => e = .returned (.bool (longS ss)) ∧ w' = w := by
  have hl := ht.1
  have HT := Lib.hid ht
  have HL := Lib.hid hl
  clear ht hl
  obtain ⟨r, hr⟩ : ∃ r, r = longS ss := ⟨_, rfl⟩
  rw [← hr]
  have HR := Lib.hid hr
  clear hr
  go_enter Tryz.func4, Tryz.ntmps4
  go_wp2_with fail
  go_loopg [3] N (fun gk i wr => ∃ j : Nat, j + gk = N ∧ i = .int .i64 j ∧ Hid ((ss.take j).any (fun s => decide (1500 < s.size)) = false) ∧ wr = w)
  case atStart => exact ⟨0, by omega, rfl, rfl, rfl⟩
  case round =>
    obtain ⟨j, hj, rfl, HA, hw⟩ := hrel
    obtain rfl : w = wr := hw.symm
    have HJ := Lib.hid hj; clear hj hw
    by_cases hlt : j < N
    · have hjl : j < ss.length := by rw [HL.out]; exact hlt
      obtain ⟨b, off, rfl, hbl, hcc⟩ := HT.out.row (by omega)
      have hck := hcc j hjl
      have ht1 : ss.take (j + 1) = ss.take j ++ [ss[j]] := List.take_succ_eq_append_getElem hjl
      have hmem : ss[j] ∈ ss := List.getElem_mem hjl
      obtain ⟨x, hx⟩ : ∃ x, x = ss[j] := ⟨_, rfl⟩
      rw [← hx] at hck ht1 hmem
      have HT1 := Lib.hid ht1
      have HMEM := Lib.hid hmem
      clear ht1 hmem hx hcc
      by_cases hb : 1500 < x.size
      · have hrt : r = true := by rw [HR.out]; exact List.any_eq_true.2 ⟨x, HMEM.out, by simpa using hb⟩
        have HRT := Lib.hid hrt
        clear hrt
        go_wp2_with fail
        go_ret
        exact ⟨ret_bool HRT.out.symm, rfl⟩
      · go_wp2_with fail
        go_roundg (gk - 1)
        case measure => have := HJ.out; omega
        case rel =>
          have := HJ.out
          refine ⟨j + 1, by omega, by go_num, ?_, rfl⟩
          show _ = _
          rw [HT1.out, List.any_append, HA.out]
          simp; omega
    · have ha := HA.out
      rw [List.take_of_length_le (by rw [HL.out]; omega)] at ha
      have hrf : r = false := HR.out.trans ha
      have HRF := Lib.hid hrf
      clear ha hrf
      go_wp2_with fail
      go_ret
      exact ⟨ret_bool HRF.out.symm, rfl⟩
end Go.Proofs.YtajokmcdhhiahaaGreatDoor
