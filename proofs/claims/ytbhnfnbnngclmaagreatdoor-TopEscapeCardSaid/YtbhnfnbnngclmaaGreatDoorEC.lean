/- sign, where a name is told; Decode, where a text was encoded. -/
import Derived.Test.YtbhnfnbnngclmaaGreatDoorEB
namespace Go.Proofs.YtbhnfnbnngclmaaGreatDoor
open Go.RowKit
set_option maxRecDepth 100000

theorem sign_any (k : Nat) (hk : k < 5) (w : World) (hg : GN w) : Calls Tryz.prog 61 #[.string (nms[k]'(by have : nms.length = 10 := rfl; omega)).1] w fun e w' => e = .returned (.tuple #[.string (nms[k]'(by have : nms.length = 10 := rfl; omega)).2, .bool true, .bool true]) ∧ Below w.heap.size w w' := by
  have c := name_any k hk w hg
  have hkl : k < nms.length := by have : nms.length = 10 := rfl; omega
  obtain ⟨a0, ha0⟩ : ∃ a, a = (nms[k]'hkl).1 := ⟨_, rfl⟩
  obtain ⟨a1, ha1⟩ : ∃ a, a = (nms[k]'hkl).2 := ⟨_, rfl⟩
  rw [← ha0, ← ha1] at c ⊢
  have C := Lib.hid c
  clear c ha0 ha1 hg
  go_enter Tryz.func61, Tryz.ntmps61
  go_wp2_with fail
  with_reducible refine C.out.mono ?_
  rintro e w1 ⟨rfl, hb⟩
  go_wp2_with fail
  go_ret3
  exact ⟨rfl, hb⟩
theorem odd_at (c : UInt8) (h : En.odd c = true) : ∃ k, ∃ hk : k < 5, nsg[k]'hk = c ∧ (nms[k]'(by have : nms.length = 10 := rfl; omega)).1.data.toList = En.nameOf c := by
  unfold En.odd at h
  simp only [Bool.or_eq_true, beq_iff_eq] at h
  rcases h with (((rfl | rfl) | rfl) | rfl) | rfl
  · exact ⟨0, by omega, rfl, rfl⟩
  · exact ⟨1, by omega, rfl, rfl⟩
  · exact ⟨2, by omega, rfl, rfl⟩
  · exact ⟨3, by omega, rfl, rfl⟩
  · exact ⟨4, by omega, rfl, rfl⟩
theorem ext_from (E : ByteArray) (a : Nat) (x y : List UInt8) (h : E.data.toList = x ++ y) (ha : a = x.length) : (E.extract a E.size).data.toList = y := by
  rw [Lib.extract_data, h, ha, List.drop_left, List.take_of_length_le]
  have := congrArg List.length h
  rw [size_len, List.length_append] at this
  omega
theorem ext_mid (E : ByteArray) (a b : Nat) (x y z : List UInt8) (h : E.data.toList = x ++ (y ++ z)) (ha : a = x.length) (hb : b = y.length) : (E.extract a (a + b)).data.toList = y := by
  rw [Lib.extract_data, h, ha, List.drop_left, show x.length + b - x.length = b by omega, hb, List.take_left]
theorem extract_le (s : ByteArray) (a b : Nat) : (s.extract a b).size ≤ s.size := by rw [ByteArray.size_extract]; omega
theorem ba_ext {a b : ByteArray} (h : a.data.toList = b.data.toList) : a = b := by
  cases a; cases b
  congr 1
  exact Array.toList_inj.1 h
set_option maxHeartbeats 4000000 in
theorem decode_any (l : List UInt8) (hl : l.length ≤ 100000) (w : World) (hg : GN w) : Calls Tryz.prog 38 #[.string ⟨(En.enc l).toArray⟩] w fun e w' => e = .returned (.tuple #[.string ⟨l.toArray⟩, .slice none 0 0]) ∧ Below w.heap.size w w' := by
  obtain ⟨E, hE⟩ : ∃ E : ByteArray, E = ⟨(En.enc l).toArray⟩ := ⟨_, rfl⟩
  have hEd : E.data.toList = En.enc l := by rw [hE]
  have hEs : E.size = (En.enc l).length := by rw [← size_len, hEd]
  have hel := En.enc_le l
  have hEb : E.size ≤ 600000 := by omega
  rw [← hE]
  have HED := Lib.hid hEd
  have HES := Lib.hid hEs
  have HG := Lib.hid hg
  clear hE hEd hEs hel hg
  go_enter Tryz.func38, Tryz.ntmps38
  go_wp2_with fail
  go_step3
  go_wp2_with fail
  go_step3
  go_wp2_with fail
  go_loopg [5, 6] E.size (fun gk v5 v6 wr => ∃ (l1 l2 : List UInt8) (a : Nat), v5 = .slice none 0 0 ∧ v6 = .int .i64 a ∧ a + gk = E.size ∧ Hid (l = l1 ++ l2) ∧ Hid (a = (En.enc l1).length) ∧ Hid (Lib.IsBuilder 43 5 w.heap.size w.heap.size (Lib.byteCells l1) wr) ∧ Hid (Below w.heap.size w wr))
  case atStart => exact ⟨[], l, 0, rfl, rfl, by omega, rfl, rfl, Lib.fresh_isBuilder 43 5 w, below_alloc' w _⟩
  case round =>
    obtain ⟨l1, l2, a, rfl, rfl, ha, HL, HA, HI, HBW⟩ := hrel
    have HAG := Lib.hid ha
    clear ha
    have hsp : E.data.toList = En.enc l1 ++ En.enc l2 := by rw [HED.out, HL.out, En.enc_append]
    have HSP := Lib.hid hsp
    clear hsp
    by_cases hlt : a < E.size
    · rcases En.parts l2 with hno | ⟨p, c, q, hpq, hp, hc⟩
      · have hR : (E.extract a E.size).data.toList = l2 := by rw [ext_from E a _ _ HSP.out HA.out, En.enc_plain hno]
        have hi : Lib.indexByte (E.extract a E.size).data.toList (38 : Int).toNat.toUInt8 = -1 := by
          rw [hR]; exact En.indexByte_no (En.not38 hno)
        have c59 := Tryz.strings_IndexByte (E.extract a E.size) 38 wr
        rw [hi] at c59
        have C59 := Lib.hid c59
        have HR := Lib.hid hR
        clear c59 hi hR hno
        go_wp2_with fail
        with_reducible refine C59.out.mono ?_
        rintro e w1 ⟨rfl, hw1⟩
        obtain rfl : wr = w1 := hw1.symm
        clear hw1
        go_wp2_with fail
        obtain ⟨B0, hB0⟩ : ∃ B : ByteArray, B = ⟨l1.toArray⟩ := ⟨_, rfl⟩
        have c12 := Tryz.Builder_String_any w.heap.size w.heap.size l1 wr.drew HI.out HBW.out.size
        rw [← hB0] at c12
        have hl1 : l1.length ≤ 100000 := by
          have := congrArg List.length HL.out
          rw [List.length_append] at this
          omega
        have hs1 : B0.size ≤ 100000 := by rw [← size_len, hB0]; exact hl1
        have hs2 : (E.extract a E.size).size ≤ 600000 := Nat.le_trans (extract_le _ _ _) hEb
        have hs3 : (a : Int) ≤ (E.size : Int) := by have := HAG.out; omega
        have HF : Hid (B0 ++ E.extract a E.size = ⟨l.toArray⟩) := ba_ext (by rw [ByteArray.data_append, Array.toList_append, HR.out, hB0, HL.out])
        have C12 := Lib.hid c12
        clear c12 hB0 hl1
        go_region_with (go_at_call 12; with_reducible refine C12.out.mono ?_; rintro e w1 ⟨rfl, hb1⟩)
        all_goals
          go_wp2_with fail
          try rw [Exit.noGoto_ret]
          go_ret2
          have hb2 : Below w.heap.size wr w1 := ⟨hb1.os, hb1.tape, hb1.output, hb1.size, hb1.block⟩
          refine ⟨?_, HBW.out.trans hb2⟩
          have hf := HF.out
          go_simp
      · have hn38 := En.not38 hp
        have he : En.enc l2 = p ++ 38 :: (En.nameOf c ++ 59 :: En.enc q) := by rw [hpq, En.enc_parts hp hc]
        obtain ⟨k, hk, hck, hnk⟩ := odd_at c hc
        have hkl : k < nms.length := by have : nms.length = 10 := rfl; omega
        have c61o := fun w' (h : GN w') => sign_any k hk w' h
        have hv := val_at k hk
        obtain ⟨n0, hn0⟩ : ∃ n, n = (nms[k]'hkl).1 := ⟨_, rfl⟩
        obtain ⟨n1, hn1⟩ : ∃ n, n = (nms[k]'hkl).2 := ⟨_, rfl⟩
        have hks := key_le k hkl
        rw [← hn0] at hks hnk
        rw [← hn1, hck] at hv
        have c61 : ∀ w', GN w' → Calls Tryz.prog 61 #[.string n0] w' fun e w'' => e = .returned (.tuple #[.string n1, .bool true, .bool true]) ∧ Below w'.heap.size w' w'' := by
          rw [hn0, hn1]; exact c61o
        have hsp := HSP.out
        rw [he] at hsp
        have hR : (E.extract a E.size).data.toList = p ++ 38 :: (En.nameOf c ++ 59 :: En.enc q) := ext_from E a _ _ hsp HA.out
        obtain ⟨b, hb⟩ : ∃ b, b = p.length := ⟨_, rfl⟩
        have hi : Lib.indexByte (E.extract a E.size).data.toList (38 : Int).toNat.toUInt8 = (b : Int) := by
          rw [hR, hb]; exact En.indexByte_at hn38
        have hP : (E.extract a (a + b)).data.toList = p := ext_mid E a b _ _ _ hsp HA.out hb
        have hS : (E.extract (a + b + 1) E.size).data.toList = En.nameOf c ++ 59 :: En.enc q := by
          refine ext_from E (a + b + 1) (En.enc l1 ++ (p ++ [38])) _ ?_ ?_
          · rw [hsp]; simp
          · rw [List.length_append, List.length_append, ← HA.out, ← hb]; rfl
        have hcut : Lib.cut (E.extract (a + b + 1) E.size).data.toList (⟨#[59]⟩ : ByteArray).data.toList = (En.nameOf c, En.enc q, true) := by
          rw [hS]; exact En.cut_at (En.nameOf_no59 c)
        have hlen : a + b + 1 + n0.size + 1 + (En.enc q).length = E.size := by
          have := congrArg List.length hsp
          rw [size_len] at this
          simp only [List.length_append, List.length_cons, ← HA.out, ← hb, ← hnk, size_len] at this
          omega
        have hPs : (E.extract a (a + b)).size = b := by rw [← size_len, hP, hb]
        have hn1s : n1.size = 1 := by rw [hv]; rfl
        have hl1 : l1.length ≤ 100000 := by
          have := congrArg List.length HL.out
          rw [List.length_append] at this
          omega
        have c59 := Tryz.strings_IndexByte (E.extract a E.size) 38 wr
        rw [hi] at c59
        have hn0a : n0 = ⟨(En.nameOf c).toArray⟩ := ba_ext hnk
        have c60 : ∀ w', GN w' → Calls Tryz.prog 60 #[.string (E.extract (a + b + 1) E.size), .string ⟨#[59]⟩] w' fun e w'' => e = .returned (.tuple #[.string n0, .string ⟨(En.enc q).toArray⟩, .bool true]) ∧ ∃ n, w'' = w'.drewN n := by
          intro w' hg'
          obtain ⟨m, hm⟩ := hg'.ml
          have := Tryz.strings_Cut (E.extract (a + b + 1) E.size) ⟨#[59]⟩ m w' (by have := extract_le E (a + b + 1) E.size; omega) hm
          rw [hcut, ← hn0a] at this
          exact this
        have HP := Lib.hid hP
        have HPS := Lib.hid hPs
        have HN1S := Lib.hid hn1s
        have HL1 := Lib.hid hl1
        have HV := Lib.hid hv
        have HNK := Lib.hid hnk
        have HPQ := Lib.hid hpq
        have HOP := Lib.hid hp
        have HOC := Lib.hid hc
        have HB := Lib.hid hb
        have C59 := Lib.hid c59
        have C60 := Lib.hid c60
        have C61 := Lib.hid c61
        have HKS := Lib.hid hks
        clear hn38 he hck hnk hn0 hn1 hv hks hsp hR hb hi hP hS hcut hPs hn1s hl1 c59 c60 c61 c61o hn0a hpq hp hc hk hkl
        have b1 : (a : Int) + (b : Int) + 1 ≤ (E.size : Int) := by omega
        have b2 : (a : Int) + (b : Int) ≤ (E.size : Int) := by omega
        have b3 : (0 : Int) ≤ (a : Int) + (b : Int) := by omega
        have b4 : (a : Int) ≤ (a : Int) + (b : Int) := by omega
        go_wp2_with fail
        with_reducible refine C59.out.mono ?_
        rintro e w1 ⟨rfl, hw1⟩
        obtain rfl : wr = w1 := hw1.symm
        clear hw1
        go_wp2_with fail
        with_reducible refine (writeString_any w.heap.size w.heap.size _ _ _ HI.out (by have := HL1.out; have := HPS.out; omega) HBW.out.size).mono ?_
        rintro e w2 ⟨rfl, hI2, hb2⟩
        rw [HP.out] at hI2
        have HB2 := Lib.hid (HBW.out.trans hb2)
        have HI2 := Lib.hid hI2
        clear hI2 hb2
        go_wp2_with fail
        with_reducible refine (C60.out _ (HG.out.below HB2.out)).mono ?_
        rintro e w3 ⟨rfl, n, hw3⟩
        have HB3 : Hid (Below w2.heap.size w2 w3) := by rw [hw3]; exact below_drewN' _ _
        clear hw3
        go_wp2_with fail
        with_reducible refine (C61.out _ (HG.out.below (HB2.out.trans (HB3.out.mono HB2.out.size)))).mono ?_
        rintro e w4 ⟨rfl, hb4⟩
        have HB4 := Lib.hid (nx HB3.out hb4)
        clear hb4
        go_wp2_with fail
        with_reducible refine (writeString_any w.heap.size w.heap.size _ _ _ (builder_below HI2.out HB4.out) (by have := HL1.out; have := HN1S.out; have := HB.out; rw [List.length_append]; omega) (Nat.le_trans HB2.out.size HB4.out.size)).mono ?_
        rintro e w5 ⟨rfl, hI5, hb5⟩
        have HB5 := Lib.hid ((HB2.out.trans (HB4.out.mono HB2.out.size)).trans hb5)
        have HI5 := Lib.hid hI5
        clear hI5 hb5
        go_wp2_with fail
        go_roundg (E.size - (a + (b + (n0.size + 2))))
        case measure => have := HAG.out; omega
        case rel =>
          refine ⟨l1 ++ (p ++ [c]), q, a + (b + (n0.size + 2)), rfl, by go_num, by omega, ?_, ?_, ?_, HB5.out⟩
          · show _ = _
            rw [HL.out, HPQ.out]; simp
          · show _ = _
            rw [En.enc_append, En.enc_append, En.enc_plain HOP.out, En.enc_cons, En.enc_nil, En.esc, if_pos HOC.out]
            simp only [List.length_append, List.length_cons, List.length_nil, ← HA.out, ← HB.out, ← HNK.out, size_len]
          · have h := HI5.out
            rw [HV.out] at h
            show Lib.IsBuilder _ _ _ _ _ _
            simpa [List.append_assoc] using h
    · have hl2 : l2 = [] := by
        have h := congrArg List.length HSP.out
        rw [size_len, List.length_append, ← HA.out] at h
        have : (En.enc l2).length = 0 := by have := HAG.out; omega
        exact En.enc_empty.1 (List.eq_nil_of_length_eq_zero this)
      have hR : (E.extract a E.size).data.toList = l2 := by rw [ext_from E a _ _ HSP.out HA.out, hl2]; rfl
      have HR := Lib.hid hR
      clear hR hl2
      go_wp2_with fail
      obtain ⟨B0, hB0⟩ : ∃ B : ByteArray, B = ⟨l1.toArray⟩ := ⟨_, rfl⟩
      have c12 := Tryz.Builder_String_any w.heap.size w.heap.size l1 wr.drew HI.out HBW.out.size
      rw [← hB0] at c12
      have hl1 : l1.length ≤ 100000 := by
        have := congrArg List.length HL.out
        rw [List.length_append] at this
        omega
      have hs1 : B0.size ≤ 100000 := by rw [← size_len, hB0]; exact hl1
      have hs2 : (E.extract a E.size).size ≤ 600000 := Nat.le_trans (extract_le _ _ _) hEb
      have hs3 : (a : Int) ≤ (E.size : Int) := by have := HAG.out; omega
      have HF : Hid (B0 ++ E.extract a E.size = ⟨l.toArray⟩) := ba_ext (by rw [ByteArray.data_append, Array.toList_append, HR.out, hB0, HL.out])
      have C12 := Lib.hid c12
      clear c12 hB0 hl1
      go_region_with (go_at_call 12; with_reducible refine C12.out.mono ?_; rintro e w1 ⟨rfl, hb1⟩)
      all_goals
        go_wp2_with fail
        try rw [Exit.noGoto_ret]
        go_ret2
        have hb2 : Below w.heap.size wr w1 := ⟨hb1.os, hb1.tape, hb1.output, hb1.size, hb1.block⟩
        refine ⟨?_, HBW.out.trans hb2⟩
        have hf := HF.out
        go_simp
end Go.Proofs.YtbhnfnbnngclmaaGreatDoor
