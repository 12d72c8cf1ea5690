import Derived.Test.YtigjmelngddbjaaK
import Derived.Test.YtigjmelngddbjaaL
import Derived.Test.YtigjmelngddbjaaC
namespace Go.Proofs.Ytigjmelngddbjaa
open Go.RowKit

theorem b6_snoc (hb : ByteArray) (k : Nat) (hk : k < hb.size) (d : Nat) (hd : Bs.vl hb[k] = (d : Int)) : b6 (Bs.nums (hb.data.toList.take (k + 1))) = b6 (Bs.nums (hb.data.toList.take k)) ++ sfx d 6 := by
  rw [nums_snoc hb k hk d hd]; simp [b6]

/-- The second loop: bytes out of bits. -/
theorem chunk (P : List Bool) (k : Nat) (h : 8 * k + 8 ≤ P.length) : by8 (P.drop (8 * k)) = UInt8.ofNat (num ((P.take (8 * k + 8)).drop (8 * k))) :: by8 (P.drop (8 * (k + 1))) := by
  have hx : ((P.take (8 * k + 8)).drop (8 * k)).length = 8 := by rw [List.length_drop, List.length_take]; omega
  have hdr : P.drop (8 * k) = (P.take (8 * k + 8)).drop (8 * k) ++ P.drop (8 * (k + 1)) := by
    rw [List.drop_take, show 8 * k + 8 - 8 * k = 8 by omega, show 8 * (k + 1) = 8 * k + 8 by omega, ← List.drop_drop]; exact (List.take_append_drop 8 _).symm
  rw [hdr, by8_step _ _ hx]

theorem ref_dec_no_form (l : List UInt8) (w : World) (hsz : l.length ≤ 1000000) (h0 : l ≠ []) (hf : Bs.form l = false) : Calls Try.prog 13 #[.string ⟨l.toArray⟩] w (DecOut (Bs.dec l) w) := by
  have hd : Bs.dec l = none := by unfold Bs.dec Bs.bad; rw [if_neg h0, hf]; rfl
  rw [hd]
  have e1 : l.isEmpty = false := by cases l with | nil => exact absurd rfl h0 | cons => rfl
  have HF := Lib.hid hf; clear hf hd h0
  go_enter Try.func13, Try.ntmps13
  go_wp2_with fail
  refine (ref_form_any _ _ ?_).mono ?_
  · rw [← size_len]; exact Nat.le_trans (show _ ≤ 1000000 from hsz) (by decide)
  rw [HF.out]
  rintro e w' ⟨rfl, rfl⟩
  go_wp2
  go_ret2
  exact ⟨rfl, Below.refl _ _⟩
theorem ref_dec_empty (w : World) : Calls Try.prog 13 #[.string ⟨#[]⟩] w (DecOut (some []) w) := by
  go_enter Try.func13, Try.ntmps13
  go_wp2
  go_ret2
  exact ⟨rfl, Below.refl _ _⟩

set_option maxHeartbeats 4000000 in
theorem ref_dec_main (l : List UInt8) (hb : ByteArray) (hl : hb.data.toList = Bs.hd l) (w : World) (hsz : l.length ≤ 1000000) (h0 : l ≠ []) (hf : Bs.form l = true) : Calls Try.prog 13 #[.string ⟨l.toArray⟩] w (DecOut (Bs.dec l) w) := by
  have e1 : l.isEmpty = false := by cases l with | nil => exact absurd rfl h0 | cons => rfl
  have hall : (hb.data.toList.all fun c => decide (0 ≤ Bs.vl c)) = true := by rw [hl]; unfold Bs.form at hf; simp only [Bool.and_eq_true] at hf; exact hf.1
  have hbe : (⟨(Bs.hd l).toArray⟩ : ByteArray) = hb := by rw [← hl]
  have hbsz : hb.size = (Bs.hd l).length := by rw [← size_len, hl]
  have hbz : hb.size ≤ 1000000 := by rw [hbsz]; exact Nat.le_trans (hd_len l).1 hsz
  have HALL := Lib.hid hall; clear hall
  have HBE := Lib.hid hbe; clear hbe
  have HF := Lib.hid hf; clear hf
  have HL := Lib.hid hl; clear hl
  have H0 := Lib.hid h0; clear h0
  have HBS := Lib.hid hbsz; clear hbsz
  go_enter Try.func13, Try.ntmps13
  go_wp2_with fail
  refine (ref_form_any _ _ ?_).mono ?_
  · rw [← size_len]; exact Nat.le_trans (show _ ≤ 1000000 from hsz) (by decide)
  rw [HF.out]
  rintro e w' ⟨rfl, rfl⟩
  go_wp2_with fail
  refine (ref_head_any _ _ ?_).mono ?_
  · rw [← size_len]; exact Nat.le_trans (show _ ≤ 1000000 from hsz) (by decide)
  rintro e w' ⟨rfl, rfl⟩
  rw [show (⟨(Bs.hd (⟨l.toArray⟩ : ByteArray).data.toList).toArray⟩ : ByteArray) = hb from HBE.out]
  go_wp2
  go_loopg [5, 6] hb.size (fun gk v i wr => ∃ k : Nat, k + gk = hb.size ∧ i = .int .i64 k ∧ wr.ownsRow w.heap.size 4 1 v (6 * k) ((b6 (Bs.nums (hb.data.toList.take k))).map Value.bool) ∧ Below w.heap.size w wr)
  case atStart => exact ⟨0, by omega, rfl, World.ownsRow_nil _ _ _ _, Below.refl _ _⟩
  case round =>
    obtain ⟨k, hk, rfl, hown, hbw⟩ := hrel
    have hsz' := hbw.size
    have HK := Lib.hid hk; clear hk
    by_cases hlt : k < hb.size
    · obtain ⟨d, hd, hvd⟩ := vl_nat hb HALL.out k hlt
      have htk := b6_snoc hb k hlt d hvd
      have HT := Lib.hid htk; clear htk
      have HVD := Lib.hid hvd; clear hvd
      go_wp2_with fail
      refine (ref_value_any _ _).mono ?_
      rw [HVD.out]
      rintro e w' ⟨rfl, rfl⟩
      go_wp2_with fail
      refine (bits_any d 6 wr (by decide) (by omega)).mono ?_
      rintro e w1 ⟨rfl, hb1, hbw1⟩
      have hown1 := own_below hown hbw1
      have hcc : ∀ j u, ((sfx d 6).map Value.bool)[j]? = some u → w1.cell? ⟨wr.heap.size, j, none⟩ = some u := by
        intro j u hj
        rw [cell_of_row w1 wr.heap.size j _ 4 (0, 0) hb1]
        unfold bcells
        simpa using hj
      have HC := Lib.hid hcc; clear hcc hb1
      have hbw2 : Below w.heap.size w w1 := hbw.trans (hbw1.mono hsz')
      have hsz2 := hbw2.size
      go_wp2_with (at_builtin; refine wpList_append_bits rfl (.tmp 30) (.tmp 31) rfl w1 w w.heap.size _ (6 * k) _ (sfx d 6) wr.heap.size 6 rfl rfl hown1 HC.out hbw2 hsz2 (by rw [sfx_length]; omega) ?_)
      intro v' w2 hown2 hbw3
      go_wp2
      go_roundg (gk - 1)
      case rel =>
        have hk := HK.out
        refine ⟨k + 1, by omega, by go_num, ?_, hbw3⟩
        rw [HT.out, List.map_append, show 6 * (k + 1) = 6 * k + (sfx d 6).length by rw [sfx_length]; omega]
        exact hown2
      case measure => have := HK.out; omega
    · obtain rfl : k = hb.size := by have := HK.out; omega
      obtain ⟨wo, rfl⟩ : ∃ wo, wo = wr := ⟨_, rfl⟩
      rw [take_all] at hown
      clear HK
      obtain ⟨A, c, rfl, hc, _⟩ := own_form hown
      obtain ⟨P, hP⟩ : ∃ P, P = b6 (Bs.nums hb.data.toList) := ⟨_, rfl⟩
      have hPl : P.length = 6 * hb.size := by rw [hP, b6_length, Bs.nums, List.length_map, size_len]
      rw [← hP] at hown
      have hPh : P = b6 (Bs.nums (Bs.hd l)) := by rw [hP, HL.out]
      clear hP
      obtain ⟨n, hn⟩ : ∃ n, n = 6 * hb.size := ⟨_, rfl⟩
      rw [← hn] at hown hc ⊢
      rw [← hn] at hPl
      have hn0 : 0 < n := by
        have h := HF.out
        unfold Bs.form at h
        rw [← HL.out] at h
        simp only [Bool.and_eq_true, Bool.not_eq_true'] at h
        have h2 := h.2
        have : hb.data.toList ≠ [] := fun e => by rw [e] at h2; cases h2
        have := List.length_pos_iff.2 this
        rw [size_len] at this
        omega
      obtain ⟨g, rfl⟩ : ∃ g, A = some ⟨g, 0, none⟩ := by
        rcases hown.2 with ⟨_, h0⟩ | ⟨g, cap, cur, hv, _⟩
        · omega
        · injection hv with hA; exact ⟨g, hA⟩
      obtain ⟨L, hL⟩ : ∃ L, L = P.drop (8 * (n / 8)) := ⟨_, rfl⟩
      have hLl : L.length = n - 8 * (n / 8) := by rw [hL, List.length_drop, hPl]
      have hpc : ∀ A', ((c = 8 * (n / 8) ∧ A' = some ⟨g, 0, none⟩) ∨ A' = some ⟨g, 8 * (n / 8), none⟩) → Row wo A' (n - 8 * (n / 8)) (L.map Value.bool) := by
        intro A' hA'
        have hlen : (L.map Value.bool).length = n - 8 * (n / 8) := by rw [List.length_map, hLl]
        rcases hA' with ⟨h1, _⟩ | rfl
        · exact ⟨hlen, fun h => by omega⟩
        · have h := Row.piece (o := 8 * (n / 8)) (m := n) (k := n - 8 * (n / 8)) hown rfl (Nat.le_refl _)
          rw [List.take_of_length_le (by rw [List.length_map, hPl]; exact Nat.le_refl _), ← List.map_drop, ← hL] at h
          exact h
      have hnb : n ≤ 6000000 := by omega
      have hno : 6 ≤ L.length ∨ num L ≠ 0 ∨ (hb.size < l.length ∧ l.length % 4 ≠ 0) → Bs.dec l = none := by
        rw [HBS.out, hL, ← hPl]; exact dec_none l H0.out HF.out P hPh
      have hye : L.length < 6 → num L = 0 → ¬(hb.size < l.length ∧ l.length % 4 ≠ 0) → Bs.dec l = some (by8 P) := by
        rw [HBS.out, hL, ← hPl]; exact dec_some l H0.out HF.out P hPh
      rw [hLl] at hno hye
      obtain ⟨z, hz⟩ : ∃ z, z = num L := ⟨_, rfl⟩
      rw [← hz] at hno hye
      have HPL := Lib.hid hPl; clear hPl
      have HN := Lib.hid hn; clear hn
      have HZ := Lib.hid hz; clear hz
      have HL2 := Lib.hid hL; clear hL hLl hPh
      have HNO := Lib.hid hno; clear hno
      have HYE := Lib.hid hye; clear hye
      have HPC := Lib.hid hpc; clear hpc
      have num1 : ∀ A' c', ((c = 8 * (n / 8) ∧ A' = some ⟨g, 0, none⟩) ∨ A' = some ⟨g, 8 * (n / 8), none⟩) → Calls Try.prog 20 #[.slice A' (n - 8 * (n / 8)) c'] wo fun e w' => e = .returned (.int .i64 (z : Nat)) ∧ wo = w' := by
        intro A' c' hA'
        rw [HZ.out]
        exact number_any A' _ c' L wo (HPC.out A' hA') (by omega)
      have NUM := Lib.hid num1; clear num1 HPC
      by_cases hcut : c = 8 * (n / 8)
      all_goals
        by_cases h6 : 6 ≤ n - 8 * (n / 8)
        · first
            | (exfalso; omega)
            | (have HD := Lib.hid (HNO.out (Or.inl h6))
               go_wp2_with fail
               go_ret2
               rw [HD.out]
               exact ⟨rfl, hbw⟩)
        have hlt6 : n - 8 * (n / 8) < 6 := by omega
        clear h6
        by_cases hz0 : z = 0
        · subst hz0
          by_cases h3 : hb.size < l.length ∧ l.length % 4 ≠ 0
          · have HD := Lib.hid (HNO.out (Or.inr (Or.inr h3)))
            obtain ⟨h4, h5⟩ := h3
            have h5' : ((l.length : Int) % 4 != 0) = true := by rw [bne_iff_ne]; omega
            clear h5
            go_wp2_with fail
            refine (NUM.out _ _ (by first | exact Or.inl ⟨hcut, rfl⟩ | exact Or.inr rfl)).mono ?_
            rintro e w1 ⟨rfl, rfl⟩
            go_wp2_with fail
            go_ret2
            rw [HD.out]
            exact ⟨rfl, hbw⟩
          · have HD := Lib.hid (HYE.out hlt6 rfl h3)
            have h3' : ¬ hb.size < l.length ∨ hb.size < l.length ∧ ((l.length : Int) % 4 != 0) = false := by
              by_cases h : hb.size < l.length
              · right; refine ⟨h, ?_⟩
                rw [bne_eq_false_iff_eq]
                have : ¬ l.length % 4 ≠ 0 := fun h' => h3 ⟨h, h'⟩
                omega
              · exact Or.inl h
            clear h3
            have hbwr := Below.refl wo.heap.size wo
            rcases h3' with h4 | ⟨h4, h5⟩
            all_goals
              go_wp2_with fail
              refine (NUM.out _ _ (by first | exact Or.inl ⟨hcut, rfl⟩ | exact Or.inr rfl)).mono ?_
              rintro e w1 ⟨rfl, rfl⟩
              go_wp2_with fail
              go_loopg [10, 11] (n / 8) (fun gk v i wq => ∃ (k : Nat) (acc : List UInt8), k + gk = n / 8 ∧ i = .int .i64 k ∧ wq.ownsRow wo.heap.size 5 1 v k (Lib.byteCells acc) ∧ Hid (acc ++ by8 (P.drop (8 * k)) = by8 P) ∧ Below wo.heap.size wo wq)
              case atStart => exact ⟨0, [], by omega, rfl, World.ownsRow_nil _ _ _ _, rfl, Below.refl _ _⟩
              case round =>
                obtain ⟨k, acc, hk, rfl, howno, HA, hbq⟩ := hrel
                have hszq := hbq.size
                have HK := Lib.hid hk; clear hk
                by_cases hlt : k < n / 8
                · have hownq := own_below hown hbq
                  have hpc := Row.piece (o := 8 * k) (m := 8 * k + 8) (k := 8) hownq (by omega) (by omega)
                  rw [← List.map_take, ← List.map_drop] at hpc
                  have hst := chunk P k (by rw [HPL.out]; omega)
                  have hx : ((P.take (8 * k + 8)).drop (8 * k)).length = 8 := by rw [List.length_drop, List.length_take, HPL.out]; omega
                  obtain ⟨x, hxx⟩ : ∃ x, x = (P.take (8 * k + 8)).drop (8 * k) := ⟨_, rfl⟩
                  rw [← hxx] at hpc hst hx
                  have hnum := num_lt x
                  rw [hx] at hnum
                  obtain ⟨d, hd⟩ : ∃ d, d = num x := ⟨_, rfl⟩
                  have hd256 : d < 256 := by rw [hd]; exact hnum
                  have he : (d : Int) = (UInt8.ofNat d).toNat := by rw [Bs.toNat_ofNat_lt hd256]
                  rw [← hd] at hst
                  have HST := Lib.hid hst; clear hst
                  have HDX := Lib.hid hd; clear hd hnum hx hxx
                  have HE := Lib.hid he; clear he
                  have hk12 : k ≤ 1000000000000 := by omega
                  go_wp2_with fail
                  refine (number_any _ 8 _ x wr hpc (by decide)).mono ?_
                  rintro e w1 ⟨rfl, rfl⟩
                  rw [← HDX.out]
                  go_wp2_with (at_builtin; refine wpList_append_byte rfl (.tmp 66) (.tmp 76) rfl wr wo wo.heap.size _ k acc (UInt8.ofNat d) _ HE.out rfl rfl howno hbq hszq hk12 ?_; intro v' w1 howno1 hbq1)
                  go_roundg (gk - 1)
                  case rel =>
                    have hk := HK.out
                    refine ⟨k + 1, acc ++ [UInt8.ofNat d], by omega, by go_num, howno1, ?_, hbq1⟩
                    show _ = _
                    rw [← HA.out, HST.out, List.append_assoc]; rfl
                  case measure => have := HK.out; omega
                · obtain rfl : k = n / 8 := by have := HK.out; omega
                  have hfin : acc = by8 P := by
                    have := HA.out
                    rw [by8_short (P.drop (8 * (n / 8))) (by rw [List.length_drop, HPL.out]; omega), List.append_nil] at this
                    exact this
                  have HFIN := Lib.hid hfin; clear hfin
                  have hcv := own_string howno
                  go_wp2
                  go_ret2
                  rw [HD.out, ← HFIN.out]
                  exact ⟨rfl, nx hbw hbq⟩
        · have HD := Lib.hid (HNO.out (Or.inr (Or.inl hz0)))
          have hz1 : ((z : Int) != 0) = true := by rw [bne_iff_ne]; omega
          clear hz0
          go_wp2_with fail
          refine (NUM.out _ _ (by first | exact Or.inl ⟨hcut, rfl⟩ | exact Or.inr rfl)).mono ?_
          rintro e w1 ⟨rfl, rfl⟩
          go_wp2_with fail
          go_ret2
          rw [HD.out]
          exact ⟨rfl, hbw⟩
end Go.Proofs.Ytigjmelngddbjaa
