import Derived.Test.YtigjmelngddbjaaG
import Derived.Test.YtigjmelngddbjaaD
import Derived.Laws.DeepStrings4
namespace Go.Proofs.Ytigjmelngddbjaa
open Go.RowKit

theorem vl_none (c : UInt8) (h1 : c ≠ 45) (h2 : c ≠ 95) (h : ∀ j : Nat, j < 64 → Bs.sg j ≠ c) : Bs.vl c = -1 := by
  rcases Bs.vl_cases c with h0 | ⟨a, b, e⟩
  · exact h0
  · rw [Bs.plain, if_neg h1, if_neg h2] at e
    exact absurd e (h _ (by omega))

theorem sg_q (k : Nat) (hlt : k < 64) (c : UInt8) {b : Bool} (h : (((((⟨Bs.signs.toArray⟩ : ByteArray)[k]'hlt).toNat : Int)) == (c.toNat : Int)) = b) : Bs.sg k = c ↔ b = true := by
  rw [← lit_sg k hlt] at h
  subst h
  rw [beq_iff_eq]
  exact ⟨fun h => by rw [h], fun h => by apply UInt8.toNat_inj.1; omega⟩

set_option maxHeartbeats 1000000 in
theorem ref_value_any (c : UInt8) (w : World) : Calls Try.prog 24 #[.int .u8 c.toNat] w fun e w' => e = .returned (.int .i64 (Bs.vl c)) ∧ w = w' := by
  by_cases h1 : c = 45
  · subst h1
    go_enter Try.func24, Try.ntmps24
    go_wp2
    go_ret
    exact ⟨ret_int (by decide +kernel), rfl⟩
  by_cases h2 : c = 95
  · subst h2
    go_enter Try.func24, Try.ntmps24
    go_wp2
    go_ret
    exact ⟨ret_int (by decide +kernel), rfl⟩
  have e1 : ((c.toNat : Int) == 45) = false := by
    rw [beq_eq_false_iff_ne]; intro h; exact h1 (by apply UInt8.toNat_inj.1; simpa using (by omega : c.toNat = 45))
  have e2 : ((c.toNat : Int) == 95) = false := by
    rw [beq_eq_false_iff_ne]; intro h; exact h2 (by apply UInt8.toNat_inj.1; simpa using (by omega : c.toNat = 95))
  have H1 := Lib.hid h1; clear h1
  have H2 := Lib.hid h2; clear h2
  go_enter Try.func24, Try.ntmps24
  go_wp2
  go_loopg [3] 64 (fun gk i wr => ∃ k : Nat, k + gk = 64 ∧ i = .int .i64 k ∧ Hid (∀ j : Nat, j < k → Bs.sg j ≠ c) ∧ w = wr)
  case atStart => exact ⟨0, rfl, rfl, fun j h => absurd h (by omega), rfl⟩
  case round =>
    obtain ⟨k, hk, rfl, HA, rfl⟩ := hrel
    have HK := Lib.hid hk; clear hk
    by_cases hlt : k < 64
    · go_wp2
      · rename_i h
        have hq := (sg_q k hlt c h).2 rfl
        go_ret
        exact ⟨ret_int (by rw [← hq]; exact (Bs.vl_sg k hlt).symm), rfl⟩
      · rename_i h
        have hq : ¬ Bs.sg k = c := fun e => by have := (sg_q k hlt c h).1 e; cases this
        have HQ := Lib.hid hq; clear hq h
        go_roundg (gk - 1)
        case rel =>
          have hk := HK.out
          refine ⟨k + 1, by omega, by go_num, fun j hj => ?_, rfl⟩
          rcases (show j < k ∨ j = k by omega) with h | rfl
          · exact HA.out j h
          · exact HQ.out
        case measure => have := HK.out; omega
    · obtain rfl : k = 64 := by have := HK.out; omega
      have hv := vl_none c H1.out H2.out HA.out
      have HV := Lib.hid hv; clear hv
      go_wp2
      go_ret
      exact ⟨ret_int HV.out.symm, rfl⟩

/-- What is left to take off a text behind k rounds. -/
def hk : Nat → List UInt8 → List UInt8
  | 0, l => Bs.hd l
  | 1, l => Bs.strip l
  | _, l => l
theorem hk_nil (k : Nat) : hk k [] = [] := by
  rcases (show k = 0 ∨ k = 1 ∨ ∃ j, k = j + 2 by rcases k with _ | _ | k <;> simp) with rfl | rfl | ⟨j, rfl⟩ <;> rfl
theorem hk_other (k : Nat) (l : List UInt8) (c : UInt8) (hc : c ≠ 61) : hk k (l ++ [c]) = l ++ [c] := by
  rcases (show k = 0 ∨ k = 1 ∨ ∃ j, k = j + 2 by rcases k with _ | _ | k <;> simp) with rfl | rfl | ⟨j, rfl⟩
  · show Bs.strip (Bs.strip _) = _; rw [Bs.strip_other l c hc, Bs.strip_other l c hc]
  · exact Bs.strip_other l c hc
  · rfl
theorem hk_eq (k : Nat) (l : List UInt8) (h : k < 2) : hk k (l ++ [61]) = hk (k + 1) l := by
  rcases (show k = 0 ∨ k = 1 by omega) with rfl | rfl
  · show Bs.strip (Bs.strip _) = _; rw [Bs.strip_snoc]; rfl
  · exact Bs.strip_snoc l

theorem take_ext (s : ByteArray) (m : Nat) : (s.extract 0 m).data.toList = s.data.toList.take m := by rw [Lib.extract_data]; simp

set_option maxHeartbeats 1000000 in
theorem ref_head_any (s : ByteArray) (w : World) (hs : s.size ≤ 1000000000) : Calls Try.prog 23 #[.string s] w fun e w' => e = .returned (.string ⟨(Bs.hd s.data.toList).toArray⟩) ∧ w = w' := by
  go_enter Try.func23, Try.ntmps23
  go_wp2
  go_loopg [4, 3] 2 (fun gk i n wr => ∃ k m : Nat, k + gk = 2 ∧ i = .int .i64 k ∧ n = .int .i64 m ∧ m ≤ s.size ∧ Hid (hk k (s.data.toList.take m) = Bs.hd s.data.toList) ∧ w = wr)
  case atStart => exact ⟨0, s.size, rfl, rfl, rfl, Nat.le_refl _, by rw [take_all]; rfl, rfl⟩
  case round =>
    obtain ⟨k, m, hk2, rfl, rfl, hm, HA, rfl⟩ := hrel
    have HK := Lib.hid hk2; clear hk2
    have hfin : hk k (s.data.toList.take m) = s.data.toList.take m → (s.extract 0 m) = ⟨(Bs.hd s.data.toList).toArray⟩ := by
      intro h
      rw [← HA.out, h, ← take_ext, mk_data']
    have HF := Lib.hid hfin; clear hfin
    by_cases hlt : k < 2
    · cases m with
      | zero =>
        have e := HF.out (by rw [List.take_zero]; exact hk_nil k)
        have HE := Lib.hid e; clear e
        go_wp2
        go_ret
        exact ⟨ret_str (by rw [← HE.out]; simp), rfl⟩
      | succ m =>
        have ht := take_snoc s m (by omega)
        have HT := Lib.hid ht; clear ht
        have hm0 : m < s.size := by omega
        by_cases hc : s[m] = 61
        · have hq : ((s[m].toNat : Int) == 61) = true := by rw [hc]; rfl
          have HC := Lib.hid hc; clear hc
          go_wp2
          go_roundg (gk - 1)
          case rel =>
            have hk2 := HK.out
            refine ⟨k + 1, m, by omega, by go_num, by go_num, by omega, ?_, rfl⟩
            show _ = _
            rw [← HA.out, HT.out, HC.out, hk_eq k _ hlt]
          case measure => have := HK.out; omega
        · have hq : ((s[m].toNat : Int) == 61) = false := by
            rw [beq_eq_false_iff_ne]; intro h; exact hc (by apply UInt8.toNat_inj.1; simpa using (by omega : s[m].toNat = 61))
          have e := HF.out (by rw [HT.out]; exact hk_other k _ _ hc)
          have HE := Lib.hid e; clear e hc
          go_wp2
          go_ret
          exact ⟨ret_str HE.out, rfl⟩
    · obtain ⟨rfl⟩ : k = 2 := by have := HK.out; omega
      have e := HF.out rfl
      have HE := Lib.hid e; clear e
      go_wp2
      go_ret
      exact ⟨ret_str HE.out, rfl⟩

set_option maxHeartbeats 1000000 in
theorem ref_form_any (s : ByteArray) (w : World) (hs : s.size ≤ 1000000000) : Calls Try.prog 15 #[.string s] w fun e w' => e = .returned (.bool (Bs.form s.data.toList)) ∧ w = w' := by
  have hl : (Bs.hd s.data.toList).length ≤ s.size := by
    rw [← size_len]
    obtain ⟨k, _, h⟩ := Bs.hd_eq s.data.toList
    have := congrArg List.length h
    rw [List.length_append] at this; omega
  go_enter Try.func15, Try.ntmps15
  go_wp2_with fail
  refine (ref_head_any s _ (by omega)).mono ?_
  rintro e w' ⟨rfl, rfl⟩
  obtain ⟨hb, hhb⟩ : ∃ hb : ByteArray, hb = ⟨(Bs.hd s.data.toList).toArray⟩ := ⟨_, rfl⟩
  have hbl : hb.data.toList = Bs.hd s.data.toList := by rw [hhb]
  have hbs : hb.size = (Bs.hd s.data.toList).length := by rw [← size_len, hbl]
  have hbz : hb.size ≤ 1000000000 := by rw [hbs]; omega
  rw [← hhb]
  have HL := Lib.hid hbl
  have HH := Lib.hid hhb
  have HS := Lib.hid hbs
  clear hbl hhb hbs
  go_wp2
  go_loopg [4] hb.size (fun gk i wr => ∃ k : Nat, k + gk = hb.size ∧ i = .int .i64 k ∧ Hid (((hb.data.toList.take k).all fun c => decide (0 ≤ Bs.vl c)) = true) ∧ w = wr)
  case atStart => exact ⟨0, by omega, rfl, rfl, rfl⟩
  case round =>
    obtain ⟨k, hk, rfl, HA, rfl⟩ := hrel
    have HK := Lib.hid hk; clear hk
    by_cases hlt : k < hb.size
    · have hts := take_snoc hb k hlt
      have HT := Lib.hid hts; clear hts
      by_cases hv : Bs.vl hb[k] < 0
      · have hmem : hb[k] ∈ hb.data.toList := by
          have : hb[k] ∈ hb.data.toList.take (k + 1) := by rw [HT.out]; simp
          exact List.mem_of_mem_take this
        have hall : (hb.data.toList.all fun c => decide (0 ≤ Bs.vl c)) = false := by
          rw [List.all_eq_false]
          exact ⟨hb[k], hmem, by simp; omega⟩
        have HALL := Lib.hid hall; clear hall hmem
        go_wp2_with (go_at_call 24; refine (ref_value_any _ _).mono ?_; rintro e w' ⟨rfl, rfl⟩)
        go_ret
        refine ⟨ret_bool ?_, rfl⟩
        rw [Bs.form, ← HL.out, HALL.out]; rfl
      · go_wp2_with (go_at_call 24; refine (ref_value_any _ _).mono ?_; rintro e w' ⟨rfl, rfl⟩)
        go_roundg (gk - 1)
        case rel =>
          have hk := HK.out
          refine ⟨k + 1, by omega, by go_num, ?_, rfl⟩
          show _ = _
          rw [HT.out, List.all_append, HA.out]
          simp; omega
        case measure => have := HK.out; omega
    · obtain rfl : k = hb.size := by have := HK.out; omega
      have hl : List.take hb.size hb.data.toList = hb.data.toList := List.take_of_length_le (by rw [size_len]; exact Nat.le_refl _)
      have HLT := Lib.hid hl; clear hl
      go_wp2
      go_ret
      refine ⟨ret_bool ?_, rfl⟩
      have := HA.out
      rw [HLT.out] at this
      rw [Bs.form, ← HL.out, this, Lib.toList_data]
      cases hb.data.toList <;> rfl

set_option maxHeartbeats 1000000 in
theorem plain_any (s : ByteArray) (w : World) (hs : s.size ≤ 1000000000) : Calls Try.prog 16 #[.string s] w fun e w' => e = .returned (.string ⟨(s.data.toList.map Bs.plain).toArray⟩) ∧ Below w.heap.size w w' := by
  go_enter Try.func16, Try.ntmps16
  go_wp2
  go_loopg [3, 4] s.size (fun gk v i wr => ∃ k : Nat, k + gk = s.size ∧ i = .int .i64 k ∧ wr.ownsRow w.heap.size 5 1 v k (Lib.byteCells ((s.data.toList.take k).map Bs.plain)) ∧ Below w.heap.size w wr)
  case atStart => exact ⟨0, by omega, rfl, World.ownsRow_nil _ _ _ _, Below.refl _ _⟩
  case round =>
    obtain ⟨k, hk, rfl, hown, hbw⟩ := hrel
    have HK := Lib.hid hk; clear hk
    have hsz := hbw.size
    by_cases hlt : k < s.size
    · have ht := take_snoc s k hlt
      have hm : (s.data.toList.take (k + 1)).map Bs.plain = (s.data.toList.take k).map Bs.plain ++ [Bs.plain s[k]] := by rw [ht]; simp
      have HM := Lib.hid hm; clear hm ht
      have hk12 : k ≤ 1000000000000 := by omega
      by_cases h1 : s[k] = 45
      · have he : (43 : Int) = (Bs.plain s[k]).toNat := by rw [h1]; rfl
        have hq : ((s[k].toNat : Int) == 45) = true := by rw [h1]; rfl
        have HE := Lib.hid he; clear he h1
        go_wp2_with (at_builtin; refine wpList_append_byte rfl (.tmp 19) (.tmp 21) rfl wr w w.heap.size _ k _ (Bs.plain s[k]) _ HE.out rfl rfl hown hbw hsz hk12 ?_; intro v' w1 hown1 hbw1)
        go_roundg (gk - 1)
        case rel =>
          have hk := HK.out
          exact ⟨k + 1, by omega, by go_num, by rw [HM.out]; exact hown1, hbw1⟩
        case measure => have := HK.out; omega
      · have hq : ((s[k].toNat : Int) == 45) = false := by
          rw [beq_eq_false_iff_ne]; intro h; exact h1 (by apply UInt8.toNat_inj.1; simpa using (by omega : s[k].toNat = 45))
        by_cases h2 : s[k] = 95
        · have he : (47 : Int) = (Bs.plain s[k]).toNat := by rw [h2]; rfl
          have hq2 : ((s[k].toNat : Int) == 95) = true := by rw [h2]; rfl
          have HE := Lib.hid he; clear he h1 h2
          go_wp2_with (at_builtin; refine wpList_append_byte rfl (.tmp 19) (.tmp 21) rfl wr w w.heap.size _ k _ (Bs.plain s[k]) _ HE.out rfl rfl hown hbw hsz hk12 ?_; intro v' w1 hown1 hbw1)
          go_roundg (gk - 1)
          case rel =>
            have hk := HK.out
            exact ⟨k + 1, by omega, by go_num, by rw [HM.out]; exact hown1, hbw1⟩
          case measure => have := HK.out; omega
        · have hq2 : ((s[k].toNat : Int) == 95) = false := by
            rw [beq_eq_false_iff_ne]; intro h; exact h2 (by apply UInt8.toNat_inj.1; simpa using (by omega : s[k].toNat = 95))
          have he : (s[k].toNat : Int) = (Bs.plain s[k]).toNat := by rw [Bs.plain, if_neg h1, if_neg h2]
          have HE := Lib.hid he; clear he h1 h2
          go_wp2_with (at_builtin; refine wpList_append_byte rfl (.tmp 19) (.tmp 21) rfl wr w w.heap.size _ k _ (Bs.plain s[k]) _ HE.out rfl rfl hown hbw hsz hk12 ?_; intro v' w1 hown1 hbw1)
          go_roundg (gk - 1)
          case rel =>
            have hk := HK.out
            exact ⟨k + 1, by omega, by go_num, by rw [HM.out]; exact hown1, hbw1⟩
          case measure => have := HK.out; omega
    · obtain rfl : k = s.size := by have := HK.out; omega
      rw [take_all] at hown
      have hstr := own_string hown
      go_wp2
      go_ret
      exact ⟨rfl, hbw⟩
end Go.Proofs.Ytigjmelngddbjaa
