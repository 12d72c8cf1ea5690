import Derived.Test.YtfhkjegmhnpgeaaDoorB
import Derived.Deep.RegionWith
import Derived.Deep.RegionHeld3
import Derived.Laws.DeepStrings4
namespace Go.Proofs.YtfhkjegmhnpgeaaDoor
open Go.RowKit

theorem point_quiet (n : Nat) (w : World) (k : Nat) {b : Bool} (h : (decide (0 ≤ (n : Int)) && Ut.ok (n : Int).toNat) = b) : Calls Tryd.prog 30 #[.int .i64 n] (w.drewN k) fun e w' => e = .returned (.bool b) ∧ ∃ m, w' = w.drewN m := by
  subst h
  refine (point_any _ _).mono ?_
  rintro e w' ⟨rfl, rfl⟩
  exact ⟨rfl, k, rfl⟩

/-- The bits of a code point, one byte more at a time. -/
def fv (m : Nat) (l : List UInt8) : Nat → Nat
  | 0 => m
  | i + 1 => 64 * fv m l i + (l.getD (i + 1) 0).toNat % 64
/-- The document's first code point. -/
def rf (l : List UInt8) : Nat × Nat :=
  if (ld (l.getD 0 0)).1 = 0 ∨ l.length < (ld (l.getD 0 0)).1 then (0, 0)
  else if Ut.ok (fv (ld (l.getD 0 0)).2 l ((ld (l.getD 0 0)).1 - 1)) = true ∧ Ut.by_ (fv (ld (l.getD 0 0)).2 l ((ld (l.getD 0 0)).1 - 1)) = l.take (ld (l.getD 0 0)).1 then (fv (ld (l.getD 0 0)).2 l ((ld (l.getD 0 0)).1 - 1), (ld (l.getD 0 0)).1)
  else (0, 0)

theorem ld_by (r : Nat) (h : Ut.ok r = true) (y : List UInt8) : (ld ((Ut.by_ r ++ y).getD 0 0)).1 = (Ut.by_ r).length ∧ fv (ld ((Ut.by_ r ++ y).getD 0 0)).2 (Ut.by_ r ++ y) ((Ut.by_ r).length - 1) = r := by
  simp only [Ut.ok, decide_eq_true_eq] at h
  unfold Ut.by_
  split
  · simp only [List.cons_append, List.nil_append, List.getD_cons_zero, List.length_cons, List.length_nil]
    unfold ld
    rw [Ut.toNat_lt (by omega), if_pos (by omega)]
    exact ⟨rfl, rfl⟩
  · split
    · simp only [List.cons_append, List.nil_append, List.getD_cons_zero, List.length_cons, List.length_nil]
      unfold ld
      rw [Ut.toNat_lt (by omega), if_neg (by omega), if_pos (by omega)]
      refine ⟨rfl, ?_⟩
      simp only [Nat.reduceAdd, Nat.reduceSub, fv, List.getD_cons_zero, List.getD_cons_succ]
      rw [Ut.toNat_lt (by omega)]; omega
    · split
      · simp only [List.cons_append, List.nil_append, List.getD_cons_zero, List.length_cons, List.length_nil]
        unfold ld
        rw [Ut.toNat_lt (by omega), if_neg (by omega), if_neg (by omega), if_pos (by omega)]
        refine ⟨rfl, ?_⟩
        simp only [Nat.reduceAdd, Nat.reduceSub, fv, List.getD_cons_zero, List.getD_cons_succ]
        rw [Ut.toNat_lt (by omega), Ut.toNat_lt (by omega)]; omega
      · simp only [List.cons_append, List.nil_append, List.getD_cons_zero, List.length_cons, List.length_nil]
        unfold ld
        rw [Ut.toNat_lt (by omega), if_neg (by omega), if_neg (by omega), if_neg (by omega), if_pos (by omega)]
        refine ⟨rfl, ?_⟩
        simp only [Nat.reduceAdd, Nat.reduceSub, fv, List.getD_cons_zero, List.getD_cons_succ]
        rw [Ut.toNat_lt (by omega), Ut.toNat_lt (by omega), Ut.toNat_lt (by omega)]; omega

theorem rf_by (r : Nat) (h : Ut.ok r = true) (y : List UInt8) : rf (Ut.by_ r ++ y) = (r, (Ut.by_ r).length) := by
  obtain ⟨h1, h2⟩ := ld_by r h y
  have hp := Ut.by_len r
  unfold rf
  rw [h1, h2, if_neg (by rw [List.length_append]; omega), if_pos ⟨h, by simp⟩]
theorem rf_eq (l : List UInt8) (hl : l ≠ []) : rf l = if Ut.dN l = (65533, 1) then (0, 0) else Ut.dN l := by
  by_cases hb : Ut.dN l = (65533, 1)
  · rw [if_pos hb]
    unfold rf
    split
    · rfl
    · split
      · rename_i h1 h2
        exfalso
        obtain ⟨h3, h4⟩ := h2
        obtain ⟨r, hr⟩ : ∃ r, r = fv (ld (l.getD 0 0)).2 l ((ld (l.getD 0 0)).1 - 1) := ⟨_, rfl⟩
        rw [← hr] at h3 h4
        have e : l = Ut.by_ r ++ l.drop (ld (l.getD 0 0)).1 := by rw [h4]; exact (List.take_append_drop _ l).symm
        have := Ut.dN_by r h3 (l.drop (ld (l.getD 0 0)).1)
        rw [← e, hb] at this
        injection this with e1 e2
        rw [← e1] at e2
        exact absurd e2 (by decide +kernel)
      · rfl
  · rw [if_neg hb]
    obtain ⟨h1, h2⟩ := Ut.dN_take l hl hb
    have e : l = Ut.by_ (Ut.dN l).1 ++ l.drop (Ut.dN l).2 := by rw [← h1]; exact (List.take_append_drop _ l).symm
    have h3 := rf_by _ h2 (l.drop (Ut.dN l).2)
    have h4 := Ut.dN_by _ h2 (l.drop (Ut.dN l).2)
    rw [← e] at h3 h4
    rw [h3, ← h4]

theorem ld_facts (c : UInt8) : (ld c).1 ≤ 4 ∧ (ld c).2 ≤ 127 := by
  have := c.toNat_lt
  unfold ld
  split
  · simp only; omega
  · split
    · simp only; omega
    · split
      · simp only; omega
      · split
        · simp only; omega
        · simp
theorem fv_lt (m : Nat) (l : List UInt8) (hm : m ≤ 127) (i : Nat) (hi : i ≤ 3) : fv m l i < 33554432 := by
  have h0 : fv m l 0 = m := rfl
  have h1 : fv m l 1 = 64 * fv m l 0 + (l.getD 1 0).toNat % 64 := rfl
  have h2 : fv m l 2 = 64 * fv m l 1 + (l.getD 2 0).toNat % 64 := rfl
  have h3 : fv m l 3 = 64 * fv m l 2 + (l.getD 3 0).toNat % 64 := rfl
  rcases (show i = 0 ∨ i = 1 ∨ i = 2 ∨ i = 3 by omega) with rfl | rfl | rfl | rfl <;> omega

def PairB (a b : Nat) (w : World) (e : Ending) (w' : World) : Prop := e = .returned (.tuple #[.int .i64 a, .int .i64 b]) ∧ Below w.heap.size w w'

set_option maxRecDepth 100000 in
set_option maxHeartbeats 2000000 in
theorem first_any (s : ByteArray) (w : World) (h0 : 0 < s.size) (hs : s.size ≤ 1000000) : Calls Tryd.prog 27 #[.string s] w (PairB (rf s.data.toList).1 (rf s.data.toList).2 w) := by
  have hx0 : s[0] = s.data.toList.getD 0 0 := by rw [List.getD_eq_getElem?_getD, byte_at s 0 h0]; rfl
  have hsl := size_len s
  obtain ⟨hk4, hm127⟩ := ld_facts s[0]
  have hlead := lead_any s[0]
  have hrf : rf s.data.toList = if (ld s[0]).1 = 0 ∨ s.size < (ld s[0]).1 then (0, 0)
      else if Ut.ok (fv (ld s[0]).2 s.data.toList ((ld s[0]).1 - 1)) = true ∧ Ut.by_ (fv (ld s[0]).2 s.data.toList ((ld s[0]).1 - 1)) = s.data.toList.take (ld s[0]).1 then (fv (ld s[0]).2 s.data.toList ((ld s[0]).1 - 1), (ld s[0]).1)
      else (0, 0) := by rw [hx0, ← hsl]; rfl
  obtain ⟨k, hk⟩ : ∃ k, k = (ld s[0]).1 := ⟨_, rfl⟩
  obtain ⟨m, hm⟩ : ∃ m, m = (ld s[0]).2 := ⟨_, rfl⟩
  rw [← hk, ← hm] at hrf
  rw [← hk] at hk4
  rw [← hm] at hm127
  have hlead' : ∀ w, Calls Tryd.prog 36 #[.int .u8 s[0].toNat] w (Pair k m w) := by intro w; rw [hk, hm]; exact hlead w
  clear hlead hx0 hk hm hsl
  obtain ⟨R, hR⟩ : ∃ R, R = rf s.data.toList := ⟨_, rfl⟩
  rw [← hR]
  rw [hrf] at hR
  have HL := Lib.hid hlead'; clear hlead' hrf
  by_cases hk0 : k = 0
  · rw [if_pos (Or.inl hk0)] at hR
    subst hk0; subst hR
    go_enter Tryd.func27, Tryd.ntmps27
    go_wp2_with fail
    refine (HL.out _).mono ?_
    rintro e w1 ⟨rfl, rfl⟩
    go_wp2
    go_ret2
    exact ⟨rfl, Below.refl _ _⟩
  by_cases hks : s.size < k
  · rw [if_pos (Or.inr hks)] at hR
    subst hR
    have hk0' : ((k : Int) == 0) = false := by rw [beq_eq_false_iff_ne]; omega
    go_enter Tryd.func27, Tryd.ntmps27
    go_wp2_with fail
    refine (HL.out _).mono ?_
    rintro e w1 ⟨rfl, rfl⟩
    go_wp2
    go_ret2
    exact ⟨rfl, Below.refl _ _⟩
  rw [if_neg (by omega)] at hR
  have HR := Lib.hid hR; clear hR
  have hk0' : ((k : Int) == 0) = false := by rw [beq_eq_false_iff_ne]; omega
  go_enter Tryd.func27, Tryd.ntmps27
  go_wp2_with fail
  refine (HL.out _).mono ?_
  rintro e w1 ⟨rfl, rfl⟩
  go_wp2
  go_loopg [5, 6] (k - 1) (fun gk v i wr => ∃ j : Nat, j + 1 + gk = k ∧ i = .int .i64 (j + 1 : Nat) ∧ v = .int .i64 (fv m s.data.toList j : Nat) ∧ w = wr)
  case atStart => exact ⟨0, by omega, rfl, rfl, rfl⟩
  case round =>
    obtain ⟨j, hj, rfl, rfl, rfl⟩ := hrel
    have hj3 : j ≤ 3 := by omega
    have hfl := fv_lt m s.data.toList hm127 j hj3
    obtain ⟨n, hn⟩ : ∃ n, n = fv m s.data.toList j := ⟨_, rfl⟩
    rw [← hn] at hfl ⊢
    obtain ⟨q, hq⟩ : ∃ q, q = j + 1 := ⟨_, rfl⟩
    rw [← hq] at hj ⊢
    have hq4 : q ≤ 4 := by omega
    have HJ := Lib.hid hj
    by_cases hlt : q < k
    · have hqs : q < s.size := by omega
      have hx : (s[q].toNat : Nat) = (s.data.toList.getD q 0).toNat := by rw [List.getD_eq_getElem?_getD, byte_at s q hqs]; rfl
      have hxl := s[q].toNat_lt
      have hnx : fv m s.data.toList q = 64 * n + s[q].toNat % 64 := by rw [hx, hn, hq]; rfl
      have HX := Lib.hid hnx; clear hnx hx
      have HN := Lib.hid hn; clear hn
      clear hq hj
      go_wp2
      go_roundg (gk - 1)
      case rel =>
        have hj := HJ.out
        exact ⟨q, by omega, by go_num, by rw [HX.out]; go_num, rfl⟩
      case measure => have := HJ.out; omega
    · obtain rfl : q = k := by omega
      have hjk : j = q - 1 := by omega
      have hR := HR.out
      rw [← hjk, ← hn] at hR
      clear HR
      have HN := Lib.hid hn; clear hn hq hj hjk HJ
      cases hok : Ut.ok n with
      | false =>
        have hpt : (decide (0 ≤ (n : Int)) && Ut.ok (n : Int).toNat) = false := by rw [Int.toNat_natCast, hok, Bool.and_false]
        have HP := Lib.hid hpt; clear hpt
        rw [if_neg (by rw [hok]; simp)] at hR
        subst hR
        clear hok
        go_wp2_with fail
        go_quiet (first | (go_at_call 30; exact point_quiet n _ _ HP.out))
        go_wp2
        go_ret2
        exact ⟨rfl, below_drewN' _ _⟩
      | true =>
        have hpt : (decide (0 ≤ (n : Int)) && Ut.ok (n : Int).toNat) = true := by rw [Int.toNat_natCast, hok, Bool.and_true]; simp
        have HP := Lib.hid hpt; clear hpt
        have hn11 : n ≤ 1114111 := by simp [Ut.ok] at hok; omega
        have HOK := Lib.hid hok; clear hok
        obtain ⟨t, ht⟩ : ∃ t : ByteArray, t = ⟨(Ut.by_ n).toArray⟩ := ⟨_, rfl⟩
        have hb : ∀ w, Calls Tryd.prog 35 #[.int .i64 n] w fun e w' => e = .returned (.string t) ∧ Below w.heap.size w w' := by intro w; rw [ht]; exact bytes_any n hn11 w
        have HB := Lib.hid hb; clear hb
        have hcmp : Ut.by_ n = s.data.toList.take q ↔ t.data.toList = (s.extract 0 q).data.toList := by
          rw [ht, Lib.extract_data]; simp
        have HC := Lib.hid hcmp; clear hcmp ht
        have b1 : (0 : Int) ≤ q := by omega
        have b2 : (q : Int) ≤ s.size := by omega
        by_cases heq : t.data.toList = (s.extract 0 q).data.toList
        · rw [if_pos ⟨HOK.out, HC.out.2 heq⟩] at hR
          subst hR
          have hq2 : (t.toList == (s.extract 0 q).toList) = true := by rw [Lib.toList_data, Lib.toList_data, heq]; simp
          obtain rfl : t = s.extract 0 q := ByteArray.ext (Array.toList_inj.1 heq)
          clear heq
          go_wp2_with fail
          go_region_held3 (fun _ => True) (trivial) (first | (go_at_call 30; refine (point_any _ _).mono ?_; rw [HP.out]; rintro e w' ⟨rfl, rfl⟩) | (go_at_call 35; refine (HB.out _).mono ?_; rintro e w2 ⟨rfl, hb2⟩))
          go_wp2
          go_ret2
          exact ⟨rfl, ⟨hb2.os, hb2.tape, hb2.output, hb2.size, hb2.block⟩⟩
        · rw [if_neg (fun h => heq (HC.out.1 h.2))] at hR
          subst hR
          have hq2 : (t.toList == (s.extract 0 q).toList) = false := by rw [Lib.toList_data, Lib.toList_data, beq_eq_false_iff_ne]; exact heq
          clear heq
          go_wp2_with fail
          go_region_held3 (fun _ => True) (trivial) (first | (go_at_call 30; refine (point_any _ _).mono ?_; rw [HP.out]; rintro e w' ⟨rfl, rfl⟩) | (go_at_call 35; refine (HB.out _).mono ?_; rintro e w2 ⟨rfl, hb2⟩))
          go_wp2
          go_ret2
          exact ⟨rfl, ⟨hb2.os, hb2.tape, hb2.output, hb2.size, hb2.block⟩⟩
end Go.Proofs.YtfhkjegmhnpgeaaDoor
