import Derived.Test.YtigjmelngddbjaaA
import Derived.Maps.AppendAt
import Derived.Laws.BytesArg
namespace Go.Proofs.Ytigjmelngddbjaa
open Go.RowKit

theorem wraps_i64 (n : Int) (h0 : 0 ≤ n) (h1 : n < 2 ^ 40) : IntKind.i64.wrap n = n := by rw [IntKind.wrap_i64]; omega
theorem or6 (x y : Int) (hx0 : 0 ≤ x) (hx : x < 1000000) (hy0 : 0 ≤ y) (hy : y < 64) : bits .or .i64 (x * 64) y = x * 64 + y :=
  bits_join .i64 40 (by decide) wraps_i64 6 (x * 64) y (by omega) (by omega) (by omega) hy0 (by omega) (by omega)
theorem or8 (x y : Int) (hx0 : 0 ≤ x) (hx : x < 1000000) (hy0 : 0 ≤ y) (hy : y < 256) : bits .or .i64 (x * 256) y = x * 256 + y :=
  bits_join .i64 40 (by decide) wraps_i64 8 (x * 256) y (by omega) (by omega) (by omega) hy0 (by omega) (by omega)
theorem and63 (x : Int) (hx0 : 0 ≤ x) (hx : x < 1000000000) : bits .and .i64 x 63 = x % 64 := bits_mask .i64 40 (by decide) wraps_i64 6 (by decide) x hx0 (by omega)
theorem and15 (x : Int) (hx0 : 0 ≤ x) (hx : x < 1000000000) : bits .and .i64 x 15 = x % 16 := bits_mask .i64 40 (by decide) wraps_i64 4 (by decide) x hx0 (by omega)
theorem and3 (x : Int) (hx0 : 0 ≤ x) (hx : x < 1000000000) : bits .and .i64 x 3 = x % 4 := bits_mask .i64 40 (by decide) wraps_i64 2 (by decide) x hx0 (by omega)
theorem and0 (x : Int) (hx0 : 0 ≤ x) (hx : x < 1000000000) : bits .and .i64 x 0 = 0 := by
  have := bits_mask .i64 40 (by decide) wraps_i64 0 (by decide) x hx0 (by omega)
  simpa using this

theorem decD_snoc (l : List Nat) (v : Nat) : Bs.decD (l ++ [v]) = if l.length % 4 = 0 then ((Bs.decD l).1, v) else if l.length % 4 = 1 then ((Bs.decD l).1 ++ [UInt8.ofNat (((Bs.decD l).2 * 64 + v) / 16)], ((Bs.decD l).2 * 64 + v) % 16) else if l.length % 4 = 2 then ((Bs.decD l).1 ++ [UInt8.ofNat (((Bs.decD l).2 * 64 + v) / 4)], ((Bs.decD l).2 * 64 + v) % 4) else ((Bs.decD l).1 ++ [UInt8.ofNat ((Bs.decD l).2 * 64 + v)], 0) := by
  induction l using Bs.decD.induct with
  | case1 => simp [Bs.decD]
  | case2 a => simp [Bs.decD]
  | case3 a b => simp [Bs.decD]
  | case4 a b c => simp [Bs.decD]
  | case5 a b c d r ih =>
    have e : (a :: b :: c :: d :: r).length % 4 = r.length % 4 := by simp only [List.length_cons]; omega
    rw [e]
    simp only [List.cons_append, Bs.decD, ih]
    split
    · rfl
    · split
      · rfl
      · split <;> rfl
theorem decD_bound (l : List Nat) (hl : ∀ n ∈ l, n < 64) : (l.length % 4 = 0 → (Bs.decD l).2 = 0) ∧ (l.length % 4 = 1 → (Bs.decD l).2 < 64) ∧ (l.length % 4 = 2 → (Bs.decD l).2 < 16) ∧ (l.length % 4 = 3 → (Bs.decD l).2 < 4) := by
  induction l using Bs.decD.induct with
  | case1 => simp [Bs.decD]
  | case2 a => have := hl a (by simp); simp [Bs.decD]; omega
  | case3 a b => simp [Bs.decD]; omega
  | case4 a b c => simp [Bs.decD]; omega
  | case5 a b c d r ih =>
    have e : (a :: b :: c :: d :: r).length % 4 = r.length % 4 := by simp only [List.length_cons]; omega
    rw [e]
    exact ih fun n hn => hl n (by simp [hn])

def DecOut (r : Option (List UInt8)) (w : World) (e : Ending) (w' : World) : Prop := e = .returned (.tuple #[.string ⟨(r.getD []).toArray⟩, .bool r.isSome]) ∧ Below w.heap.size w w'

theorem good_parts {l : List UInt8} (h : Bs.bad l = false) : Bs.form l = true ∧ ((((Bs.hd l).length : Int) % 4 == 1) = false) ∧ ((Bs.hd l == l) = true ∨ (Bs.hd l == l) = false ∧ ((l.length : Int) % 4 != 0) = false) := by
  unfold Bs.bad at h
  rw [Bool.or_eq_false_iff, Bool.or_eq_false_iff] at h
  obtain ⟨⟨h1, h2⟩, h3⟩ := h
  refine ⟨by simpa using h1, ?_, ?_⟩
  · rw [beq_eq_false_iff_ne] at h2 ⊢; omega
  · cases he : (Bs.hd l == l) with
    | true => left; rfl
    | false =>
      right
      rw [he] at h3
      simp at h3
      exact ⟨rfl, by rw [bne_eq_false_iff_eq]; omega⟩
theorem vl_nat (hb : ByteArray) (h : (hb.data.toList.all fun c => decide (0 ≤ Bs.vl c)) = true) (k : Nat) (hk : k < hb.size) : ∃ d : Nat, d < 64 ∧ Bs.vl hb[k] = (d : Int) := by
  have hmem : hb[k] ∈ hb.data.toList := by
    have : hb[k] ∈ hb.data.toList.take (k + 1) := by rw [take_snoc hb k hk]; simp
    exact List.mem_of_mem_take this
  have := List.all_eq_true.1 h _ hmem
  simp only [decide_eq_true_eq] at this
  rcases Bs.vl_cases hb[k] with h | h
  · omega
  · exact ⟨(Bs.vl hb[k]).toNat, by omega, by omega⟩

theorem nums_snoc (hb : ByteArray) (k : Nat) (hk : k < hb.size) (d : Nat) (hd : Bs.vl hb[k] = (d : Int)) : Bs.nums (hb.data.toList.take (k + 1)) = Bs.nums (hb.data.toList.take k) ++ [d] := by
  rw [take_snoc hb k hk, Bs.nums, List.map_append, ← Bs.nums]; simp [hd]
theorem nums_len (hb : ByteArray) (k : Nat) (hk : k ≤ hb.size) : (Bs.nums (hb.data.toList.take k)).length = k := by
  rw [Bs.nums, List.length_map, List.length_take, size_len]; omega

set_option maxHeartbeats 2000000 in
theorem dec_loop (hb : ByteArray) (l : List UInt8) (w : World) (hs : hb.size ≤ 1000000000) (hl : hb.data.toList = Bs.hd l) (hsz : l.length ≤ 1000000000) (h0 : l ≠ []) (hbad : Bs.bad l = false)  :
    Calls Try.prog 12 #[.string ⟨l.toArray⟩] w (DecOut (Bs.dec l) w) := by
  have e0 : (l == []) = false := by rw [beq_eq_false_iff_ne]; exact h0
  have e1 : l.isEmpty = false := by cases l with | nil => exact absurd rfl h0 | cons => rfl
  obtain ⟨hf, g1, g2⟩ := good_parts hbad
  have hall : (hb.data.toList.all fun c => decide (0 ≤ Bs.vl c)) = true := by rw [hl]; unfold Bs.form at hf; simp only [Bool.and_eq_true] at hf; exact hf.1
  have hbe : (⟨(Bs.hd l).toArray⟩ : ByteArray) = hb := by rw [← hl]
  have HALL := Lib.hid hall; clear hall
  have HBE := Lib.hid hbe; clear hbe
  have HF := Lib.hid hf; clear hf
  have HL := Lib.hid hl; clear hl
  have H0 := Lib.hid h0; clear h0
  have HBAD := Lib.hid hbad; clear hbad
  obtain ⟨i0, hi, hz0, hz1, hz2⟩ := info_parts byte_info
  have hbsz : hb.size = (Bs.hd l).length := by rw [← size_len, HL.out]
  have HBS := Lib.hid hbsz; clear hbsz
  rcases g2 with g2 | ⟨g2, g3⟩
  all_goals
    go_enter Try.func12, Try.ntmps12
    go_wp2_with fail
    refine (head_any _ _ ?_).mono ?_
    · rw [← size_len]; exact Nat.le_trans (show _ ≤ 1000000000 from hsz) (by decide)
    rintro e w' ⟨rfl, rfl⟩
    go_wp2_with fail
    refine (form_any _ _ ?_).mono ?_
    · rw [← size_len]; exact hsz
    rw [HF.out]
    rintro e w' ⟨rfl, rfl⟩
    go_wp2
    rw [HBE.out, ← HBS.out]
    go_loopg [5, 6, 7, 37] hb.size (fun gk v b n i wr => ∃ k : Nat, k + gk = hb.size ∧ i = .int .i64 k ∧ b = .int .i64 ((6 * k % 8 : Nat) : Int) ∧ n = .int .i64 ((Bs.decD (Bs.nums (hb.data.toList.take k))).2 : Nat) ∧ (∃ m, wr.ownsRow w.heap.size 5 1 v m (Lib.byteCells (Bs.decD (Bs.nums (hb.data.toList.take k))).1)) ∧ Below w.heap.size w wr)
    case atStart => exact ⟨0, by omega, rfl, rfl, rfl, ⟨0, World.ownsRow_nil _ _ _ _⟩, Below.refl _ _⟩
    case round =>
      obtain ⟨k, hk, rfl, rfl, rfl, ⟨m, hown⟩, hbw⟩ := hrel
      have HK := Lib.hid hk; clear hk
      have hsz' := hbw.size
      by_cases hlt : k < hb.size
      · obtain ⟨d, hd, hvd⟩ := vl_nat hb HALL.out k hlt
        have hns := nums_snoc hb k hlt d hvd
        have hnl := nums_len hb k (by omega)
        have hbd := decD_bound (Bs.nums (hb.data.toList.take k)) (Bs.nums_lt _ (by
          have h := HALL.out
          rw [List.all_eq_true] at h ⊢
          exact fun c hc => h c (List.mem_of_mem_take hc)))
        have hsn := decD_snoc (Bs.nums (hb.data.toList.take k)) d
        have hml : (Bs.decD (Bs.nums (hb.data.toList.take k))).1.length = m := by have := hown.1; rw [Lib.byteCells_length] at this; omega
        have hmb := Bs.decD_length (Bs.nums (hb.data.toList.take k))
        rw [hnl] at hbd hsn hmb
        rw [← hns] at hsn
        obtain ⟨o, ho⟩ : ∃ o, o = (Bs.decD (Bs.nums (hb.data.toList.take k))).1 := ⟨_, rfl⟩
        obtain ⟨n, hn⟩ : ∃ n, n = (Bs.decD (Bs.nums (hb.data.toList.take k))).2 := ⟨_, rfl⟩
        rw [← ho] at hown hsn hml hmb
        rw [← hn] at hbd hsn ⊢
        rw [hml] at hmb
        clear hns ho hn hnl
        have HSN := Lib.hid hsn; clear hsn
        have HVD := Lib.hid hvd; clear hvd
        have hm12 : m ≤ 1000000000000 := by omega
        have HMB := Lib.hid hmb; clear hmb
        have HML := Lib.hid hml; clear hml
        obtain ⟨q, r, hkq, hr⟩ : ∃ q r, k = 4 * q + r ∧ r < 4 := ⟨k / 4, k % 4, by omega, by omega⟩
        rcases (show r = 0 ∨ r = 1 ∨ r = 2 ∨ r = 3 by omega) with rfl | rfl | rfl | rfl
        · have hn0 : n = 0 := hbd.1 (by omega)
          subst hn0
          have hb0 : 6 * k % 8 = 0 := by omega
          rw [hb0]
          have ho := or6 0 d (by omega) (by omega) (by omega) (by omega)
          rw [Int.zero_mul, Int.zero_add] at ho
          have HKQ := Lib.hid hkq
          clear hkq hb0 hbd
          go_wp2_with (go_at_call 22; refine (value_any _ _).mono ?_; rw [HVD.out]; rintro e w' ⟨rfl, rfl⟩)
          go_roundg (gk - 1)
          case rel =>
            have hk := HK.out
            have hkq := HKQ.out
            have hsn := HSN.out
            rw [if_pos (by omega)] at hsn
            refine ⟨k + 1, by omega, by go_num, ?_, ?_, ⟨m, by rw [hsn]; exact hown⟩, hbw⟩
            · rw [show 6 * (k + 1) % 8 = 6 by omega]; rfl
            · rw [hsn]
          case measure => have := HK.out; omega
        · have hn0 : n < 64 := hbd.2.1 (by omega)
          have hb0 : 6 * k % 8 = 6 := by omega
          rw [hb0]
          have ho := or6 n d (by omega) (by omega) (by omega) (by omega)
          have ha := and15 ((n : Int) * 64 + d) (by omega) (by omega)
          have he : ((n : Int) * 64 + d) / 16 = (UInt8.ofNat ((n * 64 + d) / 16)).toNat := by rw [Bs.toNat_ofNat_lt (by omega)]; omega
          have HE := Lib.hid he; clear he
          have HKQ := Lib.hid hkq
          clear hkq hb0 hbd
          go_wp2_with (first | (go_at_call 22; refine (value_any _ _).mono ?_; rw [HVD.out]; rintro e w' ⟨rfl, rfl⟩) | (at_builtin; refine wpList_append_byte rfl (.tmp 53) (.tmp 58) rfl wr w w.heap.size _ m o (UInt8.ofNat ((n * 64 + d) / 16)) _ HE.out rfl rfl hown hbw hsz' hm12 ?_; intro v' w1 hown1 hbw1))
          go_roundg (gk - 1)
          case rel =>
            have hk := HK.out
            have hkq := HKQ.out
            have hsn := HSN.out
            rw [if_neg (by omega), if_pos (by omega)] at hsn
            refine ⟨k + 1, by omega, by go_num, ?_, ?_, ⟨m + 1, by rw [hsn]; exact hown1⟩, hbw1⟩
            · rw [show 6 * (k + 1) % 8 = 4 by omega]; rfl
            · rw [hsn]; simp
          case measure => have := HK.out; omega
        · have hn0 : n < 16 := hbd.2.2.1 (by omega)
          have hb0 : 6 * k % 8 = 4 := by omega
          rw [hb0]
          have ho := or6 n d (by omega) (by omega) (by omega) (by omega)
          have ha := and3 ((n : Int) * 64 + d) (by omega) (by omega)
          have he : ((n : Int) * 64 + d) / 4 = (UInt8.ofNat ((n * 64 + d) / 4)).toNat := by rw [Bs.toNat_ofNat_lt (by omega)]; omega
          have HE := Lib.hid he; clear he
          have HKQ := Lib.hid hkq
          clear hkq hb0 hbd
          go_wp2_with (first | (go_at_call 22; refine (value_any _ _).mono ?_; rw [HVD.out]; rintro e w' ⟨rfl, rfl⟩) | (at_builtin; refine wpList_append_byte rfl (.tmp 53) (.tmp 58) rfl wr w w.heap.size _ m o (UInt8.ofNat ((n * 64 + d) / 4)) _ HE.out rfl rfl hown hbw hsz' hm12 ?_; intro v' w1 hown1 hbw1))
          go_roundg (gk - 1)
          case rel =>
            have hk := HK.out
            have hkq := HKQ.out
            have hsn := HSN.out
            rw [if_neg (by omega), if_neg (by omega), if_pos (by omega)] at hsn
            refine ⟨k + 1, by omega, by go_num, ?_, ?_, ⟨m + 1, by rw [hsn]; exact hown1⟩, hbw1⟩
            · rw [show 6 * (k + 1) % 8 = 2 by omega]; rfl
            · rw [hsn]; simp
          case measure => have := HK.out; omega
        · have hn0 : n < 4 := hbd.2.2.2 (by omega)
          have hb0 : 6 * k % 8 = 2 := by omega
          rw [hb0]
          have ho := or6 n d (by omega) (by omega) (by omega) (by omega)
          have ha := and0 ((n : Int) * 64 + d) (by omega) (by omega)
          have he : ((n : Int) * 64 + d) = (UInt8.ofNat (n * 64 + d)).toNat := by rw [Bs.toNat_ofNat_lt (by omega)]; omega
          have HE := Lib.hid he; clear he
          have HKQ := Lib.hid hkq
          clear hkq hb0 hbd
          go_wp2_with (first | (go_at_call 22; refine (value_any _ _).mono ?_; rw [HVD.out]; rintro e w' ⟨rfl, rfl⟩) | (at_builtin; refine wpList_append_byte rfl (.tmp 53) (.tmp 58) rfl wr w w.heap.size _ m o (UInt8.ofNat (n * 64 + d)) _ HE.out rfl rfl hown hbw hsz' hm12 ?_; intro v' w1 hown1 hbw1))
          go_roundg (gk - 1)
          case rel =>
            have hk := HK.out
            have hkq := HKQ.out
            have hsn := HSN.out
            rw [if_neg (by omega), if_neg (by omega), if_neg (by omega)] at hsn
            refine ⟨k + 1, by omega, by go_num, ?_, ?_, ⟨m + 1, by rw [hsn]; exact hown1⟩, hbw1⟩
            · rw [show 6 * (k + 1) % 8 = 0 by omega]; rfl
            · rw [hsn]; rfl
          case measure => have := HK.out; omega
      · obtain rfl : k = hb.size := by have := HK.out; omega
        rw [take_all] at hown ⊢
        have hdec : Bs.dec l = if (Bs.decD (Bs.nums hb.data.toList)).2 = 0 then some (Bs.decD (Bs.nums hb.data.toList)).1 else none := by
          unfold Bs.dec
          rw [if_neg H0.out, HBAD.out, HL.out]; simp
        have HD := Lib.hid hdec; clear hdec
        have hcv := own_string hown
        by_cases hz : (Bs.decD (Bs.nums hb.data.toList)).2 = 0
        · rw [hz]
          have HZ := Lib.hid hz; clear hz
          go_wp2
          go_ret2
          refine ⟨?_, hbw⟩
          rw [HD.out, if_pos HZ.out]; rfl
        · have hz' : (((Bs.decD (Bs.nums hb.data.toList)).2 : Int) != 0) = true := by rw [bne_iff_ne]; omega
          have HZ := Lib.hid hz; clear hz
          go_wp2
          go_ret2
          refine ⟨?_, hbw⟩
          rw [HD.out, if_neg HZ.out]; rfl
end Go.Proofs.Ytigjmelngddbjaa
