import Derived.Test.YtbbgelgjepjpgaaDoorD
import Derived.Laws.AppendOwnNone
namespace Go.Proofs.YtbbgelgjepjpgaaDoor
open Go.RowKit

theorem conv_slice (w : World) (g n c : Nat) (l : List UInt8) (hl : l.length = n) (hc : ∀ j u, (Lib.byteCells l)[j]? = some u → w.cell? ⟨g, j, none⟩ = some u) :
    (convert 45 9 (.slice (some ⟨g, 0, none⟩) n c)).run Tryd.prog w = .ok (.string ⟨l.toArray⟩) w := by
  have := run_convert_bytes_arg (P := Tryd.prog) w 45 5 Tryd.underlying45 Tryd.underlying5 g 0 n c (l.map fun c => (c.toNat : Int)) (by simpa using hl) (fun i hi => ?_) 9 Tryd.underlying9
  · rw [strOfNums_bytes] at this; exact this
  · rw [Nat.zero_add]
    exact hc i _ (by simp [Lib.byteCells, List.getElem?_eq_getElem (show i < l.length by omega), List.getD_eq_getElem?_getD])

theorem four_any (n : Nat) (w : World) (hn : n < 1000000007) : Calls Tryd.prog 20 #[.int .i64 n] w fun e w' => e = .returned (.string ⟨(Mk.four n).toArray⟩) ∧ Below w.heap.size w w' := by
  have hcv := conv_slice (w.alloc (.cells #[.int .u8 ((n : Int) / 16777216), .int .u8 ((n : Int) / 65536 % 256), .int .u8 ((n : Int) / 256 % 256), .int .u8 ((n : Int) % 256)] 5)) w.heap.size 4 4 (Mk.four n) rfl
    (by intro j u h
        rw [four_cells n hn] at h
        have := cells_new w #[.int .u8 ((n : Int) / 16777216), .int .u8 ((n : Int) / 65536 % 256), .int .u8 ((n : Int) / 256 % 256), .int .u8 ((n : Int) % 256)] 5 j u h
        rwa [add_at, Nat.zero_add] at this)
  go_enter Tryd.func20, Tryd.ntmps20
  go_wp2
  go_ret
  exact ⟨rfl, (Below.refl _ _).alloc (Nat.le_refl _) _⟩

theorem ret_str {a b : ByteArray} (h : a = b) : Ending.returned (.string a) = .returned (.string b) := by rw [h]
theorem ret_bool {a b : Bool} (h : a = b) : Ending.returned (.bool a) = .returned (.bool b) := by rw [h]
theorem cat_str (a b : List UInt8) : (⟨a.toArray⟩ ++ ⟨b.toArray⟩ : ByteArray) = ⟨(a ++ b).toArray⟩ := by
  apply ByteArray.ext
  rw [ByteArray.data_append]
  simp

set_option maxHeartbeats 1000000 in
theorem ref_of_any (s : ByteArray) (w : World) (hs : s.size ≤ 1000000000) :
    Calls Tryd.prog 13 #[.string s] w fun e w' => e = .returned (.string ⟨(Mk.mark s.data.toList).toArray⟩) ∧ Below w.heap.size w w' := by
  go_enter Tryd.func13, Tryd.ntmps13
  go_wp2
  go_loopg [3, 4, 5] s.size (fun gk x y i wr => ∃ k : Nat, k + gk = s.size ∧ i = .int .i64 k ∧ x = .int .i64 (Mk.run 257 7 (s.data.toList.take k) : Nat) ∧ y = .int .i64 (Mk.run 65539 11 (s.data.toList.take k) : Nat) ∧ w = wr)
  case atStart => exact ⟨0, by omega, rfl, rfl, rfl, rfl⟩
  case round =>
    obtain ⟨k, hk, rfl, rfl, rfl, rfl⟩ := hrel
    have hx := Mk.run_lt 257 7 (s.data.toList.take k) (by decide)
    have hy := Mk.run_lt 65539 11 (s.data.toList.take k) (by decide)
    obtain ⟨x, hxx⟩ : ∃ x, x = Mk.run 257 7 (s.data.toList.take k) := ⟨_, rfl⟩
    obtain ⟨y, hyy⟩ : ∃ y, y = Mk.run 65539 11 (s.data.toList.take k) := ⟨_, rfl⟩
    rw [← hxx] at hx ⊢
    rw [← hyy] at hy ⊢
    have HX := Lib.hid hxx; clear hxx
    have HY := Lib.hid hyy; clear hyy
    have HK := Lib.hid hk; clear hk
    by_cases hlt : k < s.size
    · have hc := s[k].toNat_lt
      have hts := take_snoc s k hlt
      have HT := Lib.hid hts; clear hts
      go_wp2
      go_roundg (gk - 1)
      case rel =>
        have hk := HK.out
        refine ⟨k + 1, by omega, by go_num, ?_, ?_, rfl⟩
        · rw [HT.out, Mk.run_snoc, ← HX.out]; simp [Mk.st]
        · rw [HT.out, Mk.run_snoc, ← HY.out]; simp [Mk.st]
      case measure => have := HK.out; omega
    · obtain rfl : k = s.size := by have := HK.out; omega
      have hl : List.take s.size s.data.toList = s.data.toList := List.take_of_length_le (by rw [size_len]; exact Nat.le_refl _)
      have hxy : x * y ≤ 1000000006 * 1000000006 := Nat.mul_le_mul (by omega) (by omega)
      have e1 : (wrap64 ((x : Int) * y)).tmod 1000000007 = ((x * y % 1000000007 : Nat) : Int) := by
        have e : wrap64 ((x : Int) * y) = ((x * y : Nat) : Int) := by
          rw [← Int.natCast_mul]
          exact IntWalk.wrap64_in _ ⟨by omega, by omega⟩
        rw [e]
        exact (Int.ofNat_tmod (x * y) 1000000007).symm
      have H1 := Lib.hid e1; clear e1
      have H2 := Lib.hid hxy; clear hxy
      have l1 : (Mk.four x).length ≤ 4 := Nat.le_refl _
      have l2 : (Mk.four y).length ≤ 4 := Nat.le_refl _
      have l3 : (Mk.four (x * y % 1000000007)).length ≤ 4 := Nat.le_refl _
      have l4 : (Mk.four (s.size % 1000000007)).length ≤ 4 := Nat.le_refl _
      go_wp2_with fail
      refine (four_any _ _ hx).mono ?_
      rintro e w1 ⟨rfl, hb1⟩
      go_wp2_with fail
      refine (four_any _ _ hy).mono ?_
      rintro e w2 ⟨rfl, hb2⟩
      go_wp2_with fail
      rw [H1.out]
      refine (four_any _ _ (Nat.mod_lt _ (by decide))).mono ?_
      rintro e w3 ⟨rfl, hb3⟩
      go_wp2_with fail
      rw [show (s.size : Int) % 1000000007 = ((s.size % 1000000007 : Nat) : Int) from by omega]
      refine (four_any _ _ (Nat.mod_lt _ (by decide))).mono ?_
      rintro e w4 ⟨rfl, hb4⟩
      go_wp2
      go_ret
      refine ⟨ret_str ?_, ((hb1.trans (hb2.mono hb1.size)).trans (hb3.mono (Nat.le_trans hb1.size hb2.size))).trans (hb4.mono (Nat.le_trans hb1.size (Nat.le_trans hb2.size hb3.size)))⟩
      have hX := HX.out
      have hY := HY.out
      rw [hl] at hX hY
      rw [cat_str, cat_str, cat_str, hX, hY]
      simp only [Mk.mark, Mk.out, size_len]

set_option maxHeartbeats 1000000 in
theorem join_any (A : Option Addr) (n c : Nat) (ss : List ByteArray) (w : World) (hr : Texts w A n ss) (hn : n ≤ 1000000000) (hs : (cat ss).length ≤ 1000000000) :
    Calls Tryd.prog 14 #[.slice A n c] w fun e w' => e = .returned (.string ⟨(cat ss).toArray⟩) ∧ w = w' := by
  have hn' := hr.1
  have HN := Lib.hid hn'; clear hn'
  go_enter Tryd.func14, Tryd.ntmps14
  go_wp2
  go_loopg [3, 4] n (fun gk s i wr => ∃ k : Nat, k + gk = n ∧ i = .int .i64 k ∧ s = .string ⟨(cat (ss.take k)).toArray⟩ ∧ w = wr)
  case atStart => exact ⟨0, by omega, rfl, rfl, rfl⟩
  case round =>
    obtain ⟨k, hk, rfl, rfl, rfl⟩ := hrel
    have HK := Lib.hid hk; clear hk
    by_cases hlt : k < n
    · have hkl : k < ss.length := by rw [HN.out]; exact hlt
      obtain ⟨ad, rfl, hc⟩ := hr.at_ (Below.refl _ _) k hkl
      have hcl := cat_take_le ss k
      have h1 := cat_take_succ ss k hkl
      have hsl : (cat (ss.take k)).length + (ss[k]).size ≤ 1000000000 := by
        have h2 := cat_take_le ss (k + 1)
        rw [h1, List.length_append, size_len] at h2
        omega
      have H1 := Lib.hid h1; clear h1
      go_wp2
      go_roundg (gk - 1)
      case rel =>
        have hk := HK.out
        refine ⟨k + 1, by omega, by go_num, ?_, rfl⟩
        rw [H1.out, ← cat_str]
      case measure => have := HK.out; omega
    · obtain rfl : k = n := by have := HK.out; omega
      have hl : List.take k ss = ss := List.take_of_length_le (by rw [HN.out]; exact Nat.le_refl _)
      have HL := Lib.hid hl; clear hl
      go_wp2
      go_ret
      exact ⟨ret_str (by rw [HL.out]), rfl⟩

/-- Are texts more than is looked at? -/
def big (many long : Int) (ss : List ByteArray) : Bool := decide (many < ss.length) || ss.any fun s => decide (long < s.size)

set_option maxHeartbeats 1000000 in
theorem big_any (A : Option Addr) (n c : Nat) (many long : Int) (ss : List ByteArray) (w : World) (hr : Texts w A n ss) (hn : n ≤ 9223372036854775807) :
    Calls Tryd.prog 9 #[.slice A n c, .int .i64 many, .int .i64 long] w fun e w' => e = .returned (.bool (big many long ss)) ∧ w = w' := by
  have hn' := hr.1
  have HN := Lib.hid hn'; clear hn'
  by_cases hm : many < n
  · have hm' : decide (many < (n : Int)) = true := by simpa using hm
    go_enter Tryd.func9, Tryd.ntmps9
    go_wp2
    go_ret
    exact ⟨ret_bool (by unfold big; rw [HN.out, hm']; rfl), rfl⟩
  have hm' : decide (many < (n : Int)) = false := by simpa using hm
  go_enter Tryd.func9, Tryd.ntmps9
  go_wp2
  go_loopg [7] n (fun gk i wr => ∃ k : Nat, k + gk = n ∧ i = .int .i64 k ∧ Hid ((ss.take k).any (fun s => decide (long < s.size)) = false) ∧ w = wr)
  case atStart => exact ⟨0, by omega, rfl, rfl, rfl⟩
  case round =>
    obtain ⟨k, hk, rfl, HA, rfl⟩ := hrel
    have HK := Lib.hid hk; clear hk
    by_cases hlt : k < n
    · have hkl : k < ss.length := by rw [HN.out]; exact hlt
      obtain ⟨ad, rfl, hc⟩ := hr.at_ (Below.refl _ _) k hkl
      by_cases hl : long < (ss[k].size : Int)
      · have hl' : decide (long < (ss[k].size : Int)) = true := by simpa using hl
        go_wp2
        go_ret
        refine ⟨ret_bool ?_, rfl⟩
        unfold big
        rw [List.any_eq_true.2 ⟨ss[k], List.getElem_mem hkl, hl'⟩, Bool.or_true]
      · have hl' : decide (long < (ss[k].size : Int)) = false := by simpa using hl
        go_wp2
        go_roundg (gk - 1)
        case rel =>
          have hk := HK.out
          refine ⟨k + 1, by omega, by go_num, ?_, rfl⟩
          show _ = _
          rw [List.take_succ_eq_append_getElem hkl, List.any_append, HA.out]
          simp [hl']
        case measure => have := HK.out; omega
    · obtain rfl : k = n := by have := HK.out; omega
      have hl : List.take k ss = ss := List.take_of_length_le (by rw [HN.out]; exact Nat.le_refl _)
      have HL := Lib.hid hl; clear hl
      go_wp2
      go_ret
      refine ⟨ret_bool ?_, rfl⟩
      have := HA.out
      rw [HL.out] at this
      unfold big
      rw [this, HN.out, hm']; rfl
end Go.Proofs.YtbbgelgjepjpgaaDoor
