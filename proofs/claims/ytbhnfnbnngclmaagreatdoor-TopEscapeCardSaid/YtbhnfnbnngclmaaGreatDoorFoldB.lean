import Derived.Test.YtbhnfnbnngclmaaGreatDoorFoldA
import Derived.Lib.BufferMore
namespace Go.Proofs.YtbhnfnbnngclmaaGreatDoor
open Go.RowKit

/-- A block that a conversion of a text has laid, and what its bytes are now. -/
def Low (wr : World) (B cap : Nat) (m : List UInt8) : Prop :=
  ∃ cur : Array Value, wr.heap[B]? = some (.cells cur 5 (cap, cap + 1)) ∧ cur.size = cap ∧ m.length ≤ cap ∧ cur.toList.take m.length = Lib.byteCells m
theorem Low.new (w : World) (s : ByteArray) : Low (Lib.bytesWorld w 5 s) w.heap.size (grownCap w s.size 0 5) s.data.toList := by
  have hge := grownCap_ge w s.size 0 5
  have hsz : (Lib.bytesCells w 5 s).size = grownCap w s.size 0 5 := by
    unfold Lib.bytesCells
    rw [Array.size_append, Array.size_map, Array.size_replicate]
    show s.size + _ = _
    omega
  refine ⟨Lib.bytesCells w 5 s, ?_, hsz, by rw [size_len]; exact hge, ?_⟩
  · rw [Lib.bytesWorld_at_new, hsz]
  · unfold Lib.bytesCells Lib.byteCells
    rw [Array.toList_append, Array.toList_map, List.take_append_of_le_length (by rw [List.length_map]; exact Nat.le_refl _), List.take_of_length_le (by rw [List.length_map]; exact Nat.le_refl _)]
theorem Low.cell {wr : World} {B cap : Nat} {m : List UInt8} (h : Low wr B cap m) (k : Nat) (c : UInt8) (hk : m[k]? = some c) : wr.cell? ⟨B, k, none⟩ = some (.int .u8 c.toNat) := by
  obtain ⟨cur, hb, hs, hl, ht⟩ := h
  have hkl : k < m.length := (List.getElem?_eq_some_iff.1 hk).1
  rw [cell_of_row _ B k cur 5 _ hb]
  have := congrArg (·[k]?) ht
  simp only [List.getElem?_take, if_pos hkl, Array.getElem?_toList] at this
  rw [this]
  simp [Lib.byteCells, hk]
theorem Low.frozen {wr : World} {B cap : Nat} {m : List UInt8} (h : Low wr B cap m) (k : Nat) (hk : k < m.length) : wr.frozen? ⟨B, k, none⟩ = false := by
  obtain ⟨cur, hb, hs, hl, ht⟩ := h
  unfold World.frozen?
  rw [hb]
  simp; omega
theorem Low.set {wr : World} {B cap : Nat} {m : List UInt8} (h : Low wr B cap m) (k : Nat) (c : UInt8) (hk : k < m.length) (n : Int) (hn : n = c.toNat) : Low (wr.setCell ⟨B, k, none⟩ (.int .u8 n)) B cap (m.set k c) := by
  obtain ⟨cur, hb, hs, hl, ht⟩ := h
  subst hn
  refine ⟨_, Lib.heap_setCell_same hb _, by rw [Array.size_setIfInBounds]; exact hs, by rw [List.length_set]; exact hl, ?_⟩
  rw [Array.toList_setIfInBounds, List.length_set, List.take_set]
  rw [ht]
  unfold Lib.byteCells
  rw [List.map_set]
theorem Low.string {wr : World} {B cap : Nat} {m : List UInt8} (h : Low wr B cap m) : (convert 41 9 (.slice (some ⟨B, 0, none⟩) m.length cap)).run Tryz.prog wr = .ok (.string ⟨m.toArray⟩) wr := by
  have := run_convert_bytes_arg (P := Tryz.prog) wr 41 5 Tryz.underlying41 Tryz.underlying5 B 0 m.length cap (m.map fun c => (c.toNat : Int)) (by simp) (fun i hi => ?_) 9 Tryz.underlying9
  · rw [strOfNums_bytes] at this; exact this
  · rw [Nat.zero_add]
    rw [h.cell i m[i] (List.getElem?_eq_getElem hi)]
    simp [List.getD_eq_getElem?_getD, List.getElem?_eq_getElem hi]
def lowTo (l : List UInt8) (k : Nat) : List UInt8 := Fo.lower (l.take k) ++ l.drop k
theorem lowTo_length (l : List UInt8) (k : Nat) : (lowTo l k).length = l.length := by simp [lowTo, Fo.lower]; omega
theorem lowTo_at (l : List UInt8) (k : Nat) (h : k < l.length) : (lowTo l k)[k]? = some l[k] := by
  unfold lowTo
  rw [List.getElem?_append_right (by simp [Fo.lower]; omega)]
  simp [Fo.lower, Nat.min_eq_left (Nat.le_of_lt h), List.getElem?_eq_getElem h]
theorem lowTo_set (l : List UInt8) (k : Nat) (h : k < l.length) : (lowTo l k).set k (Fo.lc l[k]) = lowTo l (k + 1) := by
  unfold lowTo
  have h0 : k - (Fo.lower (l.take k)).length = 0 := by simp [Fo.lower]; omega
  rw [List.set_append_right _ _ (by simp [Fo.lower]; omega), h0, List.drop_eq_getElem_cons h, List.set_cons_zero, List.take_succ_eq_append_getElem h]
  simp only [Fo.lower, List.map_append, List.map_cons, List.map_nil, List.append_assoc, List.singleton_append]
theorem lowTo_id (l : List UInt8) (k : Nat) (h : k < l.length) (e : Fo.lc l[k] = l[k]) : lowTo l (k + 1) = lowTo l k := by
  rw [← lowTo_set l k h, e]
  have := lowTo_at l k h
  obtain ⟨h1, h2⟩ := List.getElem?_eq_some_iff.1 this
  rw [← h2, List.set_getElem_self]
theorem lowTo_end (l : List UInt8) : lowTo l l.length = Fo.lower l := by simp [lowTo]

set_option maxHeartbeats 1000000 in
/-- Lower. -/
theorem lower_any (s : ByteArray) (w : World) (hs : s.size ≤ 10000000) : Calls Tryz.prog 50 #[.string s] w fun e w' => e = .returned (.string ⟨(Fo.lower s.data.toList).toArray⟩) ∧ Below w.heap.size w w' := by
  have hcv := Lib.run_convert_string_bytes (P := Tryz.prog) w 9 41 5 s Tryz.underlying9 Tryz.underlying41 Tryz.underlying5
  have hnew := Low.new w s
  have hbn : Below w.heap.size w (Lib.bytesWorld w 5 s) := ⟨rfl, rfl, rfl, by rw [Lib.bytesWorld_size]; omega, fun j hj => Lib.bytesWorld_at_old w 5 s j hj⟩
  have hge := grownCap_ge w s.size 0 5
  obtain ⟨cap, hcap⟩ : ∃ cap, cap = grownCap w s.size 0 5 := ⟨_, rfl⟩
  obtain ⟨w0, hw0⟩ : ∃ w0, w0 = Lib.bytesWorld w 5 s := ⟨_, rfl⟩
  obtain ⟨l, hl⟩ : ∃ l, l = s.data.toList := ⟨_, rfl⟩
  have hll : l.length = s.size := by rw [hl, size_len]
  rw [← hcap, ← hw0] at hcv hnew
  rw [← hcap] at hge
  rw [← hw0] at hbn
  rw [← hl] at hnew ⊢
  have HL := Lib.hid hll; clear hll
  have HN := Lib.hid hnew; clear hnew
  clear hcap hw0 hl
  go_enter Tryz.func50, Tryz.ntmps50
  go_wp2
  go_loopg [10] s.size (fun gk i wr => ∃ k : Nat, k + gk = s.size ∧ i = .int .i64 k ∧ Low wr w.heap.size cap (lowTo l k) ∧ Below w.heap.size w wr)
  case atStart => exact ⟨0, by omega, rfl, by simpa [lowTo, Fo.lower] using HN.out, hbn⟩
  case round =>
    obtain ⟨k, hk, rfl, hlow, hbw⟩ := hrel
    have HK := Lib.hid hk; clear hk
    have HLOW := Lib.hid hlow
    by_cases hlt : k < s.size
    · have hkl : k < l.length := by rw [HL.out]; exact hlt
      have hcell := hlow.cell k _ (lowTo_at l k hkl)
      have hfz := hlow.frozen k (by rw [lowTo_length]; exact hkl)
      have hset := lowTo_set l k hkl
      have hid := lowTo_id l k hkl
      obtain ⟨c, hc⟩ : ∃ c, c = l[k] := ⟨_, rfl⟩
      rw [← hc] at hcell hset hid
      have hlc := lc_int c
      have hcb : c.toNat < 256 := c.toNat_lt
      obtain ⟨x, hx⟩ : ∃ x : Int, x = c.toNat := ⟨_, rfl⟩
      rw [← hx] at hcell hlc
      have hx0 : 0 ≤ x ∧ x < 256 := by omega
      have HSET := Lib.hid hset
      have HID := Lib.hid hid
      have hkll : k < (lowTo l k).length := by rw [lowTo_length]; exact hkl
      have HKL := Lib.hid hkll
      clear hlow hset hid hc hcb hkl hx hkll
      by_cases hup : 65 ≤ x ∧ x ≤ 90
      · have H1 := Lib.hid (hlc.1 hup); clear hlc
        obtain ⟨hu1, hu2⟩ := hup
        have hw1 : (x + 97) % 256 = x + 97 := Int.emod_eq_of_lt (by omega) (by omega)
        go_wp2
        go_roundg (gk - 1)
        case rel =>
          have hk := HK.out
          have h1 := H1.out
          refine ⟨k + 1, by omega, by go_num, ?_, hbw.setCell (Nat.le_refl _) _⟩
          rw [← HSET.out]
          exact HLOW.out.set k (Fo.lc c) HKL.out _ (by omega)
        case measure => have := HK.out; omega
      · have H1 := Lib.hid (HID.out (UInt8.toNat_inj.1 (congrArg UInt8.toNat (hlc.2 hup)))); clear hlc
        by_cases hu1 : 65 ≤ x
        · have hu2 : ¬ x ≤ 90 := by omega
          clear hup
          go_wp2
          go_roundg (gk - 1)
          case rel => have hk := HK.out; exact ⟨k + 1, by omega, by go_num, by rw [H1.out]; exact HLOW.out, hbw⟩
          case measure => have := HK.out; omega
        · clear hup
          go_wp2
          go_roundg (gk - 1)
          case rel => have hk := HK.out; exact ⟨k + 1, by omega, by go_num, by rw [H1.out]; exact HLOW.out, hbw⟩
          case measure => have := HK.out; omega
    · obtain rfl : k = s.size := by have := HK.out; omega
      have he : lowTo l s.size = Fo.lower l := by rw [← HL.out]; exact lowTo_end l
      have hst := hlow.string
      rw [lowTo_length, he, HL.out] at hst
      clear hlow he
      go_wp2
      go_ret
      exact ⟨rfl, hbw⟩

/-- Trim. -/
theorem trim_any (s : ByteArray) (w : World) (hs : s.size ≤ 10000000) : Calls Tryz.prog 58 #[.string s] w fun e w' => e = .returned (.string ⟨(Fo.trim s.data.toList).toArray⟩) ∧ Below w.heap.size w w' := by
  have c21 := Tryz.strings_Trim_laid s ⟨#[9, 10, 12, 13, 32]⟩ w (by omega) (by decide) (ascii_of_all (by decide))
  have C := Lib.hid c21; clear c21
  go_enter Tryz.func58, Tryz.ntmps58
  go_wp2_with fail
  refine C.out.mono ?_
  rintro e w1 ⟨rfl, hb1⟩
  go_wp2
  go_ret
  exact ⟨rfl, hb1⟩

theorem index_none (l : List UInt8) (c : UInt8) (h : c ∉ l) : Lib.indexByte l c = -1 := by
  induction l with
  | nil => rfl
  | cons b l ih =>
    have hb : (b == c) = false := beq_eq_false_iff_ne.2 (fun e => h (by simp [e]))
    rw [Lib.indexByte, if_neg (by simp [hb]), ih (fun hm => h (by simp [hm]))]; rfl
theorem index_some (a r : List UInt8) (c : UInt8) (h : c ∉ a) : Lib.indexByte (a ++ c :: r) c = a.length := by
  induction a with
  | nil => simp [Lib.indexByte]
  | cons b a ih =>
    have hb : (b == c) = false := beq_eq_false_iff_ne.2 (fun e => h (by simp [e]))
    rw [List.cons_append, Lib.indexByte, if_neg (by simp [hb]), ih (fun hm => h (by simp [hm])), if_neg (by simp)]; simp
def cutS : ByteArray := ⟨#[9, 10, 12, 13, 32]⟩
theorem index_bl (c : UInt8) : decide (0 ≤ Lib.indexByte cutS.data.toList c) = Fo.bl c := by
  have e : cutS.data.toList = Fo.cut := rfl
  rw [e, ← Fo.cut_bl]
  by_cases h : c ∈ Fo.cut
  · obtain ⟨a, r, hl, ha⟩ := List.eq_append_cons_of_mem h
    rw [hl, index_some a r c ha]
    simp
  · rw [index_none _ _ h]
    simp [h]
theorem index_big (x : Nat) (h : x < 128) : decide (0 ≤ Lib.indexByte cutS.data.toList ((x : Int).toNat.toUInt8)) = Fo.blR x := by
  rw [index_bl, ← Fo.blR_of]
  congr 1
  show (UInt8.ofNat x).toNat = x
  rw [UInt8.toNat_ofNat']; omega
/-- has: is a rune a blank? -/
theorem has_any (x : Nat) (w : World) (hx : x ≤ 1114111) : Calls Tryz.prog 66 #[.string ⟨#[9, 10, 12, 13, 32]⟩, .int .i32 x] w fun e w' => e = .returned (.bool (Fo.blR x)) ∧ w' = w := by
  by_cases h : x < 128
  · have hi : (x : Int) < 128 := by omega
    have hm : (x : Int) % 256 = x := Int.emod_eq_of_lt (by omega) (by omega)
    have c24 := Tryz.strings_IndexByte ⟨#[9, 10, 12, 13, 32]⟩ x w
    have hI := index_big x h
    obtain ⟨I, hIe⟩ : ∃ I, I = Lib.indexByte cutS.data.toList ((x : Int).toNat.toUInt8) := ⟨_, rfl⟩
    rw [← hIe] at hI
    have c24' : Calls Tryz.prog 59 #[.string ⟨#[9, 10, 12, 13, 32]⟩, .int .u8 x] w fun e w' => e = .returned (.int .i64 I) ∧ w' = w := by rw [hIe]; exact c24
    have C := Lib.hid c24'
    have HI := Lib.hid hI
    clear c24 c24' hIe hI
    go_enter Tryz.func66, Tryz.ntmps66
    go_wp2_with fail
    refine C.out.mono ?_
    rintro e w1 ⟨rfl, rfl⟩
    go_wp2
    go_ret
    exact ⟨ret_bool HI.out, rfl⟩
  · have hi : ¬ (x : Int) < 128 := by omega
    have hb : Fo.blR x = false := by simp [Fo.blR]; omega
    rw [hb]
    clear hb
    go_enter Tryz.func66, Tryz.ntmps66
    go_wp2
    go_ret
    exact ⟨rfl, rfl⟩
end Go.Proofs.YtbhnfnbnngclmaaGreatDoor
