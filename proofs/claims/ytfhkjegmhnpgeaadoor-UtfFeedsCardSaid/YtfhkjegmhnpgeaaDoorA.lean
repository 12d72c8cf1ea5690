import Derived.Test.YtfhkjegmhnpgeaaDoorKit
import Derived.Test.YtfhkjegmhnpgeaaDoorWrite
import Derived.Test.YtfhkjegmhnpgeaaDoorShelf
import Derived.Test.YtfhkjegmhnpgeaaDoorPlain
import Derived.Deep.LoopGhost
import Derived.WalkMore
namespace Go.Proofs.YtfhkjegmhnpgeaaDoor
open Go.RowKit

/-- The two tables of the library's are laid. -/
def T (w : World) : Prop := Lib.Utf8Tabs 0 1 w
theorem T.below {w w' : World} (h : T w) (hb : Below w.heap.size w w') : T w' := Utf8Tabs_below h hb

/-- A slice of bytes that reads as a list. -/
def BytesIn (w : World) (A : Option Addr) (n : Nat) (l : List UInt8) : Prop :=
  l.length = n ∧ (0 < n → ∃ b off, A = some ⟨b, off, none⟩ ∧ b < w.heap.size ∧ ∀ j u, (Lib.byteCells l)[j]? = some u → w.cell? ⟨b, off + j, none⟩ = some u)
theorem BytesIn.below {w w' : World} {A : Option Addr} {n : Nat} {l : List UInt8} (h : BytesIn w A n l) (hb : Below w.heap.size w w') : BytesIn w' A n l :=
  ⟨h.1, fun hn => by
    obtain ⟨b, off, e, hlt, hc⟩ := h.2 hn
    exact ⟨b, off, e, Nat.lt_of_lt_of_le hlt hb.size, fun j u hj => (hb.cell hlt).trans (hc j u hj)⟩⟩
theorem byteCells_drop (l : List UInt8) (k : Nat) : Lib.byteCells (l.drop k) = (Lib.byteCells l).drop k := by simp [Lib.byteCells, List.map_drop]
theorem byteCells_take (l : List UInt8) (k : Nat) : Lib.byteCells (l.take k) = (Lib.byteCells l).take k := by simp [Lib.byteCells, List.map_take]
theorem BytesIn.none {w : World} {A : Option Addr} {n : Nat} {l : List UInt8} (hl : l.length = n) (h : n = 0) : BytesIn w A n l := ⟨hl, fun hn => absurd hn (by omega)⟩
theorem BytesIn.drop {w : World} {b off n k : Nat} {l : List UInt8} (h : BytesIn w (some ⟨b, off, .none⟩) n l) (hk : k ≤ n) : BytesIn w (some ⟨b, off + k, .none⟩) (n - k) (l.drop k) :=
  ⟨by rw [List.length_drop, h.1], fun hn => by
    obtain ⟨b', off', e, hlt, hc⟩ := h.2 (by omega)
    injection e with e; injection e with e1 e2; subst e1; subst e2
    refine ⟨b, off + k, rfl, hlt, fun j u hj => ?_⟩
    rw [byteCells_drop, List.getElem?_drop] at hj
    rw [Nat.add_assoc]; exact hc _ u hj⟩
theorem BytesIn.take {w : World} {b off n k : Nat} {l : List UInt8} (h : BytesIn w (some ⟨b, off, .none⟩) n l) (hk : k ≤ n) : BytesIn w (some ⟨b, off, .none⟩) k (l.take k) :=
  ⟨by rw [List.length_take, h.1]; omega, fun hn => by
    obtain ⟨b', off', e, hlt, hc⟩ := h.2 (by omega)
    injection e with e; injection e with e1 e2; subst e1; subst e2
    refine ⟨b, off, rfl, hlt, fun j u hj => ?_⟩
    rw [byteCells_take, List.getElem?_take] at hj
    split at hj
    · exact hc _ u hj
    · cases hj⟩

theorem get_at (l : List UInt8) (i : Nat) : (⟨l.toArray⟩ : ByteArray).get! i = l.getD i 0 := by
  show l.toArray[i]! = _
  rw [List.getElem!_toArray, List.getD_eq_getElem?_getD, List.getElem!_eq_getElem?_getD]; rfl
theorem decode_drop (l : List UInt8) (i : Nat) : Utf8.decode ⟨l.toArray⟩ i = Ut.dN (l.drop i) := by
  rw [Lib.decode_at, Ut.dN, mk_size', List.length_drop, get_at, get_at, get_at, get_at]
  simp only [List.getD_eq_getElem?_getD, List.getElem?_drop, Nat.add_zero]
theorem decodeGo_eq (l : List UInt8) (h : l ≠ []) : Lib.decodeGo ⟨l.toArray⟩ = Ut.dN l := by
  have : ¬ (⟨l.toArray⟩ : ByteArray).size = 0 := by rw [mk_size']; exact fun e => h (List.eq_nil_of_length_eq_zero e)
  rw [Lib.decodeGo, if_neg this, decode_drop, List.drop_zero]

/-- DecodeRune of a slice that holds bytes. -/
theorem decodeRune_any (b off n c : Nat) (l : List UInt8) (w : World) (hT : T w) (hb : BytesIn w (some ⟨b, off, none⟩) n l) (hn : 0 < n) :
    Calls Tryd.prog 22 #[.slice (some ⟨b, off, none⟩) n c] w fun e w' => e = .returned (.tuple #[.int .i32 (Ut.dN l).1, .int .i64 (Ut.dN l).2]) ∧ Below w.heap.size w w' := by
  obtain ⟨b', off', e, hlt, hc⟩ := hb.2 hn
  injection e with e; injection e with e1 e2; subst e1; subst e2
  have hl : l ≠ [] := fun e => by have := hb.1; rw [e] at this; simp at this; omega
  have h := Tryd.utf8_DecodeRune ⟨l.toArray⟩ b off c w hT (fun j hj => by
    rw [mk_size'] at hj
    refine hc j _ ?_
    rw [get_at]
    simp [Lib.byteCells, List.getElem?_eq_getElem hj, List.getD_eq_getElem?_getD])
  rw [mk_size', hb.1, decodeGo_eq l hl] at h
  exact h

theorem builder_below {B b : Nat} {l : List Value} {w w' : World} (h : Lib.IsBuilder 43 5 B b l w) (hb : Below w.heap.size w w') : Lib.IsBuilder 43 5 B b l w' := by
  have go : ∀ p, Lib.BuilderAt 43 5 B b p l w → Lib.BuilderAt 43 5 B b p l w' := by
    rintro p ⟨h1, v, h2, h3, h4⟩
    exact ⟨h1, v, (hb.block b (Array.getElem?_eq_some_iff.1 h2).1).trans h2, h3.kept (row := none) ⟨hb.os, hb.tape, hb.output, hb.size, fun i hi _ => hb.block i hi⟩ (by cases v.ownBlock <;> simp), h4⟩
  exact h.elim (fun h => Or.inl (go _ h)) (fun h => Or.inr (go _ h))

theorem odd_eq : (⟨#[239, 191, 189]⟩ : ByteArray).data.toList = Ut.by_ 65533 := by decide +kernel

set_option maxHeartbeats 400000 in
/-- Decode: bytes are decoded. -/
theorem dec_any (A : Option Addr) (n c : Nat) (l : List UInt8) (w : World) (hT : T w) (hb : BytesIn w A n l) (hc : n ≤ c) (hn : n ≤ 1000000) :
    Calls Tryd.prog 10 #[.slice A n c] w fun e w' => e = .returned (.string ⟨(Ut.dec l).toArray⟩) ∧ Below w.heap.size w w' := by
  have hl0 := hb.1
  go_enter Tryd.func10, Tryd.ntmps10
  go_wp2
  go_step3
  go_wp2
  go_step3
  go_wp2
  go_loopg [0] n (fun gk v wr => ∃ (A' : Option Addr) (n' c' : Nat) (m acc : List UInt8), v = .slice A' n' c' ∧ n' ≤ gk ∧ n' ≤ c' ∧ BytesIn w A' n' m ∧ Hid (acc ++ Ut.dec m = Ut.dec l) ∧ acc.length + 4 * n' ≤ 4000000 ∧ Lib.IsBuilder 43 5 w.heap.size w.heap.size (Lib.byteCells acc) wr ∧ Below w.heap.size w wr)
  case atStart => exact ⟨A, n, c, l, [], rfl, Nat.le_refl _, hc, hb, List.nil_append _, by simp; omega, Lib.fresh_isBuilder 43 5 w, below_alloc' w _⟩
  case round =>
    obtain ⟨A', n', c', m, acc, rfl, hgk, hc', hb', HA, hlen, hI, hbw⟩ := hrel
    have hsz := hbw.size
    by_cases hn' : 0 < n'
    · obtain ⟨b, off, rfl, hlt, hcell⟩ := hb'.2 hn'
      have hm : m ≠ [] := fun e => by have := hb'.1; rw [e] at this; simp at this; omega
      have hml := hb'.1
      have hpos := Ut.dN_pos m hm
      rw [hml] at hpos
      have hcons := Ut.dec_cons m hm
      have htake := Ut.dN_take m hm
      have hblen := Ut.by_len (Ut.dN m).1
      have hbr := hb'.below hbw
      have hTr := T.below hT hbw
      have HC := Lib.hid hcell; clear hcell
      have HB := Lib.hid hb'; clear hb'
      have HT := Lib.hid hT; clear hT
      have HB0 := Lib.hid hb; clear hb
      go_wp2_with fail
      refine (decodeRune_any b off n' c' m wr hTr hbr hn').mono ?_
      rintro e w1 ⟨rfl, hb1⟩
      have hI1 := builder_below hI hb1
      have hbw1 := hbw.trans (hb1.mono hsz)
      have hsz1 := hbw1.size
      clear hI hbr hTr
      obtain ⟨r, hr⟩ : ∃ r, r = (Ut.dN m).1 := ⟨_, rfl⟩
      obtain ⟨k, hk⟩ : ∃ k, k = (Ut.dN m).2 := ⟨_, rfl⟩
      have hrk : Ut.dN m = (r, k) := by rw [hr, hk]
      rw [← hr, ← hk]
      rw [hrk] at hpos hcons htake hblen
      have hsum : (acc ++ Ut.by_ r) ++ Ut.dec (m.drop k) = Ut.dec l := by rw [← HA.out, hcons, List.append_assoc]
      have HS := Lib.hid hsum; clear hsum hcons hr hk
      have HRK := Lib.hid hrk; clear hrk
      have HBL := Lib.hid hblen; clear hblen
      by_cases hbad : r = 65533 ∧ k = 1
      · obtain ⟨rfl, rfl⟩ := hbad
        clear htake
        go_wp2_with fail
        refine (writeString_any _ _ acc ⟨#[239, 191, 189]⟩ w1 hI1 ?_ hsz1).mono ?_
        · show acc.length + 3 ≤ _; omega
        rintro e w2 ⟨rfl, hI2, hb2⟩
        rw [odd_eq] at hI2
        have hbw2 := hbw1.trans hb2
        by_cases hcut : c' = 1
        · go_wp2
          go_roundg (gk - 1)
          case rel => exact ⟨_, n' - 1, 0, m.drop 1, acc ++ Ut.by_ 65533, rfl, by omega, by omega, BytesIn.none (by rw [List.length_drop, hml]) (by omega), HS.out, by rw [List.length_append]; have := HBL.out.2; omega, hI2, hbw2⟩
          case measure => omega
        · go_wp2
          go_roundg (gk - 1)
          case rel => exact ⟨_, n' - 1, c' - 1, m.drop 1, acc ++ Ut.by_ 65533, rfl, by omega, by omega, BytesIn.drop HB.out (by omega), HS.out, by rw [List.length_append]; have := HBL.out.2; omega, hI2, hbw2⟩
          case measure => omega
      · have htk := (htake (fun e => by injection e with e1 e2; exact hbad ⟨e1, e2⟩)).1
        clear htake
        have hq : ((r : Int) == 65533) = false ∨ ((r : Int) == 65533) = true ∧ ((k : Int) == 1) = false := by
          by_cases h1 : r = 65533
          · right; refine ⟨by rw [beq_iff_eq]; omega, ?_⟩
            rw [beq_eq_false_iff_ne]; intro h; exact hbad ⟨h1, by omega⟩
          · left; rw [beq_eq_false_iff_ne]; omega
        clear hbad
        simp only at htk
        have HTK := Lib.hid htk; clear htk
        have hw1 := (BytesIn.take HB.out hpos.2.2).below hbw1
        have hlen2 : (m.take k).length = k := by rw [List.length_take, hml]; omega
        have HW := Lib.hid hw1; clear hw1
        have hw2 : ∀ j u, (Lib.byteCells (m.take k))[j]? = some u → w1.cell? ((⟨b, off, none⟩ : Addr).add j) = some u := by
          intro j u hj
          obtain ⟨b', off', e, _, hc⟩ := HW.out.2 (by omega)
          injection e with e; injection e with e1 e2; subst e1; subst e2
          rw [add_at]; exact hc j u hj
        have HW2 := Lib.hid hw2; clear hw2 HW
        rcases hq with hq1 | ⟨hq1, hq2⟩
        all_goals
          go_wp2_with fail
          refine (write_any _ _ acc (m.take k) ⟨b, off, none⟩ k _ w1 hI1 hlen2 HW2.out hlt (by omega) hsz1).mono ?_
          rintro e w2 ⟨rfl, hI2, hb2⟩
          rw [HTK.out] at hI2
          have hbw2 := hbw1.trans hb2
          by_cases hcut : c' = k
          · go_wp2
            go_roundg (gk - 1)
            case rel => exact ⟨_, n' - k, 0, m.drop k, acc ++ Ut.by_ r, rfl, by omega, by omega, BytesIn.none (by rw [List.length_drop, hml]) (by omega), HS.out, by rw [List.length_append]; have := HBL.out.2; have e := congrArg List.length HTK.out; rw [hlen2] at e; omega, hI2, hbw2⟩
            case measure => omega
          · go_wp2
            go_roundg (gk - 1)
            case rel => exact ⟨_, n' - k, c' - k, m.drop k, acc ++ Ut.by_ r, rfl, by omega, by omega, BytesIn.drop HB.out (by omega), HS.out, by rw [List.length_append]; have := HBL.out.2; have e := congrArg List.length HTK.out; rw [hlen2] at e; omega, hI2, hbw2⟩
            case measure => omega
    · have hm : m = [] := List.eq_nil_of_length_eq_zero (by have := hb'.1; omega)
      have hfin : acc = Ut.dec l := by have := HA.out; rw [hm, Ut.dec_nil, List.append_nil] at this; exact this
      have HF := Lib.hid hfin; clear hfin hm
      go_wp2_with fail
      refine (Tryd.Builder_String_any _ _ acc wr hI hsz).mono ?_
      rintro e w1 ⟨rfl, hb1⟩
      go_wp2
      rw [Exit.noGoto_ret]
      go_ret
      exact ⟨ret_str (by rw [HF.out]), hbw.trans hb1⟩
end Go.Proofs.YtfhkjegmhnpgeaaDoor
