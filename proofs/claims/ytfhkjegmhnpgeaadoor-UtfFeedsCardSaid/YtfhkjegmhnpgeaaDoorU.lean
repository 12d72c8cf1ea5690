import Derived.Test.YtfhkjegmhnpgeaaDoorS
import Derived.Deep.RegionHeld3
import Derived.StillTailTactics
namespace Go.Proofs.YtfhkjegmhnpgeaaDoor
open Go.RowKit

/-- append(own, b...) where an operation's orders are drawn. -/
theorem wp_append_any_bytes {o : Oper} {a : Act} {K : Act → World → Prop} {Q : Exit → Act → World → Prop} (s x : Operand)
    (ho : o.op = .call { callee := .builtin .append, args := #[s, x], argTypes := #[22, 22] }) (W w0 : World) (base : Nat) (v : Value) (n : Nat) (l m : List UInt8) (A : Option Addr) (k c : Nat)
    (hs : a.eval s = v) (hx : a.eval x = .slice A k c) (hown : W.ownsRow base 5 1 v n (Lib.byteCells l)) (hm : BytesIn W A k m) (hz : A = none → k = 0 ∧ c = 0) (hb : Below base w0 W) (hB : base ≤ W.heap.size) (hn : n + k ≤ 1000000000000)
    (h : ∀ v' w', w'.ownsRow base 5 1 v' (n + k) (Lib.byteCells (l ++ m)) → Below base w0 w' → W.grownBy w' v.ownBlock → K (a.put o.dst v') w') : o.wp Tryd.prog a W K Q := by
  obtain ⟨i0, hi, hz0, hz1, hz2⟩ := info_parts byte_info
  cases A with
  | none =>
    obtain ⟨rfl, rfl⟩ := hz rfl
    have hm0 : m = [] := List.eq_nil_of_length_eq_zero hm.1
    subst hm0
    have hrun := run_append_owned_none (P := Tryd.prog) (w := W) base 22 o.type 5 i0 1 Tryd.underlying22 hi v n _ hown
    unfold Oper.wp
    simp [execOp, ho, resolve, invoke, builtin, hs, hx, hrun, Result.andThen]
    exact h v W (by rw [List.append_nil]; exact hown) hb ⟨rfl, rfl, rfl, Nat.le_refl _, fun _ _ _ => rfl⟩
  | some ad =>
  refine wp_append_own _ s x 22 ho base 5 i0 (.int .u8 0) 1 1 Tryd.underlying22 hi hz0 hz1 hz2 rfl (by decide) v n _ hs hown ad k c (Lib.byteCells m) hx (by rw [Lib.byteCells_length, hm.1]; omega)
    (fun j u hj => ?_) (fun u hu => by simp [Lib.byteCells] at hu; obtain ⟨_, _, rfl⟩ := hu; rfl) (by unfold maxLen; omega) (by omega) hB ?_
  · have hj' : j < m.length := by have := (List.getElem?_eq_some_iff.1 hj).1; rwa [Lib.byteCells_length] at this
    obtain ⟨b', off', e, _, hc⟩ := hm.2 (by have := hm.1; omega)
    injection e with e; subst e
    rw [add_at]; exact hc j u hj
  · intro v' w' h1 h2 _
    rw [← Lib.byteCells_append] at h1
    exact h v' w' h1 (hb.grown h2 hB (fun q hq => (hown.lt q hq).1)) h2
/-- A reader's block: the bytes that it keeps. -/
def Rd (w : World) (rb : Nat) (kept : List UInt8) : Prop :=
  ∃ cs : Array Value, w.heap[rb]? = some (.cells cs 60 (0, 0)) ∧ cs.size = 5 ∧ kept.length ≤ 3 ∧ cs.toList.take kept.length = Lib.byteCells kept ∧ cs[4]? = some (.int .i64 kept.length) ∧ ∀ j, j < 4 → ∃ u : UInt8, cs[j]? = some (.int .u8 u.toNat)
/-- New. -/
theorem new_any (w : World) : Calls Tryd.prog 20 #[] w fun e w' => ∃ rb, e = .returned (.pointer (some ⟨rb, 0, none⟩)) ∧ w.heap.size ≤ rb ∧ Rd w' rb [] ∧ Below w.heap.size w w' := by
  go_enter Tryd.func20, Tryd.ntmps20
  go_wp2
  go_ret
  refine ⟨w.heap.size, rfl, Nat.le_refl _, ⟨_, heap_alloc_new w _, rfl, by simp, rfl, rfl, ?_⟩, below_alloc' w _⟩
  intro j hj
  match j, hj with
  | 0, _ => exact ⟨0, rfl⟩
  | 1, _ => exact ⟨0, rfl⟩
  | 2, _ => exact ⟨0, rfl⟩
  | 3, _ => exact ⟨0, rfl⟩
/-- All but one block stays. -/
structure Bar (rb : Nat) (w w' : World) : Prop where
  os : w'.os = w.os
  tape : w'.tape = w.tape
  output : w'.output = w.output
  size : w.heap.size ≤ w'.heap.size
  block : ∀ i, i < w.heap.size → i ≠ rb → w'.heap[i]? = w.heap[i]?
theorem Bar.of {rb : Nat} {w w' : World} (h : Below w.heap.size w w') : Bar rb w w' := ⟨h.os, h.tape, h.output, h.size, fun i hi _ => h.block i hi⟩
theorem Bar.trans {rb : Nat} {a b c : World} (h : Bar rb a b) (k : Bar rb b c) : Bar rb a c :=
  ⟨k.os.trans h.os, k.tape.trans h.tape, k.output.trans h.output, Nat.le_trans h.size k.size, fun i hi hn => (k.block i (Nat.lt_of_lt_of_le hi h.size) hn).trans (h.block i hi hn)⟩
theorem Bar.bytes {rb : Nat} {w w' : World} (h : Bar rb w w') {A : Option Addr} {n : Nat} {l : List UInt8} (hb : BytesIn w A n l) (hA : ∀ ad, A = some ad → ad.block ≠ rb) : BytesIn w' A n l :=
  ⟨hb.1, fun hn => by
    obtain ⟨b, off, rfl, hlt, hc⟩ := hb.2 hn
    refine ⟨b, off, rfl, Nat.lt_of_lt_of_le hlt h.size, fun j u hj => ?_⟩
    rw [← hc j u hj]
    unfold World.cell?
    simp only [h.block b hlt (hA _ rfl)]⟩
theorem T.bar {rb : Nat} {w w' : World} (hT : T w) (h : Bar rb w w') (h2 : 2 ≤ rb) (hs : 2 ≤ w.heap.size) : T w' := by
  have go : ∀ b o, b < 2 → w'.cell? ⟨b, o, none⟩ = w.cell? ⟨b, o, none⟩ := fun b o hb => by
    unfold World.cell?
    simp only [h.block b (by omega) (by omega)]
  exact ⟨fun c hc => (go 0 c (by omega)).trans (hT.1 c hc), fun i hi => ⟨(go 1 _ (by omega)).trans (hT.2 i hi).1, (go 1 _ (by omega)).trans (hT.2 i hi).2⟩⟩
theorem T.two {w : World} (hT : T w) : 2 ≤ w.heap.size := by
  have := World.block_lt_of_cell? w _ (hT.2 0 (by decide)).1
  exact this
/-- copy(r.kept[:], b). -/
theorem copy_kept (W : World) (rb : Nat) (cs : Array Value) (hcs : W.heap[rb]? = some (.cells cs 60 (0, 0))) (hsz : cs.size = 5) (A : Option Addr) (k c : Nat) (l : List UInt8) (hb : BytesIn W A k l) (hz : A = none → c = 0) (h3 : k ≤ 3) (ty : TypeId) :
    ∃ W' : World, (Builtin.copy_ #[22, 22] ty #[.slice (some ⟨rb, 0, none⟩) 4 4, .slice A k c]).run Tryd.prog W = .ok (.int .i64 k) W' ∧ Bar rb W W' ∧
      ∃ cs' : Array Value, W'.heap[rb]? = some (.cells cs' 60 (0, 0)) ∧ cs' = (Lib.byteCells l ++ cs.toList.drop k).toArray := by
  have hl := hb.1
  have hs1 : (Tryd.prog.info? 5).map (·.size) = some 1 := by kernel_rfl
  cases A with
  | none =>
    have hc0 := hz rfl
    subst hc0
    obtain rfl : k = 0 := by
      rcases Nat.eq_zero_or_pos k with h | h
      · exact h
      · obtain ⟨_, _, e, _⟩ := hb.2 h; cases e
    obtain rfl : l = [] := List.eq_nil_of_length_eq_zero hl
    exact ⟨W, run_copy_nil (P := Tryd.prog) W 22 22 ty 5 _ 4 4 Tryd.underlying22 (by rw [hs1]; rfl), ⟨rfl, rfl, rfl, Nat.le_refl _, fun _ _ _ => rfl⟩, cs, hcs, by simp [Lib.byteCells]⟩
  | some ad =>
    have hr := run_copy_row (P := Tryd.prog) W 22 22 ty 5 rb 0 4 4 ad k c cs 60 (Lib.byteCells l) Tryd.underlying22 hs1 hcs (by rw [Lib.byteCells_length, hl]; show k = min k 4; omega)
      (fun j u hj => by
        have hj' : j < l.length := by have := (List.getElem?_eq_some_iff.1 hj).1; rwa [Lib.byteCells_length] at this
        obtain ⟨b', off', e, _, hc⟩ := hb.2 (by omega)
        injection e with e; subst e
        rw [add_at]; exact hc j u hj) (by rw [Lib.byteCells_length, hl, hsz]; omega) (fun u hu => by simp [Lib.byteCells] at hu; obtain ⟨_, _, rfl⟩ := hu; rfl)
    rw [Lib.byteCells_length, hl] at hr
    refine ⟨_, hr, ⟨rfl, rfl, rfl, by simp, fun i hi hne => setRow_other W rb i _ hne⟩, _, setRow_heap W rb cs _ 60 _ hcs, by simp⟩
theorem wp_builtin_copy {o : Oper} {a : Act} {K : Act → World → Prop} {Q : Exit → Act → World → Prop} (d s : Operand) (ho : o.op = .call { callee := .builtin .copy, args := #[d, s], argTypes := #[22, 22] }) (W W' : World) (v vd vs : Value)
    (hd : a.eval d = vd) (hs : a.eval s = vs) (hrun : (Builtin.copy_ #[22, 22] o.type #[vd, vs]).run Tryd.prog W = .ok v W') (h : K (a.put o.dst v) W') : o.wp Tryd.prog a W K Q := by
  unfold Oper.wp execOp
  simp only [ho, resolve, invoke, builtin, Sem.run_bind, Sem.run_pure, Result.andThen_ok, List.map_toArray, List.map_cons, List.map_nil, hd, hs, hrun]
  exact h

theorem wpList_copy_kept {ops : Array Oper} {rest : List Oper} {o : Oper} {a : Act} {Q : Exit → Act → World → Prop} (hgd : o.guard = none) (d s : Operand) (ho : o.op = .call { callee := .builtin .copy, args := #[d, s], argTypes := #[22, 22] }) (W W' : World) (v vd vs : Value)
    (hd : a.eval d = vd) (hs : a.eval s = vs) (hrun : (Builtin.copy_ #[22, 22] o.type #[vd, vs]).run Tryd.prog W = .ok v W') (h : wpList Tryd.prog ops Q rest (a.put o.dst v) W') : wpList Tryd.prog ops Q (o :: rest) a W :=
  wpList_plain hgd fun _ hK => wp_builtin_copy d s ho W W' v vd vs hd hs hrun (hK _ _ h)
theorem bar_set {rb : Nat} (W : World) (v : Value) : Bar rb W (W.setCell ⟨rb, 4, none⟩ v) := ⟨rfl, rfl, rfl, by simp [World.setCell], fun i _ hn => Below.heap_setCell _ _ _ _ hn⟩
theorem set_size (W : World) (a : Addr) (v : Value) : (W.setCell a v).heap.size = W.heap.size := by simp [World.setCell]
theorem rd_below {w w' : World} {rb : Nat} {l : List UInt8} (h : Rd w rb l) (hb : Below w.heap.size w w') (hrb : rb < w.heap.size) : Rd w' rb l := by
  obtain ⟨cs, h1, h2⟩ := h
  exact ⟨cs, (hb.block rb hrb).trans h1, h2⟩
theorem fz1' (W : World) (rb : Nat) {z : Value} (h : W.cell? ⟨rb, 4, none⟩ = some z) : rb < W.heap.size := World.block_lt_of_cell? W _ h
theorem kept_store (W1 : World) (rb : Nat) (cs1 : Array Value) (hcs1 : W1.heap[rb]? = some (.cells cs1 60 (0, 0))) (cs : Array Value) (l : List UInt8) (k : Nat) (hsz : cs.size = 5) (hby : ∀ j, j < 4 → ∃ u : UInt8, cs[j]? = some (.int .u8 u.toNat)) (hl : l.length = k) (h3 : k ≤ 3)
    (he : cs1 = (Lib.byteCells l ++ cs.toList.drop k).toArray) :
    W1.cell? ⟨rb, 4, none⟩ = some (cs.getD 4 undef) ∧ W1.frozen? ⟨rb, 4, none⟩ = false ∧ Rd (W1.setCell ⟨rb, 4, none⟩ (.int .i64 (k : Int))) rb l := by
  have hs1 : cs1.size = 5 := by rw [he]; simp [Lib.byteCells_length, hl, hsz]; omega
  have hat : ∀ j, k ≤ j → cs1[j]? = cs[j]? := fun j hj => by
    rw [he, List.getElem?_toArray, List.getElem?_append_right (by rw [Lib.byteCells_length, hl]; exact hj), Lib.byteCells_length, hl, List.getElem?_drop, Array.getElem?_toList]
    congr 1; omega
  have hlo : ∀ j, j < k → cs1[j]? = (Lib.byteCells l)[j]? := fun j hj => by
    rw [he, List.getElem?_toArray, List.getElem?_append_left (by rw [Lib.byteCells_length, hl]; exact hj)]
  refine ⟨?_, ?_, ⟨cs1.setIfInBounds 4 (.int .i64 k), heap_setCell_same W1 rb 4 cs1 60 _ hcs1, by rw [Array.size_setIfInBounds]; exact hs1, by omega, ?_, ?_, ?_⟩⟩
  · rw [cell_of_row _ rb 4 cs1 60 (0, 0) hcs1, hat 4 (by omega), Array.getD_eq_getD_getElem?, Array.getElem?_eq_getElem (by omega)]; rfl
  · unfold World.frozen?; rw [hcs1]; simp
  · apply List.ext_getElem?
    intro j
    rw [List.getElem?_take]
    split
    · rename_i hj
      rw [Array.toList_setIfInBounds, List.getElem?_set_ne (by omega), Array.getElem?_toList, hlo j (by omega)]
    · rw [List.getElem?_eq_none (by rw [Lib.byteCells_length]; omega)]
  · rw [Array.getElem?_setIfInBounds_self, if_pos (by omega), hl]
  · intro j hj
    rw [Array.getElem?_setIfInBounds_ne (by omega)]
    rcases Nat.lt_or_ge j k with h | h
    · rw [hlo j h]
      exact ⟨l.getD j 0, by simp [Lib.byteCells, List.getD_eq_getElem?_getD, List.getElem?_eq_getElem (show j < l.length by omega)]⟩
    · rw [hat j h]; exact hby j hj

set_option maxRecDepth 100000 in
set_option maxHeartbeats 2000000 in
theorem feed_any (rb : Nat) (kept : List UInt8) (A : Option Addr) (n c : Nat) (l : List UInt8) (w : World) (hT : T w) (h2 : 2 ≤ rb) (hR : Rd w rb kept) (hb : BytesIn w A n l) (hz : A = none → n = 0 ∧ c = 0) (hn : n ≤ 5000) :
    Calls Tryd.prog 18 #[.pointer (some ⟨rb, 0, none⟩), .slice A n c] w fun e w' => ∃ k, Ut.Cut (kept ++ l) k ∧
      e = .returned (.tuple #[.string ⟨(Ut.dec ((kept ++ l).take ((kept ++ l).length - k))).toArray⟩, .int .i64 0]) ∧ Rd w' rb ((kept ++ l).drop ((kept ++ l).length - k)) ∧ Bar rb w w' := by
  obtain ⟨cs, hcs, hsz, hk3, htk, h4, hby⟩ := hR
  have hrb : rb < w.heap.size := (Array.getElem?_eq_some_iff.1 hcs).1
  have hmany : w.cell? ⟨rb, 4, none⟩ = some (.int .i64 kept.length) := by rw [cell_of_row _ rb 4 cs 60 (0, 0) hcs]; exact h4
  have hkin : BytesIn w (some ⟨rb, 0, none⟩) kept.length kept := ⟨rfl, fun _ => ⟨rb, 0, rfl, hrb, fun j u hj => by
    have hj' : j < kept.length := by have := (List.getElem?_eq_some_iff.1 hj).1; rwa [Lib.byteCells_length] at this
    rw [Nat.zero_add, cell_of_row _ rb j cs 60 (0, 0) hcs, ← hj, ← htk, List.getElem?_take, if_pos hj', Array.getElem?_toList]⟩⟩
  obtain ⟨m, hm⟩ : ∃ m, m = kept.length := ⟨_, rfl⟩
  rw [← hm] at hmany hkin hk3
  have hmi : (0 : Int) ≤ (m : Int) ∧ (m : Int) ≤ 4 := by omega
  have HT := Lib.hid hT; clear hT
  have HB := Lib.hid hb; clear hb
  have HK := Lib.hid hkin; clear hkin
  have HM := Lib.hid hm; clear hm
  have HCS := Lib.hid hcs
  have HSZ := Lib.hid hsz
  have HBY := Lib.hid hby
  clear hby h4 htk hsz hcs
  have b1 : Below w.heap.size w ((w.alloc (.cells #[] 5)).drew) := by have h := below_alloc' w (.cells #[] 5); exact ⟨h.os, h.tape, h.output, h.size, h.block⟩
  have o1 : ((w.alloc (.cells #[] 5)).drew).ownsRow w.heap.size 5 1 (.slice (some ⟨w.heap.size, 0, none⟩) 0 0) 0 (Lib.byteCells []) := ⟨rfl, .inr ⟨w.heap.size, 0, #[], rfl, Nat.le_refl _, heap_alloc_new w _, Nat.le_refl _, Nat.zero_le _, rfl, rfl⟩⟩
  obtain ⟨M, hM⟩ : ∃ M, M = kept ++ l := ⟨_, rfl⟩
  rw [← hM]
  have HMD := Lib.hid hM; clear hM
  go_enter Tryd.func18, Tryd.ntmps18
  go_wp2_with fail
  go_region_held3 (fun w' => w'.cell? ⟨rb, 4, none⟩ = some (.int .i64 m))
    (first | (exact (hb2.cell hrb).trans hmany) | (exact (hb1.cell hrb).trans hmany) | (exact (b1.cell hrb).trans hmany) | go_keep)
    (first
      | (refine wp_append_any_bytes (.tmp 12) (.tmp 20) rfl _ w w.heap.size _ 0 [] kept (some ⟨rb, 0, none⟩) m 4 rfl rfl o1 (HK.out.below b1) (fun e => by cases e) b1 b1.size (by omega) ?_; intro v1 w1 hown1 hb1 hg1; rw [Nat.zero_add, List.nil_append] at hown1)
      | (refine wp_append_any_bytes (.tmp 21) (.tmp 22) rfl _ w w.heap.size _ m kept l A n c rfl rfl hown1 (HB.out.below hb1) hz hb1 hb1.size (by omega) ?_; intro v2 w2 hown2 hb2 hg2))
  rcases hown2.2 with ⟨hv, h0⟩ | ⟨g, c2, cur2, hv, hbg, _, hc2, _⟩
  · have hM0 : M = [] := by
      have h1 : n = 0 := by omega
      have h2 := HB.out.1
      have h3 := HM.out
      rw [HMD.out, List.eq_nil_of_length_eq_zero (show kept.length = 0 by omega), List.eq_nil_of_length_eq_zero (show l.length = 0 by omega)]; rfl
    obtain ⟨N, hN⟩ : ∃ N : Nat, N = 0 := ⟨_, rfl⟩
    have HML : Hid (M.length = N) := by rw [hM0, hN]; rfl
    have HNN := Lib.hid hN
    have HM0 := Lib.hid hM0
    have HB2 := Lib.hid hb2
    subst hv
    clear hM0 hN hg1 hg2 hb2 hown1 hown2 o1 b1 hb1 hmany
    go_wp2_with fail
    go_loopg [7, 8] 0 (fun gk v7 v wr => v = .int .i64 1 ∧ v7 = .int .i64 0 ∧ wr = w2)
    case atStart => exact ⟨rfl, rfl, rfl⟩
    case round =>
      obtain ⟨rfl, rfl, rfl⟩ := hrel
      have HBF : Hid (Below wr.heap.size wr wr) := Below.refl _ _
      go_wp2_with fail
      have hbd : Below wr.heap.size wr wr.drew := by have h := HBF.out; exact ⟨h.os, h.tape, h.output, h.size, h.block⟩
      have bf := (Bar.of (rb := rb) HB2.out).trans (Bar.of (rb := rb) hbd)
      have hcsf : wr.drew.heap[rb]? = some (.cells cs 60 (0, 0)) := (hbd.block rb (Nat.lt_of_lt_of_le hrb HB2.out.size)).trans ((HB2.out.block rb hrb).trans HCS.out)
      have hsrc : BytesIn wr.drew (none) (0) (M.drop (0)) := ⟨by rw [HM0.out]; rfl, fun h => absurd h (by omega)⟩
      obtain ⟨W1, hcopy, hbar1, cs1, hcs1, hcs1e⟩ := copy_kept wr.drew rb cs hcsf HSZ.out (none) (0) (0) (M.drop (0)) hsrc (fun e => rfl) (by omega) 3
      obtain ⟨fz1, fz2, fz3⟩ := kept_store W1 rb cs1 hcs1 cs (M.drop (0)) (0) HSZ.out HBY.out hsrc.1 (by omega) hcs1e
      have hdl : BytesIn (W1.setCell ⟨rb, 4, none⟩ (.int .i64 ((0 : Nat) : Int))) (none) (0) (M.take (0)) := ⟨by rw [HM0.out]; rfl, fun h => absurd h (by omega)⟩
      have hTf := T.bar (T.bar HT.out (bf.trans hbar1) h2 (T.two HT.out)) (bar_set (rb := rb) W1 (.int .i64 ((0 : Nat) : Int))) h2 (T.two (T.bar HT.out (bf.trans hbar1) h2 (T.two HT.out)))
      have c10 := dec_any (none) (0) (0) (M.take (0)) _ hTf hdl (by omega) (by omega)
      have C10 := Lib.hid c10; clear c10
      have HBAR := Lib.hid (bf.trans (hbar1.trans (bar_set (rb := rb) W1 (.int .i64 ((0 : Nat) : Int)))))
      have HFZ3 := Lib.hid fz3
      have hrl : rb < W1.heap.size := fz1' W1 rb fz1
      have HRL := Lib.hid hrl
      have HCUT : Hid (Ut.Cut M (0)) := Or.inl ⟨rfl, Or.inr (by rw [HM0.out]; intro i c h; cases h)⟩
      have HNK := Lib.hid (show N - (0) = 0 by rw [HNN.out])
      clear bf hcsf hsrc hbar1 hcs1 hcs1e hdl hTf fz3 hrl hbd
      go_region_held3 (fun w' => True) (trivial)
        (fail)
      go_wp2_with fail
      refine C10.out.mono ?_
      rintro e w9 ⟨rfl, hb9⟩
      go_wp2
      go_ret2
      refine ⟨0, HCUT.out, ?_, ?_, HBAR.out.trans (Bar.of hb9)⟩
      · rw [HML.out, HNK.out]; rfl
      · rw [HML.out, HNK.out]
        exact rd_below HFZ3.out hb9 (by rw [set_size]; exact HRL.out)
  subst hv
  have hbi := BytesIn.of_own hown2
  have hgrb : g ≠ rb := by omega
  obtain ⟨N, hN⟩ : ∃ N, N = m + n := ⟨_, rfl⟩
  rw [← HMD.out] at hbi
  rw [← hN] at hbi hc2 ⊢
  have hML : M.length = N := hbi.1
  have hN5 : N ≤ 5003 := by omega
  have HML := Lib.hid hML
  have HBI := Lib.hid hbi
  have HB2 := Lib.hid hb2
  clear hbi hML hN hg1 hg2 hb2 hown1 hown2 o1 b1 hb1 hmany
  go_wp2_with fail
  go_loopg [7, 8] 4 (fun gk v7 v wr => ∃ k : Nat, k + gk = 5 ∧ 1 ≤ k ∧ k ≤ 4 ∧ v = .int .i64 k ∧ v7 = .int .i64 N ∧ Hid (∀ i x, M[i]? = some x → N < i + k → Ut.co x = true) ∧ wr = w2)
  case atStart => exact ⟨1, rfl, Nat.le_refl _, by omega, rfl, rfl, (fun i x hx h => by have := (List.getElem?_eq_some_iff.1 hx).1; have := HML.out; omega), rfl⟩
  case round =>
    obtain ⟨k, hk, hk1, hk4', rfl, rfl, HA, rfl⟩ := hrel
    have HK4 := Lib.hid hk; clear hk
    by_cases hkk : k < 4 ∧ k ≤ N
    · obtain ⟨hk4, hkN⟩ := hkk
      obtain ⟨j, hj⟩ : ∃ j, j + k = N := ⟨N - k, by omega⟩
      have hji : (N : Int) - (k : Int) = (j : Int) := by omega
      have hcell := Row.cellB HBI.out j (by omega)
      rw [Nat.zero_add] at hcell
      obtain ⟨x, hx⟩ : ∃ x, x = M.getD j 0 := ⟨_, rfl⟩
      rw [← hx] at hcell
      have hjN : (j : Int) ≤ (N : Int) := by omega
      have hjN' : j ≤ N := by omega
      have hst := start_any x
      cases hco : Ut.co x with
      | true =>
        rw [hco] at hst
        have ST := Lib.hid hst; clear hst
        have HJ := Lib.hid hj; clear hj
        have HX := Lib.hid hx; clear hx
        have HCO := Lib.hid hco; clear hco
        go_wp2_with fail
        refine (ST.out _).mono ?_
        rintro e w3 ⟨rfl, rfl⟩
        go_wp2
        go_roundg (gk - 1)
        case rel =>
          have h4 := HK4.out
          have hj := HJ.out
          refine ⟨k + 1, by omega, by omega, by omega, by go_num, rfl, fun i y hy h => ?_, rfl⟩
          rcases Nat.lt_or_ge N (i + k) with h' | h'
          · exact HA.out i y hy h'
          · obtain rfl : i = j := by omega
            have := HX.out
            rw [List.getD_eq_getElem?_getD, hy] at this
            simp only [Option.getD_some] at this
            rw [← this]; exact HCO.out
        case measure => have := HK4.out; omega
      | false =>
        rw [hco] at hst
        have ST := Lib.hid hst; clear hst
        have HJ := Lib.hid hj; clear hj
        have HX := Lib.hid hx; clear hx
        have HCO := Lib.hid hco; clear hco
        go_wp2_with fail
        refine (ST.out _).mono ?_
        rintro e w3 ⟨rfl, rfl⟩
        have hdrop : M.drop j = x :: M.drop (j + 1) := by
          have hjl : j < M.length := by rw [HML.out]; have := HJ.out; omega
          rw [List.drop_eq_getElem_cons hjl, HX.out, List.getD_eq_getElem?_getD, List.getElem?_eq_getElem hjl]; rfl
        have hrest : ∀ y ∈ M.drop (j + 1), Ut.co y = true := fun y hy => by
          obtain ⟨i, hi⟩ := List.getElem?_of_mem hy
          rw [List.getElem?_drop] at hi
          have := HJ.out
          exact HA.out _ y hi (by omega)
        have c32 := full_any g (0 + j) (N - j) (c2 - j) (M.drop j) w3 (T.below HT.out HB2.out) (HBI.out.drop (by omega)) (by have := HJ.out; omega) (by have := HJ.out; omega)
        rw [Nat.zero_add] at c32
        have HDROP := Lib.hid hdrop
        have HREST := Lib.hid hrest
        clear hdrop hrest
        cases hfl : decide (Ut.FullL (M.drop j)) with
        | true =>
          rw [hfl] at c32
          have HFL := Lib.hid (of_decide_eq_true hfl)
          have C32 := Lib.hid c32; clear c32 hfl
          go_wp2_with fail
          refine C32.out.mono ?_
          rintro e wf ⟨rfl, hbf⟩
          have HBF := Lib.hid (hbf.mono (Nat.le_refl _)); clear hbf
          go_wp2_with fail
          by_cases hcN : N = c2
          · subst hcN
            have hbd : Below w3.heap.size w3 wf.drew := by have h := HBF.out; exact ⟨h.os, h.tape, h.output, h.size, h.block⟩
            have bf := (Bar.of (rb := rb) HB2.out).trans (Bar.of (rb := rb) hbd)
            have hcsf : wf.drew.heap[rb]? = some (.cells cs 60 (0, 0)) := (hbd.block rb (Nat.lt_of_lt_of_le hrb HB2.out.size)).trans ((HB2.out.block rb hrb).trans HCS.out)
            have hsrc : BytesIn wf.drew (some ⟨g, 0, none⟩) (0) (M.drop (N)) := ⟨by rw [List.length_drop, HML.out, Nat.sub_self], fun h => absurd h (by omega)⟩
            obtain ⟨W1, hcopy, hbar1, cs1, hcs1, hcs1e⟩ := copy_kept wf.drew rb cs hcsf HSZ.out (some ⟨g, 0, none⟩) (0) (0) (M.drop (N)) hsrc (fun e => by cases e) (by omega) 3
            obtain ⟨fz1, fz2, fz3⟩ := kept_store W1 rb cs1 hcs1 cs (M.drop (N)) (0) HSZ.out HBY.out hsrc.1 (by omega) hcs1e
            have hdl : BytesIn (W1.setCell ⟨rb, 4, none⟩ (.int .i64 ((0 : Nat) : Int))) (some ⟨g, 0, none⟩) (N) (M.take (N)) := (bar_set (rb := rb) W1 _).bytes (hbar1.bytes ((HBI.out.below hbd).take (k := N) (by omega)) (fun ad e => by cases e; exact hgrb)) (fun ad e => by cases e; exact hgrb)
            have hTf := T.bar (T.bar HT.out (bf.trans hbar1) h2 (T.two HT.out)) (bar_set (rb := rb) W1 (.int .i64 ((0 : Nat) : Int))) h2 (T.two (T.bar HT.out (bf.trans hbar1) h2 (T.two HT.out)))
            have c10 := dec_any (some ⟨g, 0, none⟩) (N) (N) (M.take (N)) _ hTf hdl (by omega) (by omega)
            have C10 := Lib.hid c10; clear c10
            have HBAR := Lib.hid (bf.trans (hbar1.trans (bar_set (rb := rb) W1 (.int .i64 ((0 : Nat) : Int)))))
            have HFZ3 := Lib.hid fz3
            have hrl : rb < W1.heap.size := fz1' W1 rb fz1
            have HRL := Lib.hid hrl
            have HCUT : Hid (Ut.Cut M (0)) := Or.inl ⟨rfl, Or.inl ⟨M.take j, x, M.drop (j + 1), by rw [← HDROP.out, List.take_append_drop], HCO.out, HREST.out, by rw [List.length_drop, HML.out]; have := HJ.out; omega, by rw [← HDROP.out]; exact HFL.out⟩⟩
            have HNK := Lib.hid (show N - (0) = N by omega)
            clear bf hcsf hsrc hbar1 hcs1 hcs1e hdl hTf fz3 hrl hbd
            go_region_held3 (fun w' => True) (trivial)
              (fail)
            go_wp2_with fail
            refine C10.out.mono ?_
            rintro e w9 ⟨rfl, hb9⟩
            go_wp2
            go_ret2
            refine ⟨0, HCUT.out, ?_, ?_, HBAR.out.trans (Bar.of hb9)⟩
            · rw [HML.out, HNK.out]; rfl
            · rw [HML.out, HNK.out]
              exact rd_below HFZ3.out hb9 (by rw [set_size]; exact HRL.out)
          · have hlt : N < c2 := by omega
            have hcc : ¬ c2 - N = 0 := by omega
            clear hcN
            have hbd : Below w3.heap.size w3 wf.drew := by have h := HBF.out; exact ⟨h.os, h.tape, h.output, h.size, h.block⟩
            have bf := (Bar.of (rb := rb) HB2.out).trans (Bar.of (rb := rb) hbd)
            have hcsf : wf.drew.heap[rb]? = some (.cells cs 60 (0, 0)) := (hbd.block rb (Nat.lt_of_lt_of_le hrb HB2.out.size)).trans ((HB2.out.block rb hrb).trans HCS.out)
            have hsrc : BytesIn wf.drew (some ⟨g, N, none⟩) (0) (M.drop (N)) := by have h := (HBI.out.below hbd).drop (k := N) (by omega); rw [Nat.zero_add] at h; rwa [show N - N = 0 by omega] at h
            obtain ⟨W1, hcopy, hbar1, cs1, hcs1, hcs1e⟩ := copy_kept wf.drew rb cs hcsf HSZ.out (some ⟨g, N, none⟩) (0) (c2 - N) (M.drop (N)) hsrc (fun e => by cases e) (by omega) 3
            obtain ⟨fz1, fz2, fz3⟩ := kept_store W1 rb cs1 hcs1 cs (M.drop (N)) (0) HSZ.out HBY.out hsrc.1 (by omega) hcs1e
            have hdl : BytesIn (W1.setCell ⟨rb, 4, none⟩ (.int .i64 ((0 : Nat) : Int))) (some ⟨g, 0, none⟩) (N) (M.take (N)) := (bar_set (rb := rb) W1 _).bytes (hbar1.bytes ((HBI.out.below hbd).take (k := N) (by omega)) (fun ad e => by cases e; exact hgrb)) (fun ad e => by cases e; exact hgrb)
            have hTf := T.bar (T.bar HT.out (bf.trans hbar1) h2 (T.two HT.out)) (bar_set (rb := rb) W1 (.int .i64 ((0 : Nat) : Int))) h2 (T.two (T.bar HT.out (bf.trans hbar1) h2 (T.two HT.out)))
            have c10 := dec_any (some ⟨g, 0, none⟩) (N) (c2) (M.take (N)) _ hTf hdl (by omega) (by omega)
            have C10 := Lib.hid c10; clear c10
            have HBAR := Lib.hid (bf.trans (hbar1.trans (bar_set (rb := rb) W1 (.int .i64 ((0 : Nat) : Int)))))
            have HFZ3 := Lib.hid fz3
            have hrl : rb < W1.heap.size := fz1' W1 rb fz1
            have HRL := Lib.hid hrl
            have HCUT : Hid (Ut.Cut M (0)) := Or.inl ⟨rfl, Or.inl ⟨M.take j, x, M.drop (j + 1), by rw [← HDROP.out, List.take_append_drop], HCO.out, HREST.out, by rw [List.length_drop, HML.out]; have := HJ.out; omega, by rw [← HDROP.out]; exact HFL.out⟩⟩
            have HNK := Lib.hid (show N - (0) = N by omega)
            clear bf hcsf hsrc hbar1 hcs1 hcs1e hdl hTf fz3 hrl hbd
            go_region_held3 (fun w' => True) (trivial)
              (fail)
            go_wp2_with fail
            refine C10.out.mono ?_
            rintro e w9 ⟨rfl, hb9⟩
            go_wp2
            go_ret2
            refine ⟨0, HCUT.out, ?_, ?_, HBAR.out.trans (Bar.of hb9)⟩
            · rw [HML.out, HNK.out]; rfl
            · rw [HML.out, HNK.out]
              exact rd_below HFZ3.out hb9 (by rw [set_size]; exact HRL.out)
        | false =>
          rw [hfl] at c32
          have C32 := Lib.hid c32; clear c32 hfl
          have hNj : N - j = k := by have := HJ.out; omega
          have hjN'' : j ≤ c2 := by omega
          rw [hNj] at C32
          go_wp2_with fail
          refine C32.out.mono ?_
          rintro e wf ⟨rfl, hbf⟩
          have HBF := Lib.hid (hbf.mono (Nat.le_refl _)); clear hbf
          go_wp2_with fail
          have hbd : Below w3.heap.size w3 wf.drew := by have h := HBF.out; exact ⟨h.os, h.tape, h.output, h.size, h.block⟩
          have bf := (Bar.of (rb := rb) HB2.out).trans (Bar.of (rb := rb) hbd)
          have hcsf : wf.drew.heap[rb]? = some (.cells cs 60 (0, 0)) := (hbd.block rb (Nat.lt_of_lt_of_le hrb HB2.out.size)).trans ((HB2.out.block rb hrb).trans HCS.out)
          have hsrc : BytesIn wf.drew (some ⟨g, j, none⟩) (k) (M.drop (j)) := by have h := (HBI.out.below hbd).drop (k := j) (by omega); rw [Nat.zero_add] at h; rwa [show N - j = k by omega] at h
          obtain ⟨W1, hcopy, hbar1, cs1, hcs1, hcs1e⟩ := copy_kept wf.drew rb cs hcsf HSZ.out (some ⟨g, j, none⟩) (k) (c2 - j) (M.drop (j)) hsrc (fun e => by cases e) (by omega) 3
          obtain ⟨fz1, fz2, fz3⟩ := kept_store W1 rb cs1 hcs1 cs (M.drop (j)) (k) HSZ.out HBY.out hsrc.1 (by omega) hcs1e
          have hdl : BytesIn (W1.setCell ⟨rb, 4, none⟩ (.int .i64 ((k : Nat) : Int))) (some ⟨g, 0, none⟩) (j) (M.take (j)) := (bar_set (rb := rb) W1 _).bytes (hbar1.bytes ((HBI.out.below hbd).take (k := j) (by omega)) (fun ad e => by cases e; exact hgrb)) (fun ad e => by cases e; exact hgrb)
          have hTf := T.bar (T.bar HT.out (bf.trans hbar1) h2 (T.two HT.out)) (bar_set (rb := rb) W1 (.int .i64 ((k : Nat) : Int))) h2 (T.two (T.bar HT.out (bf.trans hbar1) h2 (T.two HT.out)))
          have c10 := dec_any (some ⟨g, 0, none⟩) (j) (c2) (M.take (j)) _ hTf hdl (by omega) (by omega)
          have C10 := Lib.hid c10; clear c10
          have HBAR := Lib.hid (bf.trans (hbar1.trans (bar_set (rb := rb) W1 (.int .i64 ((k : Nat) : Int)))))
          have HFZ3 := Lib.hid fz3
          have hrl : rb < W1.heap.size := fz1' W1 rb fz1
          have HRL := Lib.hid hrl
          have HCUT : Hid (Ut.Cut M (k)) := Or.inr ⟨hk1, by omega, by rw [HML.out]; omega, by rw [HML.out, show N - k = j by have := HJ.out; omega, HDROP.out]; intro y hy; simp at hy; subst hy; exact HCO.out⟩
          have HNK := Lib.hid (show N - (k) = j by have := HJ.out; omega)
          clear bf hcsf hsrc hbar1 hcs1 hcs1e hdl hTf fz3 hrl hbd
          go_region_held3 (fun w' => True) (trivial)
            (fail)
          go_wp2_with fail
          refine C10.out.mono ?_
          rintro e w9 ⟨rfl, hb9⟩
          go_wp2
          go_ret2
          refine ⟨k, HCUT.out, ?_, ?_, HBAR.out.trans (Bar.of hb9)⟩
          · rw [HML.out, HNK.out]; rfl
          · rw [HML.out, HNK.out]
            exact rd_below HFZ3.out hb9 (by rw [set_size]; exact HRL.out)
    · have HTAIL : Hid (Ut.Tail M) := fun i y hy hl => HA.out i y hy (by rw [HML.out] at hl; omega)
      have HBF : Hid (Below wr.heap.size wr wr) := Below.refl _ _
      by_cases hk4 : k < 4
      · have hkN : ¬ (k : Int) ≤ (N : Int) := by omega
        clear hkk
        go_wp2_with fail
        by_cases hcN : N = c2
        · subst hcN
          have hbd : Below wr.heap.size wr wr.drew := by have h := HBF.out; exact ⟨h.os, h.tape, h.output, h.size, h.block⟩
          have bf := (Bar.of (rb := rb) HB2.out).trans (Bar.of (rb := rb) hbd)
          have hcsf : wr.drew.heap[rb]? = some (.cells cs 60 (0, 0)) := (hbd.block rb (Nat.lt_of_lt_of_le hrb HB2.out.size)).trans ((HB2.out.block rb hrb).trans HCS.out)
          have hsrc : BytesIn wr.drew (some ⟨g, 0, none⟩) (0) (M.drop (N)) := ⟨by rw [List.length_drop, HML.out, Nat.sub_self], fun h => absurd h (by omega)⟩
          obtain ⟨W1, hcopy, hbar1, cs1, hcs1, hcs1e⟩ := copy_kept wr.drew rb cs hcsf HSZ.out (some ⟨g, 0, none⟩) (0) (0) (M.drop (N)) hsrc (fun e => by cases e) (by omega) 3
          obtain ⟨fz1, fz2, fz3⟩ := kept_store W1 rb cs1 hcs1 cs (M.drop (N)) (0) HSZ.out HBY.out hsrc.1 (by omega) hcs1e
          have hdl : BytesIn (W1.setCell ⟨rb, 4, none⟩ (.int .i64 ((0 : Nat) : Int))) (some ⟨g, 0, none⟩) (N) (M.take (N)) := (bar_set (rb := rb) W1 _).bytes (hbar1.bytes ((HBI.out.below hbd).take (k := N) (by omega)) (fun ad e => by cases e; exact hgrb)) (fun ad e => by cases e; exact hgrb)
          have hTf := T.bar (T.bar HT.out (bf.trans hbar1) h2 (T.two HT.out)) (bar_set (rb := rb) W1 (.int .i64 ((0 : Nat) : Int))) h2 (T.two (T.bar HT.out (bf.trans hbar1) h2 (T.two HT.out)))
          have c10 := dec_any (some ⟨g, 0, none⟩) (N) (N) (M.take (N)) _ hTf hdl (by omega) (by omega)
          have C10 := Lib.hid c10; clear c10
          have HBAR := Lib.hid (bf.trans (hbar1.trans (bar_set (rb := rb) W1 (.int .i64 ((0 : Nat) : Int)))))
          have HFZ3 := Lib.hid fz3
          have hrl : rb < W1.heap.size := fz1' W1 rb fz1
          have HRL := Lib.hid hrl
          have HCUT : Hid (Ut.Cut M (0)) := Or.inl ⟨rfl, Or.inr HTAIL.out⟩
          have HNK := Lib.hid (show N - (0) = N by omega)
          clear bf hcsf hsrc hbar1 hcs1 hcs1e hdl hTf fz3 hrl hbd
          go_region_held3 (fun w' => True) (trivial)
            (fail)
          go_wp2_with fail
          refine C10.out.mono ?_
          rintro e w9 ⟨rfl, hb9⟩
          go_wp2
          go_ret2
          refine ⟨0, HCUT.out, ?_, ?_, HBAR.out.trans (Bar.of hb9)⟩
          · rw [HML.out, HNK.out]; rfl
          · rw [HML.out, HNK.out]
            exact rd_below HFZ3.out hb9 (by rw [set_size]; exact HRL.out)
        · have hlt : N < c2 := by omega
          have hcc : ¬ c2 - N = 0 := by omega
          clear hcN
          have hbd : Below wr.heap.size wr wr.drew := by have h := HBF.out; exact ⟨h.os, h.tape, h.output, h.size, h.block⟩
          have bf := (Bar.of (rb := rb) HB2.out).trans (Bar.of (rb := rb) hbd)
          have hcsf : wr.drew.heap[rb]? = some (.cells cs 60 (0, 0)) := (hbd.block rb (Nat.lt_of_lt_of_le hrb HB2.out.size)).trans ((HB2.out.block rb hrb).trans HCS.out)
          have hsrc : BytesIn wr.drew (some ⟨g, N, none⟩) (0) (M.drop (N)) := by have h := (HBI.out.below hbd).drop (k := N) (by omega); rw [Nat.zero_add] at h; rwa [show N - N = 0 by omega] at h
          obtain ⟨W1, hcopy, hbar1, cs1, hcs1, hcs1e⟩ := copy_kept wr.drew rb cs hcsf HSZ.out (some ⟨g, N, none⟩) (0) (c2 - N) (M.drop (N)) hsrc (fun e => by cases e) (by omega) 3
          obtain ⟨fz1, fz2, fz3⟩ := kept_store W1 rb cs1 hcs1 cs (M.drop (N)) (0) HSZ.out HBY.out hsrc.1 (by omega) hcs1e
          have hdl : BytesIn (W1.setCell ⟨rb, 4, none⟩ (.int .i64 ((0 : Nat) : Int))) (some ⟨g, 0, none⟩) (N) (M.take (N)) := (bar_set (rb := rb) W1 _).bytes (hbar1.bytes ((HBI.out.below hbd).take (k := N) (by omega)) (fun ad e => by cases e; exact hgrb)) (fun ad e => by cases e; exact hgrb)
          have hTf := T.bar (T.bar HT.out (bf.trans hbar1) h2 (T.two HT.out)) (bar_set (rb := rb) W1 (.int .i64 ((0 : Nat) : Int))) h2 (T.two (T.bar HT.out (bf.trans hbar1) h2 (T.two HT.out)))
          have c10 := dec_any (some ⟨g, 0, none⟩) (N) (c2) (M.take (N)) _ hTf hdl (by omega) (by omega)
          have C10 := Lib.hid c10; clear c10
          have HBAR := Lib.hid (bf.trans (hbar1.trans (bar_set (rb := rb) W1 (.int .i64 ((0 : Nat) : Int)))))
          have HFZ3 := Lib.hid fz3
          have hrl : rb < W1.heap.size := fz1' W1 rb fz1
          have HRL := Lib.hid hrl
          have HCUT : Hid (Ut.Cut M (0)) := Or.inl ⟨rfl, Or.inr HTAIL.out⟩
          have HNK := Lib.hid (show N - (0) = N by omega)
          clear bf hcsf hsrc hbar1 hcs1 hcs1e hdl hTf fz3 hrl hbd
          go_region_held3 (fun w' => True) (trivial)
            (fail)
          go_wp2_with fail
          refine C10.out.mono ?_
          rintro e w9 ⟨rfl, hb9⟩
          go_wp2
          go_ret2
          refine ⟨0, HCUT.out, ?_, ?_, HBAR.out.trans (Bar.of hb9)⟩
          · rw [HML.out, HNK.out]; rfl
          · rw [HML.out, HNK.out]
            exact rd_below HFZ3.out hb9 (by rw [set_size]; exact HRL.out)
      · obtain rfl : k = 4 := by omega
        clear hkk
        go_wp2_with fail
        by_cases hcN : N = c2
        · subst hcN
          have hbd : Below wr.heap.size wr wr.drew := by have h := HBF.out; exact ⟨h.os, h.tape, h.output, h.size, h.block⟩
          have bf := (Bar.of (rb := rb) HB2.out).trans (Bar.of (rb := rb) hbd)
          have hcsf : wr.drew.heap[rb]? = some (.cells cs 60 (0, 0)) := (hbd.block rb (Nat.lt_of_lt_of_le hrb HB2.out.size)).trans ((HB2.out.block rb hrb).trans HCS.out)
          have hsrc : BytesIn wr.drew (some ⟨g, 0, none⟩) (0) (M.drop (N)) := ⟨by rw [List.length_drop, HML.out, Nat.sub_self], fun h => absurd h (by omega)⟩
          obtain ⟨W1, hcopy, hbar1, cs1, hcs1, hcs1e⟩ := copy_kept wr.drew rb cs hcsf HSZ.out (some ⟨g, 0, none⟩) (0) (0) (M.drop (N)) hsrc (fun e => by cases e) (by omega) 3
          obtain ⟨fz1, fz2, fz3⟩ := kept_store W1 rb cs1 hcs1 cs (M.drop (N)) (0) HSZ.out HBY.out hsrc.1 (by omega) hcs1e
          have hdl : BytesIn (W1.setCell ⟨rb, 4, none⟩ (.int .i64 ((0 : Nat) : Int))) (some ⟨g, 0, none⟩) (N) (M.take (N)) := (bar_set (rb := rb) W1 _).bytes (hbar1.bytes ((HBI.out.below hbd).take (k := N) (by omega)) (fun ad e => by cases e; exact hgrb)) (fun ad e => by cases e; exact hgrb)
          have hTf := T.bar (T.bar HT.out (bf.trans hbar1) h2 (T.two HT.out)) (bar_set (rb := rb) W1 (.int .i64 ((0 : Nat) : Int))) h2 (T.two (T.bar HT.out (bf.trans hbar1) h2 (T.two HT.out)))
          have c10 := dec_any (some ⟨g, 0, none⟩) (N) (N) (M.take (N)) _ hTf hdl (by omega) (by omega)
          have C10 := Lib.hid c10; clear c10
          have HBAR := Lib.hid (bf.trans (hbar1.trans (bar_set (rb := rb) W1 (.int .i64 ((0 : Nat) : Int)))))
          have HFZ3 := Lib.hid fz3
          have hrl : rb < W1.heap.size := fz1' W1 rb fz1
          have HRL := Lib.hid hrl
          have HCUT : Hid (Ut.Cut M (0)) := Or.inl ⟨rfl, Or.inr HTAIL.out⟩
          have HNK := Lib.hid (show N - (0) = N by omega)
          clear bf hcsf hsrc hbar1 hcs1 hcs1e hdl hTf fz3 hrl hbd
          go_region_held3 (fun w' => True) (trivial)
            (fail)
          go_wp2_with fail
          refine C10.out.mono ?_
          rintro e w9 ⟨rfl, hb9⟩
          go_wp2
          go_ret2
          refine ⟨0, HCUT.out, ?_, ?_, HBAR.out.trans (Bar.of hb9)⟩
          · rw [HML.out, HNK.out]; rfl
          · rw [HML.out, HNK.out]
            exact rd_below HFZ3.out hb9 (by rw [set_size]; exact HRL.out)
        · have hlt : N < c2 := by omega
          have hcc : ¬ c2 - N = 0 := by omega
          clear hcN
          have hbd : Below wr.heap.size wr wr.drew := by have h := HBF.out; exact ⟨h.os, h.tape, h.output, h.size, h.block⟩
          have bf := (Bar.of (rb := rb) HB2.out).trans (Bar.of (rb := rb) hbd)
          have hcsf : wr.drew.heap[rb]? = some (.cells cs 60 (0, 0)) := (hbd.block rb (Nat.lt_of_lt_of_le hrb HB2.out.size)).trans ((HB2.out.block rb hrb).trans HCS.out)
          have hsrc : BytesIn wr.drew (some ⟨g, N, none⟩) (0) (M.drop (N)) := by have h := (HBI.out.below hbd).drop (k := N) (by omega); rw [Nat.zero_add] at h; rwa [show N - N = 0 by omega] at h
          obtain ⟨W1, hcopy, hbar1, cs1, hcs1, hcs1e⟩ := copy_kept wr.drew rb cs hcsf HSZ.out (some ⟨g, N, none⟩) (0) (c2 - N) (M.drop (N)) hsrc (fun e => by cases e) (by omega) 3
          obtain ⟨fz1, fz2, fz3⟩ := kept_store W1 rb cs1 hcs1 cs (M.drop (N)) (0) HSZ.out HBY.out hsrc.1 (by omega) hcs1e
          have hdl : BytesIn (W1.setCell ⟨rb, 4, none⟩ (.int .i64 ((0 : Nat) : Int))) (some ⟨g, 0, none⟩) (N) (M.take (N)) := (bar_set (rb := rb) W1 _).bytes (hbar1.bytes ((HBI.out.below hbd).take (k := N) (by omega)) (fun ad e => by cases e; exact hgrb)) (fun ad e => by cases e; exact hgrb)
          have hTf := T.bar (T.bar HT.out (bf.trans hbar1) h2 (T.two HT.out)) (bar_set (rb := rb) W1 (.int .i64 ((0 : Nat) : Int))) h2 (T.two (T.bar HT.out (bf.trans hbar1) h2 (T.two HT.out)))
          have c10 := dec_any (some ⟨g, 0, none⟩) (N) (c2) (M.take (N)) _ hTf hdl (by omega) (by omega)
          have C10 := Lib.hid c10; clear c10
          have HBAR := Lib.hid (bf.trans (hbar1.trans (bar_set (rb := rb) W1 (.int .i64 ((0 : Nat) : Int)))))
          have HFZ3 := Lib.hid fz3
          have hrl : rb < W1.heap.size := fz1' W1 rb fz1
          have HRL := Lib.hid hrl
          have HCUT : Hid (Ut.Cut M (0)) := Or.inl ⟨rfl, Or.inr HTAIL.out⟩
          have HNK := Lib.hid (show N - (0) = N by omega)
          clear bf hcsf hsrc hbar1 hcs1 hcs1e hdl hTf fz3 hrl hbd
          go_region_held3 (fun w' => True) (trivial)
            (fail)
          go_wp2_with fail
          refine C10.out.mono ?_
          rintro e w9 ⟨rfl, hb9⟩
          go_wp2
          go_ret2
          refine ⟨0, HCUT.out, ?_, ?_, HBAR.out.trans (Bar.of hb9)⟩
          · rw [HML.out, HNK.out]; rfl
          · rw [HML.out, HNK.out]
            exact rd_below HFZ3.out hb9 (by rw [set_size]; exact HRL.out)
end Go.Proofs.YtfhkjegmhnpgeaaDoor
