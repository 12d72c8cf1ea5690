import Derived.Test.YtfhkjegmhnpgeaaDoorH
import Derived.Laws.RangeAny
namespace Go.Proofs.YtfhkjegmhnpgeaaDoor
open Go.RowKit

theorem run_next_at {P : Program} (w : World) (b : Nat) (s : ByteArray) (pos : Nat) (ty : TypeId) (h : w.heap[b]? = some (.stringIter s pos)) (hp : pos < s.size) :
    (Instr.next (.pointer (some ⟨b, 0, none⟩)) true ty).run P w = .ok (.tuple #[.bool true, .int .i64 pos, .int .i32 (Utf8.decode s pos).1]) { w with heap := w.heap.setIfInBounds b (.stringIter s (pos + (Utf8.decode s pos).2)) } := by
  simp only [Instr.next, getObj, setObj, Sem.run_bind, Sem.run, h, Result.andThen, hp, if_true]
  simp [goInt]
theorem run_next_stop {P : Program} (w : World) (b : Nat) (s : ByteArray) (pos : Nat) (ty : TypeId) (h : w.heap[b]? = some (.stringIter s pos)) (hp : ¬ pos < s.size) :
    (Instr.next (.pointer (some ⟨b, 0, none⟩)) true ty).run P w = .ok (.tuple #[.bool false]) w := by
  simp [Instr.next, getObj, Sem.run, h, hp]

theorem iter_step (w wr : World) (b k m : Nat) (s : ByteArray) (v : Value) (n : Nat) (xs : List Value) (hbw : Below b w wr) (hown : wr.ownsRow (b + 1) 3 1 v n xs) (hlt : b < wr.heap.size) :
    ∃ w1, w1 = { wr with heap := wr.heap.setIfInBounds b (.stringIter s (k + m)) } ∧ Below b w w1 ∧ w1.ownsRow (b + 1) 3 1 v n xs ∧ w1.heap[b]? = some (.stringIter s (k + m)) ∧ w1.heap.size = wr.heap.size := by
  have hset : ∀ i, i ≠ b → (wr.heap.setIfInBounds b (.stringIter s (k + m)))[i]? = wr.heap[i]? := fun i hi => by rw [Array.getElem?_setIfInBounds, if_neg (fun e => hi e.symm)]
  refine ⟨_, rfl, ⟨hbw.os, hbw.tape, hbw.output, by simpa using hbw.size, fun i hi => (hset i (by omega)).trans (hbw.block i hi)⟩, ?_, by simp [hlt], by simp⟩
  refine hown.kept (row := some b) ⟨rfl, rfl, rfl, by simp, fun i _ hi => hset i (fun e => hi (by simp [e]))⟩ (Or.inr fun e => ?_)
  have := (hown.lt b e).1
  omega

set_option maxHeartbeats 1000000 in
theorem points_any (s : ByteArray) (w : World) (hs : s.size ≤ 1000000) : Calls Tryd.prog 14 #[.string s] w (OutInts (zs (Ut.pts s.data.toList)) w) := by
  go_enter Tryd.func14, Tryd.ntmps14
  go_wp2
  go_loopg [3] s.size (fun gk v wr => ∃ (k n : Nat) (acc : List Nat), k ≤ s.size ∧ s.size ≤ k + gk ∧ n ≤ k ∧ Hid (acc ++ Ut.pts (s.data.toList.drop k) = Ut.pts s.data.toList) ∧ wr.ownsRow (w.heap.size + 1) 3 1 v n (ic (zs acc)) ∧ wr.heap[w.heap.size]? = some (.stringIter s k) ∧ Below w.heap.size w wr)
  case atStart => exact ⟨0, 0, [], Nat.zero_le _, by omega, Nat.le_refl _, List.nil_append _, World.ownsRow_nil _ _ _ _, World.iter_heap w s 0, below_alloc' w _⟩
  case round =>
    obtain ⟨k, n, acc, hk, hgk, hnk, HA, hown, hit, hbw⟩ := hrel
    have hb1 : w.heap.size < wr.heap.size := (Array.getElem?_eq_some_iff.1 hit).1
    by_cases hlt : k < s.size
    · obtain ⟨l, hl⟩ : ∃ l, l = s.data.toList.drop k := ⟨_, rfl⟩
      have hll : l.length = s.size - k := by rw [hl, List.length_drop, size_len]
      have hne : l ≠ [] := fun e => by rw [e] at hll; simp at hll; omega
      have hpos := Ut.dN_pos l hne
      have hcons := Ut.pts_cons l hne
      have hok := Ut.dN_ok l hne
      have hdc := decode_drop s.data.toList k
      rw [mk_data', ← hl] at hdc
      rw [hl, List.drop_drop, ← hl] at hcons
      rw [hll] at hpos
      obtain ⟨r, hr⟩ : ∃ r, r = (Ut.dN l).1 := ⟨_, rfl⟩
      obtain ⟨m, hm⟩ : ∃ m, m = (Ut.dN l).2 := ⟨_, rfl⟩
      rw [← hr] at hcons hok
      rw [← hm] at hpos hcons
      have hr11 : r ≤ 1114111 := by simp [Ut.ok] at hok; omega
      have hnx := run_next_at (P := Tryd.prog) wr w.heap.size s k 0 hit hlt
      rw [hdc, ← hr, ← hm] at hnx
      obtain ⟨w1, hw1, hbw1, hown1, hit1, hs1⟩ := iter_step w wr w.heap.size k m s _ n _ hbw hown hb1
      rw [← hw1] at hnx
      have hsum : (acc ++ [r]) ++ Ut.pts (s.data.toList.drop (k + m)) = Ut.pts s.data.toList := by rw [← HA.out, ← hl, hcons, List.append_assoc]; rfl
      have HS := Lib.hid hsum; clear hsum hcons
      clear hr hm hll hne hl HA hdc hok hw1
      have hn12 : n ≤ 1000000000000 := by omega
      have hz : ic (zs acc ++ [(r : Int)]) = ic (zs (acc ++ [r])) := by simp [zs]
      have HZ := Lib.hid hz; clear hz
      have HIT := Lib.hid hit; clear hit
      have HIT1 := Lib.hid hit1; clear hit1
      have hB : w.heap.size + 1 ≤ w1.heap.size := by omega
      clear hs1
      go_wp2_with (at_builtin; refine wpList_append_int rfl (.tmp 11) (.tmp 14) rfl w1 w1 (w.heap.size + 1) _ n _ _ rfl rfl hown1 (Below.refl _ _) hB hn12 ?_; intro v' w2 hown2 hbw2)
      go_roundg (gk - 1)
      case rel => exact ⟨k + m, n + 1, acc ++ [r], by omega, by omega, by omega, HS.out, by rw [← HZ.out]; exact hown2, (hbw2.block _ (by omega)).trans HIT1.out, hbw1.trans (hbw2.mono (by omega))⟩
      case measure => omega
    · obtain rfl : k = s.size := by omega
      have hnil : s.data.toList.drop s.size = [] := List.drop_eq_nil_of_le (by rw [size_len]; exact Nat.le_refl _)
      have hfin : acc = Ut.pts s.data.toList := by have := HA.out; rw [hnil, Ut.pts_nil, List.append_nil] at this; exact this
      have HF := Lib.hid hfin; clear hfin hnil HA
      have hnx := run_next_stop (P := Tryd.prog) wr w.heap.size s s.size 0 hit (Nat.lt_irrefl _)
      go_wp2
      go_ret
      rw [← HF.out]
      obtain ⟨A, c, rfl, h1, _⟩ := own_form hown
      have hn : (zs acc).length = n := by have := hown.1; rw [ic_length] at this; omega
      subst hn
      exact ⟨A, c, rfl, h1, Row.of_own hown, hbw⟩
end Go.Proofs.YtfhkjegmhnpgeaaDoor
