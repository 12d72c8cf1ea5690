import Derived.Test.YtbbgelgjepjpgaaDoorC
namespace Go.Proofs.YtbbgelgjepjpgaaDoor
open Go.RowKit

theorem add_at (b o j : Nat) : (⟨b, o, none⟩ : Addr).add j = ⟨b, o + j, none⟩ := by unfold Addr.add; split <;> simp_all
theorem add_block (a : Addr) (j : Nat) : (a.add j).block = a.block := by unfold Addr.add; split <;> rfl

/-- A slice of texts that reads as a list (nil too), in blocks that were there. -/
def Texts (w : World) (A : Option Addr) (n : Nat) (ss : List ByteArray) : Prop :=
  ss.length = n ∧ (0 < n → ∃ ad, A = some ad ∧ ad.block < w.heap.size ∧ ∀ j (h : j < ss.length), w.cell? (ad.add j) = some (.string ss[j]))
theorem Texts.at_ {w w' : World} {A : Option Addr} {n : Nat} {ss : List ByteArray} (h : Texts w A n ss) (hb : Below w.heap.size w w') (k : Nat) (hk : k < ss.length) : ∃ ad, A = some ad ∧ w'.cell? (ad.add k) = some (.string ss[k]) := by
  obtain ⟨ad, e, hlt, hc⟩ := h.2 (by have := h.1; omega)
  exact ⟨ad, e, (hb.cell (by rw [add_block]; exact hlt)).trans (hc k hk)⟩
theorem Texts.below {w w' : World} {A : Option Addr} {n : Nat} {ss : List ByteArray} (h : Texts w A n ss) (hb : Below w.heap.size w w') : Texts w' A n ss :=
  ⟨h.1, fun hn => by
    obtain ⟨ad, e, hlt, hc⟩ := h.2 hn
    exact ⟨ad, e, Nat.lt_of_lt_of_le hlt hb.size, fun j hj => (hb.cell (by rw [add_block]; exact hlt)).trans (hc j hj)⟩⟩

/-- The bytes of texts, one behind the other. -/
def cat (ss : List ByteArray) : List UInt8 := ss.flatMap fun s => s.data.toList
theorem cat_take_succ (ss : List ByteArray) (k : Nat) (h : k < ss.length) : cat (ss.take (k + 1)) = cat (ss.take k) ++ ss[k].data.toList := by
  rw [List.take_succ_eq_append_getElem h]; simp only [cat, List.flatMap_append, List.flatMap_cons, List.flatMap_nil, List.append_nil]
theorem cat_take_le (ss : List ByteArray) (k : Nat) : (cat (ss.take k)).length ≤ (cat ss).length := by
  have h := congrArg cat (List.take_append_drop k ss)
  rw [← h]; simp only [cat, List.flatMap_append, List.length_append]; omega
theorem size_len (s : ByteArray) : s.data.toList.length = s.size := by rw [Array.length_toList]; rfl

set_option maxHeartbeats 1000000 in
theorem of_any (A : Option Addr) (n c : Nat) (ss : List ByteArray) (w : World) (hr : Texts w A n ss) (hn : n ≤ 1000000000) (hs : (cat ss).length ≤ 1000000000)
    (hg0 : w.cell? ⟨0, 0, none⟩ = some (.int .u64 257)) (hg1 : w.cell? ⟨0, 1, none⟩ = some (.int .u64 65539)) :
    Calls Tryd.prog 12 #[.slice A n c] w fun e w' => e = .returned (.string ⟨(Mk.mark (cat ss)).toArray⟩) ∧ Below w.heap.size w w' := by
  have hn' := hr.1
  have h0 : 0 < w.heap.size := World.block_lt_of_cell? w _ hg0
  have HG0 := Lib.hid hg0; clear hg0
  have HG1 := Lib.hid hg1; clear hg1
  have HN := Lib.hid hn'; clear hn'
  go_enter Tryd.func12, Tryd.ntmps12
  go_wp2_with (go_at_call 16; refine (new_any _).mono ?_; rintro e w' ⟨rfl, rfl⟩)
  go_loopg [9] n (fun gk i wr => ∃ k : Nat, k + gk = n ∧ i = .int .i64 k ∧ Mk3 wr w.heap.size (Mk.run 257 7 (cat (ss.take k))) (Mk.run 65539 11 (cat (ss.take k))) ((cat (ss.take k)).length : Nat) ∧ Below w.heap.size w wr)
  case atStart => exact ⟨0, by omega, rfl, by simp [cat, Mk.run]; exact heap_alloc_new w _, (Below.refl _ _).alloc (Nat.le_refl _) _⟩
  case round =>
    obtain ⟨k, hk, rfl, hm, hbw⟩ := hrel
    have hsz := hbw.size
    have hcl := cat_take_le ss k
    have g0 : wr.cell? ⟨0, 0, none⟩ = some (.int .u64 257) := (hbw.cell h0).trans HG0.out
    have g1 : wr.cell? ⟨0, 1, none⟩ = some (.int .u64 65539) := (hbw.cell h0).trans HG1.out
    by_cases hlt : k < n
    · have hkl : k < ss.length := by rw [HN.out]; exact hlt
      obtain ⟨ad, rfl, hc⟩ := hr.at_ hbw k hkl
      have hsl : (ss[k]).size ≤ 1000000000 := by
        have h1 := cat_take_succ ss k hkl
        have h2 := cat_take_le ss (k + 1)
        rw [h1, List.length_append, size_len] at h2
        omega
      have HK := Lib.hid hk; clear hk
      go_wp2_with fail
      refine (add_any ss[k] wr w.heap.size _ _ _ hm (Mk.run_lt _ _ _ (by decide)) (Mk.run_lt _ _ _ (by decide)) (by omega) (by omega) hsl g0 g1 h0).mono ?_
      rintro e w1 ⟨rfl, hI⟩
      go_wp2
      go_roundg (gk - 1)
      case rel =>
        have hk := HK.out
        refine ⟨k + 1, by omega, by go_num, ?_, hbw.grown hI.grown (by omega) (by simp)⟩
        have := hI.own
        rw [cat_take_succ ss k hkl, Mk.run_append, Mk.run_append, List.length_append, size_len]
        simpa using this
      case measure => have := HK.out; omega
    · obtain rfl : k = n := by omega
      have hl : List.take k ss = ss := List.take_of_length_le (by rw [HN.out]; exact Nat.le_refl _)
      rw [hl] at hm
      have HM := Lib.hid hm; clear hm
      go_wp2_with fail
      refine (mark_any wr w.heap.size _ _ _ HM.out (Mk.run_lt _ _ _ (by decide)) (Mk.run_lt _ _ _ (by decide)) (by omega)).mono ?_
      rintro e w1 ⟨rfl, hb1⟩
      go_wp2
      go_ret
      exact ⟨rfl, hbw.trans (hb1.mono hbw.size)⟩
end Go.Proofs.YtbbgelgjepjpgaaDoor
