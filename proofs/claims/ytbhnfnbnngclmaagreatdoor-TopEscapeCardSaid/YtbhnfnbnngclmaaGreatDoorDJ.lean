/- walk: a node and all below it. -/
import Derived.Test.YtbhnfnbnngclmaaGreatDoorDH
import Derived.RangeFuncNested
import Derived.RangeFuncBound
import Derived.RangeFuncCalls
import Derived.RangeFuncLeaves
import Derived.Shelf.Abstract
import Derived.Shelf.RegionOpen
import Derived.OwnWalkIn
import Derived.TacticsInMore
import Derived.LoopNIn
import Derived.LoopIn
namespace Go.Proofs.YtbhnfnbnngclmaaGreatDoor
open Go.RowKit Go.Sort Go.BigFrame Go.Maps Go.WideMaps Go.Shelf
set_option maxRecDepth 100000
attribute [local go_sem] Oper.semAt_some

theorem room_of_none {F : Fence} (hd : F.depth = none) (k : Nat) : F.room k := fun d h => by rw [hd] at h; cases h
theorem RoundIn.anyDepth {F : Fence} (hd : F.depth = none) {m m' : Nat} {P : Program} {l : Nat} {f : FuncId} {tmps : Array Value} {assign body : Code} {w : World} {R : Ending → World → Prop}
    (h : RoundIn F m P l f tmps assign body w R) : RoundIn F m' P l f tmps assign body w R := ⟨h.1, fun c cs _ => h.2 c cs (room_of_none hd _)⟩
theorem YieldAt.anyDepth {F : Fence} (hd : F.depth = none) {m : Nat} (m' : Nat) {P : Program} {l : Nat} {args : Array Value} {W : World} {R : Ending → World → Prop} (h : YieldAt F m P l args W R) : YieldAt F m' P l args W R := by
  obtain ⟨fn, tmps, assign, body, hy, hR⟩ := h
  exact ⟨fn, tmps, assign, body, hy, RoundIn.anyDepth hd hR⟩

/-- What a round that goes on keeps: all that was there ahead of the loop; the boxes of documents. -/
structure KpD (n₀ : Nat) (W W' : World) : Prop where
  below : Below n₀ W W'
  box : ∀ (k : Nat) (cs : Array Value) (fr : Nat × Nat), W.heap[k]? = some (.cells cs 26 fr) → W'.heap[k]? = some (.cells cs 26 fr)
theorem KpD.refl (n₀ : Nat) (W : World) : KpD n₀ W W := ⟨Below.refl _ _, fun _ _ _ h => h⟩
theorem KpD.trans {n₀ : Nat} {A B C : World} (h : KpD n₀ A B) (k : KpD n₀ B C) : KpD n₀ A C := ⟨h.below.trans k.below, fun i cs fr hi => k.box i cs fr (h.box i cs fr hi)⟩
theorem KpD.alloc {n₀ : Nat} {W : World} (h : n₀ ≤ W.heap.size) (o : Obj) : KpD n₀ W (W.alloc o) :=
  ⟨(Below.refl n₀ W).alloc h o, fun k _ _ hk => ((below_alloc' W o).block k (hlt hk)).trans hk⟩
/-- What comes from a node on: it, and those below it. -/
def seqF : Nat → Nat → List Int
  | 0, i => [(i : Int)]
  | d + 1, i => (i : Int) :: seqF d (i + 1)
theorem seqF_len (d i : Nat) : (seqF d i).length = d + 1 := by
  induction d generalizing i with
  | zero => rfl
  | succ d ih => simp [seqF, ih]
set_option maxHeartbeats 4000000 in
/-- step. -/
theorem step_in (F : Fence) (hd : F.depth = none) (h49 : F.fn 49) (hro : F.round = none) (l n₀ N g cap m : Nat) (L : List Kd) (w0 : World) (J Jx : List Int → World → Prop)
    (hJ : ∀ s W o, J s W → J s (W.alloc o))
    (hY : ∀ m' pre x W, J pre W → pre.length < N → YieldAt F m' Tryz.prog l #[.int .i64 x] W fun e W' =>
      (e = .returned (.bool true) ∧ J (pre ++ [x]) W' ∧ KpD n₀ W W') ∨ (e = .returned (.bool false) ∧ Jx (pre ++ [x]) W'))
    (hN : ∀ W, Below n₀ w0 W → Nodes W g L m) (hmL : m ≤ L.length) :
    ∀ (d n i : Nat) (pre : List Int) (W : World), d = m - 1 - i → i < L.length → n₀ ≤ W.heap.size → Below n₀ w0 W → J pre W → pre.length + (d + 1) ≤ N →
      CallsIn F n Tryz.prog 49 #[.agg #[.slice (some ⟨g, 0, none⟩) L.length cap], .int .i64 i, .func (.yield l) #[] #[]] W fun e W' =>
        (e = .returned (.bool true) ∧ J (pre ++ seqF d i) W' ∧ KpD n₀ W W') ∨ (e = .returned (.bool false) ∧ ∃ q, q <+: seqF d i ∧ Jx (pre ++ q) W') := by
  intro d
  induction d with
  | zero =>
    intro n i pre W hdm hi hn0 hb hJ0 hl
    obtain ⟨nn, hnn⟩ : ∃ nn, nn = L.length := ⟨_, rfl⟩
    rw [← hnn] at hi ⊢
    have hk : kidOf m i = none := by unfold kidOf; rw [if_neg (by omega)]
    have hdd : ∀ k : Nat, (F.depth.isSome = true → 1 ≤ k) := fun k h => by rw [hd] at h; cases h
    have i1 : (0 : Int) ≤ (i : Int) := by omega
    have i2 : (i : Int) < (nn : Int) := by omega
    have hbx := KpD.alloc hn0 (.cells #[.slice (some ⟨g, 0, none⟩) nn cap] 26)
    have hrx := heap_alloc_new W (.cells #[.slice (some ⟨g, 0, none⟩) nn cap] 26)
    obtain ⟨fn, tmps, assign, body, hy, hR⟩ := hY (n - 1) pre i (W.alloc (.cells #[.slice (some ⟨g, 0, none⟩) nn cap] 26)) (hJ _ _ _ hJ0) (by omega)
    have hR' := RoundIn.mono hR (R' := fun e W' => (e = .returned (.bool true) ∧ W'.cell? ⟨W.heap.size, 0, none⟩ = some (.slice (some ⟨g, 0, none⟩) nn cap) ∧ W'.cell? ⟨g, i * 8 + 5, none⟩ = some (.slice none 0 0) ∧ Hid (J (pre ++ [(i : Int)]) W' ∧ KpD n₀ W W')) ∨ (e = .returned (.bool false) ∧ Hid (Jx (pre ++ [(i : Int)]) W'))) (by
      rintro e W' (⟨he, hj, hkp⟩ | ⟨he, hjx⟩)
      · refine .inl ⟨he, cell_row (hkp.box _ _ _ hrx) 0, ?_, hj, hbx.trans hkp⟩
        obtain ⟨va, vk, _, hkd, hra⟩ := (hN W' (hb.trans (hbx.trans hkp).below)).at_ i _ (List.getElem?_eq_getElem (by rw [← hnn]; exact hi))
        rw [hk] at hkd
        obtain rfl : vk = _ := hkd
        exact hra 5 _ rfl
      · exact .inr ⟨he, hjx⟩)
    clear hR hbx hrx hnn hk hdm
    refine callsIn_of_wp Tryz.func49 rfl h49 ?_ hro
    simp only [Tryz.ntmps49, List.size_toArray, List.length_cons, List.length_nil, Nat.reduceAdd, Nat.reduceSub, Array.replicate_succ, Array.replicate_zero, List.push_toArray, List.append_toArray, List.nil_append, List.cons_append]
    gi_wp2
    refine hR'.mono ?_
    clear hR'
    rintro e W3 (⟨rfl, e0, e5, HJ3⟩ | ⟨rfl, HX3⟩)
    · gi_wp2
      refine wpIn_loop_rounds 1 ?_
      rw [roundsIn_succ]
      gi_wp2
      go_ret
      exact .inl ⟨rfl, HJ3.out.1, HJ3.out.2⟩
    · gi_wp2
      go_ret
      exact .inr ⟨rfl, [(i : Int)], List.prefix_refl _, HX3.out⟩
  | succ d ih =>
    intro n i pre W hdm hi hn0 hb hJ0 hl
    obtain ⟨nn, hnn⟩ : ∃ nn, nn = L.length := ⟨_, rfl⟩
    have hk : kidOf m i = some (i + 1) := by unfold kidOf; rw [if_pos (by omega)]
    have hml : i + 1 < m := by omega
    have hmN : i + 1 < nn ∨ True := .inr trivial
    rw [← hnn] at hi ih ⊢
    have hdd : ∀ k : Nat, (F.depth.isSome = true → 1 ≤ k) := fun k h => by rw [hd] at h; cases h
    have i1 : (0 : Int) ≤ (i : Int) := by omega
    have i2 : (i : Int) < (nn : Int) := by omega
    have hbx := KpD.alloc hn0 (.cells #[.slice (some ⟨g, 0, none⟩) nn cap] 26)
    have hrx := heap_alloc_new W (.cells #[.slice (some ⟨g, 0, none⟩) nn cap] 26)
    obtain ⟨fn, tmps, assign, body, hy, hR⟩ := hY (n - 1) pre i (W.alloc (.cells #[.slice (some ⟨g, 0, none⟩) nn cap] 26)) (hJ _ _ _ hJ0) (by omega)
    have hR' := RoundIn.mono hR (R' := fun e W' => (e = .returned (.bool true) ∧ (∃ g2 c2 : Nat, W'.cell? ⟨W.heap.size, 0, none⟩ = some (.slice (some ⟨g, 0, none⟩) nn cap) ∧ W'.cell? ⟨g, i * 8 + 5, none⟩ = some (.slice (some ⟨g2, 0, none⟩) 1 c2) ∧ 1 ≤ c2 ∧ W'.cell? ⟨g2, 0, none⟩ = some (.int .i64 (i + 1 : Nat)) ∧ Hid (J (pre ++ [(i : Int)]) W' ∧ KpD n₀ W W' ∧ W'.heap[W.heap.size]? = some (.cells #[.slice (some ⟨g, 0, none⟩) nn cap] 26)))) ∨ (e = .returned (.bool false) ∧ Hid (Jx (pre ++ [(i : Int)]) W'))) (by
      rintro e W' (⟨he, hj, hkp⟩ | ⟨he, hjx⟩)
      · obtain ⟨va, vk, _, hkd, hra⟩ := (hN W' (hb.trans (hbx.trans hkp).below)).at_ i _ (List.getElem?_eq_getElem (by rw [← hnn]; exact hi))
        rw [hk] at hkd
        obtain ⟨g2, c2, cs2, fr2, rfl, hc2, hg2, hv2⟩ := hkd
        exact .inl ⟨he, g2, c2, cell_row (hkp.box _ _ _ hrx) 0, hra 5 _ rfl, hc2, (cell_row hg2 0).trans hv2, hj, hbx.trans hkp, hkp.box _ _ _ hrx⟩
      · exact .inr ⟨he, hjx⟩)
    have hi1 : i + 1 < nn := by omega
    clear hR hbx hrx hk hmN hnn hmL
    refine callsIn_of_wp Tryz.func49 rfl h49 ?_ hro
    simp only [Tryz.ntmps49, List.size_toArray, List.length_cons, List.length_nil, Nat.reduceAdd, Nat.reduceSub, Array.replicate_succ, Array.replicate_zero, List.push_toArray, List.append_toArray, List.nil_append, List.cons_append]
    gi_wp2
    refine hR'.mono ?_
    clear hR'
    rintro e W3 (⟨rfl, g2, c2, e0, e5, hc2, ek, HJ3⟩ | ⟨rfl, HX3⟩)
    · have hs3 : n₀ ≤ W3.heap.size := Nat.le_trans hn0 HJ3.out.2.1.below.size
      have hih := fun n' => ih n' (i + 1) (pre ++ [(i : Int)]) W3 (by omega) hi1 hs3 (hb.trans HJ3.out.2.1.below) HJ3.out.1 (by rw [List.length_append, List.length_singleton]; omega)
      rw [show ((i + 1 : Nat) : Int) = (i : Int) + 1 from rfl] at hih
      have HIH := Lib.hid hih
      clear hih ih
      gi_wp2
      refine wpIn_loop_rounds 2 ?_
      rw [roundsIn_succ]
      gi_wp2
      ((with_reducible refine (HIH.out _).mono ?_); rintro e W4 (⟨rfl, hj4, hk4⟩ | ⟨rfl, q, hq, hx4⟩))
      · have HJ4 := Lib.hid hj4
        have HK4 := Lib.hid hk4
        clear hj4 hk4
        gi_wp2
        rw [roundsIn_succ]
        gi_wp2
        go_ret
        exact .inl ⟨rfl, by have h := HJ4.out; rw [List.append_assoc] at h; exact h, HJ3.out.2.1.trans HK4.out⟩
      · have HX4 := Lib.hid hx4
        have HQ := Lib.hid hq
        clear hx4 hq
        gi_wp2
        go_ret
        refine .inr ⟨rfl, (i : Int) :: q, ?_, by have h := HX4.out; rw [List.append_assoc] at h; exact h⟩
        obtain ⟨r, hr⟩ := HQ.out
        exact ⟨r, by rw [List.cons_append, hr]; rfl⟩
    · gi_wp2
      go_ret
      exact .inr ⟨rfl, [(i : Int)], ⟨seqF d (i + 1), rfl⟩, HX3.out⟩
end Go.Proofs.YtbhnfnbnngclmaaGreatDoor
