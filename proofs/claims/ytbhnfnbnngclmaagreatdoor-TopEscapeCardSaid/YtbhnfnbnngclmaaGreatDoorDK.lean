/- walk, as an iterator. -/
import Derived.Test.YtbhnfnbnngclmaaGreatDoorDJ
namespace Go.Proofs.YtbhnfnbnngclmaaGreatDoor
open Go.RowKit Go.Sort Go.BigFrame Go.Maps Go.WideMaps Go.Shelf
set_option maxRecDepth 100000
attribute [local go_sem] Oper.semAt_some

set_option maxHeartbeats 2000000 in
theorem walk1_in (F : Fence) (hd : F.depth = none) (h48 : F.fn 48) (h49 : F.fn 49) (hro : F.round = none) (n l n₀ g cap m i d a b : Nat) (L : List Kd) (w0 : World) (J Jx : List Int → World → Prop)
    (hJ : ∀ s W o, J s W → J s (W.alloc o))
    (hY : ∀ pre x W, J pre W → pre.length < d + 1 → YieldAt F (n - 1) Tryz.prog l #[.int .i64 x] W fun e W' =>
      (e = .returned (.bool true) ∧ J (pre ++ [x]) W' ∧ KpD n₀ W W') ∨ (e = .returned (.bool false) ∧ Jx (pre ++ [x]) W'))
    (hN : ∀ W, Below n₀ w0 W → Nodes W g L m) (hmL : m ≤ L.length) (hdm : d = m - 1 - i) (hi : i < L.length) (W : World) (hn0 : n₀ ≤ W.heap.size) (hb : Below n₀ w0 W)
    (ha : W.cell? ⟨a, 0, none⟩ = some (.slice (some ⟨g, 0, none⟩) L.length cap)) (hbb : W.cell? ⟨b, 0, none⟩ = some (.int .i64 i)) (h0 : J [] W) :
    CallsIn F n Tryz.prog 48 #[.func (.yield l) #[] #[], .pointer (some ⟨a, 0, none⟩), .pointer (some ⟨b, 0, none⟩)] W fun e W' => (∃ v, e = .returned v) ∧
      ((∃ ys, ys = seqF d i ∧ J ys W') ∨ (∃ pre, pre <+: seqF d i ∧ Jx pre W')) := by
  have hdd : ∀ k : Nat, (F.depth.isSome = true → 1 ≤ k) := fun k h => by rw [hd] at h; cases h
  have hs := step_in F hd h49 hro l n₀ (d + 1) g cap m L w0 J Jx hJ (fun m' pre x W h1 h2 => YieldAt.anyDepth hd m' (hY pre x W h1 h2)) hN hmL d (n - 1) i [] W hdm hi hn0 hb h0 (by simp)
  obtain ⟨nn, hnn⟩ : ∃ nn, nn = L.length := ⟨_, rfl⟩
  rw [← hnn] at hs ha
  have HS := Lib.hid hs
  clear hs hnn hdm hmL hi hN hY hJ
  refine callsIn_of_wp Tryz.func48 rfl h48 ?_ hro
  simp only [Tryz.ntmps48, List.size_toArray, List.length_cons, List.length_nil, Nat.reduceAdd, Nat.reduceSub, Array.replicate_succ, Array.replicate_zero, List.push_toArray, List.append_toArray, List.nil_append, List.cons_append]
  gi_wp2
  ((with_reducible refine (HS.out).mono ?_); rintro e W4 (⟨rfl, hj4, _⟩ | ⟨rfl, q, hq, hx4⟩))
  · have HJ4 := Lib.hid hj4
    clear hj4
    gi_wp2
    go_end0
    exact ⟨⟨_, rfl⟩, .inl ⟨_, rfl, HJ4.out⟩⟩
  · have HX4 := Lib.hid hx4
    have HQ := Lib.hid hq
    clear hx4 hq
    gi_wp2
    go_end0
    exact ⟨⟨_, rfl⟩, .inr ⟨q, HQ.out, HX4.out⟩⟩
/-- What walk hands back, called in a later world. -/
theorem walk_stops (F : Fence) (hd : F.depth = none) (h48 : F.fn 48) (h49 : F.fn 49) (hro : F.round = none) (n n₀ g cap m i d a b : Nat) (L : List Kd) (w0 w : World)
    (hN : ∀ W, Below n₀ w0 W → Nodes W g L m) (hmL : m ≤ L.length) (hdm : d = m - 1 - i) (hi : i < L.length) (hn0 : n₀ ≤ w.heap.size) (hb : Below n₀ w0 w)
    (ha : w.cell? ⟨a, 0, none⟩ = some (.slice (some ⟨g, 0, none⟩) L.length cap)) (hbb : w.cell? ⟨b, 0, none⟩ = some (.int .i64 i)) (hal : a < w.heap.size) (hbl : b < w.heap.size) :
    SeqStopsK F n Tryz.prog 48 #[.pointer (some ⟨a, 0, none⟩), .pointer (some ⟨b, 0, none⟩)] (fun x : Int => #[Value.int .i64 x]) (KpD n₀) (fun ys => ys = seqF d i) (fun pre => pre <+: seqF d i) (d + 1) w := fun l J Jx W hW hJ _ hY h0 =>
  walk1_in F hd h48 h49 hro n l n₀ g cap m i d a b L w0 J Jx (fun s W' o hs => hJ s W' _ none hs (World.grownBy_alloc W' o none) (fun r e => by cases e)) hY hN hmL hdm hi W (Nat.le_trans hn0 hW.size) (hb.trans (hW.mono hn0))
    ((hW.cell (p := ⟨a, 0, none⟩) hal).trans ha) ((hW.cell (p := ⟨b, 0, none⟩) hbl).trans hbb) h0
/-- walk. -/
theorem walk_any (v : Value) (i : Nat) (w : World) : Calls Tryz.prog 30 #[.agg #[v], .int .i64 i] w fun e w' => e = .returned (.func (.func 48) #[] #[.pointer (some ⟨w.heap.size, 0, none⟩), .pointer (some ⟨w.heap.size + 1, 0, none⟩)]) ∧ w' = (w.alloc (.cells #[v] 26)).alloc (.cells #[.int .i64 i] 3) := by
  go_enter Tryz.func30, Tryz.ntmps30
  go_wp2_with fail
  go_ret
  exact ⟨rfl, rfl⟩
end Go.Proofs.YtbhnfnbnngclmaaGreatDoor
