/- AppendSeq, Collect, Below. -/
import Derived.Test.YtbhnfnbnngclmaaGreatDoorDK
import Derived.RangeFuncBox
import Derived.Maps.AppendAt
namespace Go.Proofs.YtbhnfnbnngclmaaGreatDoor
open Go.RowKit Go.Sort Go.BigFrame Go.Maps Go.WideMaps Go.Shelf
set_option maxRecDepth 100000
attribute [local go_sem] Oper.semAt_some

theorem KpD.appended {n₀ B k : Nat} {W w1 : World} {v v' : Value} {xs : List Value} {tmp : Obj} (hv : Boxed W B 35 v) (hrow : W.ownsRow n₀ 3 1 v k xs) (hgrow : (W.alloc tmp).grownBy w1 v.ownBlock) (hb : Below n₀ W (w1.setCell ⟨B, 0, none⟩ v')) :
    KpD n₀ W (w1.setCell ⟨B, 0, none⟩ v') := by
  refine ⟨hb, fun j cs fr hj => ?_⟩
  have hne : j ≠ B := by
    rintro rfl
    have hv' : W.heap[j]? = some (.cells #[v] 35 (0, 0)) := hv
    rw [hj] at hv'
    injection hv' with hv'
    injection hv' with _ hv'
    exact absurd hv' (by decide)
  rw [set_other hne, hgrow.block j (by simp; have := hlt hj; omega) ?_, (below_alloc' W tmp).block j (hlt hj)]
  · exact hj
  · rcases hrow.2 with ⟨rfl, _⟩ | ⟨g, cap, cur, rfl, _, hg, _⟩
    · intro e; cases e
    · intro e
      injection e with e
      subst e
      rw [hj] at hg
      injection hg with hg
      injection hg with _ hg
      exact absurd hg (by decide)
/-- A row of numbers of the call's own. -/
def OutInts (ys : List Int) (w : World) (e : Ending) (w' : World) : Prop := ∃ A n c, e = .returned (.slice A n c) ∧ w'.ownsRow w.heap.size 3 1 (.slice A n c) ys.length (ys.map (Value.int .i64)) ∧ Below w.heap.size w w'
set_option maxHeartbeats 4000000 in
theorem appendSeq_any (g cap m i d a b : Nat) (L : List Kd) (w : World) (hN : Nodes w g L m) (hmL : m ≤ L.length) (hdm : d = m - 1 - i) (hi : i < L.length) (hL : L.length ≤ 1000)
    (ha : w.cell? ⟨a, 0, none⟩ = some (.slice (some ⟨g, 0, none⟩) L.length cap)) (hbb : w.cell? ⟨b, 0, none⟩ = some (.int .i64 i)) (hal : a < w.heap.size) (hbl : b < w.heap.size) :
    Calls Tryz.prog 47 #[.slice none 0 0, .func (.func 48) #[] #[.pointer (some ⟨a, 0, none⟩), .pointer (some ⟨b, 0, none⟩)]] w (OutInts (seqF d i) w) := by
  obtain ⟨i0, hi0, hz0, hz1, hz2⟩ := info_parts (show (Tryz.prog.info? 3).map (fun i => (i.zero, i.size, i.bytes)) = some (some (.int .i64 0), 1, 8) by kernel_rfl)
  have bO := Boxed.new w 35 (.slice none 0 0)
  have hB0 := below_alloc' w (.cells #[.slice none 0 0] 35)
  have hst := walk_stops Fence.wide rfl trivial trivial rfl (10 - 1) w.heap.size g cap m i d a b L w (w.alloc (.cells #[.slice none 0 0] 35)) (fun W hW => hN.below hW) hmL hdm hi hB0.size hB0 ((hB0.cell (p := ⟨a, 0, none⟩) hal).trans ha) ((hB0.cell (p := ⟨b, 0, none⟩) hbl).trans hbb) (by have := hB0.size; omega) (by have := hB0.size; omega)
  have hd : d ≤ 1000 := by omega
  have hkb : ∀ (W : World) (l : Nat) (o o' : Obj), (w.alloc (.cells #[.slice none 0 0] 35)).heap.size ≤ l → W.heap[l]? = some o → o.isCells = false → o.isWalk = false → KpD w.heap.size W (W.putObj l o') := by
    intro W' l' o o' hl' ho hc _
    have hg := grownBy_putObj' W' l' o'
    have h1 := hB0.size
    refine ⟨⟨hg.os, hg.tape, hg.output, hg.size, fun k hk => hg.block k (by have := hlt ho; omega) (by intro e; injection e with e; omega)⟩, fun k cs fr hk => ?_⟩
    rw [hg.block k (hlt hk) ?_]
    · exact hk
    · intro e
      injection e with e
      subst e
      rw [hk] at ho
      injection ho with ho
      subst ho
      cases hc
  have HI := Lib.hid hi0
  have HST := Lib.hid hst
  clear hst hi0 hdm hi hL hmL hN ha hbb hal hbl
  refine (callsIn_wide (n := 10)).1 ?_
  refine callsIn_of_wp_marks Tryz.func47 rfl trivial ?_
  simp only [Tryz.ntmps47, List.size_toArray, List.length_cons, List.length_nil, Nat.reduceAdd, Nat.reduceSub, Array.replicate_succ, Array.replicate_zero, List.push_toArray, List.append_toArray, List.nil_append, List.cons_append]
  gi_wp2
  refine wpIn_rangeFunc_ownF rfl (by omega) (gf := 48) (lb := #[.pointer (some ⟨a, 0, none⟩), .pointer (some ⟨b, 0, none⟩)]) rfl trivial (enters_of Tryz.func48 (by kernel_rfl) rfl) HST.out (fun h k => h.trans k) hkb (Below.refl _ _) (fun _ => rfl)
    (fun pre W => (∃ v, Boxed W w.heap.size 35 v ∧ W.ownsRow w.heap.size 3 1 v pre.length (pre.map (Value.int .i64)) ∧ True) ∧ Below w.heap.size w W)
    (fun _ _ _ => False)
    (OwnFrom.and (Own.from (holdsRow_own w.heap.size w.heap.size 35 3 1 (fun pre : List Int => pre.length) (fun pre => pre.map (Value.int .i64)) (fun _ _ => True)) _) (ownFrom_below (Nat.le_refl _) (by simp)))
    (fun _ _ _ _ _ hs _ _ => hs)
    ⟨⟨_, bO, World.ownsRow_nil _ _ _ _, trivial⟩, hB0⟩
    ?a1 ?assign ?body ?done ?stop
  case assign =>
    intro l x W K hK
    gi_wp2
    exact hK
  case body =>
    rintro l pre x W ⟨⟨v, hv, hrow, _⟩, hB⟩ hlt'
    have hc := hv.cell
    gi_wp2_with (gi_at_builtin; refine wpListIn_append_own _ rfl _ _ 35 rfl w.heap.size 3 i0 (.int .i64 0) 1 8 Tryz.underlying35 HI.out hz0 hz1 hz2 rfl (by decide) _ _ _ rfl (hrow.alloc _) ⟨W.heap.size, 0, none⟩ 1 1 [.int .i64 x] rfl rfl (cell_one_new _ _ _) (by simp [Value.oneCell']) (by unfold maxLen; omega) (by omega) (by have := hB.size; simp; omega) ?_; intro v' w1 hown' hgrow _; obtain ⟨g', cap', rfl⟩ := ownsRow_succ hown'; obtain ⟨hv1, hv2, hr2, hk2, hb2⟩ := hv.appended (by decide) hrow hB.size (Nat.le_refl _) hown' hgrow; have hc1 := hv1.cell; have hf1 := hv1.frozen)
    exact ⟨hk2, KpD.appended hv hrow hgrow hb2, ⟨_, hv2, by simpa using hr2, trivial⟩, hB.trans hb2⟩
  case done =>
    rintro D ys W hD rfl ⟨⟨v, hv, hrow, _⟩, hB⟩ hK
    have hc := hv.cell
    obtain ⟨A, cp, rfl, _⟩ := own_form hrow
    gi_wp2
    refine ⟨by simp, .inl ⟨_, _, rfl, run_takeDeferred hK, ?_⟩⟩
    exact ⟨_, results_tmp rfl _ _ _, A, _, cp, rfl, ownsRow_putObj hrow _ hK rfl, hB.trans (belowK_b (w := w) (Nat.le_refl _) W D _ _ (by simp at hD; omega) hK rfl rfl)⟩
  case stop =>
    rintro D c pre W _ _ h _
    exact h.elim
/-- Collect. -/
theorem collect_any (g cap m i d a b : Nat) (L : List Kd) (w : World) (hN : Nodes w g L m) (hmL : m ≤ L.length) (hdm : d = m - 1 - i) (hi : i < L.length) (hL : L.length ≤ 1000)
    (ha : w.cell? ⟨a, 0, none⟩ = some (.slice (some ⟨g, 0, none⟩) L.length cap)) (hbb : w.cell? ⟨b, 0, none⟩ = some (.int .i64 i)) (hal : a < w.heap.size) (hbl : b < w.heap.size) :
    Calls Tryz.prog 29 #[.func (.func 48) #[] #[.pointer (some ⟨a, 0, none⟩), .pointer (some ⟨b, 0, none⟩)]] w (OutInts (seqF d i) w) := by
  have ca := appendSeq_any g cap m i d a b L w hN hmL hdm hi hL ha hbb hal hbl
  have CA := Lib.hid ca
  clear ca hN hmL hdm hi hL ha hbb hal hbl
  go_enter Tryz.func29, Tryz.ntmps29
  go_wp2_with fail
  with_reducible refine CA.out.mono ?_
  rintro e w1 ⟨A, n, c, rfl, ho, hb⟩
  have HO := Lib.hid ho
  have HB := Lib.hid hb
  clear ho hb
  go_wp2_with fail
  go_ret
  exact ⟨A, n, c, rfl, HO.out, HB.out⟩
end Go.Proofs.YtbhnfnbnngclmaaGreatDoor
