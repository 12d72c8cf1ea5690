/- Put, up to the walk. -/
import Derived.Test.YtbhnfnbnngclmaaGreatDoorDK
import Derived.Test.YtbhnfnbnngclmaaGreatDoorDM
import Derived.Test.YtbhnfnbnngclmaaGreatDoorDR
namespace Go.Proofs.YtbhnfnbnngclmaaGreatDoor
open Go.RowKit Go.Sort Go.BigFrame Go.Maps Go.WideMaps Go.Shelf
set_option maxRecDepth 100000
attribute [local go_sem] Oper.semAt_some

/-- The call's own blocks: the document, the parent's number, the result. -/
structure Put3 (w w' : World) (s : Value) (p : Nat) : Prop where
  b0 : w'.heap[w.heap.size]? = some (.cells #[s] 26)
  b1 : w'.heap[w.heap.size + 1]? = some (.cells #[.int .i64 p] 3)
  b2 : w'.heap[w.heap.size + 2]? = some (.cells #[.slice none 0 0] 26)
  below : Below w.heap.size w w'
theorem Put3.lt {w w' : World} {s : Value} {p : Nat} (h : Put3 w w' s p) : w.heap.size + 2 < w'.heap.size := hlt h.b2
theorem Put3.on {w w' w'' : World} {s : Value} {p : Nat} (h : Put3 w w' s p) (hb : Below w'.heap.size w' w'') : Put3 w w'' s p := by
  have := h.lt
  exact ⟨(hb.block _ (by omega)).trans h.b0, (hb.block _ (by omega)).trans h.b1, (hb.block _ (by omega)).trans h.b2, h.below.trans (hb.mono h.below.size)⟩
theorem Put3.c0 {w w' : World} {s : Value} {p : Nat} (h : Put3 w w' s p) : w'.cell? ⟨w.heap.size, 0, none⟩ = some s := cell_row h.b0 0
theorem Put3.c1 {w w' : World} {s : Value} {p : Nat} (h : Put3 w w' s p) : w'.cell? ⟨w.heap.size + 1, 0, none⟩ = some (.int .i64 p) := cell_row h.b1 0
theorem Put3.start (w : World) (s : Value) (p : Nat) : Put3 w (((w.alloc (.cells #[s] 26)).alloc (.cells #[.int .i64 p] 3)).alloc (.cells #[.slice none 0 0] 26)) s p := by
  have b1 := below_alloc' w (.cells #[s] 26)
  have r1 := heap_alloc_new w (.cells #[s] 26)
  have s1 : (w.alloc (.cells #[s] 26)).heap.size = w.heap.size + 1 := by simp
  generalize w.alloc (.cells #[s] 26) = W1 at *
  have b2 := below_alloc' W1 (.cells #[.int .i64 p] 3)
  have r2 := heap_alloc_new W1 (.cells #[.int .i64 p] 3)
  have s2 : (W1.alloc (.cells #[.int .i64 p] 3)).heap.size = W1.heap.size + 1 := by simp
  generalize W1.alloc (.cells #[.int .i64 p] 3) = W2 at *
  have b3 := below_alloc' W2 (.cells #[.slice none 0 0] 26)
  have r3 := heap_alloc_new W2 (.cells #[.slice none 0 0] 26)
  generalize W2.alloc (.cells #[.slice none 0 0] 26) = W3 at *
  rw [s1] at r2 s2
  rw [s2] at r3
  exact ⟨(b3.block _ (by omega)).trans ((b2.block _ (by omega)).trans r1), (b3.block _ (by omega)).trans r2, r3, nx (nx b1 b2) b3⟩
theorem Put3.set0 {w w' : World} {s : Value} {p : Nat} (h : Put3 w w' s p) (u : Value) : Put3 w (w'.setCell ⟨w.heap.size, 0, none⟩ u) u p :=
  ⟨set_same h.b0, (set_other (by omega)).trans h.b1, (set_other (by omega)).trans h.b2, h.below.setCell (by exact Nat.le_refl _) _⟩
theorem below_same {B b : Nat} {w w' : World} {u : Value} {T : TypeId} (hb : Below B w w') (h : w'.heap[b]? = some (.cells #[u] T (0, 0))) : Below B w (w'.setCell ⟨b, 0, none⟩ u) := by
  refine ⟨hb.os, hb.tape, hb.output, by simp [World.setCell]; exact hb.size, fun k hk => ?_⟩
  by_cases hkb : k = b
  · subst hkb
    rw [set_same h, ← hb.block k hk, h]
    rfl
  · rw [set_other hkb]
    exact hb.block k hk
/-- What stays while Put's loop goes on: the parent's number; the error's cell; and all, as long as the parent has not come. -/
def PutI (w w8 : World) (a3 p : Nat) (pre : List Int) (W : World) : Prop :=
  W.heap[w.heap.size + 1]? = some (.cells #[.int .i64 p] 3) ∧ (∃ u : Int, W.heap[a3]? = some (.cells #[.int .i64 u] 55)) ∧ ((p : Int) ∉ pre → Below w8.heap.size w8 W)
theorem PutI.own {w w8 : World} {a3 p : Nat} (h1 : w.heap.size + 1 < w8.heap.size) (h3 : a3 < w8.heap.size) : OwnFrom w8.heap.size (PutI w w8 a3 p) := by
  intro s W W' row ⟨i1, ⟨u, i2⟩, i3⟩ hg hr
  have ne : ∀ k, k < w8.heap.size → some k ≠ row := fun k hk e => by have := (hr k e.symm).1; omega
  exact ⟨(hg.block _ (hlt i1) (ne _ h1)).trans i1, ⟨u, (hg.block _ (hlt i2) (ne _ h3)).trans i2⟩, fun hp => (i3 hp).grown hg (i3 hp).size (fun k hk => (hr k hk).1)⟩
theorem KpD.set55 {n₀ a : Nat} {W : World} {u v : Value} (h : W.heap[a]? = some (.cells #[u] 55)) (ha : n₀ ≤ a) : KpD n₀ W (W.setCell ⟨a, 0, none⟩ v) := by
  refine ⟨(Below.refl n₀ W).setCell (by exact ha) _, fun k cs fr hk => ?_⟩
  rw [set_other]
  · exact hk
  · rintro rfl
    rw [h] at hk
    injection hk with hk
    injection hk with _ hk
    exact absurd hk (by decide)
/-- What Put hands back. -/
def OutPut (l : List Kd) (m : Nat) (w : World) (e : Ending) (w' : World) : Prop :=
  ∃ g c, e = .returned (.tuple #[.agg #[.slice (some ⟨g, 0, none⟩) l.length c], .int .i64 0]) ∧ OwnN w' w.heap.size g c l m ∧ Below w.heap.size w w'
set_option maxHeartbeats 4000000 in
theorem put_any (l : List Kd) (m p : Nat) (x : Kd) (v : Value) (w : World) (hd : Doc w v l m) (hg : Good l m) (hl : l.length = m + 1) (hp : m = p + 1) (hx : l[p]? = some x) (hxh : x.holds = true) :
    Calls Tryz.prog 98 #[v, .int .i64 p, .int .i64 m] w (OutPut l (m + 1) w) := by
  have cc := fun w' h => check_any l m v w' h hg
  have ct1 := fun w' h => there_any l m p v w' h hg (by omega)
  have ct2 := fun w' h => there_any l m m v w' h hg (by omega)
  obtain ⟨g, cap, rfl, hcap, hn⟩ := hd
  obtain ⟨nn, hnl⟩ : ∃ nn, nn = l.length := ⟨_, rfl⟩
  have hm100 : m ≤ 100 := by have := hg.len; have := hg.ml; omega
  have ht := Put3.start w (.slice (some ⟨g, 0, none⟩) nn cap) p
  obtain ⟨W, hW⟩ : ∃ W, W = ((w.alloc (.cells #[.slice (some ⟨g, 0, none⟩) nn cap] 26)).alloc (.cells #[.int .i64 p] 3)).alloc (.cells #[.slice none 0 0] 26) := ⟨_, rfl⟩
  rw [← hW] at ht
  have hD : ∀ w', Below w.heap.size w w' → Doc w' (.agg #[.slice (some ⟨g, 0, none⟩) nn cap]) l m := fun w' hb => ⟨g, cap, by rw [hnl], by omega, hn.below hb⟩
  have hN : ∀ w', Below w.heap.size w w' → Nodes w' g l m := fun w' hb => hn.below hb
  rw [← hnl] at cc ct1 ct2 ⊢
  have x0 := ht.c0
  have x1 := ht.c1
  have p1 : (0 : Int) ≤ (p : Int) := by omega
  have p2 : (p : Int) < (nn : Int) := by omega
  have p3 : decide (0 < m) = true := by simp; omega
  have HW := Lib.hid hW
  have HT := Lib.hid ht
  have HD := Lib.hid hD
  have HN := Lib.hid hN
  have HC := Lib.hid cc
  have HT1 := Lib.hid ct1
  have HT2 := Lib.hid ct2
  have HNL := Lib.hid hnl
  have HL := Lib.hid hl
  have HP := Lib.hid hp
  have HX := Lib.hid hx
  have HXH := Lib.hid hxh
  have HG := Lib.hid hg
  clear hW ht hD hN cc ct1 ct2 hnl hl hp hx hxh hn hcap hg
  refine (callsIn_wide (n := 10)).1 ?_
  refine callsIn_of_wp_marks Tryz.func98 rfl trivial ?_
  simp only [Tryz.ntmps98, List.size_toArray, List.length_cons, List.length_nil, Nat.reduceAdd, Nat.reduceSub, Array.replicate_succ, Array.replicate_zero, List.push_toArray, List.append_toArray, List.nil_append, List.cons_append]
  refine wpIn_wide.2 ?_
  go_upto_region 1 with fail
  rw [← HW.out]
  go_wp2_with fail
  with_reducible refine (HC.out _ (HD.out _ HT.out.below)).mono ?_
  rintro e w1 ⟨rfl, hb1⟩
  have ht1 := HT.out.on hb1
  have hww3 : w.heap.size + 2 < w1.heap.size := ht1.lt
  have hrow := heap_alloc_new w1 (.cells #[.int .i64 0] 55)
  have hbA := below_alloc' w1 (.cells #[.int .i64 0] 55)
  have ht2 := ht1.on hbA
  obtain ⟨w2, hw2⟩ : ∃ w2, w2 = w1.alloc (.cells #[.int .i64 0] 55) := ⟨_, rfl⟩
  rw [← hw2] at hrow hbA ht2
  have HW2 := Lib.hid hw2
  have HT2' := Lib.hid ht2
  have HR2 := Lib.hid hrow
  clear x0 x1 hw2 hb1 ht1 hbA hrow ht2
  go_upto_region 2 with fail
  rw [← HW2.out]
  obtain ⟨va, vk, ha, hk, hra⟩ := (HN.out _ HT2'.out.below).at_ p x HX.out
  obtain ⟨aA, an, ac, rfl⟩ := ha.form
  obtain ⟨kA, kn, kc, rfl⟩ := hk.form
  obtain ⟨pa, hpa⟩ : ∃ pa, pa = paOf m p := ⟨_, rfl⟩
  rw [← hpa] at hra
  have hgl : g < w2.heap.size := (HN.out _ HT2'.out.below).lt
  have sp : ∀ w', Below w2.heap.size w2 w' → (w'.cell? ⟨w.heap.size, 0, none⟩ = some (.slice (some ⟨g, 0, none⟩) nn cap) ∧ w'.cell? ⟨w.heap.size + 1, 0, none⟩ = some (.int .i64 p) ∧ w'.cell? ⟨w1.heap.size, 0, none⟩ = some (.int .i64 0) ∧ w'.cell? ⟨g, p * 8, none⟩ = some (.int .i64 x.num) ∧ w'.cell? ⟨g, p * 8 + 1, none⟩ = some (.string x.nm) ∧ w'.cell? ⟨g, p * 8 + 2, none⟩ = some (.string x.dt) ∧ w'.cell? ⟨g, p * 8 + 3, none⟩ = some (.slice aA an ac) ∧ w'.cell? ⟨g, p * 8 + 4, none⟩ = some (.int .i64 pa) ∧ w'.cell? ⟨g, p * 8 + 5, none⟩ = some (.slice kA kn kc) ∧ w'.cell? ⟨g, p * 8 + 6, none⟩ = some (.bool x.pr) ∧ w'.cell? ⟨g, p * 8 + 7, none⟩ = some (.bool false)) := by
    intro w' hb
    have hra' : w'.rangeAt g (p * 8) (x.cells (.slice aA an ac) pa (.slice kA kn kc)) := fun j u hu => (hb.cell (p := ⟨g, p * 8 + j, none⟩) hgl).trans (hra j u hu)
    obtain ⟨r0, r1, r2, r3, r4, r5, r6, r7⟩ := range_facts hra'
    have h2 := HT2'.out.on hb
    exact ⟨h2.c0, h2.c1, (cell_row ((hb.block _ (hlt HR2.out)).trans HR2.out) 0), r0, r1, r2, r3, r4, r5, r6, r7⟩
  have B0 := Below.refl w2.heap.size w2
  have BD := fun w' (hb : Below w2.heap.size w2 w') => HT2'.out.below.trans (hb.mono HT2'.out.below.size)
  have ch := fun w' => holds_any x (.slice aA an ac) pa (.slice kA kn kc) w'
  rw [HXH.out] at ch
  unfold Kd.cells at ch
  have HCH := Lib.hid ch
  have HSP := Lib.hid sp
  have HBD := Lib.hid BD
  have HB0 := Lib.hid B0
  clear ha hk hra hpa sp B0 BD ch
  go_region_held3 (fun w' => w'.cell? ⟨w.heap.size, 0, none⟩ = some (.slice (some ⟨g, 0, none⟩) nn cap) ∧ w'.cell? ⟨w.heap.size + 1, 0, none⟩ = some (.int .i64 p) ∧ w'.cell? ⟨w1.heap.size, 0, none⟩ = some (.int .i64 0) ∧ w'.cell? ⟨g, p * 8, none⟩ = some (.int .i64 x.num) ∧ w'.cell? ⟨g, p * 8 + 1, none⟩ = some (.string x.nm) ∧ w'.cell? ⟨g, p * 8 + 2, none⟩ = some (.string x.dt) ∧ w'.cell? ⟨g, p * 8 + 3, none⟩ = some (.slice aA an ac) ∧ w'.cell? ⟨g, p * 8 + 4, none⟩ = some (.int .i64 pa) ∧ w'.cell? ⟨g, p * 8 + 5, none⟩ = some (.slice kA kn kc) ∧ w'.cell? ⟨g, p * 8 + 6, none⟩ = some (.bool x.pr) ∧ w'.cell? ⟨g, p * 8 + 7, none⟩ = some (.bool false)) (first | exact HSP.out _ (below_drew' w2) | exact HSP.out _ HB3.out | exact HSP.out _ HB4.out | exact HSP.out _ HB5.out | exact HSP.out _ (HB5.out.alloc HB5.out.size _) | exact HSP.out _ HB7.out)
    (first
      | (go_at_call 15; (with_reducible refine (HT1.out _ (HD.out _ (HBD.out _ (below_drew' w2)))).mono ?_); rintro e w3 ⟨rfl, hb3⟩; have HB3 := Lib.hid (nx (below_drew' w2) hb3); clear hb3)
      | (go_at_call 15; (with_reducible refine (HT2.out _ (HD.out _ (HBD.out _ HB3.out))).mono ?_); rintro e w4 ⟨rfl, hb4⟩; have HB4 := Lib.hid (nx HB3.out hb4); clear hb4)
      | (go_at_call 46; (with_reducible refine (HCH.out _).mono ?_); rintro e w5 ⟨rfl, hb5⟩; have HB5 := Lib.hid (nx HB4.out hb5); clear hb5)
      | (go_at_call 114; (with_reducible refine (node_any _).mono ?_); rintro e w6 ⟨rfl, rfl⟩)
      | (go_at_call 113; (with_reducible refine (first_any w5.heap.size 2 _ (cell_row (heap_alloc_new w5 (.cells #[.int .i64 0, .int .i64 0] 55)) 0) (cell_row (heap_alloc_new w5 (.cells #[.int .i64 0, .int .i64 0] 55)) 1)).mono ?_); rintro e w6 ⟨rfl, rfl⟩; have hrr := (((HB5.out.alloc HB5.out.size (.cells #[.int .i64 0, .int .i64 0] 55)).block _ (hlt HR2.out)).trans HR2.out); have fz := free_of (k := 0) hrr; have HB7 := Lib.hid (below_same (HB5.out.alloc HB5.out.size (.cells #[.int .i64 0, .int .i64 0] 55)) hrr); clear hrr))
  have ht7 := HT2'.out.on HB7.out
  have hr7 := (HB7.out.block _ (hlt HR2.out)).trans HR2.out
  have hs7 : w2.heap.size ≤ ((w5.alloc (.cells #[.int .i64 0, .int .i64 0] 55)).setCell ⟨w1.heap.size, 0, none⟩ (.int .i64 0)).heap.size := HB7.out.size
  obtain ⟨w7, hw7⟩ : ∃ w7, w7 = (w5.alloc (.cells #[.int .i64 0, .int .i64 0] 55)).setCell ⟨w1.heap.size, 0, none⟩ (.int .i64 0) := ⟨_, rfl⟩
  rw [← hw7] at ht7 hr7 hs7 ⊢
  have y0 := ht7.c0
  have y1 := ht7.c1
  have y3 := cell_row hr7 0
  simp at y3
  have HT7 := Lib.hid ht7
  have HR7 := Lib.hid hr7
  clear ht7 hr7 hw7 fz HB7 HB5 HB4 HB3
  go_wp2_with fail
  with_reducible refine (walk_any _ _ _).mono ?_
  rintro e w8 ⟨rfl, hw8⟩
  have hbA := (below_alloc' w7 (.cells #[.slice (some ⟨g, 0, none⟩) nn cap] 26))
  have hbB := nx hbA (below_alloc' _ (.cells #[.int .i64 m] 3))
  have hra8 := heap_alloc_new w7 (.cells #[.slice (some ⟨g, 0, none⟩) nn cap] 26)
  have hrb8 := heap_alloc_new (w7.alloc (.cells #[.slice (some ⟨g, 0, none⟩) nn cap] 26)) (.cells #[.int .i64 m] 3)
  have hra9 := ((below_alloc' (w7.alloc (.cells #[.slice (some ⟨g, 0, none⟩) nn cap] 26)) (.cells #[.int .i64 m] 3)).block _ (hlt hra8)).trans hra8
  rw [World.size_alloc] at hrb8
  rw [← hw8] at hbB hrb8 hra9
  have ht8 := HT7.out.on hbB
  have hr8 := (hbB.block _ (hlt HR7.out)).trans HR7.out
  have HT8 := Lib.hid ht8
  have HR8 := Lib.hid hr8
  have HA8 := Lib.hid hra9
  have HB8 := Lib.hid hrb8
  clear hbA hbB hra8 hrb8 hra9 hw8 ht8 hr8 y0 y1 y3
  go_wp2_with fail
  have hs8 : w7.heap.size + 1 < w8.heap.size := hlt HB8.out
  have hs9 := HT7.out.lt
  have ha3 : w1.heap.size < w8.heap.size := hlt HR8.out
  have hww : w.heap.size ≤ w1.heap.size := by omega
  refine (wpIn_wide (n := 10)).1 ?_
  refine wpIn_rangeFunc_ownF rfl (by omega) (gf := 48) (lb := #[.pointer (some ⟨w7.heap.size, 0, none⟩), .pointer (some ⟨w7.heap.size + 1, 0, none⟩)]) rfl trivial (enters_of Tryz.func48 (by kernel_rfl) rfl)
    (walk_stops Fence.wide rfl trivial trivial rfl _ w.heap.size g cap m m 0 w7.heap.size (w7.heap.size + 1) l w w8 HN.out (by have := HL.out; omega) (by omega) (by have := HL.out; omega) HT8.out.below.size HT8.out.below (by rw [← HNL.out]; exact cell_row HA8.out 0) (cell_row HB8.out 0) (by omega) (by omega))
    (fun h k => h.trans k) ?kb (Below.refl _ _) (fun _ => rfl) (PutI w w8 w1.heap.size p) (fun _ _ _ => False) (PutI.own (by omega) ha3) (fun _ _ _ _ _ h _ _ => h) ⟨HT8.out.b1, ⟨0, HR8.out⟩, fun _ => Below.refl _ _⟩ ?a1 ?assign ?body ?done ?stop
  case assign =>
    intro l' x' W' K hK
    gi_wp2
    exact hK
  case kb =>
    intro W' l' o o' hl' ho hc hwk
    have hg := grownBy_putObj' W' l' o'
    refine ⟨⟨hg.os, hg.tape, hg.output, hg.size, fun k hk => hg.block k (by have := hlt ho; have := HT8.out.below.size; omega) (by intro e; injection e with e; have := HT8.out.below.size; omega)⟩, fun k cs fr hk => ?_⟩
    rw [hg.block k (hlt hk) ?_]
    · exact hk
    · intro e
      injection e with e
      subst e
      rw [hk] at ho
      injection ho with ho
      subst ho
      cases hc
  case body =>
    rintro l' pre x' W' ⟨j1, ⟨u, j2⟩, j3⟩ hpl
    have k1 := cell_row j1 0
    have k2 := cell_row j2 0
    simp at k1 k2
    have k3 := free_of (k := 0) j2
    have J1 := Lib.hid j1
    have J2 := Lib.hid j2
    have J3 := Lib.hid j3
    clear j1 j2 j3
    by_cases hxp : x' = (p : Int)
    · subst hxp
      gi_wp2
      refine ⟨KeepsOthers.setCell _ _ _, KpD.set55 J2.out hww, (set_other (by omega)).trans J1.out, ⟨172, set_same J2.out⟩, fun hm => absurd (List.mem_append_right pre (List.mem_singleton.2 rfl)) hm⟩
    · have q1 : (x' == (p : Int)) = false := by simpa using hxp
      have HXP := Lib.hid hxp
      clear hxp
      gi_wp2
      refine ⟨KeepsOthers.refl _, KpD.refl _ _, J1.out, ⟨u, J2.out⟩, fun hm => J3.out fun h => hm (List.mem_append_left _ h)⟩
  case stop =>
    rintro D c pre W' _ _ h _
    exact h.elim
  case done =>
    rintro D ys W' hDD rfl ⟨j1, j2, j3⟩ hK
    have hb9 : Below w8.heap.size w8 W' := j3 (by intro h; have h := List.mem_singleton.1 h; have := HP.out; omega)
    have ht9 := HT8.out.on hb9
    have hr9 := (hb9.block _ (hlt HR8.out)).trans HR8.out
    have z0 := ht9.c0
    have z1 := ht9.c1
    have z3 := cell_row hr9 0
    simp at z3
    have HT9 := Lib.hid ht9
    have HR9 := Lib.hid hr9
    have HK := Lib.hid hK
    have HDD := Lib.hid hDD
    clear j1 j2 j3 hb9 ht9 hr9 hK hDD
    go_wp2_with fail
    with_reducible refine (copied_any l m _ _ (HD.out _ HT9.out.below) (by have := HL.out; omega) (by have := HL.out; omega)).mono ?_
    rintro e w10 ⟨g2, c2, he, ho, hb10⟩
    rw [← HNL.out] at he
    subst he
    have ht10 := HT9.out.on hb10
    have q0 := ht10.c0
    have f0 := free_of (k := 0) ht10.b0
    have ht11 := ht10.set0 (.slice (some ⟨g2, 0, none⟩) nn c2)
    have hkp := keep_set w10 w.heap.size 0 (.slice (some ⟨g2, 0, none⟩) nn c2)
    have ho11 := ho.keep hkp ht10.b0
    have hK11 := (hkp.block D (by have := hlt HK.out; have := hb10.size; omega) (by intro e; have e := List.mem_singleton.1 e; have := HDD.out; have := HT8.out.lt; omega)).trans ((hb10.block D (hlt HK.out)).trans HK.out)
    obtain ⟨w11, hw11⟩ : ∃ w11, w11 = w10.setCell ⟨w.heap.size, 0, none⟩ (.slice (some ⟨g2, 0, none⟩) nn c2) := ⟨_, rfl⟩
    rw [← hw11] at ht11 ho11 hK11
    have HW11 := Lib.hid hw11
    have HT11 := Lib.hid ht11
    have HO11 := Lib.hid ho11
    have HK11 := Lib.hid hK11
    clear ht10 ht11 hkp ho ho11 hK11 hw11 hb10 z0 z1 z3
    go_upto_region 12 with fail
    rw [← HW11.out]
    have q1 := HT11.out.c0
    clear q0 f0
    go_wp2_with fail
    have co := out_any W'.heap.size g2 c2 m l w11 HO11.out HL.out
    rw [← HNL.out] at co
    with_reducible refine co.mono ?_
    clear co
    rintro e w12 ⟨rfl, hb12⟩
    have ht12 := HT11.out.on hb12
    have ho12 := HO11.out.below hb12
    have hK12 := (hb12.block D (hlt HK11.out)).trans HK11.out
    obtain ⟨cur, hcur, hB, hlc, hcm, hcs, hnodes⟩ := ho12
    obtain ⟨_, _, _, _, hm9⟩ := hnodes m _ (List.getElem?_eq_getElem (show m < l.length by have := HL.out; omega))
    obtain ⟨vpa, vpk, _, hpk, hp9⟩ := hnodes p x HX.out
    have hkn : kidOf m p = none := by unfold kidOf; rw [if_neg (by have := HP.out; omega)]
    rw [hkn] at hpk
    obtain rfl : vpk = _ := hpk
    have s4 : w12.cell? ⟨g2, m * 8 + 4, none⟩ = some (.int .i64 (paOf m m)) := (cell_row hcur _).trans (hm9 4 _ rfl)
    have s5 : w12.cell? ⟨g2, p * 8 + 5, none⟩ = some (.slice none 0 0) := (cell_row hcur _).trans (hp9 5 _ rfl)
    have sf := free_of (k := m * 8 + 4) hcur
    have u0 := ht12.c0
    have u1 := ht12.c1
    have m1 : (0 : Int) ≤ (m : Int) := by omega
    have m2 : (m : Int) < (nn : Int) := by have := HL.out; have := HNL.out; omega
    have HO12 := Lib.hid (⟨cur, hcur, hB, hlc, hcm, hcs, hnodes⟩ : OwnN w12 W'.heap.size g2 c2 l m)
    have HT12 := Lib.hid ht12
    have HK12 := Lib.hid hK12
    have HCUR := Lib.hid hcur
    have hgB : w.heap.size + 2 < g2 := by have := HT9.out.lt; omega
    clear ht12 hK12 hcur hB hlc hcm hcs hnodes hm9 hp9 hkn hb12 q1
    go_upto_region 14 with fail
    have hs13 := set_same (k := m * 8 + 4) (u := .int .i64 p) HCUR.out
    have ho13 : ∀ b, b ≠ g2 → (w12.setCell ⟨g2, m * 8 + 4, none⟩ (.int .i64 p)).heap[b]? = w12.heap[b]? := fun b hb => set_other hb
    have hz13 : (w12.setCell ⟨g2, m * 8 + 4, none⟩ (.int .i64 p)).heap.size = w12.heap.size := by simp [World.setCell]
    have hb13 : Below w.heap.size w (w12.setCell ⟨g2, m * 8 + 4, none⟩ (.int .i64 p)) := HT12.out.below.setCell (by show w.heap.size ≤ g2; omega) _
    obtain ⟨w13, hw13⟩ : ∃ w13, w13 = w12.setCell ⟨g2, m * 8 + 4, none⟩ (.int .i64 p) := ⟨_, rfl⟩
    rw [← hw13] at hs13 ho13 hz13 hb13 ⊢
    have sp : ∀ w', Below w13.heap.size w13 w' → (w'.cell? ⟨w.heap.size, 0, none⟩ = some (.slice (some ⟨g2, 0, none⟩) nn c2) ∧ w'.cell? ⟨w.heap.size + 1, 0, none⟩ = some (.int .i64 p) ∧ w'.cell? ⟨g2, p * 8 + 5, none⟩ = some (.slice none 0 0)) := by
      intro w' hb
      have hl := HT12.out.lt
      refine ⟨?_, ?_, ?_⟩
      · rw [hb.cell (p := ⟨w.heap.size, 0, none⟩) (by show w.heap.size < _; omega), World.cell?_of_block (ho13 w.heap.size (by omega))]; exact u0
      · rw [hb.cell (p := ⟨w.heap.size + 1, 0, none⟩) (by show w.heap.size + 1 < _; omega), World.cell?_of_block (ho13 (w.heap.size + 1) (by omega))]; exact u1
      · rw [hb.cell (p := ⟨g2, p * 8 + 5, none⟩) (hlt hs13), cell_row hs13, Array.getElem?_setIfInBounds_ne (by have := HP.out; omega), ← cell_row HCUR.out]; exact s5
    obtain ⟨i0, hi, hz0, hz1, hz2⟩ := info_parts clonei_row
    have HI := Lib.hid hi
    have HSP := Lib.hid sp
    have HS13 := Lib.hid hs13
    have HO13 := Lib.hid ho13
    have HZ13 := Lib.hid hz13
    have HB13 := Lib.hid hb13
    clear hs13 ho13 hz13 hb13 hw13 sp hi s4 s5 sf u0 u1
    obtain ⟨v0, v1, v5⟩ := HSP.out w13 (Below.refl _ _)
    have n0 := World.new_ne w13 ⟨w.heap.size, 0, none⟩ v0
    have n1 := World.new_ne w13 ⟨w.heap.size + 1, 0, none⟩ v1
    have n5 := World.new_ne w13 ⟨g2, p * 8 + 5, none⟩ v5
    have hs3 : ∀ w', Below w13.heap.size w13 w' → (w'.cell? ⟨w.heap.size, 0, none⟩ = some (.slice (some ⟨g2, 0, none⟩) nn c2) ∧ w'.cell? ⟨w.heap.size + 1, 0, none⟩ = some (.int .i64 p)) := fun w' hb => ⟨(HSP.out w' hb).1, (HSP.out w' hb).2.1⟩
    have HS3 := Lib.hid hs3
    clear hs3
    have hS0 := HSP.out _ (below_drew' w13)
    refine wp_region_noPanic ?_
    refine region_G (fun w' => w'.cell? ⟨w.heap.size, 0, none⟩ = some (.slice (some ⟨g2, 0, none⟩) nn c2) ∧ w'.cell? ⟨w.heap.size + 1, 0, none⟩ = some (.int .i64 p) ∧ w'.cell? ⟨g2, p * 8 + 5, none⟩ = some (.slice none 0 0)) 14 15 (by kernel_rfl) (by rfl) ?_
    refine anyG_take 0 ?v0 (by kernel_rfl) (by kernel_rfl) (by rfl) (by kernel_rfl) (by kernel_rfl) (by kernel_rfl) (fun _ _ _ h => h) (Or.inl ⟨by rfl, ?y0⟩) hS0 ?r0
    case y0 =>
      intro w' hS
      obtain ⟨c0, c1, c5⟩ := hS
      go_simp
      all_goals with_reducible rfl
    try simp only [Act.put, List.setIfInBounds_toArray, List.set_cons_zero, List.set_cons_succ, List.getElem_toArray, List.getElem_cons_zero, List.getElem_cons_succ]
    refine anyG_take 1 ?v1 (by kernel_rfl) (by kernel_rfl) (by rfl) (by kernel_rfl) (by kernel_rfl) (by kernel_rfl) (fun _ _ _ h => h) (Or.inl ⟨by rfl, ?y1⟩) hS0 ?r1
    case y1 =>
      intro w' hS
      obtain ⟨c0, c1, c5⟩ := hS
      go_simp
      all_goals with_reducible rfl
    try simp only [Act.put, List.setIfInBounds_toArray, List.set_cons_zero, List.set_cons_succ, List.getElem_toArray, List.getElem_cons_zero, List.getElem_cons_succ]
    refine anyG_take 2 ?v2 (by kernel_rfl) (by kernel_rfl) (by rfl) (by kernel_rfl) (by kernel_rfl) (by kernel_rfl) (fun _ _ _ h => h) (Or.inl ⟨by rfl, ?y2⟩) hS0 ?r2
    case y2 =>
      intro w' hS
      obtain ⟨c0, c1, c5⟩ := hS
      go_simp
      all_goals with_reducible rfl
    try simp only [Act.put, List.setIfInBounds_toArray, List.set_cons_zero, List.set_cons_succ, List.getElem_toArray, List.getElem_cons_zero, List.getElem_cons_succ]
    refine anyG_take 3 ?v3 (by kernel_rfl) (by kernel_rfl) (by rfl) (by kernel_rfl) (by kernel_rfl) (by kernel_rfl) (fun _ _ _ h => h) (Or.inl ⟨by rfl, ?y3⟩) hS0 ?r3
    case y3 =>
      intro w' hS
      obtain ⟨c0, c1, c5⟩ := hS
      go_simp
      all_goals with_reducible rfl
    try simp only [Act.put, List.setIfInBounds_toArray, List.set_cons_zero, List.set_cons_succ, List.getElem_toArray, List.getElem_cons_zero, List.getElem_cons_succ]
    refine anyG_take 4 ?v4 (by kernel_rfl) (by kernel_rfl) (by rfl) (by kernel_rfl) (by kernel_rfl) (by kernel_rfl) (fun _ _ _ h => h) (Or.inl ⟨by rfl, ?y4⟩) hS0 ?r4
    case y4 =>
      intro w' hS
      obtain ⟨c0, c1, c5⟩ := hS
      go_simp
      all_goals with_reducible rfl
    try simp only [Act.put, List.setIfInBounds_toArray, List.set_cons_zero, List.set_cons_succ, List.getElem_toArray, List.getElem_cons_zero, List.getElem_cons_succ]
    refine anyG_take 5 ?v5 (by kernel_rfl) (by kernel_rfl) (by rfl) (by kernel_rfl) (by kernel_rfl) (by kernel_rfl) (fun _ _ _ h => h) (Or.inl ⟨by rfl, ?y5⟩) hS0 ?r5
    case y5 =>
      intro w' hS
      obtain ⟨c0, c1, c5⟩ := hS
      go_simp
      all_goals with_reducible rfl
    try simp only [Act.put, List.setIfInBounds_toArray, List.set_cons_zero, List.set_cons_succ, List.getElem_toArray, List.getElem_cons_zero, List.getElem_cons_succ]
    refine anyG_take 6 ?v6 (by kernel_rfl) (by kernel_rfl) (by rfl) (by kernel_rfl) (by kernel_rfl) (by kernel_rfl) (fun _ _ _ h => h) (Or.inl ⟨by rfl, ?y6⟩) hS0 ?r6
    case y6 =>
      intro w' hS
      obtain ⟨c0, c1, c5⟩ := hS
      go_simp
      all_goals with_reducible rfl
    try simp only [Act.put, List.setIfInBounds_toArray, List.set_cons_zero, List.set_cons_succ, List.getElem_toArray, List.getElem_cons_zero, List.getElem_cons_succ]
    refine anyG_take 7 ?v7 (by kernel_rfl) (by kernel_rfl) (by rfl) (by kernel_rfl) (by kernel_rfl) (by kernel_rfl) (fun _ _ _ h => h) (Or.inl ⟨by rfl, ?y7⟩) hS0 ?r7
    case y7 =>
      intro w' hS
      obtain ⟨c0, c1, c5⟩ := hS
      go_simp
      all_goals with_reducible rfl
    try simp only [Act.put, List.setIfInBounds_toArray, List.set_cons_zero, List.set_cons_succ, List.getElem_toArray, List.getElem_cons_zero, List.getElem_cons_succ]
    refine anyG_take 8 ?v8 (by kernel_rfl) (by kernel_rfl) (by rfl) (by kernel_rfl) (by kernel_rfl) (by kernel_rfl) (fun _ _ _ h => h) (Or.inl ⟨by rfl, ?y8⟩) hS0 ?r8
    case y8 =>
      intro w' hS
      obtain ⟨c0, c1, c5⟩ := hS
      go_simp
      all_goals with_reducible rfl
    try simp only [Act.put, List.setIfInBounds_toArray, List.set_cons_zero, List.set_cons_succ, List.getElem_toArray, List.getElem_cons_zero, List.getElem_cons_succ]
    refine anyG_take 9 ?v9 (by kernel_rfl) (by kernel_rfl) (by rfl) (by kernel_rfl) (by kernel_rfl) (by kernel_rfl) (fun _ _ _ h => h) (Or.inl ⟨by rfl, ?y9⟩) hS0 ?r9
    case y9 =>
      intro w' hS
      obtain ⟨c0, c1, c5⟩ := hS
      go_simp
      all_goals with_reducible rfl
    try simp only [Act.put, List.setIfInBounds_toArray, List.set_cons_zero, List.set_cons_succ, List.getElem_toArray, List.getElem_cons_zero, List.getElem_cons_succ]
    refine anyG_one 10 (by kernel_rfl) (by rfl) (by rfl) ?_
    go_simp
    try simp only [Act.put, List.setIfInBounds_toArray, List.set_cons_zero, List.set_cons_succ, List.getElem_toArray, List.getElem_cons_zero, List.getElem_cons_succ]
    have hb1 : Below w13.heap.size w13 ((w13.alloc (.cells #[.int .i64 m] 3)).drew) := (below_alloc' w13 _).drew
    refine ⟨HSP.out _ (below_alloc' w13 _), ?_⟩
    refine anyG_one 11 (by kernel_rfl) (by rfl) (by rfl) ?_
    refine wp_append_lies _ _ _ _ (by rfl) w13.heap.size 3 i0 _ 1 _ Tryz.underlying35 HI.out hz0 hz1 hz2 rfl (by omega) _ 0 [] (by rfl) (World.ownsRow_nil _ _ _ _) ⟨w13.heap.size, 0, none⟩ 1 1 [.int .i64 m] (by rfl) (by rfl) (World.news_of_block (cs := #[.int .i64 m]) (t := 3) (fr := (0, 0)) (heap_alloc_new w13.drew (.cells #[.int .i64 m] 3))) (by simp [Value.oneCell']) (by omega) (by unfold maxLen; omega) (by omega) (by simp) (w13.heap.size + 1) (by simp) ?_
    intro gg cc w14 hown14 hgrow14 hat14 hlt14
    have hb14 : Below w13.heap.size w13 w14 := hb1.grown hgrow14 (by simp) (fun k hk => by cases hk)
    have HB14 := Lib.hid hb14
    have HOWN14 := Lib.hid hown14
    have hc14 := (hb14.block g2 (hlt HS13.out)).trans HS13.out
    have fz14 := free_of (k := p * 8 + 5) hc14
    obtain ⟨s140, s141, s14⟩ := HSP.out _ hb14
    have hS1 := HSP.out _ hb14
    clear hb14 hown14 hgrow14 hat14 hlt14 hb1
    try simp only [Act.put, List.setIfInBounds_toArray, List.set_cons_zero, List.set_cons_succ, List.getElem_toArray, List.getElem_cons_zero, List.getElem_cons_succ]
    refine ⟨hS1, ?_⟩
    refine anyG_one 12 (by kernel_rfl) (by rfl) (by rfl) ?_
    go_simp
    first
      | refine ⟨hS1, ?_⟩
      | skip
    try simp only [Act.put, List.setIfInBounds_toArray, List.set_cons_zero, List.set_cons_succ, List.getElem_toArray, List.getElem_cons_zero, List.getElem_cons_succ]
    refine anyG_one 13 (by kernel_rfl) (by rfl) (by rfl) ?_
    go_simp
    first
      | refine ⟨hS1, ?_⟩
      | skip
    try simp only [Act.put, List.setIfInBounds_toArray, List.set_cons_zero, List.set_cons_succ, List.getElem_toArray, List.getElem_cons_zero, List.getElem_cons_succ]
    refine anyG_last (by kernel_rfl) (by rfl) (by rfl) (by kernel_rfl) ?_
    go_simp
    try simp only [Act.put, List.setIfInBounds_toArray, List.set_cons_zero, List.set_cons_succ, List.getElem_toArray, List.getElem_cons_zero, List.getElem_cons_succ]
    refine anyG_done (by kernel_rfl) ?_
    refine NoPanic.normal ?_
    have hDg : D ≠ g2 := by
      rintro rfl
      have h := HK12.out
      rw [HCUR.out] at h
      cases h
    obtain ⟨cur14, hgg, hgB, hgc, _, hgx⟩ := own_block HOWN14.out
    have hgne : gg ≠ g2 := by have := hlt HS13.out; omega
    have hk15 : ∀ k, k < w12.heap.size → k ≠ g2 → (w14.setCell ⟨g2, p * 8 + 5, none⟩ (.slice (some ⟨gg, 0, none⟩) 1 cc)).heap[k]? = w12.heap[k]? := fun k hk hne => by
      rw [set_other hne, HB14.out.block k (by rw [HZ13.out]; exact hk)]
      exact HO13.out k hne
    have ho15 : OwnN (w14.setCell ⟨g2, p * 8 + 5, none⟩ (.slice (some ⟨gg, 0, none⟩) 1 cc)) W'.heap.size g2 c2 l (m + 1) := by
      refine OwnN.attach HO12.out HL.out HP.out HCUR.out (set_same ((HB14.out.block g2 (hlt HS13.out)).trans HS13.out)) hk15 ?_
      exact ⟨gg, cc, cur14, _, rfl, hgc, (set_other hgne).trans hgg, hgx 0 _ rfl⟩
    have ht15 : Put3 w (w14.setCell ⟨g2, p * 8 + 5, none⟩ (.slice (some ⟨gg, 0, none⟩) 1 cc)) (.slice (some ⟨g2, 0, none⟩) nn c2) p := by
      have hl := HT12.out.lt
      exact ⟨(hk15 _ (by omega) (by omega)).trans HT12.out.b0, (hk15 _ (by omega) (by omega)).trans HT12.out.b1, (hk15 _ (by omega) (by omega)).trans HT12.out.b2, (HB13.out.trans (HB14.out.mono (by have := HB13.out.size; exact this))).setCell (by show w.heap.size ≤ g2; omega) _⟩
    have hK15 := (hk15 D (hlt HK12.out) hDg).trans HK12.out
    obtain ⟨w15, hw15⟩ : ∃ w15, w15 = w14.setCell ⟨g2, p * 8 + 5, none⟩ (.slice (some ⟨gg, 0, none⟩) 1 cc) := ⟨_, rfl⟩
    rw [← hw15] at ho15 ht15 hK15 ⊢
    have t0 := ht15.c0
    have t2 : w15.cell? ⟨w.heap.size + 1 + 1, 0, none⟩ = some (.slice none 0 0) := cell_row ht15.b2 0
    have tf : w15.frozen? ⟨w.heap.size + 1 + 1, 0, none⟩ = false := free_of ht15.b2
    have HO15 := Lib.hid ho15
    have HT15 := Lib.hid ht15
    have HK15 := Lib.hid hK15
    have hDw : w.heap.size + 2 < D := by have := HT8.out.lt; have := HDD.out; omega
    clear hDg hgg hgB hgc hgx hgne hk15 ho15 ht15 hK15 hw15 hc14 fz14 s140 s141 s14 hS1 hS0 v0 v1 v5 n0 n1 n5
    go_wp2_with fail
    have hk16 := keep_set w15 (w.heap.size + 1 + 1) 0 (.slice (some ⟨g2, 0, none⟩) nn c2)
    have hK16 := (hk16.block D (hlt HK15.out) (by intro e; have e := List.mem_singleton.1 e; omega)).trans HK15.out
    have ho16 := OwnN.keep HO15.out hk16 HT15.out.b2
    have hr16 := set_same (k := 0) (u := .slice (some ⟨g2, 0, none⟩) nn c2) HT15.out.b2
    have hb16 : Below w.heap.size w (w15.setCell ⟨w.heap.size + 1 + 1, 0, none⟩ (.slice (some ⟨g2, 0, none⟩) nn c2)) := HT15.out.below.setCell (by show w.heap.size ≤ w.heap.size + 1 + 1; omega) _
    obtain ⟨w16, hw16⟩ : ∃ w16, w16 = w15.setCell ⟨w.heap.size + 1 + 1, 0, none⟩ (.slice (some ⟨g2, 0, none⟩) nn c2) := ⟨_, rfl⟩
    rw [← hw16] at hK16 ho16 hb16 ⊢
    have hr16' : w16.heap[w.heap.size + 1 + 1]? = some (.cells #[.slice (some ⟨g2, 0, none⟩) nn c2] 26) := by rw [hw16]; exact hr16
    have hgp := grownBy_putObj' w16 D (.deferred none)
    have hkp : Keep [D] w16 (w16.putObj D (.deferred none)) := ⟨hgp.os, hgp.tape, hgp.output, hgp.size, fun k hk hl => hgp.block k hk (by intro e; injection e with e; exact hl (by rw [e]; exact List.mem_singleton.2 rfl))⟩
    have hc17 : (w16.putObj D (.deferred none)).cell? ⟨w.heap.size + 1 + 1, 0, none⟩ = some (.slice (some ⟨g2, 0, none⟩) nn c2) := (hkp.cell (p := ⟨w.heap.size + 1 + 1, 0, none⟩) (hlt hr16') (by intro e; have e := List.mem_singleton.1 e; simp at e; omega)).trans (cell_row hr16' 0)
    have hb17 : Below w.heap.size w (w16.putObj D (.deferred none)) := hb16.grown hgp hb16.size (fun k hk => by injection hk with hk; omega)
    have ho17 : OwnN (w16.putObj D (.deferred none)) W'.heap.size g2 c2 l (m + 1) := by
      have nd : ∀ {b : Nat} {cs : Array Value} {T : TypeId} {fr : Nat × Nat}, w16.heap[b]? = some (.cells cs T fr) → (w16.putObj D (.deferred none)).heap[b]? = some (.cells cs T fr) := fun {b cs T fr} hb => by
        rw [hgp.block b (hlt hb) ?_]
        · exact hb
        · intro e
          injection e with e
          subst e
          rw [hK16] at hb
          cases hb
      obtain ⟨cur, e1, e2, e3, e4, e5, e6⟩ := ho16
      refine ⟨cur, nd e1, e2, e3, e4, e5, fun i y hy => ?_⟩
      obtain ⟨va, vk, e7, e8, e9⟩ := e6 i y hy
      refine ⟨va, vk, ?_, ?_, e9⟩
      · cases h : y.ats with
        | none => rw [h] at e7; exact e7
        | some q => rw [h] at e7; obtain ⟨b, cap', cs, fr, f1, f2, f3, f4⟩ := e7; exact ⟨b, cap', cs, fr, f1, f2, nd f3, f4⟩
      · cases h : kidOf (m + 1) i with
        | none => rw [h] at e8; exact e8
        | some q => rw [h] at e8; obtain ⟨b, cap', cs, fr, f1, f2, f3, f4⟩ := e8; exact ⟨b, cap', cs, fr, f1, f2, nd f3, f4⟩
    refine ⟨by simp, .inl ⟨_, _, rfl, run_takeDeferred hK16, ?_⟩⟩
    obtain ⟨w17, hw17⟩ : ∃ w17, w17 = w16.putObj D (.deferred none) := ⟨_, rfl⟩
    rw [← hw17] at hc17 hb17 ho17 ⊢
    refine ⟨.tuple #[.agg #[.slice (some ⟨g2, 0, none⟩) nn c2], .int .i64 0], by simp [results, Tryz.results98, go_sem, hc17], g2, c2, by rw [← HNL.out], ?_, hb17⟩
    obtain ⟨cur, e1, e2, e3⟩ := ho17
    exact ⟨cur, e1, by have := HT9.out.below.size; omega, e3⟩
end Go.Proofs.YtbhnfnbnngclmaaGreatDoor
