/- text, start, end. -/
import Derived.Test.YtbhnfnbnngclmaaGreatDoorBB
namespace Go.Proofs.YtbhnfnbnngclmaaGreatDoor
open Go.RowKit Go.Sort Go.BigFrame Go.Maps Go.WideMaps
set_option maxRecDepth 100000

theorem Nodes.keepL {w w' : World} {g m : Nat} {l : List Kd} {L : List Nat} (h : Nodes w g l m) (hk : Keep L w w') (hL : ∀ k ∈ L, ∃ cs T fr, w.heap[k]? = some (.cells cs T fr) ∧ T ≠ 37 ∧ T ≠ 63 ∧ T ≠ 3) : Nodes w' g l m := by
  have st : ∀ {k : Nat} {cs' : Array Value} {T' : TypeId} {fr' : Nat × Nat}, w.heap[k]? = some (.cells cs' T' fr') → (T' = 37 ∨ T' = 63 ∨ T' = 3) → w'.heap[k]? = some (.cells cs' T' fr') := fun {k cs' T' fr'} hk' hne => by
    rw [hk.block k (hlt hk') ?_]
    · exact hk'
    · intro hm
      obtain ⟨cs, T, fr, e1, e2, e3, e4⟩ := hL k hm
      rw [e1] at hk'
      injection hk' with hk'
      injection hk' with _ e
      subst e
      rcases hne with h | h | h
      · exact e2 h
      · exact e3 h
      · exact e4 h
  obtain ⟨cur, fr', h1, h2⟩ := h
  refine ⟨cur, fr', st h1 (.inl rfl), fun i x hx => ?_⟩
  obtain ⟨va, vk, h3, h4, h5⟩ := h2 i x hx
  refine ⟨va, vk, ?_, ?_, h5⟩
  · cases e : x.ats with
    | none => rw [e] at h3; exact h3
    | some q => rw [e] at h3; obtain ⟨k, cap, cs', fr2, f1, f2, f3, f4⟩ := h3; exact ⟨k, cap, cs', fr2, f1, f2, st f3 (.inr (.inl rfl)), f4⟩
  · cases e : kidOf m i with
    | none => rw [e] at h4; exact h4
    | some q => rw [e] at h4; obtain ⟨k, cap, cs', fr2, f1, f2, f3, f4⟩ := h4; exact ⟨k, cap, cs', fr2, f1, f2, st f3 (.inr (.inr rfl)), f4⟩
theorem St.block {w : World} {B g n c : Nat} {st : List (Nat × ByteArray)} (h : St w B (.slice (some ⟨g, 0, none⟩) n c) st) : ∃ cs fr, w.heap[g]? = some (.cells cs 108 fr) := by
  rcases h.2 with ⟨hv, _⟩ | ⟨g', cap, cur, hv, _, hg, _⟩
  · cases hv
  · injection hv with e
    injection e with e
    injection e with e
    subst e
    exact ⟨_, _, hg⟩
set_option maxHeartbeats 2000000 in
theorem btext_any (b B g n c p : Nat) (nm t : ByteArray) (a : Int) (fl : Value) (l : List Kd) (st : List (Nat × ByteArray)) (y : Kd) (cl : Bool) (w : World) (h : Lays w b (.slice (some ⟨g, 0, none⟩) (n + 1) c) a fl l)
    (hs : St w B (.slice (some ⟨g, 0, none⟩) (n + 1) c) st) (hp : st[n]? = some (p, nm)) (hn : n ≤ 100) (hl : l.length = p + 1) (hl50 : l.length < 50) (hy : l[p]? = some y) (hyh : y.holds = true) (ht : t.size ≤ 100000) :
    Calls Tryz.prog 62 #[.pointer (some ⟨b, 0, none⟩), .agg #[.int .i64 1, .string ⟨#[]⟩, .string t, .slice none 0 0, .bool cl]] w fun e w' => e = .returned (.int .i64 0) ∧ Lays w' b (.slice (some ⟨g, 0, none⟩) (n + 1) c) a fl (l ++ [.tx t]) ∧ Keep [b] w w' := by
  have hb1 := below_alloc' w (.cells #[.int .i64 1, .string ⟨#[]⟩, .string t, .slice none 0 0, .bool cl] 77)
  have hr1 := heap_alloc_new w (.cells #[.int .i64 1, .string ⟨#[]⟩, .string t, .slice none 0 0, .bool cl] 77)
  obtain ⟨W, hW⟩ : ∃ W, W = w.alloc (.cells #[.int .i64 1, .string ⟨#[]⟩, .string t, .slice none 0 0, .bool cl] 77) := ⟨_, rfl⟩
  rw [← hW] at hb1 hr1
  have x2 := cell_row hr1 2
  simp at x2
  have hLW : Lays W b (.slice (some ⟨g, 0, none⟩) (n + 1) c) a fl l := by
    obtain ⟨⟨gd, cd, h1, h2⟩, h3⟩ := h
    exact ⟨⟨gd, cd, h1.below hb1, h2.below hb1⟩, h3⟩
  have cl' := lay_any b B g n c p nm a fl l st (.tx t) y (.slice none 0 0) W hLW (hs.below hb1) hp hn hl hl50 hy hyh rfl ht rfl
  obtain ⟨m, hm⟩ : ∃ m, m = l.length := ⟨_, rfl⟩
  rw [← hm] at cl'
  unfold Kd.cells at cl'
  simp only [Kd.num, Kd.nm, Kd.dt, Kd.pr] at cl'
  have HW := Lib.hid hW
  have HB := Lib.hid hb1
  have HC := Lib.hid cl'
  clear hW hb1 hr1 h hs hp hl hl50 hy hyh hLW cl' hm
  go_enter Tryz.func62, Tryz.ntmps62
  go_upto_region 1 with fail
  rw [← HW.out]
  go_wp2_with fail
  with_reducible refine HC.out.mono ?_
  rintro e w1 ⟨rfl, hl1, hk1⟩
  have HL1 := Lib.hid hl1
  have HK1 := Lib.hid hk1
  clear hl1 hk1
  go_wp2_with fail
  go_ret
  exact ⟨rfl, HL1.out, (Keep.of_below HB.out).trans HK1.out⟩
set_option maxHeartbeats 4000000 in
theorem bstart_any (b B g n c p : Nat) (nm : ByteArray) (a : Int) (fl : Value) (l : List Kd) (st : List (Nat × ByteArray)) (y : Kd) (q : Option (ByteArray × ByteArray)) (aA : Option Addr) (an ac : Nat) (w : World) (h : Lays w b (.slice (some ⟨g, 0, none⟩) (n + 1) c) a fl l)
    (hs : St w B (.slice (some ⟨g, 0, none⟩) (n + 1) c) st) (hB : B ≤ w.heap.size) (hp : st[n]? = some (p, nm)) (hsl : st.length = n + 1) (hn : n ≤ 20) (hl : l.length = p + 1) (hl50 : l.length < 50) (hy : l[p]? = some y) (hyh : y.holds = true) (ha : Ats w (.slice aA an ac) q) (hq : (Kd.el q).ok) :
    Calls Tryz.prog 64 #[.pointer (some ⟨b, 0, none⟩), .agg #[.int .i64 2, .string ⟨#[98]⟩, .string ⟨#[]⟩, .slice aA an ac, .bool false]] w fun e w' => e = .returned (.int .i64 0) ∧ ∃ o', Lays w' b o' a fl (l ++ [.el q]) ∧ St w' B o' (st ++ [(l.length, ⟨#[98]⟩)]) ∧ Keep [b, g] w w' := by
  have hb1 := below_alloc' w (.cells #[.int .i64 2, .string ⟨#[98]⟩, .string ⟨#[]⟩, .slice aA an ac, .bool false] 77)
  have hr1 := heap_alloc_new w (.cells #[.int .i64 2, .string ⟨#[98]⟩, .string ⟨#[]⟩, .slice aA an ac, .bool false] 77)
  obtain ⟨W, hW⟩ : ∃ W, W = w.alloc (.cells #[.int .i64 2, .string ⟨#[98]⟩, .string ⟨#[]⟩, .slice aA an ac, .bool false] 77) := ⟨_, rfl⟩
  rw [← hW] at hb1 hr1
  have hLW : Lays W b (.slice (some ⟨g, 0, none⟩) (n + 1) c) a fl l := by
    obtain ⟨⟨gd, cd, h1, h2⟩, h3⟩ := h
    exact ⟨⟨gd, cd, h1.below hb1, h2.below hb1⟩, h3⟩
  have hbl : b < w.heap.size := by obtain ⟨⟨gd, cd, h1, h2⟩, h3⟩ := h; exact h1.lt
  have sp : ∀ w', Keep [b] W w' → (∃ s o, Bu w' b s o a fl) → (w'.cell? ⟨b, 2, none⟩ = some (.bool true) ∧ w'.cell? ⟨w.heap.size, 1, none⟩ = some (.string ⟨#[98]⟩) ∧ w'.cell? ⟨w.heap.size, 3, none⟩ = some (.slice aA an ac)) := fun w' hk ⟨s, o, hb⟩ => by
    have hr := (hk.block _ (hlt hr1) (by intro e; have e := List.mem_singleton.1 e; omega)).trans hr1
    exact ⟨hb.c2, cell_row hr 1, cell_row hr 3⟩
  have hbuW : ∃ s o, Bu W.drew b s o a fl := by obtain ⟨⟨gd, cd, h1, h2⟩, h3⟩ := hLW; exact ⟨_, _, h1.below (below_drew' W)⟩
  have hLD : Lays W.drew b (.slice (some ⟨g, 0, none⟩) (n + 1) c) a fl l := by
    obtain ⟨⟨gd, cd, h1, h2⟩, h3⟩ := hLW
    exact ⟨⟨gd, cd, h1.below (below_drew' W), h2.below (below_drew' W)⟩, h3⟩
  have hsW := (hs.below hb1).below (below_drew' W)
  have cl' := lay_any b B g n c p nm a fl l st (.el q) y (.slice aA an ac) W.drew hLD hsW hp (by omega) hl hl50 hy hyh ((ha.below hb1).below (below_drew' W)) hq rfl
  have hS0 := sp W.drew (Keep.of_below (below_drew' W)) hbuW
  have hneb : (Value.slice (some ⟨g, 0, none⟩) (n + 1) c).ownBlock ≠ some b := by obtain ⟨⟨gd, cd, h1, h2⟩, h3⟩ := h; exact hs.ne h1
  have hgl : g < w.heap.size := block_lt_of_cell (hs.at_ n _ hp).1
  obtain ⟨m, hm⟩ : ∃ m, m = l.length := ⟨_, rfl⟩
  have hgb : g ≠ b := by intro e; exact hneb (by rw [e]; rfl)
  rw [← hm] at cl' ⊢
  unfold Kd.cells at cl'
  simp only [Kd.num, Kd.nm, Kd.dt, Kd.pr] at cl'
  have HW := Lib.hid hW
  have HB := Lib.hid hb1
  have HC := Lib.hid cl'
  have HSP := Lib.hid sp
  have HR1 := Lib.hid hr1
  have HSW := Lib.hid hsW
  have HSL := Lib.hid hsl
  clear hW hb1 hr1 h hs hp hl hl50 hy hyh hLW cl' hm sp hbuW hLD ha hq hneb hsW hsl
  go_enter Tryz.func64, Tryz.ntmps64
  go_upto_region 1 with fail
  rw [← HW.out]
  go_region_held3 (fun w' => w'.cell? ⟨b, 2, none⟩ = some (.bool true) ∧ w'.cell? ⟨w.heap.size, 1, none⟩ = some (.string ⟨#[98]⟩) ∧ w'.cell? ⟨w.heap.size, 3, none⟩ = some (.slice aA an ac)) (first | exact hS0 | exact hS1)
    (first | (go_at_call 79; (with_reducible refine HC.out.mono ?_); rintro e w3 ⟨rfl, hl3, hk3⟩; have hS1 := HSP.out _ ((Keep.of_below (below_drew' W)).trans hk3) (by obtain ⟨⟨gd, cd, h1, h2⟩, h3⟩ := hl3; exact ⟨_, _, h1⟩); have HL3 := Lib.hid hl3; have HK3 := Lib.hid ((Keep.of_below (below_drew' W)).trans hk3); clear hl3 hk3))
  obtain ⟨q2, q1, q3⟩ := hS1
  have r4 : w3.cell? ⟨w.heap.size, 4, none⟩ = some (.bool false) := cell_row ((HK3.out.block _ (hlt HR1.out) (by intro e; have e := List.mem_singleton.1 e; omega)).trans HR1.out) 4
  have hc1 : w3.cell? ⟨b, 1, none⟩ = some (.slice (some ⟨g, 0, none⟩) (n + 1) c) := by obtain ⟨⟨gd, cd, h1, h2⟩, h3⟩ := HL3.out; exact h1.c1
  have n30 : decide ((30 : Int) ≤ ((n + 1 : Nat) : Int)) = false := by simp; omega
  have n31 : decide (30 ≤ n + 1) = false := by simp; omega
  have n32 : decide ((30 : Int) ≤ (n : Int) + 1) = false := by simp; omega
  have hst3 : St w3 B (.slice (some ⟨g, 0, none⟩) (n + 1) c) st := (HSW.out).keep (l := [b]) ((by
      have h := HK3.out
      exact ⟨h.os, h.tape, h.output, h.size, h.block⟩ : Keep [b] W.drew w3)) (fun k hk hm => by
      have e := List.mem_singleton.1 hm
      subst e
      injection hk with hk
      exact hgb hk)
  have cpu : ∀ w', Below w3.heap.size w3 w' → Calls Tryz.prog 42 #[.pointer (some ⟨b, 1, none⟩), .agg #[.int .i64 m, .string ⟨#[98]⟩]] w' fun e w'' => e = .returned (.tuple #[]) ∧ ∃ o', Lays w'' b o' a fl (l ++ [.el q]) ∧ St w'' B o' (st ++ [(m, ⟨#[98]⟩)]) ∧ Keep [b, g] w' w'' := by
    intro w' hb
    obtain ⟨⟨gd, cd, h1, h2⟩, h3⟩ := HL3.out
    refine (push_any b B m ⟨#[98]⟩ _ _ a fl st w' (h1.below hb) (hst3.below hb) (by have := HB.out.size; have := HK3.out.size; have := hb.size; omega) (by rw [HSL.out]; omega)).mono ?_
    rintro e w'' ⟨he, o', g1, g2, g3⟩
    refine ⟨he, o', ⟨⟨gd, cd, g1, ?_⟩, h3⟩, g2, g3⟩
    obtain ⟨gn, cn, e1, e2, e3⟩ := h2.below hb
    refine ⟨gn, cn, e1, e2, e3.keepL g3 fun k hk => ?_⟩
    rcases List.mem_cons.1 hk with hk | hk
    · subst hk; exact ⟨_, _, _, h1.below hb, by decide, by decide, by decide⟩
    · obtain rfl := List.mem_singleton.1 hk
      obtain ⟨cs, fr, h⟩ := (hst3.below hb).block
      exact ⟨_, _, _, h, by decide, by decide, by decide⟩
  have HPU := Lib.hid cpu
  clear hst3 cpu
  go_wp2_with fail
  with_reducible refine (void_b _).mono ?_
  rintro e w4 ⟨rfl, hw4⟩
  obtain rfl : w3 = w4 := hw4.symm
  go_wp2_with fail
  have hz1 : (w3.drew).cell? ⟨w.heap.size, 1, none⟩ = some (.string ⟨#[98]⟩) := q1
  have hwl : w.heap.size < w3.heap.size := block_lt_of_cell q1
  have hnm : w.heap.size ∉ [b, g] := by simp; omega
  go_region_held3 (fun w' => w'.cell? ⟨w.heap.size, 1, none⟩ = some (.string ⟨#[98]⟩)) (first | exact hz1 | exact hz2)
    (first | (go_at_call 42; (with_reducible refine (HPU.out _ (below_drew' w3)).mono ?_); rintro e w5 ⟨rfl, o', hl5, hs5, hk5⟩; have hz2 := (hk5.cell (p := ⟨w.heap.size, 1, none⟩) hwl hnm).trans hz1; have HL5 := Lib.hid hl5; have HS5 := Lib.hid hs5; have HK5 := Lib.hid hk5; clear hl5 hs5 hk5))
  go_wp2_with fail
  go_ret
  exact ⟨rfl, o', HL5.out, HS5.out, (((Keep.of_below HB.out).trans (HK3.out.mono fun k hk => by rw [List.mem_singleton.1 hk]; exact List.mem_cons_self ..)).trans (Keep.of_below (below_drew' w3))).trans HK5.out⟩
set_option maxHeartbeats 2000000 in
/-- end, of the one element that is open. -/
theorem bend_any (b B g c k0 k1 : Nat) (a : Int) (fl : Value) (l : List Kd) (cl : Bool) (w : World) (h : Lays w b (.slice (some ⟨g, 0, none⟩) 2 c) a fl l) (hs : St w B (.slice (some ⟨g, 0, none⟩) 2 c) [(k0, ⟨#[]⟩), (k1, ⟨#[98]⟩)]) :
    Calls Tryz.prog 65 #[.pointer (some ⟨b, 0, none⟩), .agg #[.int .i64 3, .string ⟨#[98]⟩, .string ⟨#[]⟩, .slice none 0 0, .bool cl]] w fun e w' => e = .returned (.int .i64 0) ∧ Lays w' b (.slice (some ⟨g, 0, none⟩) 1 c) a fl l ∧ Keep [b] w w' := by
  have hb1 := below_alloc' w (.cells #[.int .i64 3, .string ⟨#[98]⟩, .string ⟨#[]⟩, .slice none 0 0, .bool cl] 77)
  have hr1 := heap_alloc_new w (.cells #[.int .i64 3, .string ⟨#[98]⟩, .string ⟨#[]⟩, .slice none 0 0, .bool cl] 77)
  obtain ⟨W, hW⟩ : ∃ W, W = w.alloc (.cells #[.int .i64 3, .string ⟨#[98]⟩, .string ⟨#[]⟩, .slice none 0 0, .bool cl] 77) := ⟨_, rfl⟩
  rw [← hW] at hb1 hr1
  have x1 := cell_row hr1 1
  simp at x1
  obtain ⟨⟨gd, cd, h1, h2⟩, h3⟩ := h
  have hbW := h1.below hb1
  have hsW := hs.below hb1
  have c1 := hbW.c1
  obtain ⟨_, g3⟩ := hsW.at_ 1 _ rfl
  have g3' : W.cell? ⟨g, 3, none⟩ = some (.string ⟨#[98]⟩) := g3
  have cd' := fun w' (hb : Below W.heap.size W w') => drop_any b B g 2 c 1 _ a fl _ w' (hbW.below hb) (hsW.below hb) rfl (by omega) (by omega)
  rw [show ((1 : Nat) : Int) = 1 from rfl] at cd'
  have HW := Lib.hid hW
  have HB := Lib.hid hb1
  have HCD := Lib.hid cd'
  have HD := Lib.hid (h2.below hb1)
  have HBU := Lib.hid hbW
  have H3 := Lib.hid h3
  clear hW hb1 hr1 hs h1 h2 hbW hsW cd' g3 h3
  go_enter Tryz.func65, Tryz.ntmps65
  go_upto_region 1 with fail
  rw [← HW.out]
  go_wp2_with fail
  refine wp_loop_rounds 1 ?_
  rw [rounds_succ]
  go_wp2_with fail
  go_quiet (fail)
  go_wp2_with fail
  with_reducible refine (HCD.out _ (below_drewN' W nq)).mono ?_
  rintro e w2 ⟨rfl, hb2, _, hk2⟩
  have HB2 := Lib.hid hb2
  have HK2 := Lib.hid hk2
  clear hb2 hk2
  go_wp2_with fail
  go_ret
  have hkW : Keep [b] W w2 := (Keep.of_below (below_drewN' W nq)).trans HK2.out
  exact ⟨rfl, ⟨⟨gd, cd, HB2.out, HD.out.keepT hkW HBU.out ⟨by decide, by decide, by decide⟩⟩, H3.out⟩, (Keep.of_below HB.out).trans hkW⟩
end Go.Proofs.YtbhnfnbnngclmaaGreatDoor
