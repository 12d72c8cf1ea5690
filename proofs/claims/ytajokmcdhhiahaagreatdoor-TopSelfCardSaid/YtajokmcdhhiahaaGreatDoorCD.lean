/- A loop over slices.All of at most one policy. -/
import Derived.Test.YtajokmcdhhiahaaGreatDoorCC
namespace Go.Proofs.YtajokmcdhhiahaaGreatDoor
open Go.RowKit Go.Shelf
set_option maxRecDepth 100000
attribute [local go_sem] Oper.semAt_some

/-- The word of a function that yields just these pairs. -/
def SeqY (n : Nat) (gf : Nat) (lb : Array Value) (xs : List (Value × Value)) (w : World) : Prop :=
  ∀ (l : Nat) (J : List (Value × Value) → World → Prop) (W : World), Below w.heap.size w W → (∀ pre A B, J pre A → A.grownBy B none → J pre B) →
    (∀ pre x W1, J pre W1 → (pre ++ [x]) <+: xs → YieldAt Fence.wide (n - 1) Tryz.prog l #[x.1, x.2] W1 fun e W' => e = .returned (.bool true) ∧ J (pre ++ [x]) W') →
    J [] W → CallsIn Fence.wide n Tryz.prog gf (#[.func (.yield l) #[] #[]] ++ lb) W fun e W' => (∃ v, e = .returned v) ∧ J xs W'

/-- The loop. -/
theorem wpIn_range2 {n : Nat} {g : Operand} {p q : Tmp} {assign body : Code} {Q : Exit → Act → World → Prop} {a : Act} {w : World} {gf : Nat} {lb : Array Value} {xs : List (Value × Value)}
    (h1 : 1 ≤ n) (hg : a.eval g = .func (.func gf) #[] lb) (eg : ∀ args w, (callFunc gf args).run Tryz.prog w = .ok (.enter gf args) w) (hseq : SeqY (n - 1) gf lb xs w)
    (I : List (Value × Value) → World → Prop) (hI : OwnFrom w.heap.size I) (h0 : I [] w) (Ax : Value × Value → Act → World → Prop) (hAx : ∀ x a', OwnFrom w.heap.size (fun (_ : Unit) W => Ax x a' W))
    (hassign : ∀ (l : Nat) (pre : List (Value × Value)) (x : Value × Value) (W : World) (K : Act → World → Prop), I pre W → (pre ++ [x]) <+: xs → (∀ a' W', KeepsFrom w.heap.size W W' → I pre W' → Ax x a' W' → K a' W') →
      assign.wpIn (Fence.wide.inRound l) (n - 1 - 1) Tryz.prog (Exit.then K (fun _ _ _ => False)) { tmps := (a.tmps.setIfInBounds p x.1).setIfInBounds q x.2, defers := [] } W)
    (hbody : ∀ (l : Nat) (pre : List (Value × Value)) (x : Value × Value) (a' : Act) (W : World), I pre W → Ax x a' W → (pre ++ [x]) <+: xs →
      body.wpIn (Fence.wide.inRound l) (n - 1 - 1) Tryz.prog (fun e _ W' => e = .normal ∧ KeepsFrom w.heap.size W W' ∧ I (pre ++ [x]) W') a' W)
    (hdone : ∀ (D : Nat) (W : World), w.heap.size ≤ D → I xs W → W.heap[D]? = some (.deferred (some [])) → Q .normal { a with defers := { target := .collected D, args := #[] } :: a.defers } W) :
    (Code.rangeFunc g #[p, q] assign body).wpIn Fence.wide n Tryz.prog Q a w := by
  refine wpIn_rangeFunc fun fn _ => ?_
  obtain ⟨L, hL⟩ : ∃ L, L = w.heap.size + 1 := ⟨_, rfl⟩
  obtain ⟨R, hR⟩ : ∃ R : LoopState → Loop, R = fun st => { state := st, pending := none, fn, tmps := a.tmps, params := #[p, q], assign, body, defers := w.heap.size } := ⟨_, rfl⟩
  obtain ⟨W0, hW0⟩ : ∃ W0, W0 = (w.alloc (.deferred (some []))).alloc (.loop (R .ready)) := ⟨_, rfl⟩
  have hl0 : W0.heap[L]? = some (.loop (R .ready)) := by
    rw [hW0, hL]; have := World.alloc_heap_new (w.alloc (.deferred (some []))) (.loop (R .ready)); rwa [World.size_alloc] at this
  have hd0 : W0.heap[w.heap.size]? = some (.deferred (some [])) := by
    rw [hW0]; exact (Below.heap_alloc _ _ _ (by simp)).trans (World.alloc_heap_new w _)
  have hi0 : I [] W0 := by rw [hW0]; exact hI.alloc _ (hI.alloc _ h0)
  have hb0 : Below w.heap.size w W0 := by rw [hW0]; exact ((Below.refl _ w).alloc (Nat.le_refl _) _).alloc (by simp) _
  refine ⟨L, [{ target := .collected w.heap.size, args := #[] }], W0, { target := .fn (.func gf) lb, args := #[.func (.yield L) #[] #[]] }, W0, gf, #[.func (.yield L) #[] #[]] ++ lb, W0, ?_, ?_, fun _ _ => trivial, ?_, fun _ => h1, ?_⟩
  · rw [hW0, hL, hR]; exact run_enterLoop_outer _ _ _ _ _
  · simp only [resolve, hg]
    simp [go_sem]
  · simp [invoke, go_sem, eg]
  have keep : ∀ (A B : World) (k : Nat) (o : Obj), A.grownBy B none → A.heap[k]? = some o → B.heap[k]? = some o := fun A B k o hab hk => (hab.block k (Array.getElem?_eq_some_iff.1 hk).1 (by simp)).trans hk
  refine (hseq L (fun pre W => I pre W ∧ W.heap[L]? = some (.loop (R .ready)) ∧ W.heap[w.heap.size]? = some (.deferred (some []))) W0 hb0
    (fun pre A B hA hab => ⟨hI pre A B none hA.1 hab (fun r e => by cases e), keep A B L _ hab hA.2.1, keep A B w.heap.size _ hab hA.2.2⟩) ?_ ⟨hi0, hl0, hd0⟩).mono ?_
  · rintro pre x W ⟨hi, hl, hd⟩ hpre
    have hy := run_yield (P := Tryz.prog) (args := #[x.1, x.2]) hl (by rw [hR]; rfl)
    refine ⟨fn, (a.tmps.setIfInBounds p x.1).setIfInBounds q x.2, assign, body, ?_, roundIn_of_wpIn trivial ?_⟩
    · rw [hy, hR]; simp
    clear hy
    refine hassign L pre x W _ hi hpre fun a' Wa hkf hia hax => ?_
    have hla : Wa.heap[L]? = some (.loop (R .ready)) := hkf.same _ _ (by omega) hl rfl
    have hda : Wa.heap[w.heap.size]? = some (.deferred (some [])) := hkf.same _ _ (Nat.le_refl _) hd rfl
    have hlt : L < Wa.heap.size := (Array.getElem?_eq_some_iff.1 hla).1
    refine ⟨_, run_beginRound hla (by rw [hR]), ?_⟩
    obtain ⟨B, hB⟩ : ∃ B, B = Obj.loop { R .ready with state := .busy } := ⟨_, rfl⟩
    rw [← hB]
    have hlb : (Wa.putObj L B).heap[L]? = some B := World.putObj_heap_same hlt
    have hdb : (Wa.putObj L B).heap[w.heap.size]? = some (.deferred (some [])) := (World.putObj_heap_other (by omega)).trans hda
    have hib : I pre (Wa.putObj L B) := hI.putObj B hia (by omega) hla rfl
    have haxb : Ax x a' (Wa.putObj L B) := (hAx x a').putObj (s := ()) B hax (by omega) hla rfl
    refine wpIn_mono (hbody L pre x a' _ hib haxb hpre) ?_
    rintro e a3 W3 ⟨rfl, hk3, hi3⟩
    have hl3 := (hk3.same L _ (by omega) hlb (by rw [hB]; rfl)).trans (congrArg some hB)
    have hd3 := hk3.same w.heap.size _ (Nat.le_refl _) hdb rfl
    have hlt3 : L < W3.heap.size := (Array.getElem?_eq_some_iff.1 hl3).1
    have hend := run_endRound (P := Tryz.prog) none hl3
    refine ⟨_, _, hend, rfl, hI.putObj _ hi3 (by omega) hl3 rfl, ?_, (World.putObj_heap_other (by omega)).trans hd3⟩
    rw [World.putObj_heap_same hlt3, hR]
    rfl
  · rintro e W2 ⟨⟨v, rfl⟩, hi, hl, hd⟩
    have hlt : L < W2.heap.size := (Array.getElem?_eq_some_iff.1 hl).1
    refine ⟨none, _, ?_, hdone w.heap.size _ (Nat.le_refl _) (hI.putObj (Obj.loop { R .ready with state := .exhausted }) hi (by omega) hl rfl) ((World.putObj_heap_other (by omega)).trans hd)⟩
    have := run_endLoop (P := Tryz.prog) hl (by rw [hR]; simp)
    rw [this, hR]
theorem sall_any (v : Value) (A : Option Addr) (n c : Nat) (hv : v = .slice A n c) (w : World) : Calls Tryz.prog 30 #[v] w fun e w' => e = .returned (.func (.func 49) #[] #[.pointer (some ⟨w.heap.size, 0, none⟩)]) ∧ w' = w.alloc (.cells #[v] 44) := by
  subst hv
  go_enter Tryz.func30, Tryz.ntmps30
  go_wp2
  go_ret
  exact ⟨rfl, rfl⟩
theorem all0_seq (n : Nat) (B : Nat) (A : Option Addr) (c : Nat) (w : World) (hB : w.cell? ⟨B, 0, none⟩ = some (.slice A 0 c)) : SeqY n 49 #[.pointer (some ⟨B, 0, none⟩)] [] w := by
  intro l J W hW hJ hY h0
  have hc := (hW.cell (p := ⟨B, 0, none⟩) (World.block_lt_of_cell? w _ hB)).trans hB
  have H0 := Lib.hid h0
  clear hW hJ hY h0 hB
  refine callsIn_of_wp Tryz.func49 rfl trivial ?_ rfl
  simp only [Tryz.ntmps49, List.size_toArray, List.length_cons, List.length_nil, Nat.reduceAdd, Nat.reduceSub, Array.replicate_succ, Array.replicate_zero, List.push_toArray, List.append_toArray, List.nil_append, List.cons_append]
  gi_wp2_with fail
  gi_loopg [7] 1 (fun gk v wr => gk = 1 ∧ v = .int .i64 0 ∧ wr = W)
  case atStart => exact ⟨rfl, rfl, rfl⟩
  case round =>
    obtain ⟨hgk, rfl, hw⟩ := hrel
    obtain rfl : W = wr := hw.symm
    clear hw hgk
    gi_wp2_with fail
    go_end0
    exact ⟨⟨_, rfl⟩, H0.out⟩
set_option maxHeartbeats 2000000 in
theorem all1_seq (n : Nat) (hn : 1 ≤ n) (B g off c : Nat) (DA : Option Addr) (M DC : Nat) (r : Bool) (w : World) (hB : w.cell? ⟨B, 0, none⟩ = some (.slice (some ⟨g, off, none⟩) 1 c)) (h0c : w.cell? ⟨g, off, none⟩ = some (.slice DA M DC)) (h1c : w.cell? ⟨g, off + 1, none⟩ = some (.bool r)) :
    SeqY n 49 #[.pointer (some ⟨B, 0, none⟩)] [(.int .i64 0, .agg #[.slice DA M DC, .bool r])] w := by
  intro l J W hW hJ hY h0
  have hc := (hW.cell (p := ⟨B, 0, none⟩) (World.block_lt_of_cell? w _ hB)).trans hB
  have hc0 := (hW.cell (p := ⟨g, off, none⟩) (World.block_lt_of_cell? w _ h0c)).trans h0c
  have hc1 := (hW.cell (p := ⟨g, off + 1, none⟩) (World.block_lt_of_cell? w _ h1c)).trans h1c
  have HJ := Lib.hid hJ
  have HY := Lib.hid hY
  have H0 := Lib.hid h0
  clear hW hJ hY h0 hB h0c h1c
  refine callsIn_of_wp Tryz.func49 rfl trivial ?_ rfl
  simp only [Tryz.ntmps49, List.size_toArray, List.length_cons, List.length_nil, Nat.reduceAdd, Nat.reduceSub, Array.replicate_succ, Array.replicate_zero, List.push_toArray, List.append_toArray, List.nil_append, List.cons_append]
  gi_wp2_with fail
  gi_loopg [7] 1 (fun gk v wr => (gk = 1 ∧ v = .int .i64 0 ∧ wr = W) ∨ (gk = 0 ∧ v = .int .i64 1 ∧ Hid (J [(.int .i64 0, .agg #[.slice DA M DC, .bool r])] wr)))
  case atStart => exact Or.inl ⟨rfl, rfl, rfl⟩
  case round =>
    rcases hrel with ⟨hgk, rfl, hw⟩ | ⟨hgk, rfl, HJ2⟩
    · obtain rfl : W = wr := hw.symm
      have HGK := Lib.hid hgk
      clear hw hgk
      have hj1 : J [] (W.alloc (.cells #[.slice DA M DC, .bool r] 56)) := HJ.out _ _ _ H0.out (World.grownBy_alloc W _ none)
      obtain ⟨fn, tmps, assign, body, hy, hR⟩ := HY.out [] (.int .i64 0, .agg #[.slice DA M DC, .bool r]) _ hj1 (List.prefix_refl _)
      dsimp only at hy
      clear hj1
      gi_wp2_with fail
      refine hR.mono ?_
      rintro e w6 ⟨rfl, hj6⟩
      have HJ6 := Lib.hid hj6
      clear hj6 hy hR
      gi_wp2_with fail
      gi_roundg 0
      case measure => have := HGK.out; omega
      case rel => exact Or.inr ⟨by trivial, by go_num, HJ6.out⟩
    · gi_wp2_with fail
      go_end0
      exact ⟨⟨_, rfl⟩, HJ2.out⟩
end Go.Proofs.YtajokmcdhhiahaaGreatDoor
