/- A loop over a function that yields directives: rows of texts that lie are told to the round. -/
import Derived.Test.YtajokmcdhhiahaaGreatDoorHC
import Derived.Test.YtajokmcdhhiahaaGreatDoorShelf
import Derived.RangeFuncNested
import Derived.RangeFuncBound
import Derived.RangeFuncCalls
import Derived.RangeFuncLeaves
import Derived.Shelf.Abstract
import Derived.Shelf.RegionOpen
import Derived.WalkKit
import Derived.OwnWalkIn
import Derived.TacticsInMore
import Derived.LoopNIn
import Derived.LoopIn
namespace Go.Proofs.YtajokmcdhhiahaaGreatDoor
open Go.RowKit Go.Shelf

/-- Block g is a row of cells of type T. -/
def RowT (T : TypeId) (w : World) (g : Nat) : Prop := ∃ vs fr, w.heap[g]? = some (.cells vs T fr)
/-- Every row of that type lies as it lay. -/
def KeepT (T : TypeId) (W W' : World) : Prop := ∀ g, RowT T W g → W'.heap[g]? = W.heap[g]?
theorem RowT.lt {T : TypeId} {w : World} {g : Nat} (h : RowT T w g) : g < w.heap.size := by
  obtain ⟨_, _, e⟩ := h
  exact (Array.getElem?_eq_some_iff.1 e).1
theorem RowT.keep {T : TypeId} {W W' : World} {g : Nat} (h : RowT T W g) (k : KeepT T W W') : RowT T W' g := by
  have e := k g h
  obtain ⟨vs, fr, e1⟩ := h
  exact ⟨vs, fr, e.trans e1⟩
theorem KeepT.refl (T : TypeId) (W : World) : KeepT T W W := fun _ _ => rfl
theorem KeepT.trans {T : TypeId} {A B C : World} (h : KeepT T A B) (k : KeepT T B C) : KeepT T A C := fun g hg => (k g (hg.keep h)).trans (h g hg)
theorem KeepT.grown {T : TypeId} {A B : World} (h : A.grownBy B none) : KeepT T A B := fun g hg => h.block g hg.lt (by simp)
theorem KeepT.below {T : TypeId} {A B : World} (h : Below A.heap.size A B) : KeepT T A B := fun g hg => h.block g hg.lt
theorem KeepT.grownBy {T : TypeId} {A B : World} {k : Nat} (h : A.grownBy B (some k)) (hk : ¬ RowT T A k) : KeepT T A B := fun g hg => h.block g hg.lt (fun e => by cases e; exact hk hg)
theorem KeepT.putObj {T : TypeId} {W : World} {l : Nat} {o : Obj} (o' : Obj) (hl : W.heap[l]? = some o) (ho : o.isCells = false) : KeepT T W (W.putObj l o') :=
  KeepT.grownBy (grownBy_putObj' W l o') (by rintro ⟨vs, fr, e⟩; rw [hl] at e; cases e; cases ho)
theorem KeepT.cell {T : TypeId} {W W' : World} (k : KeepT T W W') {g : Nat} (h : RowT T W g) (j : Nat) : W'.cell? ⟨g, j, none⟩ = W.cell? ⟨g, j, none⟩ := World.cell?_of_block (k g h)
theorem grown_of_below {A B : World} (h : Below A.heap.size A B) : A.grownBy B none := ⟨h.os, h.tape, h.output, h.size, fun k hk _ => h.block k hk⟩

/-- A value that is a slice of texts, in a row of texts. -/
def TextsR (w : World) (v : Value) (ss : List ByteArray) : Prop := ∃ A c, v = .slice A ss.length c ∧ ss.length ≤ c ∧ (A = none → c = 0) ∧
  (0 < ss.length → ∃ g off, A = some ⟨g, off, none⟩ ∧ RowT 9 w g ∧ ∀ j (h : j < ss.length), w.cell? ⟨g, off + j, none⟩ = some (.string ss[j]))
theorem TextsR.keep {w w' : World} {v : Value} {ss : List ByteArray} (h : TextsR w v ss) (k : KeepT 9 w w') : TextsR w' v ss := by
  obtain ⟨A, c, h1, h2, h3, h4⟩ := h
  refine ⟨A, c, h1, h2, h3, fun hn => ?_⟩
  obtain ⟨g, off, e, hr, hc⟩ := h4 hn
  exact ⟨g, off, e, hr.keep k, fun j hj => (k.cell hr _).trans (hc j hj)⟩
theorem TextsR.toV {w : World} {v : Value} {ss : List ByteArray} (h : TextsR w v ss) : TextsV w v ss := by
  obtain ⟨A, c, h1, h2, h3, h4⟩ := h
  refine ⟨A, c, h1, h2, h3, rfl, fun hn => ?_⟩
  obtain ⟨g, off, e, hr, hc⟩ := h4 hn
  exact ⟨_, e, hr.lt, fun j hj => by rw [add_at]; exact hc j hj⟩

/-- What is yielded: a directive's name, the value of its words, its words. -/
abbrev Ent := ByteArray × Value × List ByteArray
def dat (x : Ent) : ByteArray × List ByteArray := (x.1, x.2.2)
def XIn (x : Ent) (w : World) : Prop := TextsR w x.2.1 x.2.2
def encE (x : Ent) : Array Value := #[.agg #[.string x.1, x.2.1]]

/-- The word of a function that yields just these directives. -/
def SeqX (n : Nat) (gf : Nat) (lb : Array Value) (ds : List (ByteArray × List ByteArray)) (w : World) : Prop :=
  ∀ (l : Nat) (J : List Ent → World → Prop) (W : World), Below w.heap.size w W → (∀ pre A B, J pre A → A.grownBy B none → J pre B) →
    (∀ pre x W1, J pre W1 → XIn x W1 → (pre ++ [x]).map dat <+: ds → YieldAt Fence.wide (n - 1) Tryz.prog l (encE x) W1 fun e W' => e = .returned (.bool true) ∧ J (pre ++ [x]) W' ∧ KeepT 9 W1 W') →
    J [] W → CallsIn Fence.wide n Tryz.prog gf (#[.func (.yield l) #[] #[]] ++ lb) W fun e W' => (∃ v, e = .returned v) ∧ ∃ ys, ys.map dat = ds ∧ J ys W'

/-- The loop. -/
theorem wpIn_range_own {n : Nat} {g : Operand} {p : Tmp} {assign body : Code} {Q : Exit → Act → World → Prop} {a : Act} {w : World} {gf : Nat} {lb : Array Value} {ds : List (ByteArray × List ByteArray)}
    (h1 : 1 ≤ n) (hg : a.eval g = .func (.func gf) #[] lb) (eg : ∀ args w, (callFunc gf args).run Tryz.prog w = .ok (.enter gf args) w) (hseq : SeqX (n - 1) gf lb ds w)
    (I : List Ent → World → Prop) (hI : OwnFrom w.heap.size I) (h0 : I [] w) (Ax : Ent → Act → World → Prop) (hAx : ∀ x a', OwnFrom w.heap.size (fun (_ : Unit) W => Ax x a' W))
    (hassign : ∀ (l : Nat) (pre : List Ent) (x : Ent) (W : World) (K : Act → World → Prop), I pre W → XIn x W → (∀ a' W', KeepsFrom w.heap.size W W' → KeepT 9 W W' → I pre W' → Ax x a' W' → K a' W') →
      assign.wpIn (Fence.wide.inRound l) (n - 1 - 1) Tryz.prog (Exit.then K (fun _ _ _ => False)) { tmps := a.tmps.setIfInBounds p (.agg #[.string x.1, x.2.1]), defers := [] } W)
    (hbody : ∀ (l : Nat) (pre : List Ent) (x : Ent) (a' : Act) (W : World), I pre W → Ax x a' W → XIn x W → (pre ++ [x]).map dat <+: ds →
      body.wpIn (Fence.wide.inRound l) (n - 1 - 1) Tryz.prog (fun e _ W' => e = .normal ∧ KeepsFrom w.heap.size W W' ∧ KeepT 9 W W' ∧ I (pre ++ [x]) W') a' W)
    (hdone : ∀ (D : Nat) (ys : List Ent) (W : World), w.heap.size ≤ D → ys.map dat = ds → I ys W → W.heap[D]? = some (.deferred (some [])) → Q .normal { a with defers := { target := .collected D, args := #[] } :: a.defers } W) :
    (Code.rangeFunc g #[p] assign body).wpIn Fence.wide n Tryz.prog Q a w := by
  refine wpIn_rangeFunc fun fn _ => ?_
  obtain ⟨L, hL⟩ : ∃ L, L = w.heap.size + 1 := ⟨_, rfl⟩
  obtain ⟨R, hR⟩ : ∃ R : LoopState → Loop, R = fun st => { state := st, pending := none, fn, tmps := a.tmps, params := #[p], assign, body, defers := w.heap.size } := ⟨_, rfl⟩
  obtain ⟨W0, hW0⟩ : ∃ W0, W0 = (w.alloc (.deferred (some []))).alloc (.loop (R .ready)) := ⟨_, rfl⟩
  have hl0 : W0.heap[L]? = some (.loop (R .ready)) := by
    rw [hW0, hL]; have := World.alloc_heap_new (w.alloc (.deferred (some []))) (.loop (R .ready)); rwa [World.size_alloc] at this
  have hd0 : W0.heap[w.heap.size]? = some (.deferred (some [])) := by
    rw [hW0]; exact (Below.heap_alloc _ _ _ (by simp)).trans (World.alloc_heap_new w _)
  have hi0 : I [] W0 := by rw [hW0]; exact hI.alloc _ (hI.alloc _ h0)
  have hb0 : Below w.heap.size w W0 := by rw [hW0]; exact ((Below.refl _ w).alloc (Nat.le_refl _) _).alloc (by simp) _
  refine ⟨L, [{ target := .collected w.heap.size, args := #[] }], W0, { target := .fn (.func gf) lb, args := #[.func (.yield L) #[] #[]] }, W0, gf, #[.func (.yield L) #[] #[]] ++ lb, W0, ?_, ?_, fun _ _ => trivial, ?_, fun _ => h1, ?_⟩
  · rw [hW0, hL, hR]; exact run_enterLoop_outer _ _ _ _ _
  · simp only [resolve, hg]
    simp [go_sem]
  · simp [invoke, go_sem, eg]
  have keep : ∀ (A B : World) (k : Nat) (o : Obj), A.grownBy B none → A.heap[k]? = some o → B.heap[k]? = some o := fun A B k o hab hk => (hab.block k (Array.getElem?_eq_some_iff.1 hk).1 (by simp)).trans hk
  refine (hseq L (fun pre W => I pre W ∧ W.heap[L]? = some (.loop (R .ready)) ∧ W.heap[w.heap.size]? = some (.deferred (some []))) W0 hb0
    (fun pre A B hA hab => ⟨hI pre A B none hA.1 hab (fun r e => by cases e), keep A B L _ hab hA.2.1, keep A B w.heap.size _ hab hA.2.2⟩) ?_ ⟨hi0, hl0, hd0⟩).mono ?_
  · rintro pre x W ⟨hi, hl, hd⟩ hx hpre
    have hy := run_yield (P := Tryz.prog) (args := encE x) hl (by rw [hR]; rfl)
    refine ⟨fn, a.tmps.setIfInBounds p (.agg #[.string x.1, x.2.1]), assign, body, ?_, roundIn_of_wpIn trivial ?_⟩
    · rw [hy, hR]; simp [encE]
    clear hy
    refine hassign L pre x W _ hi hx fun a' Wa hkf hkt hia hax => ?_
    have hla : Wa.heap[L]? = some (.loop (R .ready)) := hkf.same _ _ (by omega) hl rfl
    have hda : Wa.heap[w.heap.size]? = some (.deferred (some [])) := hkf.same _ _ (Nat.le_refl _) hd rfl
    have hlt : L < Wa.heap.size := (Array.getElem?_eq_some_iff.1 hla).1
    refine ⟨_, run_beginRound hla (by rw [hR]), ?_⟩
    obtain ⟨B, hB⟩ : ∃ B, B = Obj.loop { R .ready with state := .busy } := ⟨_, rfl⟩
    rw [← hB]
    have hlb : (Wa.putObj L B).heap[L]? = some B := World.putObj_heap_same hlt
    have hdb : (Wa.putObj L B).heap[w.heap.size]? = some (.deferred (some [])) := (World.putObj_heap_other (by omega)).trans hda
    have ktb : KeepT 9 Wa (Wa.putObj L B) := KeepT.putObj B hla rfl
    have hib : I pre (Wa.putObj L B) := hI.putObj B hia (by omega) hla rfl
    have haxb : Ax x a' (Wa.putObj L B) := (hAx x a').putObj (s := ()) B hax (by omega) hla rfl
    refine wpIn_mono (hbody L pre x a' _ hib haxb (TextsR.keep hx (hkt.trans ktb)) hpre) ?_
    rintro e a3 W3 ⟨rfl, hk3, kt3, hi3⟩
    have hl3 := (hk3.same L _ (by omega) hlb (by rw [hB]; rfl)).trans (congrArg some hB)
    have hd3 := hk3.same w.heap.size _ (Nat.le_refl _) hdb rfl
    have hlt3 : L < W3.heap.size := (Array.getElem?_eq_some_iff.1 hl3).1
    have hend := run_endRound (P := Tryz.prog) none hl3
    refine ⟨_, _, hend, rfl, ⟨hI.putObj _ hi3 (by omega) hl3 rfl, ?_, (World.putObj_heap_other (by omega)).trans hd3⟩, ((hkt.trans ktb).trans kt3).trans (KeepT.putObj _ hl3 rfl)⟩
    rw [World.putObj_heap_same hlt3, hR]
    rfl
  · rintro e W2 ⟨⟨v, rfl⟩, ys, hys, hi, hl, hd⟩
    have hlt : L < W2.heap.size := (Array.getElem?_eq_some_iff.1 hl).1
    refine ⟨none, _, ?_, hdone w.heap.size ys _ (Nat.le_refl _) hys (hI.putObj (Obj.loop { R .ready with state := .exhausted }) hi (by omega) hl rfl) ((World.putObj_heap_other (by omega)).trans hd)⟩
    have := run_endLoop (P := Tryz.prog) hl (by rw [hR]; simp)
    rw [this, hR]
end Go.Proofs.YtajokmcdhhiahaaGreatDoor
