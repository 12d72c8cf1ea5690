/- Parse. -/
import Derived.Test.YtajokmcdhhiahaaGreatDoorHF
import Derived.RangeFuncBox
namespace Go.Proofs.YtajokmcdhhiahaaGreatDoor
open Go.RowKit Go.Shelf
attribute [local go_sem] Oper.semAt_some

theorem directives_any (s : ByteArray) (w : World) : Calls Tryz.prog 33 #[.string s] w fun e w' => e = .returned (.func (.func 55) #[] #[.pointer (some ⟨w.heap.size, 0, none⟩)]) ∧ w' = w.alloc (.cells #[.string s] 9) := by
  go_enter Tryz.func33, Tryz.ntmps33
  go_wp2
  go_ret
  exact ⟨rfl, rfl⟩
theorem dirs_seq (n : Nat) (hn : 1 ≤ n) (B : Nat) (s : ByteArray) (hs : s.size ≤ 10000000) (w : World) (hB : w.cell? ⟨B, 0, none⟩ = some (.string s)) (hlt : B < w.heap.size) :
    SeqX n 55 #[.pointer (some ⟨B, 0, none⟩)] (dirsB s.data.toList) w := fun l J W hW hJ hY h0 =>
  dirs1_in n hn l B s hs J hJ hY W ((hW.cell (p := ⟨B, 0, none⟩) hlt).trans hB) h0

theorem dir_row : (Tryz.prog.info? 66).map (fun i => (i.zero, i.size, i.bytes)) = some (some (.agg #[.string ⟨#[]⟩, .slice none 0 0]), 2, 40) := by kernel_rfl
theorem pol_row : (Tryz.prog.info? 56).map (fun i => (i.zero, i.size, i.bytes)) = some (some (.agg #[.slice none 0 0, .bool false]), 2, 32) := by kernel_rfl

/-- Pairs of cells. -/
def flat2 {α : Type} (f g : α → Value) (l : List α) : List Value := l.flatMap fun e => [f e, g e]
theorem flat2_length {α : Type} (f g : α → Value) (l : List α) : (flat2 f g l).length = l.length * 2 := by
  induction l with
  | nil => rfl
  | cons x r ih => simp only [flat2, List.flatMap_cons, List.length_append, List.length_cons, List.length_nil] at ih ⊢; omega
theorem flat2_at {α : Type} (f g : α → Value) : ∀ (l : List α) (j : Nat) (h : j < l.length), (flat2 f g l)[j * 2]? = some (f l[j]) ∧ (flat2 f g l)[j * 2 + 1]? = some (g l[j])
  | x :: r, 0, _ => ⟨rfl, rfl⟩
  | x :: r, j + 1, h => by
    have := flat2_at f g r j (by simpa using h)
    refine ⟨?_, ?_⟩
    · rw [show (j + 1) * 2 = j * 2 + 1 + 1 by omega]; simpa [flat2] using this.1
    · rw [show (j + 1) * 2 + 1 = j * 2 + 1 + 1 + 1 by omega]; simpa [flat2] using this.2
theorem flat2_snoc {α : Type} (f g : α → Value) (l : List α) (x : α) : flat2 f g (l ++ [x]) = flat2 f g l ++ [f x, g x] := by simp [flat2]

/-- A value that is a slice of directives, in rows. -/
def DirsR (w : World) (v : Value) (es : List (ByteArray × List ByteArray)) : Prop := ∃ A c, v = .slice A es.length c ∧ es.length ≤ c ∧ (A = none → c = 0) ∧
  (0 < es.length → ∃ g off, A = some ⟨g, off, none⟩ ∧ RowT 66 w g ∧ ∀ j (h : j < es.length), w.cell? ⟨g, off + j * 2, none⟩ = some (.string es[j].1) ∧ ∃ wv, w.cell? ⟨g, off + j * 2 + 1, none⟩ = some wv ∧ TextsR w wv es[j].2)
theorem DirsR.keep {w w' : World} {v : Value} {es : List (ByteArray × List ByteArray)} (h : DirsR w v es) (k : KeepT 9 w w') (k' : KeepT 66 w w') : DirsR w' v es := by
  obtain ⟨A, c, h1, h2, h3, h4⟩ := h
  refine ⟨A, c, h1, h2, h3, fun hn => ?_⟩
  obtain ⟨g, off, e, hr, hc⟩ := h4 hn
  refine ⟨g, off, e, hr.keep k', fun j hj => ?_⟩
  obtain ⟨c1, wv, c2, c3⟩ := hc j hj
  exact ⟨(k'.cell hr _).trans c1, wv, (k'.cell hr _).trans c2, c3.keep k⟩
theorem DirsR.toV {w : World} {v : Value} {es : List (ByteArray × List ByteArray)} (h : DirsR w v es) : DirsV w v es := by
  obtain ⟨A, c, h1, h2, h3, h4⟩ := h
  refine ⟨A, c, h1, h2, h3, fun hn => ?_⟩
  obtain ⟨g, off, e, hr, hc⟩ := h4 hn
  refine ⟨g, off, e, hr.lt, fun j hj => ?_⟩
  obtain ⟨c1, wv, c2, c3⟩ := hc j hj
  exact ⟨c1, wv, c2, c3.toV⟩
def flatD (es : List Ent) : List Value := flat2 (fun e => .string e.1) (fun e => e.2.1) es
theorem DirsR.of_own {w : World} {base n : Nat} {v : Value} {es : List Ent} (h : w.ownsRow base 66 2 v n (flatD es)) (hx : ∀ e ∈ es, XIn e w) : DirsR w v (es.map dat) := by
  have hl : es.length = n := by have := h.1; rw [flatD, flat2_length] at this; omega
  subst hl
  obtain ⟨A, c, rfl, h1, h2⟩ := own_form h
  refine ⟨A, c, by rw [List.length_map], by rw [List.length_map]; exact h1, h2, fun hn => ?_⟩
  rw [List.length_map] at hn
  rcases h.2 with ⟨_, h0⟩ | ⟨g, cap, cur, hv, _, hg, _⟩
  · omega
  · injection hv with hA
    subst hA
    refine ⟨g, 0, rfl, ⟨_, _, hg⟩, fun j hj => ?_⟩
    rw [List.length_map] at hj
    obtain ⟨f1, f2⟩ := flat2_at (fun e : Ent => Value.string e.1) (fun e => e.2.1) es j hj
    have c1 := h.cells (g := g) rfl (j * 2) _ f1
    have c2 := h.cells (g := g) rfl (j * 2 + 1) _ f2
    rw [add_at] at c1 c2
    rw [List.getElem_map]
    exact ⟨c1, _, by rw [Nat.add_assoc]; exact c2, hx _ (List.getElem_mem hj)⟩

/-- What Parse adds up. -/
def addB (acc : List (ByteArray × List ByteArray)) (d : ByteArray × List ByteArray) : List (ByteArray × List ByteArray) := if (findB acc (Fo.lower d.1.data.toList)).isSome then acc else acc ++ [d]
def polB (part : List UInt8) : List (ByteArray × List ByteArray) := (dirsB part).foldl addB []
abbrev PE := Value × List (ByteArray × List ByteArray)
def flatP (r : Bool) (ps : List PE) : List Value := flat2 (fun p => p.1) (fun _ => .bool r) ps
/-- The marks of the loops that are over. -/
def DefOK (base : Nat) (df : List Deferred) (w : World) : Prop := ∃ Ds : List Nat, df = Ds.map (fun D => { target := .collected D, args := #[] }) ∧ Ds.Nodup ∧ ∀ D ∈ Ds, base ≤ D ∧ w.heap[D]? = some (.deferred (some []))
theorem DefOK.nil (base : Nat) (w : World) : DefOK base [] w := ⟨[], rfl, List.nodup_nil, fun _ h => by cases h⟩
theorem DefOK.grown {base : Nat} {df : List Deferred} {A B : World} (h : DefOK base df A) (hg : A.grownBy B none) : DefOK base df B := by
  obtain ⟨Ds, h1, h2, h3⟩ := h
  exact ⟨Ds, h1, h2, fun D hD => ⟨(h3 D hD).1, (hg.block D (Array.getElem?_eq_some_iff.1 (h3 D hD).2).1 (by simp)).trans (h3 D hD).2⟩⟩
theorem DefOK.grownBy {base : Nat} {df : List Deferred} {A B : World} {row : Option Nat} (h : DefOK base df A) (hg : A.grownBy B row) (hr : ∀ k, row = some k → ∃ T, RowT T A k) : DefOK base df B := by
  obtain ⟨Ds, h1, h2, h3⟩ := h
  refine ⟨Ds, h1, h2, fun D hD => ⟨(h3 D hD).1, (hg.block D (Array.getElem?_eq_some_iff.1 (h3 D hD).2).1 (fun e => ?_)).trans (h3 D hD).2⟩⟩
  obtain ⟨T, vs, fr, e'⟩ := hr D e.symm
  rw [(h3 D hD).2] at e'
  cases e'
theorem DefOK.cons {base D : Nat} {df : List Deferred} {w : World} (h : DefOK base df w) (hb : base ≤ D) (hD : w.heap[D]? = some (.deferred (some []))) (hne : ∀ d ∈ df, d.target ≠ .collected D) : DefOK base ({ target := .collected D, args := #[] } :: df) w := by
  obtain ⟨Ds, rfl, h2, h3⟩ := h
  refine ⟨D :: Ds, rfl, List.nodup_cons.2 ⟨fun hm => hne _ (List.mem_map_of_mem (f := fun D => ({ target := .collected D, args := #[] } : Deferred)) hm) rfl, h2⟩, fun E hE => ?_⟩
  rcases List.mem_cons.1 hE with rfl | hE
  · exact ⟨hb, hD⟩
  · exact h3 E hE
theorem DefOK.lt {base : Nat} {df : List Deferred} {w : World} (h : DefOK base df w) : ∀ d ∈ df, ∀ D, d.target = .collected D → D < w.heap.size := by
  obtain ⟨Ds, rfl, _, h3⟩ := h
  intro d hd D e
  obtain ⟨E, hE, rfl⟩ := List.mem_map.1 hd
  cases e
  exact (Array.getElem?_eq_some_iff.1 (h3 _ hE).2).1
/-- What is left to a function whose marks are all of loops that are over. -/
theorem leaves_all {n : Nat} {fn : Func} {tmps : Array Value} {R : Ending → World → Prop} {base : Nat} : ∀ (df : List Deferred) (w w0 : World), DefOK base df w → Below base w0 w → base ≤ w.heap.size →
    (∀ w', Below base w0 w' → (∀ T, KeepT T w w') → LeavesInM Fence.wide n Tryz.prog fn tmps R [] .returning w') → LeavesInM Fence.wide n Tryz.prog fn tmps R df .returning w
  | [], w, w0, _, hb, _, h => h w hb (fun T => KeepT.refl T w)
  | d :: df, w, w0, ⟨Ds, e, hnd, hD⟩, hb, hB, h => by
    cases Ds with
    | nil => cases e
    | cons D Ds =>
      injection e with e1 e2
      subst e1 e2
      obtain ⟨hbD, hk⟩ := hD D (List.mem_cons_self ..)
      obtain ⟨hnot, hnd'⟩ := List.nodup_cons.1 hnd
      refine ⟨by simp, .inl ⟨D, _, rfl, run_takeDeferred hk, ?_⟩⟩
      have kt : ∀ T, KeepT T w (w.putObj D (.deferred none)) := fun T => KeepT.putObj _ hk rfl
      refine leaves_all _ _ w0 ⟨Ds, rfl, hnd', fun E hE => ⟨(hD E (List.mem_cons_of_mem _ hE)).1, (World.putObj_heap_other (fun e => hnot (by rw [← e]; exact hE))).trans (hD E (List.mem_cons_of_mem _ hE)).2⟩⟩ ?_ (by simpa using hB) (fun w' hb' kt' => h w' hb' (fun T => (kt T).trans (kt' T)))
      exact hb.grown (grownBy_putObj' w D _) hB (fun k e => by cases e; exact hbD)
theorem own_ne {A : World} {b T T' sz n k : Nat} {v : Value} {xs : List Value} (h : A.ownsRow b T sz v n xs) (hr : RowT T' A k) (hne : T' ≠ T) : v.ownBlock ≠ some k := by
  rcases h.2 with ⟨rfl, _⟩ | ⟨g, cap, cur, rfl, _, hg, _⟩
  · simp [Value.ownBlock]
  · intro e
    obtain rfl : g = k := by simpa [Value.ownBlock] using e
    obtain ⟨vs, fr, e'⟩ := hr
    rw [hg] at e'
    injection e' with e'
    injection e' with _ e'
    exact hne e'.symm
theorem keep_append {A B : World} {b T T' sz n : Nat} {v : Value} {xs : List Value} (h : A.ownsRow b T sz v n xs) (hg : A.grownBy B v.ownBlock) (hne : T' ≠ T) : KeepT T' A B :=
  fun _ hr => hg.block _ hr.lt (fun e => own_ne h hr hne e.symm)
theorem row_append {A : World} {b T sz n : Nat} {v : Value} {xs : List Value} (h : A.ownsRow b T sz v n xs) : ∀ k, v.ownBlock = some k → ∃ T, RowT T A k := by
  intro k hk
  rcases h.2 with ⟨rfl, _⟩ | ⟨g, cap, cur, rfl, _, hg, _⟩
  · simp [Value.ownBlock] at hk
  · obtain rfl : g = k := by simpa [Value.ownBlock] using hk
    exact ⟨T, _, _, hg⟩
theorem others_of_row {A B : World} {row : Option Nat} (hg : A.grownBy B row) (hr : ∀ k, row = some k → ∃ T, RowT T A k) : KeepsOthers A B := KeepsOthers.of_grownBy hg fun j o e hj => by
  obtain ⟨T, vs, fr, e'⟩ := hr j e
  rw [hj] at e'
  cases e'
  rfl
def PInv (w : World) (report : Bool) (P : List (List UInt8)) (pv : Value) (gk : Nat) (lv kv : Value) (df : List Deferred) (wr : World) : Prop := ∃ (k : Nat) (ps : List PE), k + gk = P.length ∧ kv = .int .i64 k ∧
  ps.map (fun p => p.2) = ((P.take k).map polB).filter (fun ds => !ds.isEmpty) ∧ wr.ownsRow w.heap.size 56 2 lv ps.length (flatP report ps) ∧ (∀ p ∈ ps, DirsR wr p.1 p.2) ∧ TextsR wr pv (bs P) ∧ DefOK w.heap.size df wr ∧ Below w.heap.size w wr
end Go.Proofs.YtajokmcdhhiahaaGreatDoor
