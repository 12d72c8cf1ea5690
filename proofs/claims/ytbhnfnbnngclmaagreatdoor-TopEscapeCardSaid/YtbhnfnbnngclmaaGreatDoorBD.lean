/- Into, up to the tokens. -/
import Derived.Test.YtbhnfnbnngclmaaGreatDoorBC
import Derived.Test.YtbhnfnbnngclmaaGreatDoorDO
namespace Go.Proofs.YtbhnfnbnngclmaaGreatDoor
open Go.RowKit Go.Sort Go.BigFrame Go.Maps Go.WideMaps
set_option maxRecDepth 100000

/-- A token: a text; a beginning of b, with an attribute or none; its end. -/
inductive Tk where
  | tx (t : ByteArray)
  | st (q : Option (ByteArray × ByteArray))
  | en
def Tk.num : Tk → Int
  | .tx _ => 1
  | .st _ => 2
  | .en => 3
def Tk.nm : Tk → ByteArray
  | .tx _ => ⟨#[]⟩
  | _ => ⟨#[98]⟩
def Tk.dt : Tk → ByteArray
  | .tx t => t
  | _ => ⟨#[]⟩
def Tk.ats : Tk → Option (ByteArray × ByteArray)
  | .st q => q
  | _ => none
def Tk.cells (x : Tk) (va : Value) : List Value := [.int .i64 x.num, .string x.nm, .string x.dt, va, .bool false]
/-- A slice of tokens. -/
def Toks (w : World) (v : Value) (ts : List Tk) : Prop := ∃ A cap, v = .slice A ts.length cap ∧ ∀ (i : Nat) (tk : Tk), ts[i]? = some tk → ∃ g va, A = some ⟨g, 0, none⟩ ∧ g < w.heap.size ∧ Ats w va tk.ats ∧ ∀ (j : Nat) (u : Value), (tk.cells va)[j]? = some u → w.cell? ⟨g, i * 5 + j, none⟩ = some u
theorem Toks.below {w w' : World} {v : Value} {ts : List Tk} (h : Toks w v ts) (hb : Below w.heap.size w w') : Toks w' v ts := by
  obtain ⟨A, cap, h1, h2⟩ := h
  refine ⟨A, cap, h1, fun i tk hi => ?_⟩
  obtain ⟨g, va, e1, e2, e3, e4⟩ := h2 i tk hi
  exact ⟨g, va, e1, Nat.lt_of_lt_of_le e2 hb.size, e3.below hb, fun j u hu => (hb.cell (p := ⟨g, i * 5 + j, none⟩) e2).trans (e4 j u hu)⟩
/-- What a token does to the nodes and to the stack. -/
inductive Stp : List Kd × List (Nat × ByteArray) → Tk → List Kd × List (Nat × ByteArray) → Prop where
  | tx (l : List Kd) (st : List (Nat × ByteArray)) (n p : Nat) (nm t : ByteArray) (y : Kd) (h1 : st.length = n + 1) (h2 : st[n]? = some (p, nm)) (h3 : n ≤ 20) (h4 : l.length = p + 1) (h5 : l.length < 50) (h6 : l[p]? = some y) (h7 : y.holds = true) (h8 : t.size ≤ 100000) : Stp (l, st) (.tx t) (l ++ [.tx t], st)
  | st (l : List Kd) (st : List (Nat × ByteArray)) (n p : Nat) (nm : ByteArray) (y : Kd) (q : Option (ByteArray × ByteArray)) (h1 : st.length = n + 1) (h2 : st[n]? = some (p, nm)) (h3 : n ≤ 20) (h4 : l.length = p + 1) (h5 : l.length < 50) (h6 : l[p]? = some y) (h7 : y.holds = true) (h8 : (Kd.el q).ok) : Stp (l, st) (.st q) (l ++ [.el q], st ++ [(l.length, ⟨#[98]⟩)])
  | en (l : List Kd) (k0 k1 : Nat) : Stp (l, [(k0, ⟨#[]⟩), (k1, ⟨#[98]⟩)]) .en (l, [(k0, ⟨#[]⟩)])
/-- The builder's state in memory. -/
def Bst (w : World) (b B : Nat) (a : Int) (s : List Kd × List (Nat × ByteArray)) : Prop := ∃ o, Lays w b o a (.slice none 0 0) s.1 ∧ St w B o s.2
theorem Stp.pos {s s' : List Kd × List (Nat × ByteArray)} {k : Tk} (h : Stp s k s') : 0 < s.2.length := by
  cases h with
  | tx _ _ n _ _ _ _ h1 => exact Nat.lt_of_lt_of_eq (Nat.succ_pos n) h1.symm
  | st _ _ n _ _ _ _ h1 => exact Nat.lt_of_lt_of_eq (Nat.succ_pos n) h1.symm
  | en => simp
theorem Lays.ok {w : World} {b : Nat} {o : Value} {a : Int} {fl : Value} {l : List Kd} (h : Lays w b o a fl l) : b < w.heap.size := by
  obtain ⟨⟨g, c, h1, _⟩, _⟩ := h
  exact h1.lt
theorem St.take1 {w : World} {B g c : Nat} {p q : Nat × ByteArray} (h : St w B (.slice (some ⟨g, 0, none⟩) 2 c) [p, q]) : St w B (.slice (some ⟨g, 0, none⟩) 1 c) [p] := by
  refine ⟨by rw [stc_len], ?_⟩
  rcases h.2 with ⟨hv, _⟩ | ⟨g', cap, cur, hv, hB', hg, hc', hm, hsz, ht⟩
  · cases hv
  · injection hv with e1 e2 e3
    injection e1 with e1
    injection e1 with e1
    subst e1 e3
    refine .inr ⟨g, c, cur, rfl, hB', hg, by simp at hc' ⊢; omega, hm, hsz, ?_⟩
    have : stc [p] = (stc [p, q]).take 2 := rfl
    rw [this, ← ht, List.take_take]
    rfl
theorem Bst.below {w w' : World} {b B : Nat} {a : Int} {s : List Kd × List (Nat × ByteArray)} (h : Bst w b B a s) (hb : Below w.heap.size w w') : Bst w' b B a s := by
  obtain ⟨o, ⟨⟨gd, cd, h1, h2⟩, h3⟩, h4⟩ := h
  exact ⟨o, ⟨⟨gd, cd, h1.below hb, h2.below hb⟩, h3⟩, h4.below hb⟩
theorem Bst.lt {w : World} {b B : Nat} {a : Int} {s : List Kd × List (Nat × ByteArray)} (h : Bst w b B a s) : b < w.heap.size := by
  obtain ⟨o, hl, _⟩ := h
  exact hl.ok
theorem Bst.c3 {w : World} {b B : Nat} {a : Int} {s : List Kd × List (Nat × ByteArray)} (h : Bst w b B a s) : w.cell? ⟨b, 3, none⟩ = some (.int .i64 a) ∧ w.frozen? ⟨b, 3, none⟩ = false := by
  obtain ⟨o, ⟨⟨gd, cd, h1, h2⟩, h3⟩, h4⟩ := h
  exact ⟨h1.c3, h1.fz 3⟩
theorem Bst.at_ {w : World} {b B : Nat} {a : Int} {s : List Kd × List (Nat × ByteArray)} (h : Bst w b B a s) (k : Int) : Bst (w.setCell ⟨b, 3, none⟩ (.int .i64 k)) b B k s := by
  obtain ⟨o, ⟨⟨gd, cd, h1, h2⟩, h3⟩, h4⟩ := h
  have hk := keep_set w b 3 (.int .i64 k)
  exact ⟨o, ⟨⟨gd, cd, h1.set3 k, h2.keepT hk h1 ⟨by decide, by decide, by decide⟩⟩, h3⟩, h4.keep hk fun j hj hm => h4.ne h1 (by rw [hj, List.mem_singleton.1 hm])⟩
theorem Ats.setT {w : World} {v : Value} {o : Option (ByteArray × ByteArray)} (h : Ats w v o) {g k : Nat} {u : Value} {cur : Array Value} {T : TypeId} {fr : Nat × Nat} (hg : w.heap[g]? = some (.cells cur T fr)) (hT : T ≠ 63) : Ats (w.setCell ⟨g, k, none⟩ u) v o := by
  cases o with
  | none => exact h
  | some p =>
    obtain ⟨b, cap, cs, fr, h1, h2, h3, h4⟩ := h
    refine ⟨b, cap, cs, fr, h1, h2, (set_other ?_).trans h3, h4⟩
    rintro rfl
    rw [hg] at h3
    injection h3 with h3
    injection h3 with _ h3
    exact hT h3
theorem Bst.blk {w : World} {b B : Nat} {a : Int} {s : List Kd × List (Nat × ByteArray)} (h : Bst w b B a s) : ∃ cs fr, w.heap[b]? = some (.cells cs 105 fr) := by
  obtain ⟨o, ⟨⟨gd, cd, h1, h2⟩, h3⟩, h4⟩ := h
  exact ⟨_, _, h1⟩
/-- One token: what the builder does at it, by the function that is its kind's. -/
theorem step_tok (b B : Nat) (a : Int) (s s' : List Kd × List (Nat × ByteArray)) (tk : Tk) (hst : Stp s tk s') (w : World) (hB : B ≤ w.heap.size) (hb : B ≤ b) (h : Bst w b B a s) (va : Value) (ha : Ats w va tk.ats) :
    ∃ F, ((tk.num = 1 ∧ F = 62) ∨ (tk.num = 2 ∧ F = 64) ∨ (tk.num = 3 ∧ F = 65)) ∧ Calls Tryz.prog F #[.pointer (some ⟨b, 0, none⟩), .agg (tk.cells va).toArray] w fun e w' => e = .returned (.int .i64 0) ∧ Bst w' b B a s' ∧ Below B w w' := by
  obtain ⟨o, hl, hs⟩ := h
  obtain ⟨g, c, rfl, _⟩ := hs.form hst.pos
  have hgB : B ≤ g := by
    rcases hs.2 with ⟨hv, _⟩ | ⟨g', cap, cur, hv, hB', _⟩
    · cases hv
    · injection hv with e; injection e with e; injection e with e; subst e; exact hB'
  cases hst with
  | tx l st n p nm t y h1 h2 h3 h4 h5 h6 h7 h8 =>
    obtain rfl : va = _ := ha
    rw [h1] at hl hs
    refine ⟨62, .inl ⟨rfl, rfl⟩, (btext_any b B g n c p nm t a _ l st y false w hl hs h2 (by omega) h4 h5 h6 h7 h8).mono ?_⟩
    rintro e w' ⟨he, hl', hk⟩
    obtain ⟨⟨gd, cd, e1, e2⟩, e3⟩ := hl
    exact ⟨he, ⟨_, hl', hs.keep hk fun k hk' hm => hs.ne e1 (by rw [hk', List.mem_singleton.1 hm])⟩, hk.below (fun k hk' => by rw [List.mem_singleton.1 hk']; exact hb) hB⟩
  | st l st n p nm y q h1 h2 h3 h4 h5 h6 h7 h8 =>
    obtain ⟨A, an, ac, rfl⟩ := ha.form
    rw [h1] at hl hs
    refine ⟨64, .inr (.inl ⟨rfl, rfl⟩), (bstart_any b B g n c p nm a _ l st y q A an ac w hl hs hB h2 h1 h3 h4 h5 h6 h7 ha h8).mono ?_⟩
    rintro e w' ⟨he, o', hl', hs', hk⟩
    exact ⟨he, ⟨o', hl', hs'⟩, hk.below (fun k hk' => by rcases List.mem_cons.1 hk' with e | e; · rw [e]; exact hb
                                                         · rw [List.mem_singleton.1 e]; exact hgB) hB⟩
  | en l k0 k1 =>
    obtain rfl : va = _ := ha
    refine ⟨65, .inr (.inr ⟨rfl, rfl⟩), (bend_any b B g c k0 k1 a _ l false w hl hs).mono ?_⟩
    rintro e w' ⟨he, hl', hk⟩
    obtain ⟨⟨gd, cd, e1, e2⟩, e3⟩ := hl
    exact ⟨he, ⟨_, hl', (hs.keep hk fun k hk' hm => hs.ne e1 (by rw [hk', List.mem_singleton.1 hm])).take1⟩, hk.below (fun k hk' => by rw [List.mem_singleton.1 hk']; exact hb) hB⟩
end Go.Proofs.YtbhnfnbnngclmaaGreatDoor
