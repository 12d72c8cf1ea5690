/- The builder: its block, its stack. -/
import Derived.Test.YtbhnfnbnngclmaaGreatDoorDH
import Derived.Test.YtbhnfnbnngclmaaGreatDoorEI
namespace Go.Proofs.YtbhnfnbnngclmaaGreatDoor
open Go.RowKit Go.Sort Go.BigFrame Go.Maps Go.WideMaps
set_option maxRecDepth 100000

/-- A builder's cells: the document's nodes, the stack's, parser, the token, the fails. -/
def Bu (w : World) (b : Nat) (s o : Value) (a : Int) (fl : Value) : Prop := w.heap[b]? = some (.cells #[s, o, .bool true, .int .i64 a, fl] 105)
theorem Bu.lt {w : World} {b : Nat} {s o : Value} {a : Int} {fl : Value} (h : Bu w b s o a fl) : b < w.heap.size := hlt h
theorem Bu.below {w w' : World} {b : Nat} {s o : Value} {a : Int} {fl : Value} (h : Bu w b s o a fl) (hb : Below w.heap.size w w') : Bu w' b s o a fl := (hb.block b h.lt).trans h
theorem Bu.c0 {w : World} {b : Nat} {s o : Value} {a : Int} {fl : Value} (h : Bu w b s o a fl) : w.cell? ⟨b, 0, none⟩ = some s := cell_row h 0
theorem Bu.c1 {w : World} {b : Nat} {s o : Value} {a : Int} {fl : Value} (h : Bu w b s o a fl) : w.cell? ⟨b, 1, none⟩ = some o := cell_row h 1
theorem Bu.c2 {w : World} {b : Nat} {s o : Value} {a : Int} {fl : Value} (h : Bu w b s o a fl) : w.cell? ⟨b, 2, none⟩ = some (.bool true) := cell_row h 2
theorem Bu.c3 {w : World} {b : Nat} {s o : Value} {a : Int} {fl : Value} (h : Bu w b s o a fl) : w.cell? ⟨b, 3, none⟩ = some (.int .i64 a) := cell_row h 3
theorem Bu.c4 {w : World} {b : Nat} {s o : Value} {a : Int} {fl : Value} (h : Bu w b s o a fl) : w.cell? ⟨b, 4, none⟩ = some fl := cell_row h 4
theorem Bu.fz {w : World} {b : Nat} {s o : Value} {a : Int} {fl : Value} (h : Bu w b s o a fl) (k : Nat) : w.frozen? ⟨b, k, none⟩ = false := free_of h
theorem Bu.set0 {w : World} {b : Nat} {s o : Value} {a : Int} {fl : Value} (h : Bu w b s o a fl) (u : Value) : Bu (w.setCell ⟨b, 0, none⟩ u) b u o a fl := set_same h
theorem Bu.set1 {w : World} {b : Nat} {s o : Value} {a : Int} {fl : Value} (h : Bu w b s o a fl) (u : Value) : Bu (w.setCell ⟨b, 1, none⟩ u) b s u a fl := set_same h
theorem Bu.set3 {w : World} {b : Nat} {s o : Value} {a : Int} {fl : Value} (h : Bu w b s o a fl) (u : Int) : Bu (w.setCell ⟨b, 3, none⟩ (.int .i64 u)) b s o u fl := set_same h
/-- The stack's cells. -/
def stc (st : List (Nat × ByteArray)) : List Value := st.flatMap fun p => [.int .i64 p.1, .string p.2]
theorem stc_len (st : List (Nat × ByteArray)) : (stc st).length = st.length * 2 := by
  induction st with
  | nil => rfl
  | cons p st ih => simp only [stc, List.flatMap_cons, List.length_append] at ih ⊢; simp [ih]; omega
theorem stc_append (st : List (Nat × ByteArray)) (p : Nat × ByteArray) : stc (st ++ [p]) = stc st ++ [.int .i64 p.1, .string p.2] := by simp [stc]
theorem stc_get (st : List (Nat × ByteArray)) (i : Nat) (p : Nat × ByteArray) (h : st[i]? = some p) : (stc st)[i * 2]? = some (.int .i64 p.1) ∧ (stc st)[i * 2 + 1]? = some (.string p.2) := by
  induction st generalizing i with
  | nil => simp at h
  | cons q st ih =>
    cases i with
    | zero =>
      injection h with h
      subst h
      exact ⟨rfl, rfl⟩
    | succ i =>
      have := ih i (by simpa using h)
      simp only [stc, List.flatMap_cons] at this ⊢
      have e1 : (i + 1) * 2 = i * 2 + 2 := by omega
      have e2 : (i + 1) * 2 + 1 = i * 2 + 1 + 2 := by omega
      rw [e1, show i * 2 + 2 + 1 = i * 2 + 1 + 2 by omega]
      exact ⟨by rw [List.getElem?_append_right (by simp)]; simpa using this.1, by rw [List.getElem?_append_right (by simp)]; simpa using this.2⟩
/-- The stack is a row of the call's own. -/
def St (w : World) (B : Nat) (o : Value) (st : List (Nat × ByteArray)) : Prop := w.ownsRow B 108 2 o st.length (stc st)
theorem St.keep {w w' : World} {B : Nat} {o : Value} {st : List (Nat × ByteArray)} {l : List Nat} (h : St w B o st) (hk : Keep l w w') (hl : ∀ k, o.ownBlock = some k → k ∉ l) : St w' B o st := hk.own h hl
theorem St.below {w w' : World} {B : Nat} {o : Value} {st : List (Nat × ByteArray)} (h : St w B o st) (hb : Below w.heap.size w w') : St w' B o st := (Keep.of_below (l := []) hb).own h fun _ _ => by simp
theorem St.form {w : World} {B : Nat} {o : Value} {st : List (Nat × ByteArray)} (h : St w B o st) (hs : 0 < st.length) : ∃ g c, o = .slice (some ⟨g, 0, none⟩) st.length c ∧ st.length ≤ c := by
  rcases h.2 with ⟨_, h0⟩ | ⟨g, cap, cur, hv, _, _, hc, _⟩
  · omega
  · exact ⟨g, cap, hv, hc⟩
theorem St.at_ {w : World} {B g n c : Nat} {st : List (Nat × ByteArray)} (h : St w B (.slice (some ⟨g, 0, none⟩) n c) st) (i : Nat) (p : Nat × ByteArray) (hi : st[i]? = some p) : w.cell? ⟨g, i * 2, none⟩ = some (.int .i64 p.1) ∧ w.cell? ⟨g, i * 2 + 1, none⟩ = some (.string p.2) := by
  obtain ⟨h1, h2⟩ := stc_get st i p hi
  have a := h.cells (g := g) rfl _ _ h1
  have b := h.cells (g := g) rfl _ _ h2
  rw [add_at, Nat.zero_add] at a b
  exact ⟨a, b⟩
/-- The stack's row is not the builder. -/
theorem St.ne {w : World} {B b : Nat} {s o o' : Value} {a : Int} {fl : Value} {st : List (Nat × ByteArray)} (h : St w B o st) (hb : Bu w b s o' a fl) : o.ownBlock ≠ some b := by
  rcases h.2 with ⟨rfl, _⟩ | ⟨g, cap, cur, rfl, _, hg, _⟩
  · intro e; cases e
  · intro e
    obtain rfl : g = b := Option.some.inj e
    unfold Bu at hb
    rw [hb] at hg
    injection hg with hg
    injection hg with _ h2
    exact absurd h2 (by decide)
theorem void_b (w : World) : Calls Tryz.prog 80 #[.string ⟨#[98]⟩] w fun e w' => e = .returned (.bool false) ∧ w' = w := by
  go_enter Tryz.func80, Tryz.ntmps80
  go_wp2_with fail
  go_ret
  exact ⟨rfl, rfl⟩
theorem does_any (b : Nat) (k : Int) (F : Nat) (hk : (k = 1 ∧ F = 62) ∨ (k = 2 ∧ F = 64) ∨ (k = 3 ∧ F = 65)) (w : World) : Calls Tryz.prog 43 #[.pointer (some ⟨b, 0, none⟩), .int .i64 k] w fun e w' => e = .returned (.func (.func F) #[.pointer (some ⟨b, 0, none⟩)] #[]) ∧ w' = w := by
  rcases hk with ⟨rfl, rfl⟩ | ⟨rfl, rfl⟩ | ⟨rfl, rfl⟩
  all_goals
    go_enter Tryz.func43, Tryz.ntmps43
    go_wp2_with fail
    go_ret
    exact ⟨rfl, rfl⟩
/-- top. -/
theorem top_any (b B g n c : Nat) (s : Value) (a : Int) (fl : Value) (st : List (Nat × ByteArray)) (p : Nat × ByteArray) (w : World) (h : Bu w b s (.slice (some ⟨g, 0, none⟩) (n + 1) c) a fl) (hs : St w B (.slice (some ⟨g, 0, none⟩) (n + 1) c) st) (hp : st[n]? = some p) (hn : n ≤ 100) :
    Calls Tryz.prog 99 #[.pointer (some ⟨b, 1, none⟩)] w fun e w' => e = .returned (.agg #[.int .i64 p.1, .string p.2]) ∧ Below w.heap.size w w' := by
  obtain ⟨q0, q1⟩ := hs.at_ n p hp
  have hb1 := below_alloc' w (.cells #[.int .i64 0, .string ⟨#[]⟩] 108)
  have hr1 := heap_alloc_new w (.cells #[.int .i64 0, .string ⟨#[]⟩] 108)
  obtain ⟨W, hW⟩ : ∃ W, W = w.alloc (.cells #[.int .i64 0, .string ⟨#[]⟩] 108) := ⟨_, rfl⟩
  rw [← hW] at hb1 hr1
  have c1 := (hb1.cell (p := ⟨b, 1, none⟩) h.lt).trans h.c1
  have g0 := (hb1.cell (p := ⟨g, n * 2, none⟩) (block_lt_of_cell q0)).trans q0
  have g1 := (hb1.cell (p := ⟨g, n * 2 + 1, none⟩) (block_lt_of_cell q1)).trans q1
  have x0 := cell_row hr1 0
  have x1 := cell_row hr1 1
  simp at x0 x1
  have f0 := free_of (k := 0) hr1
  have f1 := free_of (k := 1) hr1
  have n1 : (0 : Int) ≤ (n : Int) := by omega
  have n2 : (n : Int) < ((n + 1 : Nat) : Int) := by omega
  have hsub : IntKind.i64.wrap (((n + 1 : Nat) : Int) - 1) = (n : Int) := by
    rw [IntWalk.i64_in _ (by omega)]; omega
  have HB := Lib.hid hb1
  have HW := Lib.hid hW
  have HR := Lib.hid hr1
  clear hb1 hW h hs q0 q1 hr1
  go_enter Tryz.func99, Tryz.ntmps99
  go_upto_region 1 with fail
  rw [← HW.out]
  go_region
  go_wp2_with fail
  have hk1 := keep_set W w.heap.size 0 (.int .i64 p.1)
  have hs1 := set_same (k := 0) (u := .int .i64 p.1) HR.out
  have hs2 := set_same (k := 1) (u := .string p.2) hs1
  have hbb : Below w.heap.size w (((W.setCell ⟨w.heap.size, 0, none⟩ (.int .i64 p.1)).setCell ⟨w.heap.size, 1, none⟩ (.string p.2)).drew) := ((HB.out.setCell (by exact Nat.le_refl _) _).setCell (by exact Nat.le_refl _) _).drew
  have hs3 := ((below_drew' ((W.setCell ⟨w.heap.size, 0, none⟩ (.int .i64 p.1)).setCell ⟨w.heap.size, 1, none⟩ (.string p.2))).block _ (hlt hs2)).trans hs2
  obtain ⟨V, hV⟩ : ∃ V, V = ((W.setCell ⟨w.heap.size, 0, none⟩ (.int .i64 p.1)).setCell ⟨w.heap.size, 1, none⟩ (.string p.2)).drew := ⟨_, rfl⟩
  rw [← hV] at hs3 hbb ⊢
  have y0 : V.cell? ⟨w.heap.size, 0, none⟩ = some (.int .i64 p.1) := cell_row hs3 0
  have y1 : V.cell? ⟨w.heap.size, 1, none⟩ = some (.string p.2) := cell_row hs3 1
  exact bodyPost_ret (v := .agg #[.int .i64 p.1, .string p.2]) (by simp [results, Tryz.results99, go_sem, y0, y1]) rfl ⟨rfl, hbb⟩
theorem open_row : (Tryz.prog.info? 108).map (fun i => (i.zero, i.size, i.bytes)) = some (some (.agg #[.int .i64 0, .string ⟨#[]⟩]), 2, 24) := by kernel_rfl
set_option maxHeartbeats 4000000 in
/-- push. -/
theorem push_any (b B k : Nat) (nm : ByteArray) (s o : Value) (a : Int) (fl : Value) (st : List (Nat × ByteArray)) (w : World) (h : Bu w b s o a fl) (hs : St w B o st) (hB : B ≤ w.heap.size) (hn : st.length ≤ 100) :
    Calls Tryz.prog 42 #[.pointer (some ⟨b, 1, none⟩), .agg #[.int .i64 k, .string nm]] w fun e w' => e = .returned (.tuple #[]) ∧ ∃ o', Bu w' b s o' a fl ∧ St w' B o' (st ++ [(k, nm)]) ∧ Keep (b :: ob o) w w' := by
  have hne := hs.ne h
  obtain ⟨n, hnn⟩ : ∃ n, n = st.length := ⟨_, rfl⟩
  obtain ⟨A, cp, rfl, hcp, hcn⟩ := own_form hs
  have hbA := below_alloc' w (.cells #[.int .i64 k, .string nm] 108)
  have hrow := heap_alloc_new w (.cells #[.int .i64 k, .string nm] 108)
  obtain ⟨W, hW⟩ : ∃ W, W = w.alloc (.cells #[.int .i64 k, .string nm] 108) := ⟨_, rfl⟩
  rw [← hW] at hbA hrow
  have hbw := h.below hbA
  have c1 := hbw.c1
  have x0 := cell_row hrow 0
  have x1 := cell_row hrow 1
  simp only [List.getElem?_toArray, List.getElem?_cons_zero, List.getElem?_cons_succ] at x0 x1
  have hs' : W.ownsRow B 108 2 (.slice A n cp) n (stc st) := by rw [hnn]; exact own_below' hs hbA
  rw [← hnn] at c1 hbw hne hn
  have HNN := Lib.hid hnn
  have HW := Lib.hid hW
  have HBU := Lib.hid hbw
  have HB := Lib.hid hbA
  have HO := Lib.hid hs'
  have HNE := Lib.hid hne
  obtain ⟨i0, hi, hz0, hz1, hz2⟩ := info_parts open_row
  have HI0 := Lib.hid hi
  have hWs := HB.out.size
  have hBW : B ≤ W.heap.size := Nat.le_trans hB hWs
  have hcl := HBU.out.lt
  clear hi hWs h hW hbA hrow hbw hs hs' hne hB hcp hcn hnn
  go_enter Tryz.func42, Tryz.ntmps42
  go_upto_region 1 with fail
  rw [← HW.out]
  go_region_law (refine step_append_lies _ (by rfl) _ _ _ (by rfl) B 108 i0 _ 2 24 Tryz.underlying101 HI0.out hz0 hz1 hz2 rfl (by omega) _ n (stc st) (by rfl) (HO.out.alloc _) ⟨W.heap.size, 0, none⟩ 1 1 [.int .i64 k, .string nm] (by rfl) (by rfl) (World.news_of_block (cs := #[.int .i64 k, .string nm]) (t := 108) (fr := (0, 0)) (heap_alloc_new W _)) (by simp [Value.oneCell']) (by omega) (by unfold maxLen; omega) (by omega) (by simp; omega) (W.heap.size + 1) (by simp) ?_; intro gg cap w7 hown7 hgrow hat hltg; have hb1 : Below W.heap.size W (W.alloc (.cells #[.int .i64 k, .string nm] 108)).drew := nx (below_alloc' W _) (below_drewN' _ 1); have hc7 : Bu w7 b s (.slice A n cp) a fl := (hgrow.block b (Nat.lt_of_lt_of_le hcl hb1.size) (Ne.symm HNE.out)).trans (HBU.out.below hb1); have HC7 := Lib.hid hc7; have HK7 : Hid (Keep (ob (.slice A n cp)) W w7) := (Keep.of_below hb1).trans (Keep.of_grown hgrow); have HOW7 := Lib.hid hown7; have d2 := hc7.c1; have f2 := hc7.fz 1; clear hown7 hgrow hat hltg hb1 hc7)
  all_goals
    go_wp2_with fail
    go_end0
    have hm := HC7.out.set1 (.slice (some ⟨gg, 0, none⟩) (n + 1) cap)
    have hst7 : St w7 B (.slice (some ⟨gg, 0, none⟩) (n + 1) cap) (st ++ [(k, nm)]) := by
      have h := HOW7.out
      unfold St
      rw [stc_append, List.length_append, List.length_singleton, ← HNN.out]
      exact h
    have hne7 := hst7.ne (HC7.out)
    have ks := keep_set w7 b 1 (.slice (some ⟨gg, 0, none⟩) (n + 1) cap)
    refine ⟨rfl, _, hm, hst7.keep ks fun j hj hl => hne7 (by rw [hj]; rw [List.mem_singleton.1 hl]), ?_⟩
    have k1 : Keep (b :: ob (.slice A n cp)) w W := Keep.of_below HB.out
    have k2 : Keep (b :: ob (.slice A n cp)) W w7 := HK7.out.mono fun j hj => List.mem_cons_of_mem _ hj
    rw [← HNN.out]
    exact (k1.trans k2).trans (ks.mono fun j hj => by rw [List.mem_singleton.1 hj]; exact List.mem_cons_self ..)
/-- drop. -/
theorem drop_any (b B g n c k : Nat) (s : Value) (a : Int) (fl : Value) (st : List (Nat × ByteArray)) (w : World) (h : Bu w b s (.slice (some ⟨g, 0, none⟩) n c) a fl) (hs : St w B (.slice (some ⟨g, 0, none⟩) n c) st) (hn : st.length = n) (hk : k ≤ n) (hn1 : n ≤ 100) :
    Calls Tryz.prog 81 #[.pointer (some ⟨b, 1, none⟩), .int .i64 k] w fun e w' => e = .returned (.int .i64 ((n : Int) - (k : Int))) ∧ Bu w' b s (.slice (some ⟨g, 0, none⟩) k c) a fl ∧ St w' B (.slice (some ⟨g, 0, none⟩) k c) (st.take k) ∧ Keep [b] w w' := by
  have hnc : n ≤ c := by
    obtain ⟨A, cp, he, hcp, _⟩ := own_form hs
    injection he with _ e2 e3
    omega
  have c1 := h.c1
  have f1 := h.fz 1
  have i1 : (0 : Int) ≤ (k : Int) := by omega
  have i2 : (k : Int) ≤ (c : Int) := by omega
  have i3 : (0 : Int) ≤ (n : Int) - (k : Int) := by omega
  have HB := Lib.hid h
  have HS := Lib.hid hs
  have HN := Lib.hid hn
  have HK := Lib.hid hk
  clear h hs hn hk
  go_enter Tryz.func81, Tryz.ntmps81
  go_wp2_with fail
  go_ret
  have ks := keep_set w b 1 (.slice (some ⟨g, 0, none⟩) k c)
  have hst : St w B (.slice (some ⟨g, 0, none⟩) k c) (st.take k) := by
    have h := HS.out
    have hlen : (st.take k).length = k := by rw [List.length_take, HN.out]; exact Nat.min_eq_left HK.out
    have hcells : stc (st.take k) = (stc st).take (k * 2) := by
      clear h hlen ks
      have : ∀ (l : List (Nat × ByteArray)) (q : Nat), stc (l.take q) = (stc l).take (q * 2) := by
        intro l
        induction l with
        | nil => intro q; simp [stc]
        | cons p l ih =>
          intro q
          cases q with
          | zero => simp [stc]
          | succ q =>
            have := ih q
            simp only [stc, List.take_succ_cons, List.flatMap_cons] at this ⊢
            rw [this, show (q + 1) * 2 = q * 2 + 2 by omega]
            rfl
      exact this st k
    refine ⟨by rw [stc_len], ?_⟩
    rw [hlen]
    rcases h.2 with ⟨hv, _⟩ | ⟨g', cap, cur, hv, hB', hg, hc', hm, hsz, ht⟩
    · cases hv
    · injection hv with e1 e2 e3
      injection e1 with e1
      injection e1 with e1
      subst e1 e3
      refine .inr ⟨g, c, cur, rfl, hB', hg, by have := HK.out; omega, hm, hsz, ?_⟩
      rw [hcells, ← ht, List.take_take]
      congr 1
      have := HK.out
      have := HN.out
      omega
  have hne := hst.ne HB.out
  exact ⟨rfl, HB.out.set1 _, hst.keep ks fun j hj hl => hne (by rw [hj]; rw [List.mem_singleton.1 hl]), ks⟩
end Go.Proofs.YtbhnfnbnngclmaaGreatDoor
