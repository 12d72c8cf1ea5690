/- From a row to the walks: a policy that came in; a world in which the two tables of the library's utf8 are laid. -/
import Derived.Test.YtpjakdekaolmeaaDoorRU
import Derived.Test.YtpjakdekaolmeaaDoorClose
import Derived.Lib.LaidU8T
import Derived.Lib.LaidTab
import Derived.Deep.DeepHandedRow
import Derived.Lib.SmallJoins
import Derived.Deep.Slices
import Derived.Deep.Fields
import Derived.ChangeSame
namespace Go.Proofs.YtpjakdekaolmeaaDoor.Cl
open Go Go.ChangeShapes Go.WideShapes Go.ChangeAt Go.RowKit Go.Deep

section
variable {H : Type} {enc : TypeId × Value → H} {P : Program} {w : World} {base : Nat} {spare : Nat → Bool} {held : Bool}
theorem open_slice_fields {t e : TypeId} {fs : Array Field} {fuel : Nat} {cs : List Value} {x : DataW H × List MemPlace} (ht : P.underlying t = some (.slice e)) (he : P.underlying e = some (.struct fs))
    (hone : oneCellFields P fs = true) (hC : P.cellsOf e = fs.size) (h : DataW.trod enc P w base spare held fuel t cs = some x) :
    (cs = [.slice none 0 0] ∧ x = (.nil, [])) ∨
    ∃ (a : Addr) (len cap m : Nat) (D : Nat → DataW H) (Pl : Nat → List MemPlace), cs = [.slice (some a) len cap] ∧ base ≤ a.block ∧ len ≤ cap ∧ cap ≤ maxLen ∧ m = (if spare a.block then cap else len) ∧
      x = (.slice ((List.range len).map D) ((List.range (m - len)).map fun j => D (len + j)), MemPlace.row a (m * fs.size) ++ (List.range m).flatMap Pl) ∧
      ∀ i, i < m → ∃ (ys : List (DataW H × List MemPlace)) (n : Nat), D i = .agg (ys.map (·.1)) ∧ Pl i = ys.flatMap (·.2) ∧ ys.length = fs.size ∧
        ∀ (j : Nat) (f : Field), fs[j]? = some f → ∃ (v : Value) (y : DataW H × List MemPlace), w.cell? (a.add (i * fs.size + j)) = some v ∧ ys[j]? = some y ∧ DataW.trod enc P w base spare held n f.type [v] = some y := by
  rcases open_slice ht h with h0 | ⟨a, len, cap, m, n, D, Pl, hcs, hb, hl, hm, hmm, hx, hi⟩
  · exact .inl h0
  · refine .inr ⟨a, len, cap, m, D, Pl, hcs, hb, hl, hm, hmm, by rw [hC] at hx; exact hx, fun i him => ?_⟩
    obtain ⟨cs', hc, ht'⟩ := hi i him
    rw [hC] at hc
    obtain ⟨ys, n', hn', hy, hlen, hyl, hf⟩ := DataW.trod_struct he ht'
    obtain ⟨_, hcl, hat⟩ := World.cells?_some hc
    simp only [Prod.mk.injEq] at hy
    refine ⟨ys, n', hy.1, hy.2, hyl, fun j f hj => ?_⟩
    obtain ⟨ho, hk⟩ := hone_of hone j f hj
    have hjl : j < fs.size := (Array.getElem?_eq_some_iff.1 hj).1
    have hcell := hat j hjl
    have hv : cs'[j]? = some (cs'[j]'(by omega)) := List.getElem?_eq_getElem (by omega)
    have h1 := hf j f hj
    rw [ho, hk] at h1
    have hone' : (cs'.drop j).take 1 = [cs'[j]'(by omega)] := by
      rw [List.drop_eq_getElem_cons (by omega)]
      rfl
    rw [hone'] at h1
    have hys : ys[j]? = some (ys[j]'(by omega)) := List.getElem?_eq_getElem (by omega)
    refine ⟨_, _, ?_, hys, h1.trans hys⟩
    rw [← Go.Deep.add_add, hcell, hv]
end

theorem cells9 : Tryd.prog.cellsOf 9 = 1 := by kernel_rfl
theorem texts_cell {H : Type} {enc : TypeId × Value → H} {W : World} {n : Nat} {v : Value} {y : DataW H × List MemPlace} (h : DataW.trod enc Tryd.prog W 0 (fun _ => true) true n 44 [v] = some y) : ∃ ss, TextsV W v ss := by
  rcases open_strings Tryd.underlying44 Tryd.underlying9 cells9 h with ⟨hcs, _⟩ | ⟨a, len, cap, ss, hcs, _, hl, _, hz, _, hcell, _⟩
  · injection hcs with hcs _
    subst hcs
    exact ⟨[], none, 0, rfl, Nat.le_refl _, fun _ => rfl, Texts.nil _⟩
  · injection hcs with hcs _
    subst hcs
    simp only [if_true] at hz
    have hln : (ss.take len).length = len := by rw [List.length_take]; omega
    have hcc : ∀ j, j < len → W.cell? (a.add j) = some (.string (ss.getD j ByteArray.empty)) := fun j hj => hcell j (by omega)
    refine ⟨ss.take len, some a, cap, by rw [hln], by rw [hln]; exact hl, (fun e => by cases e), rfl, fun hn => ⟨a, rfl, ?_, fun j hj => ?_⟩⟩
    · rw [hln] at hn
      have := World.block_lt_of_cell? W _ (hcc 0 hn)
      rwa [add_block] at this
    · rw [hln] at hj
      rw [hcc j hj, List.getElem_take, List.getD_eq_getElem?_getD, List.getElem?_eq_getElem (show j < ss.length by omega)]
      rfl
theorem dirs_cell {H : Type} {enc : TypeId × Value → H} {W : World} {n : Nat} {v : Value} {y : DataW H × List MemPlace} (h : DataW.trod enc Tryd.prog W 0 (fun _ => true) true n 40 [v] = some y) : ∃ ds, DirsV W v ds := by
  rcases open_slice_fields Tryd.underlying40 Tryd.underlying49 (by kernel_rfl) (by kernel_rfl) h with ⟨hcs, _⟩ | ⟨a, len, cap, m, D, Pl, hcs, _, hl, _, hm, _, hi⟩
  · injection hcs with hcs _
    subst hcs
    exact ⟨[], none, 0, rfl, Nat.le_refl _, fun _ => rfl, fun h => absurd h (by simp)⟩
  · injection hcs with hcs _
    subst hcs
    simp only [if_true] at hm
    have each : ∀ i, i < len → ∃ x : ByteArray × List ByteArray, W.cell? (a.add (i * 2)) = some (.string x.1) ∧ ∃ wv, W.cell? (a.add (i * 2 + 1)) = some wv ∧ TextsV W wv x.2 := fun i him => by
      obtain ⟨ys, n', _, _, _, hf⟩ := hi i (by omega)
      obtain ⟨v0, y0, hc0, _, ht0⟩ := hf 0 _ rfl
      obtain ⟨v1, y1, hc1, _, ht1⟩ := hf 1 _ rfl
      obtain ⟨s, hs, _⟩ := DataW.trod_string Tryd.underlying9 ht0
      injection hs with hs _
      subst hs
      obtain ⟨ss, hss⟩ := texts_cell ht1
      exact ⟨(s, ss), hc0, v1, hc1, hss⟩
    obtain ⟨f, hf⟩ := choose_lt each
    have hlen : ((List.range len).map f).length = len := by simp
    refine ⟨(List.range len).map f, some a, cap, by rw [hlen], by rw [hlen]; exact hl, (fun e => by cases e), fun hn => ?_⟩
    rw [hlen] at hn
    obtain ⟨b, off, sp⟩ := a
    have h0 := (hf 0 hn).1
    have hsp := World.cell?_spot h0
    simp [Addr.add] at hsp
    subst hsp
    refine ⟨b, off, rfl, ?_, fun j hj => ?_⟩
    · have := World.block_lt_of_cell? W _ h0
      rwa [add_block] at this
    · rw [hlen] at hj
      obtain ⟨g1, wv, g2, g3⟩ := hf j hj
      rw [add_at] at g1 g2
      simp only [List.getElem_map, List.getElem_range]
      exact ⟨g1, wv, by rw [Nat.add_assoc]; exact g2, g3⟩
/-- A policy that came in. -/
theorem pol_in {H : Type} {enc : TypeId × Value → H} {W : World} {base : Nat} {v : Value} {d : DataW H} {ps : List MemPlace} (hk : Value.okWide Tryd.prog W .any base 42 v) (h : DataW.Trod enc Tryd.prog W 0 (fun _ => true) true 42 v d ps) :
    ∃ (dv : Value) (r : Bool) (ds : List (ByteArray × List ByteArray)), v = .agg #[dv, .bool r] ∧ DirsV W dv ds := by
  obtain ⟨v0, v1, y0, y1, n, rfl, _, _, h0, h1⟩ := Go.Joins.open_agg2 Tryd.underlying42 (by kernel_rfl) (by kernel_rfl) hk h
  obtain ⟨b, hb, _⟩ := DataW.trod_bool Tryd.underlying4 h1
  injection hb with hb _
  subst hb
  obtain ⟨ds, hds⟩ := dirs_cell h0
  exact ⟨v0, b, ds, rfl, hds⟩

theorem pols_cell {H : Type} {enc : TypeId × Value → H} {W : World} {n : Nat} {v : Value} {y : DataW H × List MemPlace} (h : DataW.trod enc Tryd.prog W 0 (fun _ => true) true n 22 [v] = some y) : ∃ ps, PolsV W v ps := by
  rcases open_slice_fields Tryd.underlying22 Tryd.underlying42 (by kernel_rfl) (by kernel_rfl) h with ⟨hcs, _⟩ | ⟨a, len, cap, m, D, Pl, hcs, _, hl, _, hm, _, hi⟩
  · injection hcs with hcs _
    subst hcs
    exact ⟨[], none, 0, rfl, Nat.le_refl _, fun _ => rfl, fun h => absurd h (by simp)⟩
  · injection hcs with hcs _
    subst hcs
    simp only [if_true] at hm
    have each : ∀ i, i < len → ∃ x : PolB, ∃ dv, W.cell? (a.add (i * 2)) = some dv ∧ W.cell? (a.add (i * 2 + 1)) = some (.bool x.2) ∧ DirsV W dv x.1 := fun i him => by
      obtain ⟨ys, n', _, _, _, hf⟩ := hi i (by omega)
      obtain ⟨v0, y0, hc0, _, ht0⟩ := hf 0 _ rfl
      obtain ⟨v1, y1, hc1, _, ht1⟩ := hf 1 _ rfl
      obtain ⟨b, hb, _⟩ := DataW.trod_bool Tryd.underlying4 ht1
      injection hb with hb _
      subst hb
      obtain ⟨ds, hds⟩ := dirs_cell ht0
      exact ⟨(ds, b), v0, hc0, hc1, hds⟩
    obtain ⟨f, hf⟩ := choose_lt each
    have hlen : ((List.range len).map f).length = len := by simp
    refine ⟨(List.range len).map f, some a, cap, by rw [hlen], by rw [hlen]; exact hl, (fun e => by cases e), fun hn => ?_⟩
    rw [hlen] at hn
    obtain ⟨b, off, sp⟩ := a
    obtain ⟨dv0, h0, _⟩ := hf 0 hn
    have hsp := World.cell?_spot h0
    simp [Addr.add] at hsp
    subst hsp
    refine ⟨b, off, rfl, ?_, fun j hj => ?_⟩
    · have := World.block_lt_of_cell? W _ h0
      rwa [add_block] at this
    · rw [hlen] at hj
      obtain ⟨dv, g1, g2, g3⟩ := hf j hj
      rw [add_at] at g1 g2
      simp only [List.getElem_map, List.getElem_range]
      exact ⟨dv, g1, by rw [Nat.add_assoc]; exact g2, g3⟩
/-- Policies that came in. -/
theorem pols_in {H : Type} {enc : TypeId × Value → H} {W : World} {base : Nat} {v : Value} {d : DataW H} {ps : List MemPlace} (hk : Value.okWide Tryd.prog W .any base 22 v) (h : DataW.Trod enc Tryd.prog W 0 (fun _ => true) true 22 v d ps) :
    ∃ qs, PolsV W v qs := by
  obtain ⟨a0, len, cap, rfl⟩ := okWide_slice Tryd.underlying22 hk
  obtain ⟨fuel, hf⟩ := h
  exact pols_cell hf
/-- Makers that came in. -/
theorem makers_in {H : Type} {enc : TypeId × Value → H} {W : World} {base : Nat} {v : Value} {d : DataW H} {ps : List MemPlace} (hk : Value.okWide Tryd.prog W .any base 23 v) (h : DataW.Trod enc Tryd.prog W 0 (fun _ => true) true 23 v d ps) :
    ∃ (A : Option Addr) (n c : Nat) (ms : List ByteArray), v = .slice A n c ∧ Texts W A n ms ∧ (A = none → n = 0 ∧ c = 0) := by
  obtain ⟨a0, len, cap, rfl⟩ := okWide_slice Tryd.underlying23 hk
  obtain ⟨fuel, hf⟩ := h
  rcases open_slice_fields Tryd.underlying23 Tryd.underlying39 (by kernel_rfl) (by kernel_rfl) hf with ⟨hcs, _⟩ | ⟨a, len', cap', m, D, Pl, hcs, _, hl, _, hm, _, hi⟩
  · simp [Value.cells] at hcs
    obtain ⟨rfl, rfl, rfl⟩ := hcs
    exact ⟨none, 0, 0, [], rfl, Texts.nil _, fun _ => ⟨rfl, rfl⟩⟩
  · simp [Value.cells] at hcs
    obtain ⟨rfl, rfl, rfl⟩ := hcs
    simp only [if_true] at hm
    have each : ∀ i, i < len → ∃ x : ByteArray, W.cell? (a.add i) = some (.string x) := fun i him => by
      obtain ⟨ys, n', _, _, _, hf⟩ := hi i (by omega)
      obtain ⟨v0, y0, hc0, _, ht0⟩ := hf 0 _ rfl
      obtain ⟨s, hs, _⟩ := DataW.trod_string Tryd.underlying9 ht0
      obtain rfl : v0 = .string s := (List.cons.inj hs).1
      exact ⟨s, by have h : W.cell? (a.add (i * 1 + 0)) = some (.string s) := hc0; rwa [Nat.mul_one, Nat.add_zero] at h⟩
    obtain ⟨f, hf⟩ := choose_lt each
    have hlen : ((List.range len).map f).length = len := by simp
    refine ⟨some a, len, cap, (List.range len).map f, rfl, ⟨hlen, fun hn => ⟨a, rfl, ?_, fun j hj => ?_⟩⟩, fun e => by cases e⟩
    · have := World.block_lt_of_cell? W _ (hf 0 hn)
      rwa [add_block] at this
    · rw [hlen] at hj
      simp only [List.getElem_map, List.getElem_range]
      exact hf j hj
/-- A world in which the tables are laid. -/
noncomputable def laidWorld (os : Os) : World :=
  let w0 := World.holding Tryd.prog os ⟨#[], #[], []⟩
  let put (h : Array Obj) (g : Nat) (cs : Array Value) : Array Obj := h.modify g fun
    | .cells _ t frozen => .cells cs t frozen
    | o => o
  let h1 := put w0.heap 1 (Lib.firstTab.map fun z => Value.int .u8 z).toArray
  let h2 := put h1 2 ((List.range 16).flatMap fun i => [Value.int .u8 (Lib.accLo i), Value.int .u8 (Lib.accHi i)]).toArray
  { w0 with heap := h2 }
theorem named0 : Tryd.prog.globalNamed "unicode/utf8.first" = some 1 := by kernel_rfl
theorem named1 : Tryd.prog.globalNamed "unicode/utf8.acceptRanges" = some 2 := by kernel_rfl
end Go.Proofs.YtpjakdekaolmeaaDoor.Cl
