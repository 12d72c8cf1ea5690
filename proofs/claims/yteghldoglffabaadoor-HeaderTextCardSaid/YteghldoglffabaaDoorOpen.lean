/- From a row to the walks: a policy that came in; a world in which the two tables of the library's utf8 are laid. -/
import Derived.Test.YteghldoglffabaaDoorHY
import Derived.Test.YteghldoglffabaaDoorClose
import Derived.Lib.LaidU8T
import Derived.Lib.LaidTab
import Derived.Deep.DeepHandedRow
import Derived.Lib.SmallJoins
import Derived.Deep.Slices
import Derived.Deep.Fields
import Derived.ChangeSame
namespace Go.Proofs.YteghldoglffabaaDoor.Cl
open Go Go.ChangeShapes Go.WideShapes Go.ChangeAt Go.RowKit Go.Deep

section
variable {H : Type} {enc : TypeId × Value → H} {P : Program} {w : World} {base : Nat} {spare : Nat → Bool} {held : Bool}
theorem open_slice_fields {t e : TypeId} {fs : Array Field} {fuel : Nat} {cs : List Value} {x : DataW H × List MemPlace} (ht : P.underlying t = some (.slice e)) (he : P.underlying e = some (.struct fs))
    (hone : oneCellFields P fs = true) (hC : P.cellsOf e = fs.size) (h : DataW.trod enc P w base spare held fuel t cs = some x) :
    (cs = [.slice none 0 0] ∧ x = (.nil, [])) ∨
    ∃ (a : Addr) (len cap m : Nat) (D : Nat → DataW H) (Pl : Nat → List MemPlace), cs = [.slice (some a) len cap] ∧ base ≤ a.block ∧ len ≤ cap ∧ cap ≤ maxLen ∧ m = (if spare a.block then cap else len) ∧
      x = (.slice ((List.range len).map D) ((List.range (m - len)).map fun j => D (len + j)), MemPlace.row a (m * fs.size) ++ (List.range m).flatMap Pl) ∧
      ∀ i, i < m → ∃ (ys : List (DataW H × List MemPlace)) (n : Nat), D i = .agg (ys.map (·.1)) ∧ Pl i = ys.flatMap (·.2) ∧ ys.length = fs.size ∧
        ∀ (j : Nat) (f : Field), fs[j]? = some f → ∃ (v : Value) (y : DataW H × List MemPlace), w.cell? (a.add (i * fs.size + j)) = some v ∧ ys[j]? = some y ∧ DataW.trod enc P w base spare held n f.type [v] = some y := by
  rcases open_slice ht h with h0 | ⟨a, len, cap, m, n, D, Pl, hcs, hb, hl, hm, hmm, hx, hi⟩
  · exact .inl h0
  · refine .inr ⟨a, len, cap, m, D, Pl, hcs, hb, hl, hm, hmm, by rw [hC] at hx; exact hx, fun i him => ?_⟩
    obtain ⟨cs', hc, ht'⟩ := hi i him
    rw [hC] at hc
    obtain ⟨ys, n', hn', hy, hlen, hyl, hf⟩ := DataW.trod_struct he ht'
    obtain ⟨_, hcl, hat⟩ := World.cells?_some hc
    simp only [Prod.mk.injEq] at hy
    refine ⟨ys, n', hy.1, hy.2, hyl, fun j f hj => ?_⟩
    obtain ⟨ho, hk⟩ := hone_of hone j f hj
    have hjl : j < fs.size := (Array.getElem?_eq_some_iff.1 hj).1
    have hcell := hat j hjl
    have hv : cs'[j]? = some (cs'[j]'(by omega)) := List.getElem?_eq_getElem (by omega)
    have h1 := hf j f hj
    rw [ho, hk] at h1
    have hone' : (cs'.drop j).take 1 = [cs'[j]'(by omega)] := by
      rw [List.drop_eq_getElem_cons (by omega)]
      rfl
    rw [hone'] at h1
    have hys : ys[j]? = some (ys[j]'(by omega)) := List.getElem?_eq_getElem (by omega)
    refine ⟨_, _, ?_, hys, h1.trans hys⟩
    rw [← Go.Deep.add_add, hcell, hv]
end

theorem cells9 : Tryd.prog.cellsOf 9 = 1 := by kernel_rfl
theorem texts_cell {H : Type} {enc : TypeId × Value → H} {W : World} {n : Nat} {v : Value} {y : DataW H × List MemPlace} (h : DataW.trod enc Tryd.prog W 0 (fun _ => true) true n 32 [v] = some y) : ∃ ss, TextsV W v ss := by
  rcases open_strings Tryd.underlying32 Tryd.underlying9 cells9 h with ⟨hcs, _⟩ | ⟨a, len, cap, ss, hcs, _, hl, _, hz, _, hcell, _⟩
  · injection hcs with hcs _
    subst hcs
    exact ⟨[], none, 0, rfl, Nat.le_refl _, fun _ => rfl, Texts.nil _⟩
  · injection hcs with hcs _
    subst hcs
    simp only [if_true] at hz
    have hln : (ss.take len).length = len := by rw [List.length_take]; omega
    have hcc : ∀ j, j < len → W.cell? (a.add j) = some (.string (ss.getD j ByteArray.empty)) := fun j hj => hcell j (by omega)
    refine ⟨ss.take len, some a, cap, by rw [hln], by rw [hln]; exact hl, (fun e => by cases e), rfl, fun hn => ⟨a, rfl, ?_, fun j hj => ?_⟩⟩
    · rw [hln] at hn
      have := World.block_lt_of_cell? W _ (hcc 0 hn)
      rwa [add_block] at this
    · rw [hln] at hj
      rw [hcc j hj, List.getElem_take, List.getD_eq_getElem?_getD, List.getElem?_eq_getElem (show j < ss.length by omega)]
      rfl
theorem dirs_cell {H : Type} {enc : TypeId × Value → H} {W : World} {n : Nat} {v : Value} {y : DataW H × List MemPlace} (h : DataW.trod enc Tryd.prog W 0 (fun _ => true) true n 27 [v] = some y) : ∃ ds, DirsV W v ds := by
  rcases open_slice_fields Tryd.underlying27 Tryd.underlying42 (by kernel_rfl) (by kernel_rfl) h with ⟨hcs, _⟩ | ⟨a, len, cap, m, D, Pl, hcs, _, hl, _, hm, _, hi⟩
  · injection hcs with hcs _
    subst hcs
    exact ⟨[], none, 0, rfl, Nat.le_refl _, fun _ => rfl, fun h => absurd h (by simp)⟩
  · injection hcs with hcs _
    subst hcs
    simp only [if_true] at hm
    have each : ∀ i, i < len → ∃ x : ByteArray × List ByteArray, W.cell? (a.add (i * 2)) = some (.string x.1) ∧ ∃ wv, W.cell? (a.add (i * 2 + 1)) = some wv ∧ TextsV W wv x.2 := fun i him => by
      obtain ⟨ys, n', _, _, _, hf⟩ := hi i (by omega)
      obtain ⟨v0, y0, hc0, _, ht0⟩ := hf 0 _ rfl
      obtain ⟨v1, y1, hc1, _, ht1⟩ := hf 1 _ rfl
      obtain ⟨s, hs, _⟩ := DataW.trod_string Tryd.underlying9 ht0
      injection hs with hs _
      subst hs
      obtain ⟨ss, hss⟩ := texts_cell ht1
      exact ⟨(s, ss), hc0, v1, hc1, hss⟩
    obtain ⟨f, hf⟩ := choose_lt each
    have hlen : ((List.range len).map f).length = len := by simp
    refine ⟨(List.range len).map f, some a, cap, by rw [hlen], by rw [hlen]; exact hl, (fun e => by cases e), fun hn => ?_⟩
    rw [hlen] at hn
    obtain ⟨b, off, sp⟩ := a
    have h0 := (hf 0 hn).1
    have hsp := World.cell?_spot h0
    simp [Addr.add] at hsp
    subst hsp
    refine ⟨b, off, rfl, ?_, fun j hj => ?_⟩
    · have := World.block_lt_of_cell? W _ h0
      rwa [add_block] at this
    · rw [hlen] at hj
      obtain ⟨g1, wv, g2, g3⟩ := hf j hj
      rw [add_at] at g1 g2
      simp only [List.getElem_map, List.getElem_range]
      exact ⟨g1, wv, by rw [Nat.add_assoc]; exact g2, g3⟩
/-- A policy that came in. -/
theorem pol_in {H : Type} {enc : TypeId × Value → H} {W : World} {base : Nat} {v : Value} {d : DataW H} {ps : List MemPlace} (hk : Value.okWide Tryd.prog W .any base 29 v) (h : DataW.Trod enc Tryd.prog W 0 (fun _ => true) true 29 v d ps) :
    ∃ (dv : Value) (r : Bool) (ds : List (ByteArray × List ByteArray)), v = .agg #[dv, .bool r] ∧ DirsV W dv ds := by
  obtain ⟨v0, v1, y0, y1, n, rfl, _, _, h0, h1⟩ := Go.Joins.open_agg2 Tryd.underlying29 (by kernel_rfl) (by kernel_rfl) hk h
  obtain ⟨b, hb, _⟩ := DataW.trod_bool Tryd.underlying4 h1
  injection hb with hb _
  subst hb
  obtain ⟨ds, hds⟩ := dirs_cell h0
  exact ⟨v0, b, ds, rfl, hds⟩

/-- A world in which the tables are laid. -/
noncomputable def laidWorld (os : Os) : World :=
  let w0 := World.holding Tryd.prog os ⟨#[], #[], []⟩
  let put (h : Array Obj) (g : Nat) (cs : Array Value) : Array Obj := h.modify g fun
    | .cells _ t frozen => .cells cs t frozen
    | o => o
  let h1 := put w0.heap 1 (Lib.firstTab.map fun z => Value.int .u8 z).toArray
  let h2 := put h1 2 ((List.range 16).flatMap fun i => [Value.int .u8 (Lib.accLo i), Value.int .u8 (Lib.accHi i)]).toArray
  { w0 with heap := h2 }
theorem named0 : Tryd.prog.globalNamed "unicode/utf8.first" = some 1 := by kernel_rfl
theorem named1 : Tryd.prog.globalNamed "unicode/utf8.acceptRanges" = some 2 := by kernel_rfl
end Go.Proofs.YteghldoglffabaaDoor.Cl
