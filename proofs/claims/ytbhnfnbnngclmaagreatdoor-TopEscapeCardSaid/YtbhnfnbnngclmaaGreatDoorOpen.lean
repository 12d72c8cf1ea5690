/- From a row to the walks: the package-level variables that the walks read; a world in which they are laid. -/
import Derived.Test.YtbhnfnbnngclmaaGreatDoorEY
import Derived.Test.YtbhnfnbnngclmaaGreatDoorClose
import Derived.Lib.LaidU8T
import Derived.Lib.LaidTab
import Derived.Deep.DeepHandedRow
import Derived.Lib.SmallJoins
namespace Go.Proofs.YtbhnfnbnngclmaaGreatDoor.Cl
set_option maxRecDepth 100000
open Go Go.Joins Go.ChangeShapes Go.WideShapes Go.ChangeAt Go.RowKit Go.Deep

/-- An array of texts that reads as these texts holds them, cell for cell. -/
theorem cells_of_strs {H : Type} {enc : TypeId × Value → H} {P : Program} {w : World} {base : Nat} {sp : Nat → Bool} {held : Bool} {fuel : Nat} {t e : TypeId} {n : Nat} {cs : List Value} {ss : List ByteArray} {p : List MemPlace}
    (ht : P.underlying t = some (.array n e)) (he : P.underlying e = some .string) (hce : P.cellsOf e = 1) (hct : P.cellsOf t = n)
    (h : DataW.trod enc P w base sp held fuel t cs = some (.agg (ss.map fun s => .lit (.string s.data.toList)), p)) : cs = ss.map Value.string := by
  cases fuel with
  | zero => simp [DataW.trod] at h
  | succ fuel =>
    simp only [DataW.trod, ht, hce, hct, Nat.mul_one] at h
    split at h
    · rename_i hl
      obtain ⟨xs, hm, hx⟩ := Option.map_eq_some_iff.1 h
      have hxs : xs.map (·.1) = ss.map fun s => (DataW.lit (.string s.data.toList) : DataW H) := by
        have := congrArg Prod.fst hx
        simpa using this
      have hxl : xs.length = n := by simpa using Lib.mapM_length hm
      have hzl : ss.length = n := by
        have := congrArg List.length hxs
        simp at this
        omega
      apply List.ext_getElem?
      intro i
      by_cases hi : i < n
      · obtain ⟨b, hb, hf⟩ := Lib.mapM_at hm i i (by simp [hi])
        obtain ⟨z, hc, rfl, _⟩ := DataW.trod_string he hf
        have h1 : cs[i]? = some (.string z) := by
          have := congrArg (·[0]?) hc
          simpa [List.getElem?_take, List.getElem?_drop] using this
        have h2 : (xs.map (·.1))[i]? = some (DataW.lit (.string z.data.toList) : DataW H) := by simp [hb]
        rw [hxs] at h2
        simp only [List.getElem?_map, Option.map_eq_some_iff, DataW.lit.injEq, Lit.string.injEq] at h2
        obtain ⟨z', hz', hzz⟩ := h2
        obtain rfl : z' = z := by
          cases z'; cases z
          simpa using hzz
        simp [h1, hz']
      · rw [List.getElem?_eq_none (by omega), List.getElem?_eq_none (by simp; omega)]
    · cases h
/-- A variable of an integer's type holds some integer. -/
theorem int_of_shape {P : Program} {w : World} {g : Nat} {t : TypeId} {zero : Array Value} {k : IntKind} (h : w.ShapedOpen P) (hg : g < P.globals.size)
    (h0 : ((begin P (fun _ _ => 0) default).world.heap[g]?).bind Obj.row? = some (zero, t)) (hz : zero.size = 1)
    (hb : P.buildable t = true) (hc : P.cellTypes P.depth t = some [t]) (hu : P.underlying t = some (.int k)) : ∃ n, w.cell? ⟨g, 0, none⟩ = some (.int k n) := by
  obtain ⟨cs, hh, hs, hr⟩ := h.1 g zero t hg h0
  obtain ⟨ts, hts, _, hall⟩ := hr hb
  rw [hc] at hts
  cases hts
  have h1 : 0 < cs.size := by omega
  obtain ⟨u, hu', hok⟩ := hall 0 cs[0] (by simp [h1])
  have : u = t := by simpa using hu'.symm
  subst this
  have hcell : w.cell? ⟨g, 0, none⟩ = some cs[0] := by simp [World.cell?, hh, h1]
  rw [hcell]
  unfold Cell.ok at hok
  rw [hu] at hok
  cases hv : cs[0] <;> rw [hv] at hok <;> first | (simp at hok; done) | (obtain ⟨rfl, _⟩ := hok; exact ⟨_, rfl⟩) | (simp only [] at hok; exact ⟨_, by simp_all⟩)

/-- An array of pairs of texts. -/
theorem cells_of_pairs {H : Type} {enc : TypeId × Value → H} {P : Program} {w : World} {base : Nat} {sp : Nat → Bool} {held : Bool} {fuel : Nat} {t e s : TypeId} {n : Nat} {cs : List Value} {ss : List (ByteArray × ByteArray)} {p : List MemPlace}
    (ht : P.underlying t = some (.array n e)) (he : P.underlying e = some (.array 2 s)) (hs : P.underlying s = some .string) (hcs : P.cellsOf s = 1) (hce : P.cellsOf e = 2) (hct : P.cellsOf t = n * 2)
    (h : DataW.trod enc P w base sp held fuel t cs = some (.agg (ss.map fun q => .agg ([q.1, q.2].map fun s => .lit (.string s.data.toList))), p)) : ∀ (i : Nat) (hi : i < ss.length), cs[i * 2]? = some (.string ss[i].1) ∧ cs[i * 2 + 1]? = some (.string ss[i].2) := by
  cases fuel with
  | zero => simp [DataW.trod] at h
  | succ fuel =>
    simp only [DataW.trod, ht, hce, hct] at h
    split at h
    · rename_i hl
      obtain ⟨xs, hm, hx⟩ := Option.map_eq_some_iff.1 h
      have hxs : xs.map (·.1) = ss.map fun q => (DataW.agg ([q.1, q.2].map fun s => .lit (.string s.data.toList)) : DataW H) := by
        have := congrArg Prod.fst hx
        simpa using this
      have hxl : xs.length = n := by simpa using Lib.mapM_length hm
      have hzl : ss.length = n := by
        have := congrArg List.length hxs
        simp at this
        omega
      intro i hi
      obtain ⟨b, hb, hf⟩ := Lib.mapM_at hm i i (by simp [show i < n by omega])
      have h2 : (xs.map (·.1))[i]? = some b.1 := by simp [hb]
      rw [hxs, List.getElem?_map, List.getElem?_eq_getElem hi] at h2
      obtain ⟨b1, b2⟩ := b
      obtain rfl : _ = b1 := Option.some.inj h2
      have hc := cells_of_strs he hs hcs hce hf
      have h0 := congrArg (·[0]?) hc
      have h1 := congrArg (·[1]?) hc
      simp [List.getElem?_take, List.getElem?_drop] at h0 h1
      exact ⟨h0, h1⟩
    · cases h
theorem names_eq : Rows.laid_pounce_entity_names (H := Unit) = .agg (nms.map fun q => .agg ([q.1, q.2].map fun s => .lit (.string s.data.toList))) := by kernel_rfl
/-- The variables that the walks read, off what the row lays. -/
theorem gn_of {W : World} (h : laidMetH Tryz.prog Rows.topEscapeRow.laid W) (hsh : W.ShapedOpen Tryz.prog) : GN W := by
  have r3 : Lib.VarReads Tryz.prog W "pounce/entity.names" Rows.laid_pounce_entity_names := Lib.laidMet.reads h (.tail _ (.tail _ (.tail _ (.tail _ (.tail _ (.tail _ (.head _)))))))
  rw [names_eq] at r3
  obtain ⟨g', t', cs, fuel, p, hg', ht', hvar, hd⟩ := r3
  have g4 : Tryz.prog.globalNamed "pounce/entity.names" = some 0 := by kernel_rfl
  have ty4 : (Tryz.prog.globals[0]?).map (·.type) = some 46 := by kernel_rfl
  obtain rfl := Option.some.inj (g4.symm.trans hg')
  obtain rfl := Option.some.inj (ty4.symm.trans ht')
  have hcs := cells_of_pairs (n := 10) Tryz.underlying46 Tryz.underlying45 Tryz.underlying9 (by kernel_rfl) (by kernel_rfl) (by kernel_rfl) hd
  refine ⟨int_of_shape hsh (by decide +kernel) (zero := #[.int .i64 0]) (t := 3) (by kernel_rfl) rfl (by kernel_rfl) (by kernel_rfl) Tryz.underlying3, fun i hi => ?_, fun i hi => ?_⟩
  · have := World.var?_cell g4 hvar (i * 2)
    rw [this]
    simpa using (hcs i hi).1
  · have := World.var?_cell g4 hvar (i * 2 + 1)
    rw [this]
    simpa using (hcs i hi).2

/-- The cells of a plain datum. -/
noncomputable def litCells : DataW Unit → Array Value
  | .agg l => (l.map fun
    | .lit (.int k z) => Value.int k z
    | .lit (.string b) => Value.string ⟨b.toArray⟩
    | _ => undef).toArray
  | _ => #[]
noncomputable def low : Nat := (World.holding Tryz.prog default ⟨#[], #[], []⟩).heap.size
/-- A world in which the variables are laid. -/
noncomputable def laidWorld (os : Os) : World :=
  let w0 := World.holding Tryz.prog os ⟨#[.cells #[.string ⟨#[105, 110, 118, 97, 108, 105, 100, 32, 115, 121, 110, 116, 97, 120]⟩] 193, .cells #[.string ⟨#[118, 97, 108, 117, 101, 32, 111, 117, 116, 32, 111, 102, 32, 114, 97, 110, 103, 101]⟩] 193], #[], []⟩
  let put (h : Array Obj) (g : Nat) (cs : Array Value) : Array Obj := h.modify g fun
    | .cells _ t frozen => .cells cs t frozen
    | o => o
  let h1 := put w0.heap 2 (Lib.firstTab.map fun z => Value.int .u8 z).toArray
  let h2 := put h1 3 ((List.range 16).flatMap fun i => [Value.int .u8 (Lib.accLo i), Value.int .u8 (Lib.accHi i)]).toArray
  let h3 := put h2 6 (litCells Rows.laid_internal_strconv_uint64pow10)
  let h4 := put h3 0 (nms.flatMap fun q => [Value.string q.1, Value.string q.2]).toArray
  let h6 := put h4 7 (litCells Rows.laid_math_bits_deBruijn32tab)
  let h7 := put h6 8 (litCells Rows.laid_math_bits_deBruijn64tab)
  let h8 := put h7 4 #[.iface 191 (.pointer (some ⟨low, 0, none⟩))]
  let h9 := put h8 5 #[.iface 191 (.pointer (some ⟨low + 1, 0, none⟩))]
  { w0 with heap := h9 }
end Go.Proofs.YtbhnfnbnngclmaaGreatDoor.Cl
