/- From a row to the walks: a url that came in; the package-level variables that the walks read; a world in which they are laid. -/
import Derived.Test.YtajokmcdhhiahaaGreatDoorLW
import Derived.Test.YtajokmcdhhiahaaGreatDoorClose
import Derived.Lib.LaidU8T
import Derived.Lib.LaidTab
import Derived.Deep.DeepHandedRow
import Derived.Lib.SmallJoins
namespace Go.Proofs.YtajokmcdhhiahaaGreatDoor.Cl
set_option maxRecDepth 100000
open Go Go.Joins Go.ChangeShapes Go.WideShapes Go.ChangeAt Go.RowKit Go.Deep

section
variable {H : Type} {enc : TypeId × Value → H} {P : Program} {w : World} {base : Nat} {spare : Nat → Bool} {held : Bool}
theorem open_agg6 {r : Reach} {b0 : Nat} {t : TypeId} {f0 f1 f2 f3 f4 f5 : Field} {v : Value} {d : DataW H} {p : List MemPlace} (hs : P.underlying t = some (.struct #[f0, f1, f2, f3, f4, f5])) (hone : oneCellFields P #[f0, f1, f2, f3, f4, f5] = true) (hC : P.cellsOf t = 6)
    (hv : Value.okWide P w r b0 t v) (h : DataW.Trod enc P w base spare held t v d p) :
    ∃ (v0 v1 v2 v3 v4 v5 : Value) (y0 y1 y2 y3 y4 y5 : DataW H × List MemPlace) (n : Nat), v = .agg #[v0, v1, v2, v3, v4, v5] ∧ d = .agg [y0.1, y1.1, y2.1, y3.1, y4.1, y5.1] ∧ p = y0.2 ++ (y1.2 ++ (y2.2 ++ (y3.2 ++ (y4.2 ++ y5.2)))) ∧
      DataW.trod enc P w base spare held n f0.type [v0] = some y0 ∧ DataW.trod enc P w base spare held n f1.type [v1] = some y1 ∧ DataW.trod enc P w base spare held n f2.type [v2] = some y2 ∧ DataW.trod enc P w base spare held n f3.type [v3] = some y3 ∧ DataW.trod enc P w base spare held n f4.type [v4] = some y4 ∧ DataW.trod enc P w base spare held n f5.type [v5] = some y5 := by
  obtain ⟨cs, rfl, hsz⟩ := okWide_struct hs hv
  obtain ⟨l⟩ := cs
  match l, hsz.trans hC with
  | [c0, c1, c2, c3, c4, c5], _ =>
    obtain ⟨fuel, hf⟩ := h
    obtain ⟨xs, n, _, hx, _, hlen, hg⟩ := DataW.trod_struct hs hf
    obtain ⟨o0, k0⟩ := hone_of hone 0 f0 rfl
    obtain ⟨o1, k1⟩ := hone_of hone 1 f1 rfl
    obtain ⟨o2, k2⟩ := hone_of hone 2 f2 rfl
    obtain ⟨o3, k3⟩ := hone_of hone 3 f3 rfl
    obtain ⟨o4, k4⟩ := hone_of hone 4 f4 rfl
    obtain ⟨o5, k5⟩ := hone_of hone 5 f5 rfl
    match xs, hlen with
    | [y0, y1, y2, y3, y4, y5], _ =>
      simp only [Prod.mk.injEq] at hx
      exact ⟨c0, c1, c2, c3, c4, c5, y0, y1, y2, y3, y4, y5, n, rfl, by simpa using hx.1, by simpa using hx.2, by simpa [Value.cells, o0, k0] using hg 0 f0 rfl, by simpa [Value.cells, o1, k1] using hg 1 f1 rfl, by simpa [Value.cells, o2, k2] using hg 2 f2 rfl, by simpa [Value.cells, o3, k3] using hg 3 f3 rfl, by simpa [Value.cells, o4, k4] using hg 4 f4 rfl, by simpa [Value.cells, o5, k5] using hg 5 f5 rfl⟩
end

/-- A url that came in. -/
theorem url_in {H : Type} {enc : TypeId × Value → H} {W : World} {base : Nat} {v : Value} {d : DataW H} {ps : List MemPlace} (hk : Value.okWide Tryz.prog W .any base 23 v) (h : DataW.Trod enc Tryz.prog W 0 (fun _ => true) true 23 v d ps) :
    ∃ (q : Bool) (sc ho : ByteArray) (p : Int) (pa qu : ByteArray), v = .agg #[.bool q, .string sc, .string ho, .int .i64 p, .string pa, .string qu] ∧ -9223372036854775808 ≤ p ∧ p ≤ 9223372036854775807 := by
  obtain ⟨v0, v1, v2, v3, v4, v5, y0, y1, y2, y3, y4, y5, n, rfl, _, _, t0, t1, t2, t3, t4, t5⟩ := open_agg6 Tryz.underlying23 (by kernel_rfl) (by kernel_rfl) hk h
  obtain ⟨q, h0, _⟩ := DataW.trod_bool Tryz.underlying4 t0
  obtain ⟨sc, h1, _⟩ := DataW.trod_string Tryz.underlying9 t1
  obtain ⟨ho, h2, _⟩ := DataW.trod_string Tryz.underlying9 t2
  obtain ⟨p, h3, _, hw⟩ := DataW.trod_int Tryz.underlying3 t3
  obtain ⟨pa, h4, _⟩ := DataW.trod_string Tryz.underlying9 t4
  obtain ⟨qu, h5, _⟩ := DataW.trod_string Tryz.underlying9 t5
  obtain rfl : v0 = .bool q := (List.cons.inj h0).1
  obtain rfl : v1 = .string sc := (List.cons.inj h1).1
  obtain rfl : v2 = .string ho := (List.cons.inj h2).1
  obtain rfl : v3 = .int .i64 p := (List.cons.inj h3).1
  obtain rfl : v4 = .string pa := (List.cons.inj h4).1
  obtain rfl : v5 = .string qu := (List.cons.inj h5).1
  simp only [Lit.wf, Bool.and_eq_true, decide_eq_true_eq, show IntKind.i64.min = -9223372036854775808 from rfl, show IntKind.i64.max = 9223372036854775807 from rfl] at hw
  exact ⟨q, sc, ho, p, pa, qu, rfl, hw.1, hw.2⟩

theorem tabIs_of_reads {P : Program} {W : World} {name : String} {k : IntKind} {zs : List Int} {g : Nat} {t e : TypeId} {n : Nat}
    (hg : P.globalNamed name = some g) (hty : (P.globals[g]?).map (·.type) = some t) (ht : P.underlying t = some (.array n e)) (he : P.underlying e = some (.int k)) (hce : P.cellsOf e = 1) (hct : P.cellsOf t = n)
    (h : Lib.VarReads P W name (Lib.tabData k zs)) : Lib.TabIs P W name k zs := by
  obtain ⟨g', t', cs, fuel, p, hg', ht', hvar, hd⟩ := h
  obtain rfl := Option.some.inj (hg.symm.trans hg')
  obtain rfl := Option.some.inj (hty.symm.trans ht')
  unfold Lib.TabIs
  rw [hvar, ← Lib.cells_of_tab ht he hce hct hd]
/-- An array of texts that reads as these texts holds them, cell for cell. -/
theorem cells_of_strs {H : Type} {enc : TypeId × Value → H} {P : Program} {w : World} {base : Nat} {sp : Nat → Bool} {held : Bool} {fuel : Nat} {t e : TypeId} {n : Nat} {cs : List Value} {ss : List ByteArray} {p : List MemPlace}
    (ht : P.underlying t = some (.array n e)) (he : P.underlying e = some .string) (hce : P.cellsOf e = 1) (hct : P.cellsOf t = n)
    (h : DataW.trod enc P w base sp held fuel t cs = some (.agg (ss.map fun s => .lit (.string s.data.toList)), p)) : cs = ss.map Value.string := by
  cases fuel with
  | zero => simp [DataW.trod] at h
  | succ fuel =>
    simp only [DataW.trod, ht, hce, hct, Nat.mul_one] at h
    split at h
    · rename_i hl
      obtain ⟨xs, hm, hx⟩ := Option.map_eq_some_iff.1 h
      have hxs : xs.map (·.1) = ss.map fun s => (DataW.lit (.string s.data.toList) : DataW H) := by
        have := congrArg Prod.fst hx
        simpa using this
      have hxl : xs.length = n := by simpa using Lib.mapM_length hm
      have hzl : ss.length = n := by
        have := congrArg List.length hxs
        simp at this
        omega
      apply List.ext_getElem?
      intro i
      by_cases hi : i < n
      · obtain ⟨b, hb, hf⟩ := Lib.mapM_at hm i i (by simp [hi])
        obtain ⟨z, hc, rfl, _⟩ := DataW.trod_string he hf
        have h1 : cs[i]? = some (.string z) := by
          have := congrArg (·[0]?) hc
          simpa [List.getElem?_take, List.getElem?_drop] using this
        have h2 : (xs.map (·.1))[i]? = some (DataW.lit (.string z.data.toList) : DataW H) := by simp [hb]
        rw [hxs] at h2
        simp only [List.getElem?_map, Option.map_eq_some_iff, DataW.lit.injEq, Lit.string.injEq] at h2
        obtain ⟨z', hz', hzz⟩ := h2
        obtain rfl : z' = z := by
          cases z'; cases z
          simpa using hzz
        simp [h1, hz']
      · rw [List.getElem?_eq_none (by omega), List.getElem?_eq_none (by simp; omega)]
    · cases h
/-- A variable of an integer's type holds some integer. -/
theorem int_of_shape {P : Program} {w : World} {g : Nat} {t : TypeId} {zero : Array Value} {k : IntKind} (h : w.ShapedOpen P) (hg : g < P.globals.size)
    (h0 : ((begin P (fun _ _ => 0) default).world.heap[g]?).bind Obj.row? = some (zero, t)) (hz : zero.size = 1)
    (hb : P.buildable t = true) (hc : P.cellTypes P.depth t = some [t]) (hu : P.underlying t = some (.int k)) : ∃ n, w.cell? ⟨g, 0, none⟩ = some (.int k n) := by
  obtain ⟨cs, hh, hs, hr⟩ := h.1 g zero t hg h0
  obtain ⟨ts, hts, _, hall⟩ := hr hb
  rw [hc] at hts
  cases hts
  have h1 : 0 < cs.size := by omega
  obtain ⟨u, hu', hok⟩ := hall 0 cs[0] (by simp [h1])
  have : u = t := by simpa using hu'.symm
  subst this
  have hcell : w.cell? ⟨g, 0, none⟩ = some cs[0] := by simp [World.cell?, hh, h1]
  rw [hcell]
  unfold Cell.ok at hok
  rw [hu] at hok
  cases hv : cs[0] <;> rw [hv] at hok <;> first | (simp at hok; done) | (obtain ⟨rfl, _⟩ := hok; exact ⟨_, rfl⟩) | (simp only [] at hok; exact ⟨_, by simp_all⟩)

theorem pow10_eq : Rows.laid_internal_strconv_uint64pow10 (H := Unit) = Lib.tabData .u64 Lib.pow10Tab := by kernel_rfl
theorem steps_eq : Rows.laid_pounce_mark_steps (H := Unit) = Lib.tabData .u64 [257, 65539] := by kernel_rfl
theorem kept_eq : Rows.laid_pounce_source_kept (H := Unit) = .agg (keptL.map fun s => .lit (.string s.data.toList)) := by kernel_rfl
/-- The variables that the walks read, off what the row lays. -/
theorem gl_of {W : World} (h : laidMetH Tryz.prog Rows.topSelfRow.laid W) (hsh : W.ShapedOpen Tryz.prog) : Gl W := by
  have r1 : Lib.VarReads Tryz.prog W "internal/strconv.uint64pow10" Rows.laid_internal_strconv_uint64pow10 := Lib.laidMet.reads h (.tail _ (.tail _ (.head _)))
  have r2 : Lib.VarReads Tryz.prog W "pounce/mark.steps" Rows.laid_pounce_mark_steps := Lib.laidMet.reads h (.tail _ (.tail _ (.tail _ (.head _))))
  have r3 : Lib.VarReads Tryz.prog W "pounce/source.kept" Rows.laid_pounce_source_kept := Lib.laidMet.reads h (.tail _ (.tail _ (.tail _ (.tail _ (.tail _ (.tail _ (.tail _ (.head _))))))))
  rw [pow10_eq] at r1
  rw [steps_eq] at r2
  rw [kept_eq] at r3
  have g5 : Tryz.prog.globalNamed "pounce/mark.steps" = some 5 := by kernel_rfl
  have t1 := tabIs_of_reads (g := 3) (t := 152) (n := 20) (by kernel_rfl) (by kernel_rfl) Tryz.underlying152 Tryz.underlying124 (by kernel_rfl) (by kernel_rfl) r1
  have t2 := tabIs_of_reads g5 (t := 182) (n := 2) (by kernel_rfl) Tryz.underlying182 Tryz.underlying124 (by kernel_rfl) (by kernel_rfl) r2
  refine ⟨int_of_shape hsh (by decide +kernel) (zero := #[.int .i64 0]) (t := 3) (by kernel_rfl) rfl (by kernel_rfl) (by kernel_rfl) Tryz.underlying3, t1, t2.cell g5 0 (by decide), t2.cell g5 1 (by decide), fun i hi => ?_⟩
  obtain ⟨g', t', cs, fuel, p, hg', ht', hvar, hd⟩ := r3
  have g4 : Tryz.prog.globalNamed "pounce/source.kept" = some 4 := by kernel_rfl
  have ty4 : (Tryz.prog.globals[4]?).map (·.type) = some 173 := by kernel_rfl
  obtain rfl := Option.some.inj (g4.symm.trans hg')
  obtain rfl := Option.some.inj (ty4.symm.trans ht')
  have hcs := cells_of_strs (n := 9) Tryz.underlying173 Tryz.underlying9 (by kernel_rfl) (by kernel_rfl) hd
  have hvar' : W.var? Tryz.prog "pounce/source.kept" = some (keptL.map Value.string).toArray := by rw [hvar, ← hcs]
  have := World.var?_cell g4 hvar' i
  simpa [hi] using this

/-- The cells of a plain datum. -/
noncomputable def litCells : DataW Unit → Array Value
  | .agg l => (l.map fun
    | .lit (.int k z) => Value.int k z
    | .lit (.string b) => Value.string ⟨b.toArray⟩
    | _ => undef).toArray
  | _ => #[]
noncomputable def low : Nat := (World.holding Tryz.prog default ⟨#[], #[], []⟩).heap.size
/-- A world in which the variables are laid. -/
noncomputable def laidWorld (os : Os) : World :=
  let w0 := World.holding Tryz.prog os ⟨#[.cells #[.string ⟨#[105, 110, 118, 97, 108, 105, 100, 32, 115, 121, 110, 116, 97, 120]⟩] 204, .cells #[.string ⟨#[118, 97, 108, 117, 101, 32, 111, 117, 116, 32, 111, 102, 32, 114, 97, 110, 103, 101]⟩] 204], #[], []⟩
  let put (h : Array Obj) (g : Nat) (cs : Array Value) : Array Obj := h.modify g fun
    | .cells _ t frozen => .cells cs t frozen
    | o => o
  let h1 := put w0.heap 1 (Lib.firstTab.map fun z => Value.int .u8 z).toArray
  let h2 := put h1 2 ((List.range 16).flatMap fun i => [Value.int .u8 (Lib.accLo i), Value.int .u8 (Lib.accHi i)]).toArray
  let h3 := put h2 3 (litCells Rows.laid_internal_strconv_uint64pow10)
  let h4 := put h3 4 (litCells Rows.laid_pounce_source_kept)
  let h5 := put h4 5 (litCells Rows.laid_pounce_mark_steps)
  let h6 := put h5 6 (litCells Rows.laid_math_bits_deBruijn32tab)
  let h7 := put h6 7 (litCells Rows.laid_math_bits_deBruijn64tab)
  let h8 := put h7 8 #[.iface 202 (.pointer (some ⟨low, 0, none⟩))]
  let h9 := put h8 9 #[.iface 202 (.pointer (some ⟨low + 1, 0, none⟩))]
  { w0 with heap := h9 }
end Go.Proofs.YtajokmcdhhiahaaGreatDoor.Cl
