/- From a row to the walks: a slice of numbers or of bytes that came in, and the two tables of the library's utf8. -/
import Derived.Test.YtfhkjegmhnpgeaaDoorQ
import Derived.Test.YtfhkjegmhnpgeaaDoorClose
import Derived.Lib.LaidU8T
import Derived.Lib.LaidTab
import Derived.Deep.DeepHandedRow
namespace Go.Proofs.YtfhkjegmhnpgeaaDoor.Cl
open Go Go.ChangeShapes Go.WideShapes Go.ChangeAt Go.RowKit

theorem nums_in {H : Type} {enc : TypeId × Value → H} {P : Program} {W : World} {t e : TypeId} {k : IntKind} {base : Nat} (ht : P.underlying t = some (.slice e)) (he : P.underlying e = some (.int k)) (hc : P.cellsOf e = 1) {v : Value} {d : DataW H} {ps : List MemPlace}
    (hk : Value.okWide P W .any base t v) (h : DataW.Trod enc P W 0 (fun _ => true) true t v d ps) :
    ∃ (A : Option Addr) (n c : Nat) (zs : List Int), v = .slice A n c ∧ zs.length = n ∧ n ≤ c ∧ (A = none → c = 0) ∧
      (0 < n → ∃ ad, A = some ad ∧ ad.block < W.heap.size ∧ ∀ j, j < n → W.cell? (ad.add j) = some (.int k (zs.getD j 0))) ∧ (∀ z ∈ zs, (Lit.int k z).wf = true) := by
  obtain ⟨a0, len, cap, rfl⟩ := okWide_slice ht hk
  obtain ⟨fuel, hf⟩ := h
  rcases open_ints ht he hc hf with ⟨hcs, hx⟩ | ⟨a, len', cap', zs, hcs, _, hl, hm, hz, hx, hcell, hws⟩
  · simp [Value.cells] at hcs
    obtain ⟨rfl, rfl, rfl⟩ := hcs
    exact ⟨none, 0, 0, [], rfl, rfl, by omega, fun _ => rfl, fun h => absurd h (by omega), fun s hs => by cases hs⟩
  · simp [Value.cells] at hcs
    obtain ⟨rfl, rfl, rfl⟩ := hcs
    simp only [if_true] at hz
    have hln : (zs.take len).length = len := by rw [List.length_take]; omega
    refine ⟨some a, len, cap, zs.take len, rfl, hln, hl, (fun h => by cases h), fun hn => ⟨a, rfl, ?_, fun j hj => ?_⟩, fun s hs => hws s (List.mem_of_mem_take hs)⟩
    · have := World.block_lt_of_cell? W _ (hcell 0 (by omega))
      have e : (a.add 0).block = a.block := by unfold Addr.add; split <;> rfl
      rwa [e] at this
    · rw [hcell j (by omega)]
      simp only [List.getD_eq_getElem?_getD, List.getElem?_take, if_pos hj]
theorem row_in {W : World} {A : Option Addr} {n : Nat} {zs : List Int} (hl : zs.length = n) (h : 0 < n → ∃ ad, A = some ad ∧ ad.block < W.heap.size ∧ ∀ j, j < n → W.cell? (ad.add j) = some (.int .i64 (zs.getD j 0))) : Row W A n (ic zs) :=
  ⟨by rw [ic_length]; exact hl, fun hn => by
    obtain ⟨ad, e, hlt, hc⟩ := h hn
    refine ⟨ad, e, hlt, fun j u hj => ?_⟩
    have hj' : j < n := by have := (List.getElem?_eq_some_iff.1 hj).1; rw [ic_length] at this; omega
    rw [hc j hj', ← hj]
    simp [ic, List.getD_eq_getElem?_getD, List.getElem?_eq_getElem (show j < zs.length by omega)]⟩
def bytesOf (zs : List Int) : List UInt8 := zs.map fun z => UInt8.ofNat z.toNat
theorem bytes_in {W : World} {A : Option Addr} {n : Nat} {zs : List Int} (hl : zs.length = n) (h : 0 < n → ∃ ad, A = some ad ∧ ad.block < W.heap.size ∧ ∀ j, j < n → W.cell? (ad.add j) = some (.int .u8 (zs.getD j 0))) (hw : ∀ z ∈ zs, (Lit.int .u8 z).wf = true) : BytesIn W A n (bytesOf zs) :=
  ⟨by simp [bytesOf, hl], fun hn => by
    obtain ⟨ad, rfl, hlt, hc⟩ := h hn
    obtain ⟨b, off, sp⟩ := ad
    cases sp with
    | some sp =>
      have := World.cell?_spot (hc 0 hn)
      simp [Addr.add] at this
    | none =>
      refine ⟨b, off, rfl, hlt, fun j u hj => ?_⟩
      have hj' : j < n := by have := (List.getElem?_eq_some_iff.1 hj).1; rw [Lib.byteCells_length] at this; simp [bytesOf] at this; omega
      have hjz : j < zs.length := by omega
      have := hc j hj'
      rw [add_at] at this
      rw [this, ← hj]
      have hwf := hw zs[j] (List.getElem_mem hjz)
      simp only [Lit.wf, Bool.and_eq_true, decide_eq_true_eq, show IntKind.u8.min = 0 from rfl, show IntKind.u8.max = 255 from rfl] at hwf
      simp [Lib.byteCells, bytesOf, List.getD_eq_getElem?_getD, List.getElem?_eq_getElem hjz]
      omega⟩

def rn : Shelf.Ren := ⟨fun x => x, fun t => if t = 119 then 66 else if t = 138 then 68 else if t = 139 then 69 else t, fun g => g - 3⟩
theorem u8types : U8Types Tryd.prog rn := ⟨by kernel_rfl, by kernel_rfl, by kernel_rfl, by kernel_rfl⟩
theorem u8extra : U8Extra Tryd.prog rn := ⟨by kernel_rfl, by kernel_rfl, by kernel_rfl, by kernel_rfl, by kernel_rfl, by kernel_rfl, by kernel_rfl⟩
theorem firstData_eq : Rows.laid_unicode_utf8_first = Lib.firstData := by kernel_rfl
theorem acceptData_eq : Rows.laid_unicode_utf8_acceptRanges (H := Unit) = Lib.acceptData := by kernel_rfl
/-- The two tables, off what the row lays. -/
theorem tabs_of {W : World} (h : laidMetH Tryd.prog [("unicode/utf8.acceptRanges", Rows.laid_unicode_utf8_acceptRanges), ("unicode/utf8.first", Rows.laid_unicode_utf8_first)] W) : T W := by
  rw [firstData_eq, acceptData_eq] at h
  exact utf8Tabs_of_readsT u8types u8extra (Lib.laidMet.reads h (.tail _ (.head _))) (Lib.laidMet.reads h (.head _))
/-- A world in which the tables are laid. -/
noncomputable def laidWorld (os : Os) : World :=
  let w0 := World.holding Tryd.prog os ⟨#[], #[], []⟩
  let put (h : Array Obj) (g : Nat) (cs : Array Value) : Array Obj := h.modify g fun
    | .cells _ t frozen => .cells cs t frozen
    | o => o
  let h1 := put w0.heap 0 (Lib.firstTab.map fun z => Value.int .u8 z).toArray
  let h2 := put h1 1 ((List.range 16).flatMap fun i => [Value.int .u8 (Lib.accLo i), Value.int .u8 (Lib.accHi i)]).toArray
  { w0 with heap := h2 }
end Go.Proofs.YtfhkjegmhnpgeaaDoor.Cl
