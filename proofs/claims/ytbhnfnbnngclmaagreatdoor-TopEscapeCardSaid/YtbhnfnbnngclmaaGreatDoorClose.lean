/- From a law's walk to its row: the arguments are read again behind the call, the result is 'true', nothing that was there has turned. -/
import Derived.Test.YtbhnfnbnngclmaaGreatDoorRows
import Derived.WalkKit
import Derived.ProofKit
import Derived.OpenShut
import Derived.SliceStrings
namespace Go.Proofs.YtbhnfnbnngclmaaGreatDoor.Cl
open Go Go.ChangeShapes Go.WideShapes Go.ChangeAt Go.RowKit

theorem trodAll_stays {H : Type} {enc : TypeId × Value → H} {P : Program} (hl : laidOutB P = true) {W W' : World} (hb : Below W.heap.size W W') :
    ∀ (ts : List TypeId) (vs : List Value) (ds : List (DataW H)) (ps : List MemPlace), (ts.all fun t => P.readableRec t && decide (t < P.types.size)) = true →
      DataW.TrodAll enc P W 0 (fun _ => true) true ts vs ds ps → (∀ x ∈ ps, x.block < W.heap.size) → DataW.TrodAll enc P W' 0 (fun b => decide (b < W.heap.size)) true ts vs ds ps := by
  intro ts
  induction ts with
  | nil =>
    intro vs ds ps _ h _
    obtain ⟨rfl, rfl, rfl⟩ := trodAll_nil h
    exact trodAll_mk0
  | cons t ts ih =>
    intro vs ds ps hr h hlt
    obtain ⟨v, vs', d, ds', p, q, rfl, rfl, rfl, h1, h2⟩ := trodAll_cons h
    simp only [List.all_cons, Bool.and_eq_true, decide_eq_true_eq] at hr
    exact trodAll_cons_mk (Below.trod hl hr.1.1 hr.1.2 h1 hb fun x hx => hlt x (List.mem_append_left _ hx))
      (ih vs' ds' q hr.2 h2 fun x hx => hlt x (List.mem_append_right _ hx))

/-- What a law's row asks behind the call: the answer is true, each argument reads as it read, nothing that was there has turned. -/
theorem law_post {H : Type} {enc : TypeId × Value → H} {P : Program} {f : Func} {s : ChangeSpec} {W W' : World} {args : Array Value} {ds : List (DataW H)} {before : List MemPlace}
    (hl : laidOutB P = true) (hr : (f.params.toList.all fun t => P.readableRec t && decide (t < P.types.size)) = true) (ht : f.resultTypes = #[4]) (hbool : P.underlying 4 = some .bool) (hv : s.vars = [])
    (hW : DataW.Whole enc P f.params.toList s.vars false W args.toList ds [] before) (hfn : s.fn H (ds ++ []) = { results := [.lit (.bool true)], args := ds }) (hb : Below W.heap.size W W') :
    s.post enc P f false true false false W args (.bool true) W' := by
  have hW' := hW
  obtain ⟨p, q, hA, hV, hbf, _, _⟩ := hW
  rw [hv] at hV
  obtain ⟨_, rfl⟩ := trodVars_none hV
  rw [List.append_nil] at hbf
  subst hbf
  have hlt : ∀ x ∈ before, x.block < W.heap.size := fun x hx => by simpa using hW'.lt x hx
  refine ⟨ds, [], before, [], before, [], hW', ?_, ?_, ?_, hb.frame _, fun h => by cases h⟩
  · rw [hfn, ht]
    exact trodAll_mk1 (shut_bool hbool _)
  · rw [hfn]
    exact trodAll_stays hl hb _ _ _ _ hr hA hlt
  · rw [hfn, hv]; rfl

/-- A slice of texts that came in, nil or not. -/
theorem texts_in {H : Type} {enc : TypeId × Value → H} {P : Program} {W : World} {t e : TypeId} {base : Nat} (ht : P.underlying t = some (.slice e)) (he : P.underlying e = some .string) (hc : P.cellsOf e = 1) {v : Value} {d : DataW H} {ps : List MemPlace}
    (hk : Value.okWide P W .any base t v) (h : DataW.Trod enc P W 0 (fun _ => true) true t v d ps) :
    ∃ (A : Option Addr) (n c : Nat) (ss : List ByteArray), v = .slice A n c ∧ ss.length = n ∧ n ≤ 9223372036854775807 ∧ (A = none → c = 0) ∧
      (0 < n → ∃ ad, A = some ad ∧ ad.block < W.heap.size ∧ ∀ j (h : j < ss.length), W.cell? (ad.add j) = some (.string ss[j])) ∧ (∀ s ∈ ss, s.size ≤ 9223372036854775807) := by
  obtain ⟨a0, len, cap, rfl⟩ := okWide_slice ht hk
  obtain ⟨fuel, hf⟩ := h
  rcases open_strings ht he hc hf with ⟨hcs, hx⟩ | ⟨a, len', cap', ss, hcs, _, hl, hm, hz, hx, hcell, hws⟩
  · simp [Value.cells] at hcs
    obtain ⟨rfl, rfl, rfl⟩ := hcs
    exact ⟨none, 0, 0, [], rfl, rfl, by omega, fun _ => rfl, fun h => absurd h (by omega), fun s hs => by cases hs⟩
  · simp [Value.cells] at hcs
    obtain ⟨rfl, rfl, rfl⟩ := hcs
    simp only [if_true] at hz
    have hln : (ss.take len).length = len := by rw [List.length_take]; omega
    have hcc : ∀ j, j < len → W.cell? (a.add j) = some (.string (ss.getD j ByteArray.empty)) := fun j hj => hcell j (by omega)
    unfold maxLen at hm
    refine ⟨some a, len, cap, ss.take len, rfl, hln, by omega, (fun h => by cases h), fun hn => ⟨a, rfl, ?_, fun j hj => ?_⟩, fun s hs => ?_⟩
    · have := World.block_lt_of_cell? W _ (hcc 0 hn)
      have e : (a.add 0).block = a.block := by unfold Addr.add; split <;> rfl
      rwa [e] at this
    · rw [hln] at hj
      rw [hcc j hj, List.getElem_take, List.getD_eq_getElem?_getD, List.getElem?_eq_getElem (show j < ss.length by omega)]
      rfl
    · have := hws s (List.mem_of_mem_take hs)
      unfold maxLen at this
      exact this
end Go.Proofs.YtbhnfnbnngclmaaGreatDoor.Cl
