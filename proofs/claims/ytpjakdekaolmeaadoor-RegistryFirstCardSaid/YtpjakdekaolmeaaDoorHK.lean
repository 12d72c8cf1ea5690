/- The reference's Find, Same, All. -/
import Derived.Test.YtpjakdekaolmeaaDoorHH
import Derived.BigQuiet
import Derived.Deep.RegionHeld3
namespace Go.Proofs.YtpjakdekaolmeaaDoor
open Go.RowKit Go.Shelf

theorem DirsV.at_ {w : World} {A : Option Addr} {n c : Nat} {ds : List (ByteArray × List ByteArray)} (h : DirsV w (.slice A n c) ds) (k : Nat) (hk : k < ds.length) :
    ∃ g off, A = some ⟨g, off, none⟩ ∧ w.cell? ⟨g, off + k * 2, none⟩ = some (.string ds[k].1) ∧ ∃ WA c, w.cell? ⟨g, off + k * 2 + 1, none⟩ = some (.slice WA ds[k].2.length c) ∧ (WA = none → ds[k].2.length = 0 ∧ c = 0) ∧ ds[k].2.length ≤ c ∧ Texts w WA ds[k].2.length ds[k].2 := by
  obtain ⟨A', c', e, _, _, h4⟩ := h
  injection e with e1 e2 e3
  subst e1
  obtain ⟨g, off, e, _, hc⟩ := h4 (by omega)
  obtain ⟨c1, wv, c2, WA, wc, rfl, hl, hz, ht⟩ := hc k hk
  exact ⟨g, off, e, c1, WA, wc, c2, fun e => ⟨by have := hz e; omega, hz e⟩, hl, ht⟩
theorem DirsV.len {w : World} {A : Option Addr} {n c : Nat} {ds : List (ByteArray × List ByteArray)} (h : DirsV w (.slice A n c) ds) : n = ds.length := by
  obtain ⟨_, _, e, _⟩ := h
  injection e with _ e _

/-- A policy's directives and whether it is a report. -/
abbrev PolB := List (ByteArray × List ByteArray) × Bool
/-- A value that is a slice of policies. -/
def PolsV (w : World) (v : Value) (ps : List PolB) : Prop := ∃ A c, v = .slice A ps.length c ∧ ps.length ≤ c ∧ (A = none → c = 0) ∧
  (0 < ps.length → ∃ g off, A = some ⟨g, off, none⟩ ∧ g < w.heap.size ∧ ∀ j (h : j < ps.length), ∃ dv, w.cell? ⟨g, off + j * 2, none⟩ = some dv ∧ w.cell? ⟨g, off + j * 2 + 1, none⟩ = some (.bool ps[j].2) ∧ DirsV w dv ps[j].1)
theorem PolsV.below {w w' : World} {v : Value} {ps : List PolB} (h : PolsV w v ps) (hb : Below w.heap.size w w') : PolsV w' v ps := by
  obtain ⟨A, c, h1, h2, h3, h4⟩ := h
  refine ⟨A, c, h1, h2, h3, fun hn => ?_⟩
  obtain ⟨g, off, e, hlt, hc⟩ := h4 hn
  refine ⟨g, off, e, Nat.lt_of_lt_of_le hlt hb.size, fun j hj => ?_⟩
  obtain ⟨dv, c1, c2, c3⟩ := hc j hj
  exact ⟨dv, (hb.cell hlt).trans c1, (hb.cell hlt).trans c2, c3.below hb⟩
theorem PolsR.toV {w : World} {v : Value} {r : Bool} {pss : List (List (ByteArray × List ByteArray))} (h : PolsR w v r pss) : PolsV w v (pss.map fun d => (d, r)) := by
  obtain ⟨A, c, h1, h2, h3, h4⟩ := h
  refine ⟨A, c, by rw [List.length_map]; exact h1, by rw [List.length_map]; exact h2, h3, fun hn => ?_⟩
  rw [List.length_map] at hn
  obtain ⟨g, off, e, hr, hc⟩ := h4 hn
  refine ⟨g, off, e, hr.lt, fun j hj => ?_⟩
  rw [List.length_map] at hj
  obtain ⟨dv, c1, c2, c3⟩ := hc j hj
  simp only [List.getElem_map]
  exact ⟨dv, c1, c2, c3.toV⟩
theorem PolsV.at_ {w : World} {A : Option Addr} {n c : Nat} {ps : List PolB} (h : PolsV w (.slice A n c) ps) (k : Nat) (hk : k < ps.length) :
    ∃ g off dv, A = some ⟨g, off, none⟩ ∧ w.cell? ⟨g, off + k * 2, none⟩ = some dv ∧ w.cell? ⟨g, off + k * 2 + 1, none⟩ = some (.bool ps[k].2) ∧ DirsV w dv ps[k].1 := by
  obtain ⟨A', c', e, _, _, h4⟩ := h
  injection e with e1 e2 e3
  subst e1
  obtain ⟨g, off, e, _, hc⟩ := h4 (by omega)
  obtain ⟨dv, c1, c2, c3⟩ := hc k hk
  exact ⟨g, off, dv, e, c1, c2, c3⟩
def Wide (ps : List PolB) : Prop := ps.length ≤ 10000000 ∧ ∀ p ∈ ps, p.1.length ≤ 10000000 ∧ ∀ d ∈ p.1, d.2.length ≤ 10000000

end Go.Proofs.YtpjakdekaolmeaaDoor
