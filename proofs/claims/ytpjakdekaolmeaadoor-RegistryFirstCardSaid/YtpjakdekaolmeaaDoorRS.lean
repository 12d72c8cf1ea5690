/- A row of policies behind another. -/
import Derived.Test.YtpjakdekaolmeaaDoorRR
namespace Go.Proofs.YtpjakdekaolmeaaDoor
open Go.RowKit Go.Shelf

abbrev PEnt := Value × PolB
def flatE (es : List PEnt) : List Value := flat2 (fun e => e.1) (fun e => .bool e.2.2) es
theorem flatE_length (es : List PEnt) : (flatE es).length = es.length * 2 := flat2_length _ _ es
theorem flatE_snoc (es : List PEnt) (e : PEnt) : flatE (es ++ [e]) = flatE es ++ [e.1, .bool e.2.2] := flat2_snoc _ _ _ _
theorem flatE_append (l es : List PEnt) : flatE (l ++ es) = flatE l ++ flatE es := by simp [flatE, flat2]
theorem pols_ents {w : World} {g : Nat} : ∀ (ps : List PolB) (off : Nat), (∀ j (h : j < ps.length), ∃ dv, w.cell? ⟨g, off + j * 2, none⟩ = some dv ∧ w.cell? ⟨g, off + j * 2 + 1, none⟩ = some (.bool ps[j].2) ∧ DirsV w dv ps[j].1) →
    ∃ es : List PEnt, es.map (fun e => e.2) = ps ∧ (∀ e ∈ es, DirsV w e.1 e.2.1) ∧ ∀ j u, (flatE es)[j]? = some u → w.cell? ⟨g, off + j, none⟩ = some u
  | [], off, _ => ⟨[], rfl, by simp, fun j u h => by simp [flatE, flat2] at h⟩
  | p :: r, off, h => by
    obtain ⟨dv, c1, c2, c3⟩ := h 0 (by simp)
    obtain ⟨es, e1, e2, e3⟩ := pols_ents (w := w) (g := g) r (off + 2) (fun j hj => by
      obtain ⟨dv, d1, d2, d3⟩ := h (j + 1) (by simpa using hj)
      rw [show off + (j + 1) * 2 = off + 2 + j * 2 by omega] at d1 d2
      exact ⟨dv, d1, by simpa using d2, by simpa using d3⟩)
    refine ⟨(dv, p) :: es, by rw [List.map_cons, e1], fun e he => ?_, fun j u hj => ?_⟩
    · cases he with
      | head => simpa using c3
      | tail _ he => exact e2 e he
    · rw [show flatE ((dv, p) :: es) = dv :: .bool p.2 :: flatE es by simp [flatE, flat2]] at hj
      match j, hj with
      | 0, hj => simp at hj; subst hj; simpa using c1
      | 1, hj => simp at hj; subst hj; simpa using c2
      | j + 2, hj =>
        have := e3 j u (by simpa using hj)
        rwa [show off + (j + 2) = off + 2 + j by omega]
theorem PolsV.of_ents {w : World} {base n : Nat} {v : Value} {es : List PEnt} (h : w.ownsRow base 42 2 v n (flatE es)) (hx : ∀ e ∈ es, DirsV w e.1 e.2.1) : PolsV w v (es.map (fun e => e.2)) := by
  have hl : es.length = n := by have := h.1; rw [flatE_length] at this; omega
  subst hl
  obtain ⟨A, c, rfl, h1, h2⟩ := own_form h
  refine ⟨A, c, by rw [List.length_map], by rw [List.length_map]; exact h1, h2, fun hn => ?_⟩
  rw [List.length_map] at hn
  rcases h.2 with ⟨_, h0⟩ | ⟨g, cap, cur, hv, _, hg, _⟩
  · omega
  · injection hv with hA
    subst hA
    refine ⟨g, 0, rfl, (Array.getElem?_eq_some_iff.1 hg).1, fun j hj => ?_⟩
    have hj' : j < es.length := by rwa [List.length_map] at hj
    obtain ⟨f1, f2⟩ := flat2_at (fun e : PEnt => e.1) (fun e => .bool e.2.2) es j hj'
    have c1 := h.cells (g := g) rfl _ _ f1
    have c2 := h.cells (g := g) rfl _ _ f2
    rw [add_at] at c1 c2
    rw [List.getElem_map]
    exact ⟨es[j].1, c1, by rw [Nat.add_assoc]; exact c2, hx _ (List.getElem_mem hj')⟩
/-- append(own, l...): a slice's policies behind. -/
theorem wpList_append_any_pols {ops : Array Oper} {rest : List Oper} {o : Oper} {a : Act} {Q : Exit → Act → World → Prop} (hgd : o.guard = none) (s x : Operand)
    (ho : o.op = .call { callee := .builtin .append, args := #[s, x], argTypes := #[22, 22] }) (W w0 : World) (base : Nat) (v pv : Value) (n : Nat) (l : List PEnt) (m : List PolB)
    (hs : a.eval s = v) (hx : a.eval x = pv) (hown : W.ownsRow base 42 2 v n (flatE l)) (hm : PolsV W pv m) (hb : Below base w0 W) (hB : base ≤ W.heap.size) (hn : n + m.length ≤ 1000000000000)
    (h : ∀ es v' w', es.map (fun e : PEnt => e.2) = m → (∀ e ∈ es, DirsV W e.1 e.2.1) → w'.ownsRow base 42 2 v' (n + m.length) (flatE (l ++ es)) → Below base w0 w' → wpList Tryd.prog ops Q rest (a.put o.dst v') w') :
    wpList Tryd.prog ops Q (o :: rest) a W := by
  obtain ⟨i0, hi, hz0, hz1, hz2⟩ := info_parts pol_row
  obtain ⟨A, c, rfl, hc, hz, h4⟩ := hm
  cases A with
  | none =>
    have hm0 : m = [] := by
      rcases m with _ | ⟨p, r⟩
      · rfl
      · obtain ⟨_, _, e, _⟩ := h4 (by simp)
        cases e
    subst hm0
    obtain rfl := hz rfl
    refine wpList_append_own_none hgd s x 22 ho base 42 i0 2 Tryd.underlying22 hi v n _ hs hown hx (h [] v W rfl (by simp) ?_ hb)
    rw [List.append_nil]; exact hown
  | some ad =>
    have hes : ∃ es : List PEnt, es.map (fun e => e.2) = m ∧ (∀ e ∈ es, DirsV W e.1 e.2.1) ∧ ∀ j u, (flatE es)[j]? = some u → W.cell? (ad.add j) = some u := by
      rcases m with _ | ⟨p, r⟩
      · exact ⟨[], rfl, by simp, fun j u h => by simp [flatE, flat2] at h⟩
      · obtain ⟨g, off, e, _, hcc⟩ := h4 (by simp)
        injection e with e
        subst e
        obtain ⟨es, e1, e2, e3⟩ := pols_ents (p :: r) off hcc
        exact ⟨es, e1, e2, fun j u hj => by rw [add_at]; exact e3 j u hj⟩
    obtain ⟨es, e1, e2, e3⟩ := hes
    have hel : es.length = m.length := by rw [← e1, List.length_map]
    refine wpList_append_own _ hgd s x 22 ho base 42 i0 (.agg #[.slice none 0 0, .bool false]) 2 32 Tryd.underlying22 hi hz0 hz1 hz2 rfl (by decide) v n _ hs hown ad m.length c (flatE es) hx (by rw [flatE_length, hel])
      e3 (fun u hu => ?_) (by unfold maxLen; omega) (by omega) hB ?_
    · obtain ⟨e, he, hu⟩ := List.mem_flatMap.1 hu
      obtain ⟨A', c', e4, _⟩ := e2 e he
      rcases List.mem_cons.1 hu with rfl | hu
      · show e.1.oneCell' = true
        rw [e4]; rfl
      · obtain rfl := List.mem_singleton.1 hu
        rfl
    · intro v' w' q1 q2 _
      rw [← flatE_append] at q1
      exact h es v' w' e1 e2 q1 (hb.grown q2 hB (fun q hq => (hown.lt q hq).1))
end Go.Proofs.YtpjakdekaolmeaaDoor
