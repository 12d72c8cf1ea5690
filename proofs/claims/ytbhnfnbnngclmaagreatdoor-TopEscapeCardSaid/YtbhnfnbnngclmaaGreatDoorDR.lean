/- A region that draws its order: what is held need not be held behind the last operation. -/
import Derived.Test.YtbhnfnbnngclmaaGreatDoorKit
import Derived.OrdersHeld
import Derived.Deep.RegionHeld3
import Derived.StillTail
namespace Go.Proofs.YtbhnfnbnngclmaaGreatDoor
open Go

section
variable {P : Program} {ops : Array Oper} {Q : Exit → Act → World → Prop} {md : Region.Mode} {S : World → Prop} {t : Nat}

/-- Whatever order is picked; S holds behind every operation as long as number t has not come up. -/
def anyG (P : Program) (md : Region.Mode) (ops : Array Oper) (Q : Exit → Act → World → Prop) (S : World → Prop) (t : Nat) : Nat → Array Bool → Act → World → Prop
  | 0, l, a, w => Region.ready md ops l = [] ∧ Q .normal a w
  | f + 1, l, a, w => (Region.ready md ops l = [] → Q .normal a w) ∧ ∀ i ∈ Region.ready md ops l, wpOp P ops Q i (fun a' w' => ((l.setIfInBounds i true).getD t true = false → S w') ∧ anyG P md ops Q S t f (l.setIfInBounds i true) a' w') a w
theorem any_of_G : ∀ (f : Nat) (l : Array Bool) (a : Act) (w : World), anyG P md ops Q S t f l a w → wpAny P md ops Q f l a w
  | 0, _, _, _, h => h
  | f + 1, _, _, _, h => ⟨h.1, fun i hi => wpOp_mono (fun a' w' k => any_of_G f _ a' w' k.2) (h.2 i hi)⟩
theorem unset {l : Array Bool} {i t : Nat} (h : (l.setIfInBounds i true).getD t true = false) : l.getD t true = false := by
  by_cases e : i = t
  · subst e
    rcases Nat.lt_or_ge i l.size with h' | h'
    · simp [h'] at h
    · simp [Array.getElem?_eq_none h'] at h
  · rwa [getD_set_ne true e] at h
/-- A load may be taken first, if number t waits for it. -/
theorem anyG_first {i : Nat} {o : Oper} {v : Value} (hw : Region.waitsFor md ops t i = true) (hi : ops[i]? = some o) (hsel : ∀ (j : Nat) (o : Oper) cs b, ops[j]? = some o → o.op ≠ .select cs b)
    (hQ : ∀ c a w, Q (.panic c) (a.put o.dst v) w → Q (.panic c) a w) : ∀ (f : Nat) (l : Array Bool) (a : Act) (w : World), l.getD t true = false →
      (∀ j p, ops[j]? = some p → j ≠ i → l.getD j true = false → (∀ e ∈ p.after, Region.binds md e = true → e.on ≠ i) → o.apart ops p = true) →
      i ∈ Region.ready md ops l → YieldsIf P ops S o v a → S w →
      anyG P md ops Q S t f (l.setIfInBounds i true) (a.put o.dst v) w → anyG P md ops Q S t (f + 1) l a w
  | 0, l, a, w, _, _, hr, hy, hS, H => by
    refine ⟨fun h => (by rw [h] at hr; cases hr), fun j hj => ?_⟩
    by_cases e : j = i
    · subst e; exact hy.wpOp hi hS ⟨fun _ => hS, H⟩
    · have h := ready_mono hj e
      rw [H.1] at h
      cases h
  | f + 1, l, a, w, ht, hfree, hr, hy, hS, H => by
    refine ⟨fun h => (by rw [h] at hr; cases hr), fun j hj => ?_⟩
    by_cases e : j = i
    · subst e; exact hy.wpOp hi hS ⟨fun _ => hS, H⟩
    · have h1 := H.2 j (ready_mono hj e)
      obtain ⟨hjun, p, hp, hall⟩ := mem_ready.1 hj
      have hnot : ∀ e ∈ p.after, Region.binds md e = true → e.on ≠ i := fun e' he hb heq => by
        have k1 := hall e' he hb
        have k0 := (mem_ready.1 hr).1
        rw [heq] at k1
        rcases Nat.lt_or_ge i l.size with h' | h'
        · simp [h'] at k0 k1; rw [k0] at k1; cases k1
        · simp [Array.getElem?_eq_none h'] at k1
      have hjt : j ≠ t := by
        rintro rfl
        obtain ⟨q, hq, e', he', hb', ho'⟩ := Region.waitsFor_spec hw
        rw [hp] at hq
        injection hq with hq
        subst hq
        exact hnot e' he' hb' ho'
      have hit : i ≠ t := by
        rintro rfl
        obtain ⟨q, hq, e', he', hb', ho'⟩ := Region.waitsFor_spec hw
        obtain ⟨k0, q2, hq2, hall2⟩ := mem_ready.1 hr
        rw [hq] at hq2
        injection hq2 with hq2
        subst hq2
        have k1 := hall2 e' he' hb'
        rw [ho'] at k1
        rcases Nat.lt_or_ge i l.size with h' | h'
        · simp [h'] at k0 k1; rw [k0] at k1; cases k1
        · simp [Array.getElem?_eq_none h'] at k1
      have htj : (l.setIfInBounds j true).getD t true = false := by rw [getD_set_ne true hjt]; exact ht
      have htij : ((l.setIfInBounds i true).setIfInBounds j true).getD t true = false := by rw [getD_set_ne true hjt, getD_set_ne true hit]; exact ht
      have h2 := wpOp_putIf hp (hfree j p hp e hjun hnot) (fun cs b => hsel i o cs b hi) (fun cs b => hsel j p cs b hp) hQ hy h1
      have hfree' : ∀ k q, ops[k]? = some q → k ≠ i → (l.setIfInBounds j true).getD k true = false → (∀ e ∈ q.after, Region.binds md e = true → e.on ≠ i) → o.apart ops q = true := fun k q hk hki hun hno => by
        refine hfree k q hk hki ?_ hno
        by_cases hjk : j = k
        · subst hjk; exact hjun
        · rw [getD_set_ne true hjk] at hun; exact hun
      refine wpOp_mono (fun a' w' h3 => ⟨fun _ => h3.2.1 htij, anyG_first hw hi hsel hQ f (l.setIfInBounds j true) a' w' htj hfree' (ready_mono hr (Ne.symm e)) h3.1 (h3.2.1 htij) ?_⟩) h2
      rw [Array.setIfInBounds_comm _ _ e]
      exact h3.2.2
/-- What yields its value in whatever world may be taken first. -/
theorem anyG_pureF {i : Nat} {o : Oper} {v : Value} (hit : i ≠ t) (hi : ops[i]? = some o) (hsel : ∀ (j : Nat) (o : Oper) cs b, ops[j]? = some o → o.op ≠ .select cs b)
    (hQ : ∀ c a w, Q (.panic c) (a.put o.dst v) w → Q (.panic c) a w) : ∀ (f : Nat) (l : Array Bool) (a : Act) (w : World),
      (∀ j p, ops[j]? = some p → j ≠ i → l.getD j true = false → (∀ e ∈ p.after, Region.binds md e = true → e.on ≠ i) → o.apart ops p = true) →
      i ∈ Region.ready md ops l → YieldsIf P ops (fun _ => True) o v a → (l.getD t true = false → S w) →
      anyG P md ops Q S t f (l.setIfInBounds i true) (a.put o.dst v) w → anyG P md ops Q S t (f + 1) l a w
  | 0, l, a, w, _, hr, hy, hS, H => by
    refine ⟨fun h => (by rw [h] at hr; cases hr), fun j hj => ?_⟩
    by_cases e : j = i
    · subst e; exact hy.wpOp hi trivial ⟨fun h => hS (unset h), H⟩
    · have h := ready_mono hj e
      rw [H.1] at h
      cases h
  | f + 1, l, a, w, hfree, hr, hy, hS, H => by
    refine ⟨fun h => (by rw [h] at hr; cases hr), fun j hj => ?_⟩
    by_cases e : j = i
    · subst e; exact hy.wpOp hi trivial ⟨fun h => hS (unset h), H⟩
    · have h1 := H.2 j (ready_mono hj e)
      obtain ⟨hjun, p, hp, hall⟩ := mem_ready.1 hj
      have hnot : ∀ e ∈ p.after, Region.binds md e = true → e.on ≠ i := fun e' he hb heq => by
        have k1 := hall e' he hb
        have k0 := (mem_ready.1 hr).1
        rw [heq] at k1
        rcases Nat.lt_or_ge i l.size with h' | h'
        · simp [h'] at k0 k1; rw [k0] at k1; cases k1
        · simp [Array.getElem?_eq_none h'] at k1
      have h2 := wpOp_putIf hp (hfree j p hp e hjun hnot) (fun cs b => hsel i o cs b hi) (fun cs b => hsel j p cs b hp) hQ hy h1
      have hfree' : ∀ k q, ops[k]? = some q → k ≠ i → (l.setIfInBounds j true).getD k true = false → (∀ e ∈ q.after, Region.binds md e = true → e.on ≠ i) → o.apart ops q = true := fun k q hk hki hun hno => by
        refine hfree k q hk hki ?_ hno
        by_cases hjk : j = k
        · subst hjk; exact hjun
        · rw [getD_set_ne true hjk] at hun; exact hun
      have ex : ∀ w', (((l.setIfInBounds i true).setIfInBounds j true).getD t true = false → S w') → (l.setIfInBounds j true).getD t true = false → S w' := fun w' h k => by
        refine h ?_
        rw [← Array.setIfInBounds_comm _ _ e, getD_set_ne true hit]
        exact k
      refine wpOp_mono (fun a' w' h3 => ⟨ex w' h3.2.1, anyG_pureF hit hi hsel hQ f (l.setIfInBounds j true) a' w' hfree' (ready_mono hr (Ne.symm e)) h3.1 (ex w' h3.2.1) ?_⟩) h2
      rw [Array.setIfInBounds_comm _ _ e]
      exact h3.2.2
theorem anyG_take (i : Nat) {o : Oper} (v : Value) (hw : Region.waitsFor md ops t i = true) {f : Nat} {l : Array Bool} {a : Act} {w : World} (ht : l.getD t true = false) (hi : ops[i]? = some o) (hs : Region.noSelect ops = true) (hf : Region.free md ops l i = true)
    (hr : (Region.ready md ops l).contains i = true) (hQ : ∀ c a w, Q (.panic c) (a.put o.dst v) w → Q (.panic c) a w) (hy : YieldsIf P ops S o v a) (hS : S w)
    (h : anyG P md ops Q S t f (l.setIfInBounds i true) (a.put o.dst v) w) : anyG P md ops Q S t (f + 1) l a w :=
  anyG_first hw hi (Region.noSelect_spec hs) hQ f l a w ht (Region.free_spec hi hf) (by simpa using hr) hy hS h
theorem anyG_pure (i : Nat) {o : Oper} (v : Value) {f : Nat} {l : Array Bool} {a : Act} {w : World} (hit : (i == t) = false) (hi : ops[i]? = some o) (hs : Region.noSelect ops = true) (hf : Region.free md ops l i = true)
    (hr : (Region.ready md ops l).contains i = true) (hQ : ∀ c a w, Q (.panic c) (a.put o.dst v) w → Q (.panic c) a w) (hy : YieldsIf P ops (fun _ => True) o v a) (hS : l.getD t true = false → S w)
    (h : anyG P md ops Q S t f (l.setIfInBounds i true) (a.put o.dst v) w) : anyG P md ops Q S t (f + 1) l a w :=
  anyG_pureF (by simpa using hit) hi (Region.noSelect_spec hs) hQ f l a w (Region.free_spec hi hf) (by simpa using hr) hy hS h
/-- One alone may come up. -/
theorem anyG_one (i : Nat) {o : Oper} {f : Nat} {l : Array Bool} {a : Act} {w : World} (hr : (Region.ready md ops l == [i]) = true) (hi : ops[i]? = some o) (hg : o.guard = none)
    (h : o.wp P a w (fun a' w' => S w' ∧ anyG P md ops Q S t f (l.setIfInBounds i true) a' w') Q) : anyG P md ops Q S t (f + 1) l a w := by
  have e : Region.ready md ops l = [i] := by simpa using hr
  refine ⟨fun h0 => (by rw [e] at h0; cases h0), fun j hj => ?_⟩
  rw [e] at hj
  obtain rfl := List.mem_singleton.1 hj
  have hw : Region.wanted o (yielded ops a.tmps) = true := by simp [Region.wanted, hg]
  refine wpOp_mono (K := fun a' w' => S w' ∧ anyG P md ops Q S t f (l.setIfInBounds j true) a' w') (fun a' w' h => ⟨fun _ => h.1, h.2⟩) ?_
  unfold wpOp
  simp only [hi, hw, if_true]
  exact .inl h
theorem anyG_last {o : Oper} {f : Nat} {l : Array Bool} {a : Act} {w : World} (hr : (Region.ready md ops l == [t]) = true) (hi : ops[t]? = some o) (hg : o.guard = none) (hb : (l.setIfInBounds t true).getD t true = true)
    (h : o.wp P a w (fun a' w' => anyG P md ops Q S t f (l.setIfInBounds t true) a' w') Q) : anyG P md ops Q S t (f + 1) l a w := by
  have e : Region.ready md ops l = [t] := by simpa using hr
  refine ⟨fun h0 => (by rw [e] at h0; cases h0), fun j hj => ?_⟩
  rw [e] at hj
  obtain rfl := List.mem_singleton.1 hj
  have hw : Region.wanted o (yielded ops a.tmps) = true := by simp [Region.wanted, hg]
  refine wpOp_mono (K := fun a' w' => anyG P md ops Q S j f (l.setIfInBounds j true) a' w') (fun a' w' h => ⟨fun k => (by rw [hb] at k; cases k), h⟩) ?_
  unfold wpOp
  simp only [hi, hw, if_true]
  exact .inl h
theorem anyG_done {l : Array Bool} {a : Act} {w : World} (hr : (Region.ready md ops l).isEmpty = true) (h : Q .normal a w) : anyG P md ops Q S t 0 l a w := ⟨by simpa using hr, h⟩
theorem region_G {id : Nat} {a : Act} {w : World} (S : World → Prop) (t n : Nat) (hm : P.follows .mixedOrders = true) (hn : ops.size = n) (h : anyG P .any ops Q S t n (Array.replicate n false) a w.drew) : (Code.region id ops true).wp P Q a w :=
  wp_region_any hm (by subst hn; exact any_of_G _ _ _ _ h)
end
end Go.Proofs.YtbhnfnbnngclmaaGreatDoor
