/- What a reader of parts has read: what is told of, and what is kept. Over lists of bytes, no program in sight. -/
import Derived.Test.YtfhkjegmhnpgeaaDoorPlainFull
namespace Go.Proofs.YtfhkjegmhnpgeaaDoor.Ut
open Go

def Inv (p r kept : List UInt8) : Prop := p = r ++ kept ∧ kept.length ≤ 3 ∧ ((kept = [] ∧ ∀ y, dec (r ++ y) = dec r ++ dec y) ∨ (kept ≠ [] ∧ Stop kept))
theorem Inv.nil : Inv [] [] [] := ⟨rfl, by simp, Or.inl ⟨rfl, fun y => by rw [List.nil_append, dec_nil, List.nil_append]⟩⟩
theorem stop_app {a b : List UInt8} (h : a ≠ []) (hs : Stop a) : Stop (a ++ b) := by
  cases a with
  | nil => exact absurd rfl h
  | cons c a => intro x hx; simp at hx; subst hx; exact hs c rfl
theorem Inv.part {p r kept : List UInt8} (h : Inv p r kept) (l : List UInt8) (e : Nat) : dec (r ++ (kept ++ l).take e) = dec r ++ dec ((kept ++ l).take e) := by
  rcases h.2.2 with ⟨rfl, hy⟩ | ⟨h0, hs⟩
  · exact hy _
  · refine dec_stop _ _ ?_
    cases kept with
    | nil => exact absurd rfl h0
    | cons c k =>
      cases e with
      | zero => intro x hx; simp at hx
      | succ e => intro x hx; simp at hx; subst hx; exact hs c rfl
theorem Inv.step {p r kept l : List UInt8} {k : Nat} (h : Inv p r kept) (hc : Cut (kept ++ l) k) :
    Inv (p ++ l) (r ++ (kept ++ l).take ((kept ++ l).length - k)) ((kept ++ l).drop ((kept ++ l).length - k)) ∧
      dec (r ++ (kept ++ l).take ((kept ++ l).length - k)) = dec r ++ dec ((kept ++ l).take ((kept ++ l).length - k)) := by
  have hp := h.part l ((kept ++ l).length - k)
  refine ⟨⟨?_, ?_, ?_⟩, hp⟩
  · rw [h.1, List.append_assoc r, List.append_assoc r, List.take_append_drop]
  · rw [List.length_drop]
    rcases hc with ⟨rfl, _⟩ | ⟨_, h3, hk, _⟩ <;> omega
  · rcases hc with ⟨rfl, hc⟩ | ⟨h1, h3, hk, hs⟩
    · left
      refine ⟨by rw [Nat.sub_zero, List.drop_length], fun y => ?_⟩
      have hcut := dec_cut (kept ++ l) y 0 (Or.inl ⟨rfl, hc⟩)
      rw [Nat.sub_zero, List.take_length] at hp ⊢
      rw [Nat.sub_zero, List.take_length, List.drop_length, List.nil_append] at hcut
      rw [hp, List.append_assoc r, List.append_assoc (dec r), ← hcut]
      rcases h.2.2 with ⟨rfl, hy⟩ | ⟨h0, hs⟩
      · exact hy _
      · exact dec_stop _ _ (by rw [List.append_assoc]; exact stop_app h0 hs)
    · right
      exact ⟨fun e => by have := congrArg List.length e; rw [List.length_drop, List.length_nil] at this; omega, hs⟩
/-- What is told of is what bytes are decoded as, but for the last few. -/
theorem Inv.behind {p r kept : List UInt8} (h : Inv p r kept) : dec r = dec p ∨ ∃ k, 1 ≤ k ∧ k ≤ 3 ∧ k ≤ p.length ∧ dec r = dec (p.take (p.length - k)) := by
  have h1 := h.1
  have h2 := h.2.1
  rcases Nat.eq_zero_or_pos kept.length with h0 | h0
  · left
    rw [h1, List.eq_nil_of_length_eq_zero h0, List.append_nil]
  · right
    refine ⟨kept.length, h0, h2, by rw [h1, List.length_append]; omega, ?_⟩
    rw [h1, List.length_append, Nat.add_sub_cancel, List.take_left]
theorem Inv.all {p r kept : List UInt8} (h : Inv p r kept) : dec r ++ dec kept = dec p := by
  have := h.part [] kept.length
  rw [List.append_nil, List.take_length] at this
  rw [h.1, this]
end Go.Proofs.YtfhkjegmhnpgeaaDoor.Ut
