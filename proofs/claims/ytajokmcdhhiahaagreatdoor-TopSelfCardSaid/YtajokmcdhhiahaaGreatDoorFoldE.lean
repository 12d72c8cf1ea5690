import Derived.Test.YtajokmcdhhiahaaGreatDoorFoldD
namespace Go.Proofs.YtajokmcdhhiahaaGreatDoor
open Go.RowKit

theorem bs_snoc (l : List (List UInt8)) (x : List UInt8) (t : ByteArray) (h : t.data.toList = x) : bs (l ++ [x]) = bs l ++ [t] := by
  subst h; simp [bs]
theorem OutTexts.of_own {ss : List ByteArray} {w w' : World} {v : Value} {n : Nat} (h : w'.ownsRow w.heap.size 9 1 v n (ss.map Value.string)) (hb : Below w.heap.size w w') : OutTexts ss w (.returned v) w' := by
  have hn : ss.length = n := by have := h.1; simpa using this
  subst hn
  obtain ⟨A, c, rfl, h1, h2⟩ := own_form h
  exact ⟨A, c, rfl, h1, h2, Texts.of_own h, hb⟩

end Go.Proofs.YtajokmcdhhiahaaGreatDoor
