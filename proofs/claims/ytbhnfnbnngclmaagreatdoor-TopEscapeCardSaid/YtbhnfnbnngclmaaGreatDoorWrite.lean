/- strings.Builder at this translation: WriteString, Write and WriteRune, of a builder that the call itself has made. -/
import Derived.Test.YtbhnfnbnngclmaaGreatDoorCopy
import Derived.Test.YtbhnfnbnngclmaaGreatDoorShelf
import Derived.Lib.AppendStr
import Derived.Lib.RuneBytes
namespace Go.Proofs.YtbhnfnbnngclmaaGreatDoor
open Go.RowKit
set_option maxRecDepth 100000

/-- What a builder's write leaves: its own row grown by the append, and stored. -/
theorem builder_put {B b n : Nat} {l m : List UInt8} {w w1 w2 : World} {v v' : Value} (hB : B ≤ b) (hb1 : Below B w w1)
    (hbk : w1.heap[b]? = some (.cells #[.pointer (some ⟨b, 0, none⟩), v] 43 (0, 0))) (hown : w1.ownsRow B 5 1 v n (Lib.byteCells l)) (hne : v.ownBlock ≠ some b)
    (hown' : w2.ownsRow B 5 1 v' (Lib.byteCells (l ++ m)).length (Lib.byteCells (l ++ m))) (hgrow : w1.grownBy w2 v.ownBlock) :
    Lib.IsBuilder 43 5 B b (Lib.byteCells (l ++ m)) (w2.setCell ⟨b, 1, none⟩ v') ∧ Below B w (w2.setCell ⟨b, 1, none⟩ v') := by
  have hlt : b < w1.heap.size := (Array.getElem?_eq_some_iff.1 hbk).1
  have hb2 : w2.heap[b]? = some (.cells #[.pointer (some ⟨b, 0, none⟩), v] 43 (0, 0)) := by
    rw [hgrow.block b hlt (fun e => hne e.symm)]; exact hbk
  have hBw1 : B ≤ w1.heap.size := by omega
  exact ⟨Or.inr (Lib.BuilderAt.put (T := 43) (e := 5) hB hb2 (bs' := Lib.byteCells (l ++ m)) hown' (by decide)),
    (hb1.grown hgrow hBw1 (fun k hk => (hown.lt k hk).1)).setCell (p := ⟨b, 1, none⟩) hB _⟩
theorem own_shape {w : World} {base e s n : Nat} {v : Value} {xs : List Value} (h : w.ownsRow base e s v n xs) : ∃ A c, v = .slice A n c := by
  rcases h.2 with ⟨rfl, rfl⟩ | ⟨g, cap, cur, rfl, _⟩
  · exact ⟨_, _, rfl⟩
  · exact ⟨_, _, rfl⟩
theorem builder_at {b : Nat} {w1 w2 : World} {v : Value} (hbk : w1.heap[b]? = some (.cells #[.pointer (some ⟨b, 0, none⟩), v] 43 (0, 0))) (hne : v.ownBlock ≠ some b) (hgrow : w1.grownBy w2 v.ownBlock) :
    w2.heap[b]? = some (.cells #[.pointer (some ⟨b, 0, none⟩), v] 43 (0, 0)) := by
  rw [hgrow.block b (Array.getElem?_eq_some_iff.1 hbk).1 (fun e => hne e.symm)]; exact hbk

set_option maxHeartbeats 1000000 in
/-- WriteString: the text's bytes behind those that the builder holds. -/
theorem writeString_any (B b : Nat) (l : List UInt8) (s : ByteArray) (w : World) (h : Lib.IsBuilder 43 5 B b (Lib.byteCells l) w) (hlen : l.length + s.size ≤ 1000000000000) (hBw : B ≤ w.heap.size) :
    Calls Tryz.prog 10 #[.pointer (some ⟨b, 0, none⟩), .string s] w fun e w' => e = .returned (.tuple #[.int .i64 s.size, .nilIface]) ∧ Lib.IsBuilder 43 5 B b (Lib.byteCells (l ++ s.data.toList)) w' ∧ Below B w w' := by
  obtain ⟨i0, hi, hz0, hz1, hz2⟩ := info_parts byte_info
  go_enter Tryz.func10, Tryz.ntmps10
  go_wp2_with fail
  refine (copyCheck_any B b _ _ h).mono ?_
  rintro e w1 ⟨rfl, h1, hb1⟩
  obtain ⟨hB, v, hbk, hown, hne⟩ := h1
  have c0 : w1.cell? ⟨b, 0, none⟩ = some (.pointer (some ⟨b, 0, none⟩)) := by rw [Lib.cell_of_heap hbk]; rfl
  have c1 : w1.cell? ⟨b, 1, none⟩ = some v := by rw [Lib.cell_of_heap hbk]; rfl
  have hsz := hb1.size
  go_wp2_with (at_builtin; refine Lib.wpList_append_own_string _ rfl (.tmp 12) (.tmp 13) 41 9 rfl B 5 i0 Tryz.underlying41 Tryz.underlying9 hi hz0 hz1 hz2 v _ _ rfl hown s rfl ?c3 ?c4 ?c5 ?_)
  case c3 => simp only [Lib.byteCells_length, maxLen]; omega
  case c4 => simp only [Lib.byteCells_length]; omega
  case c5 => omega
  intro v' w2 hown' hgrow _
  rw [Lib.strCells_eq, ← Lib.byteCells_append] at hown'
  have hl' : (Lib.byteCells l).length + s.size = (Lib.byteCells (l ++ s.data.toList)).length := by simp [Lib.byteCells_length]
  rw [hl'] at hown'
  have hb2 := builder_at hbk hne hgrow
  have d1 : w2.cell? ⟨b, 1, none⟩ = some v := by rw [Lib.cell_of_heap hb2]; rfl
  have f1 : w2.frozen? ⟨b, 1, none⟩ = false := Lib.frozen_of_heap hb2 1
  have hput := builder_put hB hb1 hbk hown hne hown' hgrow
  obtain ⟨A', c', rfl⟩ := own_shape hown'
  go_wp2
  go_ret2
  exact ⟨rfl, hput⟩

end Go.Proofs.YtbhnfnbnngclmaaGreatDoor
