/- source's List of one kept word. -/
import Derived.Test.YtajokmcdhhiahaaGreatDoorSB
namespace Go.Proofs.YtajokmcdhhiahaaGreatDoor
open Go.RowKit
set_option maxRecDepth 100000

theorem source_row : (Tryz.prog.info? 130).map (fun i => (i.zero, i.size, i.bytes)) = some (some (src 0), 7, 88) := by kernel_rfl
def srcCells (k : Int) : List Value := [.int .i64 k, .string ⟨#[]⟩, .string ⟨#[]⟩, .string ⟨#[]⟩, .bool false, .int .i64 0, .string ⟨#[]⟩]
/-- A slice of one source. -/
structure SrcV (w : World) (v : Value) (k : Int) : Prop where
  is : ∃ b c, v = .slice (some ⟨b, 0, none⟩) 1 c ∧ 1 ≤ c ∧ b < w.heap.size ∧ ∀ j x, (srcCells k)[j]? = some x → w.cell? ⟨b, j, none⟩ = some x
theorem SrcV.below {w w' : World} {v : Value} {k : Int} (h : SrcV w v k) (hb : Below w.heap.size w w') : SrcV w' v k := by
  obtain ⟨b, c, e, h1, h2, h3⟩ := h.is
  exact ⟨b, c, e, h1, Nat.lt_of_lt_of_le h2 hb.size, fun j x hx => (hb.cell (p := ⟨b, j, none⟩) h2).trans (h3 j x hx)⟩
theorem SrcV.of_own {w : World} {base : Nat} {v : Value} {k : Int} (h : w.ownsRow base 130 7 v 1 (srcCells k)) : SrcV w v k := by
  rcases h.2 with ⟨_, h0⟩ | ⟨g, cap, cur, hv, _, hg, hc, _⟩
  · omega
  · subst hv
    refine ⟨g, cap, rfl, hc, (Array.getElem?_eq_some_iff.1 hg).1, fun j x hx => ?_⟩
    have := h.cells (g := g) rfl j x hx
    rwa [add_at, Nat.zero_add] at this
theorem wpList_append_src {ops : Array Oper} {rest : List Oper} {o : Oper} {a : Act} {Q : Exit → Act → World → Prop} (hgd : o.guard = none) (s x : Operand)
    (ho : o.op = .call { callee := .builtin .append, args := #[s, x], argTypes := #[89, 89] }) (W w0 : World) (base : Nat) (k : Int)
    (N : Nat) (hN : N = W.heap.size) (hs : a.eval s = .slice none 0 0) (hx : a.eval x = .slice (some ⟨N, 0, none⟩) 1 1) (hb : Below base w0 W) (hB : base ≤ W.heap.size)
    (h : ∀ v' w', w'.ownsRow base 130 7 v' 1 (srcCells k) → Below base w0 w' → wpList Tryz.prog ops Q rest (a.put o.dst v') w') :
    wpList Tryz.prog ops Q (o :: rest) a (W.alloc (.cells #[.int .i64 k, .string ⟨#[]⟩, .string ⟨#[]⟩, .string ⟨#[]⟩, .bool false, .int .i64 0, .string ⟨#[]⟩] 130)) := by
  subst hN
  obtain ⟨i0, hi, hz0, hz1, hz2⟩ := info_parts source_row
  have hown : (W.alloc (.cells #[.int .i64 k, .string ⟨#[]⟩, .string ⟨#[]⟩, .string ⟨#[]⟩, .bool false, .int .i64 0, .string ⟨#[]⟩] 130)).ownsRow base 130 7 (.slice none 0 0) 0 [] := ⟨rfl, .inl ⟨rfl, rfl⟩⟩
  refine wpList_append_own _ hgd s x 89 ho base 130 i0 (src 0) 7 88 Tryz.underlying89 hi hz0 hz1 hz2 rfl (by decide) (.slice none 0 0) 0 [] hs hown ⟨W.heap.size, 0, none⟩ 1 1 (srcCells k) hx rfl
    (fun j u hj => cells_new W _ 130 j u hj) (by intro u hu; simp only [srcCells, List.mem_cons, List.not_mem_nil, or_false] at hu; rcases hu with rfl | rfl | rfl | rfl | rfl | rfl | rfl <;> rfl) (by unfold maxLen; omega) (by omega) (by simp; omega) ?_
  intro v' w' h1 h2 _
  exact h v' w' h1 ((hb.alloc hB _).grown h2 (by simp; omega) (fun q hq => by cases hq))
def OutSrc (k : Int) (w : World) (e : Ending) (w' : World) : Prop := ∃ v, e = .returned v ∧ SrcV w' v k ∧ Below w.heap.size w w'
set_option maxHeartbeats 2000000 in
theorem list_any (i : Nat) (hi : i = 1 ∨ i = 2 ∨ i = 3) (x : ByteArray) (hx : WordIs i x) (hq : Quo x) (w : World) (hg : Gl w) (b off c : Nat) (hb : w.cell? ⟨b, off, none⟩ = some (.string x)) :
    Calls Tryz.prog 74 #[.slice (some ⟨b, off, none⟩) 1 c] w (OutSrc i w) := by
  have c101 := sparse_any i hi x hx hq w hg
  obtain ⟨K, hK⟩ : ∃ K : Int, K = i := ⟨_, rfl⟩
  rw [← hK] at c101 ⊢
  unfold src at c101
  have C101 := Lib.hid c101
  clear c101 hK hi hx hq hg
  go_enter Tryz.func74, Tryz.ntmps74
  go_wp2_with fail
  go_loopg [3, 10] 1 (fun gk v n wr => (gk = 1 ∧ v = .slice none 0 0 ∧ n = .int .i64 0 ∧ wr = w) ∨ (gk = 0 ∧ n = .int .i64 1 ∧ Hid (SrcV wr v K) ∧ Hid (Below w.heap.size w wr)))
  case atStart => exact Or.inl ⟨rfl, rfl, rfl, rfl⟩
  case round =>
    rcases hrel with ⟨hgk, rfl, rfl, hw⟩ | ⟨hgk, rfl, HS, HB⟩
    · obtain rfl : w = wr := hw.symm
      have HGK := Lib.hid hgk
      clear hw hgk
      go_wp2_with fail
      with_reducible refine C101.out.mono ?_
      rintro e w1 ⟨rfl, hb1⟩
      have HB1 := Lib.hid hb1
      go_wp2_with (at_builtin; refine wpList_append_src rfl (.tmp 20) (.tmp 22) rfl _ w w.heap.size K (w1.heap.size + 1) (by simp) rfl rfl (hb1.trans ((below_alloc' _ _).mono hb1.size)) (by have := hb1.size; simp; omega) ?_; intro v w3 hown3 hbw3)
      go_roundg 0
      case measure => have := HGK.out; omega
      case rel => exact Or.inr ⟨rfl, by go_num, SrcV.of_own hown3, hbw3⟩
    · go_wp2_with fail
      go_ret
      exact ⟨_, rfl, HS.out, HB.out⟩
end Go.Proofs.YtajokmcdhhiahaaGreatDoor
