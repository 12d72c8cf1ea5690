import Derived.Test.YtfhkjegmhnpgeaaDoorL
namespace Go.Proofs.YtfhkjegmhnpgeaaDoor
open Go.RowKit

theorem BytesIn.of_own {w : World} {base n : Nat} {A : Option Addr} {c : Nat} {l : List UInt8} (h : w.ownsRow base 5 1 (.slice A n c) n (Lib.byteCells l)) : BytesIn w A n l := by
  refine ⟨own_len h, fun hn => ?_⟩
  rcases h.2 with ⟨hv, h0⟩ | ⟨g, cap, cur, hv, _, hg, _⟩
  · omega
  · injection hv with hA
    subst hA
    refine ⟨g, 0, rfl, (Array.getElem?_eq_some_iff.1 hg).1, fun j u hj => ?_⟩
    have := h.cells (g := g) rfl j u hj
    rwa [add_at] at this
/-- append(own, b...): bytes of a slice behind (the slice may be empty). -/
theorem wpList_append_arg_bytes {ops : Array Oper} {rest : List Oper} {o : Oper} {a : Act} {Q : Exit → Act → World → Prop} (hgd : o.guard = none) (s x : Operand)
    (ho : o.op = .call { callee := .builtin .append, args := #[s, x], argTypes := #[22, 22] }) (W w0 : World) (base : Nat) (v : Value) (n : Nat) (l m : List UInt8) (b off k c : Nat)
    (hs : a.eval s = v) (hx : a.eval x = .slice (some ⟨b, off, none⟩) k c) (hown : W.ownsRow base 5 1 v n (Lib.byteCells l)) (hm : BytesIn W (some ⟨b, off, none⟩) k m) (hk : 0 < k) (hb : Below base w0 W) (hB : base ≤ W.heap.size) (hn : n + k ≤ 1000000000000)
    (h : ∀ v' w', w'.ownsRow base 5 1 v' (n + k) (Lib.byteCells (l ++ m)) → Below base w0 w' → wpList Tryd.prog ops Q rest (a.put o.dst v') w') :
    wpList Tryd.prog ops Q (o :: rest) a W := by
  obtain ⟨i0, hi, hz0, hz1, hz2⟩ := info_parts byte_info
  obtain ⟨b', off', e, _, hc⟩ := hm.2 hk
  injection e with e; injection e with e1 e2; subst e1; subst e2
  refine wpList_append_own _ hgd s x 22 ho base 5 i0 (.int .u8 0) 1 1 Tryd.underlying22 hi hz0 hz1 hz2 rfl (by decide) v n _ hs hown ⟨b, off, none⟩ k c (Lib.byteCells m) hx (by rw [Lib.byteCells_length, hm.1]; omega)
    (fun j u hj => by rw [add_at]; exact hc j u hj) (fun u hu => by simp [Lib.byteCells] at hu; obtain ⟨_, _, rfl⟩ := hu; rfl) (by unfold maxLen; omega) (by omega) hB ?_
  intro v' w' h1 h2 _
  rw [← Lib.byteCells_append] at h1
  exact h v' w' h1 (hb.grown h2 hB (fun q hq => (hown.lt q hq).1))
end Go.Proofs.YtfhkjegmhnpgeaaDoor
