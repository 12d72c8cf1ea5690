import Derived.Test.YtbbgelgjepjpgaaDoorB
import Derived.Maps.AppendAt
import Derived.Laws.BytesArg
import Derived.Lib.UnsafeStr
import Derived.Deep.LoopGhost
namespace Go.Proofs.YtbbgelgjepjpgaaDoor
open Go.RowKit

theorem info5 : (Tryd.prog.info? 5).map (fun i => (i.zero, i.size, i.bytes)) = some (some (.int .u8 0), 1, 1) := by kernel_rfl
theorem info9 : (Tryd.prog.info? 9).map (fun i => (i.zero, i.size, i.bytes)) = some (some (.string ⟨#[]⟩), 1, 16) := by kernel_rfl

theorem strOfNums_bytes (l : List UInt8) : strOfNums (l.map fun c => (c.toNat : Int)) = ⟨l.toArray⟩ := by
  simp [strOfNums, List.map_map, Function.comp_def]
theorem own_string {w : World} {base n : Nat} {v : Value} {l : List UInt8} (h : w.ownsRow base 5 1 v n (Lib.byteCells l)) :
    (convert 45 9 v).run Tryd.prog w = .ok (.string ⟨l.toArray⟩) w := by
  have hl : l.length = n := by have := h.1; simp [Lib.byteCells] at this; exact this
  rcases h.2 with ⟨rfl, rfl⟩ | ⟨g, cap, cur, rfl, _⟩
  · obtain rfl : l = [] := List.eq_nil_of_length_eq_zero hl
    exact run_convert_bytes_nil w 45 5 Tryd.underlying45 Tryd.underlying5 0 0 9 Tryd.underlying9
  · have := run_convert_bytes_arg (P := Tryd.prog) w 45 5 Tryd.underlying45 Tryd.underlying5 g 0 n cap (l.map fun c => (c.toNat : Int)) (by simpa using hl) (fun i hi => ?_) 9 Tryd.underlying9
    · rw [strOfNums_bytes] at this; exact this
    · have hc := h.cells (g := g) rfl i (.int .u8 ((l.map fun c => (c.toNat : Int)).getD i 0)) (by simp [Lib.byteCells, List.getElem?_eq_getElem (show i < l.length by omega), List.getD_eq_getElem?_getD])
      have ha : (⟨g, 0, none⟩ : Addr).add i = ⟨g, 0 + i, none⟩ := by unfold Addr.add; split <;> simp_all
      rwa [ha] at hc

/-- The four bytes of each of the four numbers, k of them. -/
def outTo (v : Nat → Nat) : Nat → List UInt8
  | 0 => []
  | k + 1 => outTo v k ++ Mk.four (v k)

def vals (x y n : Nat) (k : Nat) : Nat := match k with
  | 0 => x | 1 => y | 2 => x * y % 1000000007 | _ => n % 1000000007
theorem vals_lt {x y n : Nat} (hx : x < 1000000007) (hy : y < 1000000007) (k : Nat) : vals x y n k < 1000000007 := by
  unfold vals; split <;> omega
theorem outTo_vals (x y n : Nat) : outTo (vals x y n) 4 = Mk.out x y n := by simp [outTo, vals, Mk.out]
theorem index_0 (a b c d : Value) (w : World) : (Instr.index 46 (.agg #[a, b, c, d]) (.int .i64 0)).run Tryd.prog w = .ok a w := by kernel_rfl
theorem index_1 (a b c d : Value) (w : World) : (Instr.index 46 (.agg #[a, b, c, d]) (.int .i64 1)).run Tryd.prog w = .ok b w := by kernel_rfl
theorem index_2 (a b c d : Value) (w : World) : (Instr.index 46 (.agg #[a, b, c, d]) (.int .i64 2)).run Tryd.prog w = .ok c w := by kernel_rfl
theorem index_3 (a b c d : Value) (w : World) : (Instr.index 46 (.agg #[a, b, c, d]) (.int .i64 3)).run Tryd.prog w = .ok d w := by kernel_rfl
theorem index_four (a b c d : Value) (w : World) : (Instr.index 46 (.agg #[a, b, c, d]) (.int .i64 0)).run Tryd.prog w = .ok a w ∧ (Instr.index 46 (.agg #[a, b, c, d]) (.int .i64 1)).run Tryd.prog w = .ok b w ∧ (Instr.index 46 (.agg #[a, b, c, d]) (.int .i64 2)).run Tryd.prog w = .ok c w ∧ (Instr.index 46 (.agg #[a, b, c, d]) (.int .i64 3)).run Tryd.prog w = .ok d w :=
  ⟨index_0 a b c d w, index_1 a b c d w, index_2 a b c d w, index_3 a b c d w⟩
theorem index_vals (x y n : Nat) (k : Nat) (hk : k < 4) (w : World) :
    (Instr.index 46 (.agg #[.int .u64 x, .int .u64 y, .int .u64 ((x * y % 1000000007 : Nat) : Int), .int .u64 ((n % 1000000007 : Nat) : Int)]) (.int .i64 k)).run Tryd.prog w = .ok (.int .u64 (vals x y n k)) w := by
  obtain ⟨h0, h1, h2, h3⟩ := index_four (.int .u64 x) (.int .u64 y) (.int .u64 ((x * y % 1000000007 : Nat) : Int)) (.int .u64 ((n % 1000000007 : Nat) : Int)) w
  rcases (show k = 0 ∨ k = 1 ∨ k = 2 ∨ k = 3 by omega) with rfl | rfl | rfl | rfl
  · exact h0
  · exact h1
  · exact h2
  · exact h3
theorem prod_wrap {x y : Nat} (hx : x < 1000000007) (hy : y < 1000000007) : (IntKind.u64.wrap ((x : Int) * y)).tmod 1000000007 = ((x * y % 1000000007 : Nat) : Int) := by
  have h : x * y ≤ 1000000006 * 1000000006 := Nat.mul_le_mul (by omega) (by omega)
  have e : IntKind.u64.wrap ((x : Int) * y) = ((x * y : Nat) : Int) := by
    rw [← Int.natCast_mul]
    exact IntWalk.u64_in _ ⟨by omega, by omega⟩
  rw [e]
  exact (Int.ofNat_tmod (x * y) 1000000007).symm

theorem below_drewN' (w : World) (n : Nat) : Below w.heap.size w (w.drewN n) := ⟨rfl, rfl, rfl, Nat.le_refl _, fun _ _ => rfl⟩
theorem cells_new (w : World) (vs : Array Value) (T : TypeId) : ∀ (j : Nat) (u : Value), vs.toList[j]? = some u → (w.alloc (.cells vs T)).cell? ((⟨w.heap.size, 0, none⟩ : Addr).add j) = some u := by
  intro j u h
  have ha : (⟨w.heap.size, 0, none⟩ : Addr).add j = ⟨w.heap.size, j, none⟩ := by unfold Addr.add; split <;> simp_all
  rw [ha, cell_of_row _ w.heap.size j vs T (0, 0) (heap_alloc_new w _)]
  simpa using h
theorem four_cells (v : Nat) (hv : v < 1000000007) : Lib.byteCells (Mk.four v) = [.int .u8 ((v : Int) / 16777216), .int .u8 ((v : Int) / 65536 % 256), .int .u8 ((v : Int) / 256 % 256), .int .u8 ((v : Int) % 256)] := by
  have h : v / 16777216 % 256 = v / 16777216 := by omega
  simp [Lib.byteCells, Mk.four, h]

set_option maxHeartbeats 1000000 in
theorem mark_any (w : World) (b x y : Nat) (n : Nat) (hb : Mk3 w b x y n) (hx : x < 1000000007) (hy : y < 1000000007) (hn2 : n ≤ 1000000000000) :
    Calls Tryd.prog 17 #[.pointer (some ⟨b, 0, none⟩)] w fun e w' => e = .returned (.string ⟨(Mk.out x y n).toArray⟩) ∧ Below w.heap.size w w' := by
  have c0 := hb.c0
  have c1 := hb.c1
  have c2 := hb.c2
  have hlt := hb.lt
  obtain ⟨i0, hi, hz0, hz1, hz2⟩ := info_parts info5
  go_enter Tryd.func17, Tryd.ntmps17
  go_wp2
  go_quiet (fail)
  rw [prod_wrap hx hy, show (n : Int) % 1000000007 = ((n % 1000000007 : Nat) : Int) from by omega]
  have hidx := index_vals x y n
  obtain ⟨A, hA⟩ : ∃ A, A = Value.agg #[.int .u64 x, .int .u64 y, .int .u64 ((x * y % 1000000007 : Nat) : Int), .int .u64 ((n % 1000000007 : Nat) : Int)] := ⟨_, rfl⟩
  rw [← hA] at hidx ⊢
  have HA := Lib.hid hA; clear hA
  have HI := Lib.hid hidx; clear hidx
  go_wp2
  go_loopg [3, 37] 4 (fun gk v i wr => ∃ k : Nat, k + gk = 4 ∧ i = .int .i64 k ∧ wr.ownsRow w.heap.size 5 1 v (4 * k) (Lib.byteCells (outTo (vals x y n) k)) ∧ Below w.heap.size w wr)
  case atStart => exact ⟨0, by omega, rfl, World.ownsRow_nil _ _ _ _, below_drewN' w nq⟩
  case round =>
    obtain ⟨k, hk, rfl, hown, hbw⟩ := hrel
    have hsz := hbw.size
    have hv := vals_lt (n := n) hx hy k
    obtain ⟨v, hvv⟩ : ∃ v, v = vals x y n k := ⟨_, rfl⟩
    rw [← hvv] at hv
    by_cases hlt : k < 4
    · have hix := HI.out k hlt
      rw [← hvv] at hix
      have HV := Lib.hid hvv; clear hvv
      go_wp2_with (at_builtin; refine wpList_append_own _ rfl _ _ 45 rfl w.heap.size 5 i0 (.int .u8 0) 1 1 Tryd.underlying45 hi hz0 hz1 hz2 rfl (by decide) _ _ _ rfl (hown.alloc _) ⟨wr.heap.size, 0, none⟩ 4 4 (Lib.byteCells (Mk.four v)) rfl ?c0 ?c1 ?c2 ?c3 ?c4 ?c5 ?_)
      case c0 => simp [Lib.byteCells, Mk.four]
      case c1 => rw [four_cells v hv]; exact cells_new wr _ 5
      case c2 => rw [four_cells v hv]; simp [Value.oneCell']
      case c3 => unfold maxLen; omega
      case c4 => omega
      case c5 => simp; omega
      intro v' w1 hown1 hgr _
      have hbw1 : Below w.heap.size w w1 := (hbw.alloc hbw.size _).grown hgr (by simp; omega) (fun q hq => (hown.lt q hq).1)
      clear hgr
      go_wp2
      go_roundg (gk - 1)
      case rel =>
        refine ⟨k + 1, by omega, by go_num, ?_, hbw1⟩
        rw [outTo, Lib.byteCells_append, ← HV.out]
        exact hown1
      case measure => omega
    · obtain rfl : k = 4 := by omega
      have hcv := own_string hown
      rw [outTo_vals] at hcv
      go_wp2
      go_ret
      exact ⟨rfl, hbw⟩
end Go.Proofs.YtbbgelgjepjpgaaDoor
