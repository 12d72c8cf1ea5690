/- The mark's walks. -/
import Derived.Test.YtajokmcdhhiahaaGreatDoorKit
import Derived.StillTailTactics
namespace Go.Proofs.YtajokmcdhhiahaaGreatDoor.Mk

def st (a x : Nat) (c : UInt8) : Nat := (x * a + c.toNat + 1) % 1000000007
def run (a x : Nat) (l : List UInt8) : Nat := l.foldl (st a) x
def four (n : Nat) : List UInt8 := [UInt8.ofNat (n / 16777216), UInt8.ofNat (n / 65536), UInt8.ofNat (n / 256), UInt8.ofNat n]
def out (x y n : Nat) : List UInt8 := four x ++ four y ++ four (x * y % 1000000007) ++ four (n % 1000000007)
def mark (l : List UInt8) : List UInt8 := out (run 257 7 l) (run 65539 11 l) l.length

theorem st_lt (a x : Nat) (c : UInt8) : st a x c < 1000000007 := Nat.mod_lt _ (by decide)
theorem run_lt (a x : Nat) (l : List UInt8) (hx : x < 1000000007) : run a x l < 1000000007 := by
  induction l generalizing x with
  | nil => exact hx
  | cons c l ih => exact ih _ (st_lt _ _ _)
theorem run_append (a x : Nat) (l m : List UInt8) : run a x (l ++ m) = run a (run a x l) m := by simp [run]
theorem run_snoc (a x : Nat) (l : List UInt8) (c : UInt8) : run a x (l ++ [c]) = st a (run a x l) c := by simp [run]

theorem four_length (n : Nat) : (four n).length = 4 := rfl
theorem out_length (x y n : Nat) : (out x y n).length = 16 := by simp [out, four_length]
theorem mark_length (l : List UInt8) : (mark l).length = 16 := out_length _ _ _

theorem ofNat_eq {a b : Nat} (h : UInt8.ofNat a = UInt8.ofNat b) : a % 256 = b % 256 := by
  have := congrArg UInt8.toNat h
  simpa [UInt8.toNat_ofNat'] using this
theorem four_inj {a b : Nat} (ha : a < 4294967296) (hb : b < 4294967296) (h : four a = four b) : a = b := by
  simp only [four, List.cons.injEq, and_true] at h
  obtain ⟨h1, h2, h3, h4⟩ := h
  have h1 := ofNat_eq h1
  have h2 := ofNat_eq h2
  have h3 := ofNat_eq h3
  have h4 := ofNat_eq h4
  omega
/-- Texts of unlike lengths have unlike marks. -/
theorem mark_ne {l m : List UInt8} (hl : l.length < 1000000007) (hm : m.length < 1000000007) (h : l.length ≠ m.length) : mark l ≠ mark m := by
  intro e
  have e4 : ∀ z : List UInt8, z.length < 1000000007 → (mark z).drop 12 = four z.length := by
    intro z hz
    simp [mark, out, four, Nat.mod_eq_of_lt hz]
  have := congrArg (List.drop 12) e
  rw [e4 l hl, e4 m hm] at this
  exact h (four_inj (by omega) (by omega) this)
end Go.Proofs.YtajokmcdhhiahaaGreatDoor.Mk
namespace Go.Proofs.YtajokmcdhhiahaaGreatDoor
open Go.RowKit
set_option maxRecDepth 100000
theorem new_any (w : World) : Calls Tryz.prog 137 #[] w fun e w' => e = .returned (.pointer (some ⟨w.heap.size, 0, none⟩)) ∧ w.alloc (.cells #[.int .u64 7, .int .u64 11, .int .i64 0] 184) = w' := by
  go_enter Tryz.func137, Tryz.ntmps137
  go_wp2
  go_ret
  exact ⟨rfl, rfl⟩



/-- A maker's block: the two numbers and the count. -/
def Mk3 (w : World) (b : Nat) (x y : Nat) (n : Int) : Prop := w.heap[b]? = some (.cells #[.int .u64 x, .int .u64 y, .int .i64 n] 184 (0, 0))
theorem Mk3.c0 {w : World} {b x y : Nat} {n : Int} (h : Mk3 w b x y n) : w.cell? ⟨b, 0, none⟩ = some (.int .u64 x) := by rw [cell_of_row w b 0 _ 184 (0,0) h]; rfl
theorem Mk3.c1 {w : World} {b x y : Nat} {n : Int} (h : Mk3 w b x y n) : w.cell? ⟨b, 1, none⟩ = some (.int .u64 y) := by rw [cell_of_row w b 1 _ 184 (0,0) h]; rfl
theorem Mk3.c2 {w : World} {b x y : Nat} {n : Int} (h : Mk3 w b x y n) : w.cell? ⟨b, 2, none⟩ = some (.int .i64 n) := by rw [cell_of_row w b 2 _ 184 (0,0) h]; rfl
theorem Mk3.f {w : World} {b x y : Nat} {n : Int} (h : Mk3 w b x y n) (j : Nat) : w.frozen? ⟨b, j, none⟩ = false := frozen_of_row w b j _ 184 h
theorem Mk3.lt {w : World} {b x y : Nat} {n : Int} (h : Mk3 w b x y n) : b < w.heap.size := (Array.getElem?_eq_some_iff.1 h).1

/-- One round's world: the two numbers of the first k steps. -/
structure InRound (w wr : World) (b x y : Nat) (n : Int) : Prop where
  own : Mk3 wr b x y n
  grown : w.grownBy wr (some b)
  size : wr.heap.size = w.heap.size

theorem InRound.refl {w : World} {b x y : Nat} {n : Int} (h : Mk3 w b x y n) : InRound w w b x y n := ⟨h, ⟨rfl, rfl, rfl, Nat.le_refl _, fun _ _ _ => rfl⟩, rfl⟩
theorem grown_set {w wr : World} {b j : Nat} (h : w.grownBy wr (some b)) (v : Value) : w.grownBy (wr.setCell ⟨b, j, none⟩ v).drew (some b) :=
  ⟨h.os, h.tape, h.output, by have := h.size; simp [World.setCell, World.drew]; exact this, fun k hk hne => (heap_setCell_other wr ⟨b, j, none⟩ k v (fun e => hne (by simp [e]))).trans (h.block k hk hne)⟩
theorem size_set {wr : World} (a : Addr) (v : Value) : (wr.setCell a v).drew.heap.size = wr.heap.size := by simp [World.setCell, World.drew]
theorem InRound.set0 {w wr : World} {b x y : Nat} {n : Int} (h : InRound w wr b x y n) {x' : Nat} {v : Int} (hv : v = x') : InRound w (wr.setCell ⟨b, 0, none⟩ (.int .u64 v)).drew b x' y n := by
  subst hv
  exact ⟨heap_setCell_same wr b 0 _ 184 _ h.own, grown_set h.grown _, (size_set _ _).trans h.size⟩
theorem InRound.set1 {w wr : World} {b x y : Nat} {n : Int} (h : InRound w wr b x y n) {y' : Nat} {v : Int} (hv : v = y') : InRound w (wr.setCell ⟨b, 1, none⟩ (.int .u64 v)).drew b x y' n := by
  subst hv
  exact ⟨heap_setCell_same wr b 1 _ 184 _ h.own, grown_set h.grown _, (size_set _ _).trans h.size⟩
theorem grown_set' {w wr : World} {b j : Nat} (h : w.grownBy wr (some b)) (v : Value) : w.grownBy (wr.setCell ⟨b, j, none⟩ v) (some b) :=
  ⟨h.os, h.tape, h.output, by have := h.size; simp [World.setCell]; exact this, fun k hk hne => (heap_setCell_other wr ⟨b, j, none⟩ k v (fun e => hne (by simp [e]))).trans (h.block k hk hne)⟩
theorem size_set' {wr : World} (a : Addr) (v : Value) : (wr.setCell a v).heap.size = wr.heap.size := by simp [World.setCell]
theorem InRound.set2 {w wr : World} {b x y : Nat} {n : Int} (h : InRound w wr b x y n) {v : Int} : InRound w (wr.setCell ⟨b, 2, none⟩ (.int .i64 v)) b x y v :=
  ⟨heap_setCell_same wr b 2 _ 184 _ h.own, grown_set' h.grown _, (size_set' _ _).trans h.size⟩
theorem InRound.trans {w wr wq : World} {b x y x' y' : Nat} {n n' : Int} (h : InRound w wr b x y n) (k : InRound wr wq b x' y' n') : InRound w wq b x' y' n' :=
  ⟨k.own, ⟨k.grown.os.trans h.grown.os, k.grown.tape.trans h.grown.tape, k.grown.output.trans h.grown.output, Nat.le_trans h.grown.size k.grown.size, fun i hi hne => (k.grown.block i (Nat.lt_of_lt_of_le hi h.grown.size) hne).trans (h.grown.block i hi hne)⟩, k.size.trans h.size⟩
set_option maxHeartbeats 1000000 in
theorem add_any (s : ByteArray) (w : World) (b x y : Nat) (n : Int) (hb : Mk3 w b x y n) (hx : x < 1000000007) (hy : y < 1000000007) (hn : 0 ≤ n) (hn2 : n ≤ 1000000000000) (hs : s.size ≤ 1000000000)
    (hg0 : w.cell? ⟨5, 0, none⟩ = some (.int .u64 257)) (hg1 : w.cell? ⟨5, 1, none⟩ = some (.int .u64 65539)) (hb0 : 5 < b) :
    Calls Tryz.prog 138 #[.pointer (some ⟨b, 0, none⟩), .string s] w fun e w' => e = .returned (.int .i64 0) ∧ InRound w w' b (Mk.run 257 x s.data.toList) (Mk.run 65539 y s.data.toList) (n + s.size) := by
  go_enter Tryz.func138, Tryz.ntmps138
  go_wp2
  go_loopw [12] (fun i wr => ∃ k : Nat, k ≤ s.size ∧ i = .int .i64 k ∧ InRound w wr b (Mk.run 257 x (s.data.toList.take k)) (Mk.run 65539 y (s.data.toList.take k)) n) (fun i _ => s.size - (intOf i).toNat)
  case atStart => exact ⟨0, Nat.zero_le _, rfl, hb, ⟨rfl, rfl, rfl, Nat.le_refl _, fun _ _ _ => rfl⟩, rfl⟩
  case round =>
    obtain ⟨k, hk, rfl, hI⟩ := hrel
    obtain ⟨x1, hx1⟩ : ∃ z, z = Mk.run 257 x (s.data.toList.take k) := ⟨_, rfl⟩
    obtain ⟨y1, hy1⟩ : ∃ z, z = Mk.run 65539 y (s.data.toList.take k) := ⟨_, rfl⟩
    have hx1l : x1 < 1000000007 := by rw [hx1]; exact Mk.run_lt _ _ _ hx
    have hy1l : y1 < 1000000007 := by rw [hy1]; exact Mk.run_lt _ _ _ hy
    rw [← hx1, ← hy1] at hI
    have HX := Lib.hid hx1; clear hx1
    have HY := Lib.hid hy1; clear hy1
    have c0 := hI.own.c0
    have c1 := hI.own.c1
    have c2 := hI.own.c2
    have f0 := hI.own.f 0
    have f1 := hI.own.f 1
    have f2 := hI.own.f 2
    have g0 : wr.cell? ⟨5, 0, none⟩ = some (.int .u64 257) := hI.grown.cell hg0 (by simp; omega)
    have g1 : wr.cell? ⟨5, 1, none⟩ = some (.int .u64 65539) := hI.grown.cell hg1 (by simp; omega)
    clear hg0 hg1
    have i0 : ∀ (p q : Value) w, (Instr.index 182 (.agg #[p, q]) (.int .i64 0)).run Tryz.prog w = .ok p w := fun _ _ _ => by kernel_rfl
    have i1 : ∀ (p q : Value) w, (Instr.index 182 (.agg #[p, q]) (.int .i64 1)).run Tryz.prog w = .ok q w := fun _ _ _ => by kernel_rfl
    by_cases hlt : k < s.size
    · have hc := s[k].toNat_lt
      go_wp2
      go_loopw [19] (fun i wq => (i = .int .i64 0 ∧ InRound wr wq b x1 y1 n) ∨ (i = .int .i64 1 ∧ InRound wr wq b (Mk.st 257 x1 s[k]) y1 n) ∨ (i = .int .i64 2 ∧ InRound wr wq b (Mk.st 257 x1 s[k]) (Mk.st 65539 y1 s[k]) n)) (fun i _ => 2 - (intOf i).toNat)
      case atStart => exact Or.inl ⟨rfl, InRound.refl hI.own⟩
      case round =>
        rcases hrel with ⟨rfl, hJ⟩ | ⟨rfl, hJ⟩ | ⟨rfl, hJ⟩
        · have d0 := hJ.own.c0
          have d1 := hJ.own.c1
          have e0 := hJ.own.f 0
          have e1 := hJ.own.f 1
          have h0 : wr.cell? ⟨5, 0, none⟩ = some (.int .u64 257) := hJ.grown.cell g0 (by simp; omega)
          have h1 : wr.cell? ⟨5, 1, none⟩ = some (.int .u64 65539) := hJ.grown.cell g1 (by simp; omega)
          clear g0 g1 c0 c1 f0 f1
          go_wp2
          go_still_tail 17, (by kernel_rfl)
          go_wp2
          go_roundw
          case rel => exact Or.inr (Or.inl ⟨rfl, hJ.set0 (by simp [Mk.st])⟩)
          case measure => simp [intOf]
        · have d0 := hJ.own.c0
          have d1 := hJ.own.c1
          have e0 := hJ.own.f 0
          have e1 := hJ.own.f 1
          have h0 : wr.cell? ⟨5, 0, none⟩ = some (.int .u64 257) := hJ.grown.cell g0 (by simp; omega)
          have h1 : wr.cell? ⟨5, 1, none⟩ = some (.int .u64 65539) := hJ.grown.cell g1 (by simp; omega)
          clear g0 g1 c0 c1 f0 f1
          go_wp2
          go_still_tail 17, (by kernel_rfl)
          go_wp2
          go_roundw
          case rel => exact Or.inr (Or.inr ⟨rfl, hJ.set1 (by simp [Mk.st])⟩)
          case measure => simp [intOf]
        · go_wp2
          go_roundw
          case rel =>
            have hts := take_snoc s k hlt
            refine ⟨k + 1, by omega, by go_num, hI.trans ?_⟩
            rw [hts, Mk.run_snoc, Mk.run_snoc, ← HX.out, ← HY.out]
            exact hJ
          case measure => simp [intOf]; omega
    · obtain rfl : k = s.size := by omega
      go_wp2
      go_ret
      refine ⟨rfl, ?_⟩
      have hl : List.take s.size s.data.toList = s.data.toList := List.take_of_length_le (by simp)
      rw [← hl, ← HX.out, ← HY.out]
      exact hI.set2


/-- The four bytes of each of the four numbers, k of them. -/
def outTo (v : Nat → Nat) : Nat → List UInt8
  | 0 => []
  | k + 1 => outTo v k ++ Mk.four (v k)

def vals (x y n : Nat) (k : Nat) : Nat := match k with
  | 0 => x | 1 => y | 2 => x * y % 1000000007 | _ => n % 1000000007
theorem vals_lt {x y n : Nat} (hx : x < 1000000007) (hy : y < 1000000007) (k : Nat) : vals x y n k < 1000000007 := by
  unfold vals; split <;> omega
theorem outTo_vals (x y n : Nat) : outTo (vals x y n) 4 = Mk.out x y n := by simp [outTo, vals, Mk.out]
theorem index_0 (a b c d : Value) (w : World) : (Instr.index 185 (.agg #[a, b, c, d]) (.int .i64 0)).run Tryz.prog w = .ok a w := by kernel_rfl
theorem index_1 (a b c d : Value) (w : World) : (Instr.index 185 (.agg #[a, b, c, d]) (.int .i64 1)).run Tryz.prog w = .ok b w := by kernel_rfl
theorem index_2 (a b c d : Value) (w : World) : (Instr.index 185 (.agg #[a, b, c, d]) (.int .i64 2)).run Tryz.prog w = .ok c w := by kernel_rfl
theorem index_3 (a b c d : Value) (w : World) : (Instr.index 185 (.agg #[a, b, c, d]) (.int .i64 3)).run Tryz.prog w = .ok d w := by kernel_rfl
theorem index_four (a b c d : Value) (w : World) : (Instr.index 185 (.agg #[a, b, c, d]) (.int .i64 0)).run Tryz.prog w = .ok a w ∧ (Instr.index 185 (.agg #[a, b, c, d]) (.int .i64 1)).run Tryz.prog w = .ok b w ∧ (Instr.index 185 (.agg #[a, b, c, d]) (.int .i64 2)).run Tryz.prog w = .ok c w ∧ (Instr.index 185 (.agg #[a, b, c, d]) (.int .i64 3)).run Tryz.prog w = .ok d w :=
  ⟨index_0 a b c d w, index_1 a b c d w, index_2 a b c d w, index_3 a b c d w⟩
theorem index_vals (x y n : Nat) (k : Nat) (hk : k < 4) (w : World) :
    (Instr.index 185 (.agg #[.int .u64 x, .int .u64 y, .int .u64 ((x * y % 1000000007 : Nat) : Int), .int .u64 ((n % 1000000007 : Nat) : Int)]) (.int .i64 k)).run Tryz.prog w = .ok (.int .u64 (vals x y n k)) w := by
  obtain ⟨h0, h1, h2, h3⟩ := index_four (.int .u64 x) (.int .u64 y) (.int .u64 ((x * y % 1000000007 : Nat) : Int)) (.int .u64 ((n % 1000000007 : Nat) : Int)) w
  rcases (show k = 0 ∨ k = 1 ∨ k = 2 ∨ k = 3 by omega) with rfl | rfl | rfl | rfl
  · exact h0
  · exact h1
  · exact h2
  · exact h3
theorem prod_wrap {x y : Nat} (hx : x < 1000000007) (hy : y < 1000000007) : (IntKind.u64.wrap ((x : Int) * y)).tmod 1000000007 = ((x * y % 1000000007 : Nat) : Int) := by
  have h : x * y ≤ 1000000006 * 1000000006 := Nat.mul_le_mul (by omega) (by omega)
  have e : IntKind.u64.wrap ((x : Int) * y) = ((x * y : Nat) : Int) := by
    rw [← Int.natCast_mul]
    exact IntWalk.u64_in _ ⟨by omega, by omega⟩
  rw [e]
  exact (Int.ofNat_tmod (x * y) 1000000007).symm

theorem four_cells (v : Nat) (hv : v < 1000000007) : Lib.byteCells (Mk.four v) = [.int .u8 ((v : Int) / 16777216), .int .u8 ((v : Int) / 65536 % 256), .int .u8 ((v : Int) / 256 % 256), .int .u8 ((v : Int) % 256)] := by
  have h : v / 16777216 % 256 = v / 16777216 := by omega
  simp [Lib.byteCells, Mk.four, h]

set_option maxHeartbeats 1000000 in
theorem mark_any (w : World) (b x y : Nat) (n : Nat) (hb : Mk3 w b x y n) (hx : x < 1000000007) (hy : y < 1000000007) (hn2 : n ≤ 1000000000000) :
    Calls Tryz.prog 139 #[.pointer (some ⟨b, 0, none⟩)] w fun e w' => e = .returned (.string ⟨(Mk.out x y n).toArray⟩) ∧ Below w.heap.size w w' := by
  have c0 := hb.c0
  have c1 := hb.c1
  have c2 := hb.c2
  have hlt := hb.lt
  obtain ⟨i0, hi, hz0, hz1, hz2⟩ := info_parts byte_row
  go_enter Tryz.func139, Tryz.ntmps139
  go_wp2
  go_quiet (fail)
  rw [prod_wrap hx hy, show (n : Int) % 1000000007 = ((n % 1000000007 : Nat) : Int) from by omega]
  have hidx := index_vals x y n
  obtain ⟨A, hA⟩ : ∃ A, A = Value.agg #[.int .u64 x, .int .u64 y, .int .u64 ((x * y % 1000000007 : Nat) : Int), .int .u64 ((n % 1000000007 : Nat) : Int)] := ⟨_, rfl⟩
  rw [← hA] at hidx ⊢
  have HA := Lib.hid hA; clear hA
  have HI := Lib.hid hidx; clear hidx
  go_wp2
  go_loopg [3, 37] 4 (fun gk v i wr => ∃ k : Nat, k + gk = 4 ∧ i = .int .i64 k ∧ wr.ownsRow w.heap.size 5 1 v (4 * k) (Lib.byteCells (outTo (vals x y n) k)) ∧ Below w.heap.size w wr)
  case atStart => exact ⟨0, by omega, rfl, World.ownsRow_nil _ _ _ _, below_drewN' w nq⟩
  case round =>
    obtain ⟨k, hk, rfl, hown, hbw⟩ := hrel
    have hsz := hbw.size
    have hv := vals_lt (n := n) hx hy k
    obtain ⟨v, hvv⟩ : ∃ v, v = vals x y n k := ⟨_, rfl⟩
    rw [← hvv] at hv
    by_cases hlt : k < 4
    · have hix := HI.out k hlt
      rw [← hvv] at hix
      have HV := Lib.hid hvv; clear hvv
      go_wp2_with (at_builtin; refine wpList_append_own _ rfl _ _ 79 rfl w.heap.size 5 i0 (.int .u8 0) 1 1 Tryz.underlying79 hi hz0 hz1 hz2 rfl (by decide) _ _ _ rfl (hown.alloc _) ⟨wr.heap.size, 0, none⟩ 4 4 (Lib.byteCells (Mk.four v)) rfl ?c0 ?c1 ?c2 ?c3 ?c4 ?c5 ?_)
      case c0 => simp [Lib.byteCells, Mk.four]
      case c1 => rw [four_cells v hv]; exact cells_new wr _ 5
      case c2 => rw [four_cells v hv]; simp [Value.oneCell']
      case c3 => unfold maxLen; omega
      case c4 => omega
      case c5 => simp; omega
      intro v' w1 hown1 hgr _
      have hbw1 : Below w.heap.size w w1 := (hbw.alloc hbw.size _).grown hgr (by simp; omega) (fun q hq => (hown.lt q hq).1)
      clear hgr
      go_wp2
      go_roundg (gk - 1)
      case rel =>
        refine ⟨k + 1, by omega, by go_num, ?_, hbw1⟩
        rw [outTo, Lib.byteCells_append, ← HV.out]
        exact hown1
      case measure => omega
    · obtain rfl : k = 4 := by omega
      have hcv := own_string hown
      rw [outTo_vals] at hcv
      go_wp2
      go_ret
      exact ⟨rfl, hbw⟩


/-- The bytes of texts, one behind the other. -/
def cat (ss : List ByteArray) : List UInt8 := ss.flatMap fun s => s.data.toList
theorem cat_take_succ (ss : List ByteArray) (k : Nat) (h : k < ss.length) : cat (ss.take (k + 1)) = cat (ss.take k) ++ ss[k].data.toList := by
  rw [List.take_succ_eq_append_getElem h]; simp only [cat, List.flatMap_append, List.flatMap_cons, List.flatMap_nil, List.append_nil]
theorem cat_take_le (ss : List ByteArray) (k : Nat) : (cat (ss.take k)).length ≤ (cat ss).length := by
  have h := congrArg cat (List.take_append_drop k ss)
  rw [← h]; simp only [cat, List.flatMap_append, List.length_append]; omega
set_option maxHeartbeats 1000000 in
theorem of_any (A : Option Addr) (n c : Nat) (ss : List ByteArray) (w : World) (hr : Texts w A n ss) (hn : n ≤ 1000000000) (hs : (cat ss).length ≤ 1000000000)
    (hg0 : w.cell? ⟨5, 0, none⟩ = some (.int .u64 257)) (hg1 : w.cell? ⟨5, 1, none⟩ = some (.int .u64 65539)) :
    Calls Tryz.prog 109 #[.slice A n c] w fun e w' => e = .returned (.string ⟨(Mk.mark (cat ss)).toArray⟩) ∧ Below w.heap.size w w' := by
  have hn' := hr.1
  have h0 : 5 < w.heap.size := World.block_lt_of_cell? w _ hg0
  have HG0 := Lib.hid hg0; clear hg0
  have HG1 := Lib.hid hg1; clear hg1
  have HN := Lib.hid hn'; clear hn'
  go_enter Tryz.func109, Tryz.ntmps109
  go_wp2_with (go_at_call 137; refine (new_any _).mono ?_; rintro e w' ⟨rfl, rfl⟩)
  go_loopg [9] n (fun gk i wr => ∃ k : Nat, k + gk = n ∧ i = .int .i64 k ∧ Mk3 wr w.heap.size (Mk.run 257 7 (cat (ss.take k))) (Mk.run 65539 11 (cat (ss.take k))) ((cat (ss.take k)).length : Nat) ∧ Below w.heap.size w wr)
  case atStart => exact ⟨0, by omega, rfl, by simp [cat, Mk.run]; exact heap_alloc_new w _, (Below.refl _ _).alloc (Nat.le_refl _) _⟩
  case round =>
    obtain ⟨k, hk, rfl, hm, hbw⟩ := hrel
    have hsz := hbw.size
    have hcl := cat_take_le ss k
    have g0 : wr.cell? ⟨5, 0, none⟩ = some (.int .u64 257) := (hbw.cell h0).trans HG0.out
    have g1 : wr.cell? ⟨5, 1, none⟩ = some (.int .u64 65539) := (hbw.cell h0).trans HG1.out
    by_cases hlt : k < n
    · have hkl : k < ss.length := by rw [HN.out]; exact hlt
      obtain ⟨ad, rfl, hc⟩ := hr.at_ hbw k hkl
      have hsl : (ss[k]).size ≤ 1000000000 := by
        have h1 := cat_take_succ ss k hkl
        have h2 := cat_take_le ss (k + 1)
        rw [h1, List.length_append, size_len] at h2
        omega
      have HK := Lib.hid hk; clear hk
      go_wp2_with fail
      refine (add_any ss[k] wr w.heap.size _ _ _ hm (Mk.run_lt _ _ _ (by decide)) (Mk.run_lt _ _ _ (by decide)) (by omega) (by omega) hsl g0 g1 h0).mono ?_
      rintro e w1 ⟨rfl, hI⟩
      go_wp2
      go_roundg (gk - 1)
      case rel =>
        have hk := HK.out
        refine ⟨k + 1, by omega, by go_num, ?_, hbw.grown hI.grown (by omega) (by simp)⟩
        have := hI.own
        rw [cat_take_succ ss k hkl, Mk.run_append, Mk.run_append, List.length_append, size_len]
        simpa using this
      case measure => have := HK.out; omega
    · obtain rfl : k = n := by omega
      have hl : List.take k ss = ss := List.take_of_length_le (by rw [HN.out]; exact Nat.le_refl _)
      rw [hl] at hm
      have HM := Lib.hid hm; clear hm
      go_wp2_with fail
      refine (mark_any wr w.heap.size _ _ _ HM.out (Mk.run_lt _ _ _ (by decide)) (Mk.run_lt _ _ _ (by decide)) (by omega)).mono ?_
      rintro e w1 ⟨rfl, hb1⟩
      go_wp2
      go_ret
      exact ⟨rfl, hbw.trans (hb1.mono hbw.size)⟩
end Go.Proofs.YtajokmcdhhiahaaGreatDoor
