/- A sign's name. -/
import Derived.Test.YtbhnfnbnngclmaaGreatDoorEA
namespace Go.Proofs.YtbhnfnbnngclmaaGreatDoor
open Go.RowKit
set_option maxRecDepth 100000

theorem wp_load_cells {P : Program} {o : Oper} {a : Act} {w : World} {K : Act → World → Prop} {Q : Exit → Act → World → Prop} (ty : TypeId) (x : Operand) (ho : o.op = .load ty x)
    (g : Nat) (hx : a.eval x = .pointer (some ⟨g, 0, none⟩)) (cs : List Value) (hc : ∀ j v, cs[j]? = some v → w.cell? ⟨g, j, none⟩ = some v) (d : TypeDesc)
    (hd : (match d with | .struct _ | .array _ _ => true | _ => false) = true) (hu : P.underlying ty = some d) (hi : (P.info? ty).map (·.size) = some cs.length)
    (h : K (a.put o.dst (.agg cs.toArray)) w) : o.wp P a w K Q := by
  have hl : (loadCells ⟨g, 0, none⟩ cs.length).run P w = .ok cs.toArray w :=
    run_loadCells_list (P := P) w ⟨g, 0, none⟩ cs (fun j v hv => by rw [add_at, Nat.zero_add]; exact hc j v hv)
  have hv : (loadVar ty ⟨g, 0, none⟩).run P w = .ok (.agg cs.toArray) w := by
    cases hq : P.info? ty with
    | none => simp [hq] at hi
    | some i =>
      have hs : i.size = cs.length := by simpa [hq] using hi
      have hagg : (isAgg ty).run P w = .ok true w := by
        unfold isAgg
        rw [Sem.run_bind, run_underlying hu w]
        cases d <;> simp_all
      simp [loadVar, Sem.run_bind, hagg, sizeOf, typeInfo, hq, hs, hl]
  unfold Oper.wp execOp
  simp only [ho, hx, Instr.loadAt, Instr.sureAddr, Sem.run_bind, Sem.run_pure, Result.andThen_ok, hv]
  exact h
theorem wpList_load_cells {P : Program} {ops : Array Oper} {rest : List Oper} {o : Oper} {a : Act} {w : World} {Q : Exit → Act → World → Prop} (hgd : o.guard = none) (ty : TypeId) (x : Operand) (ho : o.op = .load ty x)
    (g : Nat) (hx : a.eval x = .pointer (some ⟨g, 0, none⟩)) (cs : List Value) (hc : ∀ j v, cs[j]? = some v → w.cell? ⟨g, j, none⟩ = some v) (d : TypeDesc)
    (hd : (match d with | .struct _ | .array _ _ => true | _ => false) = true) (hu : P.underlying ty = some d) (hi : (P.info? ty).map (·.size) = some cs.length)
    (h : wpList P ops Q rest (a.put o.dst (.agg cs.toArray)) w) : wpList P ops Q (o :: rest) a w :=
  wpList_plain hgd fun _ hK => wp_load_cells ty x ho g hx cs hc d hd hu hi (hK _ _ h)

def nmsV : List Value := nms.flatMap fun p => [.string p.1, .string p.2]
theorem ty46 : ∃ d, (match d with | .struct _ | .array _ _ => true | _ => false) = true ∧ Tryz.prog.underlying 46 = some d ∧ (Tryz.prog.info? 46).map (·.size) = some nmsV.length := ⟨_, rfl, rfl, rfl⟩
theorem GN.cells {w : World} (h : GN w) : ∀ j v, nmsV[j]? = some v → w.cell? ⟨0, j, none⟩ = some v := by
  intro j v hv
  have hj : j < nmsV.length := (List.getElem?_eq_some_iff.1 hv).1
  have e20 : nmsV.length = 20 := rfl
  have e10 : nms.length = 10 := rfl
  have hk := h.key (j / 2) (by omega)
  have hl := h.val (j / 2) (by omega)
  have key : ∀ i (hi : i < 10), nmsV[i * 2]? = some (.string (nms[i]'(by omega)).1) ∧ nmsV[i * 2 + 1]? = some (.string (nms[i]'(by omega)).2) := by
    intro i hi
    rcases (show i = 0 ∨ i = 1 ∨ i = 2 ∨ i = 3 ∨ i = 4 ∨ i = 5 ∨ i = 6 ∨ i = 7 ∨ i = 8 ∨ i = 9 by omega) with rfl | rfl | rfl | rfl | rfl | rfl | rfl | rfl | rfl | rfl <;> exact ⟨rfl, rfl⟩
  have hkk := key (j / 2) (by omega)
  rcases (show j = j / 2 * 2 ∨ j = j / 2 * 2 + 1 by omega) with he | he
  · rw [he, hkk.1] at hv
    rw [he, hk, ← hv]
  · rw [he, hkk.2] at hv
    rw [he, hl, ← hv]
theorem idx_law (k : Nat) (hk : k < 10) (w : World) : (Instr.index 46 (.agg nmsV.toArray) (.int .i64 (k : Int))).run Tryz.prog w = .ok (.agg #[.string (nms[k]'hk).1, .string (nms[k]'hk).2]) w := by
  rcases (show k = 0 ∨ k = 1 ∨ k = 2 ∨ k = 3 ∨ k = 4 ∨ k = 5 ∨ k = 6 ∨ k = 7 ∨ k = 8 ∨ k = 9 by omega) with rfl | rfl | rfl | rfl | rfl | rfl | rfl | rfl | rfl | rfl <;> kernel_rfl
theorem key_ne (i k : Nat) (hi : i < k) (hk : k < 5) : ((nms[i]'(by have : nms.length = 10 := rfl; omega)).1.toList == (nms[k]'(by have : nms.length = 10 := rfl; omega)).1.toList) = false := by
  rcases (show k = 0 ∨ k = 1 ∨ k = 2 ∨ k = 3 ∨ k = 4 by omega) with rfl | rfl | rfl | rfl | rfl
  · omega
  · rcases (show i = 0 by omega) with rfl; kernel_rfl
  · rcases (show i = 0 ∨ i = 1 by omega) with rfl | rfl <;> kernel_rfl
  · rcases (show i = 0 ∨ i = 1 ∨ i = 2 by omega) with rfl | rfl | rfl <;> kernel_rfl
  · rcases (show i = 0 ∨ i = 1 ∨ i = 2 ∨ i = 3 by omega) with rfl | rfl | rfl | rfl <;> kernel_rfl
set_option maxHeartbeats 4000000 in
theorem name_any (k : Nat) (hk : k < 5) (w : World) (hg : GN w) : Calls Tryz.prog 75 #[.string (nms[k]'(by have : nms.length = 10 := rfl; omega)).1] w fun e w' => e = .returned (.tuple #[.string (nms[k]'(by have : nms.length = 10 := rfl; omega)).2, .bool true]) ∧ Below w.heap.size w w' := by
  have hkl : k < nms.length := by have : nms.length = 10 := rfl; omega
  obtain ⟨a0, ha0⟩ : ∃ a, a = (nms[k]'hkl).1 := ⟨_, rfl⟩
  obtain ⟨a1, ha1⟩ : ∃ a, a = (nms[k]'hkl).2 := ⟨_, rfl⟩
  rw [← ha0, ← ha1]
  have hne : ∀ i (hi : i < k), ((nms[i]'(by omega)).1.toList == a0.toList) = false := fun i hi => by rw [ha0]; exact key_ne i k hi hk
  obtain ⟨d, t1, t2, t3⟩ := ty46
  have hc := hg.cells
  have hix := idx_law
  obtain ⟨L, hL⟩ : ∃ L, L = nmsV := ⟨_, rfl⟩
  rw [← hL] at hc hix t3
  have HA0 := Lib.hid ha0
  have HA1 := Lib.hid ha1
  have HNE := Lib.hid hne
  have HC := Lib.hid hc
  have HIX := Lib.hid hix
  have T1 := Lib.hid t1
  have T2 := Lib.hid t2
  have T3 := Lib.hid t3
  clear ha0 ha1 hne hc hix t1 t2 t3 hg hL
  go_enter Tryz.func75, Tryz.ntmps75
  go_wp2_with (with_reducible refine wpList_load_cells rfl 46 _ rfl 0 rfl L HC.out d T1.out T2.out T3.out ?_)
  go_loopg [7] 10 (fun gk v wr => ∃ i : Nat, i + gk = 10 ∧ v = .int .i64 i ∧ Hid (i ≤ k) ∧ Hid (Below w.heap.size w wr))
  case atStart => exact ⟨0, by omega, rfl, Nat.zero_le _, Below.refl _ _⟩
  case round =>
    obtain ⟨i, hi, rfl, HLE, HBW⟩ := hrel
    have HI := Lib.hid hi
    clear hi
    have hi10 : i < 10 := by have := HLE.out; omega
    have hx := HIX.out i hi10 wr
    obtain ⟨n0, hn0⟩ : ∃ n, n = (nms[i]'hi10).1 := ⟨_, rfl⟩
    obtain ⟨n1, hn1⟩ : ∃ n, n = (nms[i]'hi10).2 := ⟨_, rfl⟩
    rw [← hn0, ← hn1] at hx
    by_cases hik : i < k
    · have he : (n0.toList == a0.toList) = false := by rw [hn0]; exact HNE.out i hik
      have HIK := Lib.hid hik
      clear hn0 hn1 hik
      go_wp2_with fail
      go_roundg (gk - 1)
      case measure => have := HI.out; omega
      case rel =>
        have := HI.out
        exact ⟨i + 1, by omega, by go_num, HIK.out, nx HBW.out (below_alloc' _ _)⟩
    · have hik' : i = k := by have := HLE.out; omega
      have e0 : n0 = a0 := by subst hik'; exact hn0.trans HA0.out.symm
      have e1 : n1 = a1 := by subst hik'; exact hn1.trans HA1.out.symm
      subst e0
      subst e1
      clear hn0 hn1 hik
      have HIK := Lib.hid hik'
      clear hik'
      have he : (n0.toList == n0.toList) = true := by simp
      go_wp2_with fail
      go_ret2
      exact ⟨rfl, nx HBW.out (below_alloc' _ _)⟩
end Go.Proofs.YtbhnfnbnngclmaaGreatDoor
