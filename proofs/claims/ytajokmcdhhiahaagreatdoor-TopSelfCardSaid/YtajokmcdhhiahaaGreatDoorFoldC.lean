import Derived.Test.YtajokmcdhhiahaaGreatDoorFoldB
import Derived.Shelf.GgClosure.GivesRunes
import Derived.Lib.OthersKept
import Derived.Deep.CutBlock
import Derived.Deep.DeepCutAuto
import Derived.Laws.MakeOwn
import Derived.Laws.OwnMore
import Derived.Deep.DeepMust
import Derived.Deep.DeepFit
import Derived.Laws.DeepStrings4
import Derived.Laws.DeepNot64
namespace Go.Proofs.YtajokmcdhhiahaaGreatDoor
open Go.RowKit

theorem span_row : (Tryz.prog.info? 143).map (fun i => (i.zero, i.size, i.bytes)) = some (some (.agg #[.int .i64 0, .int .i64 0]), 2, 16) := by kernel_rfl
theorem two_new (w : World) (x y : Value) (t : TypeId) : ∀ (j : Nat) u, [x, y][j]? = some u → (w.alloc (.cells #[x, y] t)).cell? ((⟨w.heap.size, 0, none⟩ : Addr).add j) = some u := by
  intro j u h
  rw [add_at, Nat.zero_add, cell_of_row _ w.heap.size j #[x, y] t (0, 0) (heap_alloc_new w _)]
  simpa using h
theorem own_iter {w : World} {B e size n : Nat} {v : Value} {xs : List Value} {k : Nat} {s : ByteArray} {pos : Nat} (h : w.ownsRow B e size v n xs) (hk : w.heap[k]? = some (.stringIter s pos)) (pos' : Nat) : (w.iterAt k s pos').ownsRow B e size v n xs := by
  refine ⟨h.1, ?_⟩
  rcases h.2 with h0 | ⟨g, cap, cur, hv, hb, hg, rest⟩
  · exact .inl h0
  · refine .inr ⟨g, cap, cur, hv, hb, ?_, rest⟩
    rw [Lib.iterAt_other _ _ _ _ _ (fun e => by subst e; rw [hk] at hg; cases hg)]
    exact hg
theorem own_other {w : World} {B e size n : Nat} {v : Value} {xs : List Value} {k : Nat} {s : ByteArray} {pos : Nat} (h : w.ownsRow B e size v n xs) (hk : w.heap[k]? = some (.stringIter s pos)) : some k ≠ v.ownBlock := by
  rcases h.2 with ⟨rfl, _⟩ | ⟨g, cap, cur, rfl, hb, hg, rest⟩
  · simp [Value.ownBlock]
  · intro e
    simp only [Value.ownBlock, Option.some.injEq] at e
    subst e
    rw [hk] at hg
    cases hg

def isF : Value := .func (.func 81) #[.string ⟨#[9, 10, 12, 13, 32]⟩] #[]
def OutFields (l : List ByteArray) (w : World) (e : Ending) (w' : World) : Prop :=
  ∃ A, e = .returned (.slice (some ⟨A, 0, none⟩) l.length l.length) ∧ w'.ownsRow w.heap.size 9 1 (.slice (some ⟨A, 0, none⟩) l.length l.length) l.length (l.map Value.string) ∧ Below w.heap.size w w'
set_option maxHeartbeats 4000000 in
set_option maxRecDepth 1000000 in
theorem fields_any (s : ByteArray) (w : World) (hs : s.size ≤ 10000000) : Calls Tryz.prog 82 #[.string s, .func (.func 81) #[.string ⟨#[9, 10, 12, 13, 32]⟩] #[]] w (OutFields (Lib.goFieldsP Fo.blR s) w) := by
  obtain ⟨i0, hi, hz0, hz1, hz2⟩ := info_parts span_row
  obtain ⟨W0, hmk, hown0, hg0⟩ := run_make_own (P := Tryz.prog) w w.heap.size 141 143 i0 _ 2 Tryz.underlying141 hi hz0 hz1 .i64 .i64 32 (by rw [hz2]; decide) (by unfold maxLen; decide) (Nat.le_refl _)
  rw [show ((32 : Nat) : Int) = 32 from rfl] at hmk
  have hb0 : Below w.heap.size w W0 := (Below.refl _ w).grown hg0 (Nat.le_refl _) (fun k hk => by cases hk)
  go_enter Tryz.func82, Tryz.ntmps82
  go_wp2
  go_loopg [5, 6] s.size (fun gf s5 s6 wx => ∃ (pos : Nat) (st : Option Nat) (acc : List (Nat × Nat)) (z : Int), s6 = .int .i64 z ∧ (st = none → z < 0) ∧ (∀ a, st = some a → z = (a : Int)) ∧ -9223372036854775808 ≤ z ∧
      wx.ownsRow w.heap.size 143 2 s5 acc.length (Lib.spanCells acc) ∧ wx.heap[W0.heap.size]? = some (.stringIter s pos) ∧ Below w.heap.size w wx ∧
      Lib.spansFromP Fo.blR s gf pos st acc = Lib.spansFromP Fo.blR s s.size 0 none [] ∧ s.size ≤ pos + gf ∧ pos ≤ s.size ∧ acc.length ≤ pos ∧ (∀ a, st = some a → a < pos) ∧ (∀ x ∈ acc, x.1 ≤ x.2 ∧ x.2 ≤ s.size) ∧ s5 ≠ .slice none 0 0)
  case atStart =>
    exact ⟨0, none, [], -1, rfl, fun _ => by omega, (fun a h => by cases h), by omega, hown0.alloc _, World.iter_heap W0 s 0, hb0.alloc hb0.size _, rfl, by omega, Nat.zero_le _, Nat.le_refl _, (fun a h => by cases h), (fun x hx => by cases hx), (fun h => by cases h)⟩
  case round =>
    obtain ⟨pos, st, acc, z, rfl, hzn, hzs, hzl, hown, hit, hbw, hsp, hfu, hps, hal, hst, hok, hnn⟩ := hrel
    by_cases hlt : pos < s.size
    · obtain ⟨g', rfl⟩ : ∃ g', gk = g' + 1 := ⟨gk - 1, by omega⟩
      have hnx : ∀ ty, (Instr.next (.pointer (some ⟨W0.heap.size, 0, none⟩)) true ty).run Tryz.prog wr = _ := fun ty => Lib.run_next_any_at wr W0.heap.size s pos ty hit hlt
      have hwd := Lib.width_pos s pos
      have hwn : pos + (Utf8.decode s pos).2 ≤ s.size := (Fo.step s pos hlt).2.1
      have hrl : (Utf8.decode s pos).1 ≤ 1114111 := Lib.rune_le s pos
      obtain ⟨R, hR⟩ : ∃ R, (Utf8.decode s pos).1 = R := ⟨_, rfl⟩
      obtain ⟨K, hK⟩ : ∃ K, (Utf8.decode s pos).2 = K := ⟨_, rfl⟩
      simp only [Lib.spansFromP, hlt, if_true, hR, hK] at hsp
      rw [hR, hK] at hnx
      rw [hK] at hwd hwn
      rw [hR] at hrl
      have hit2 := Lib.iterAt_heap wr W0.heap.size s pos (pos + K) hit
      have hbw2 := Lib.below_iterAt hbw (k := W0.heap.size) hb0.size s (pos + K)
      have hown2 := own_iter hown hit (pos + K)
      obtain ⟨W, hWd⟩ : ∃ W, wr.iterAt W0.heap.size s (pos + K) = W := ⟨_, rfl⟩
      rw [hWd] at hnx hit2 hbw2 hown2
      have cS := has_any R W hrl
      clear hown hit hbw
      cases hpr : Fo.blR R <;> rw [hpr] at cS <;> simp only [hpr, if_true, Bool.false_eq_true, if_false] at hsp
      · have CS := Lib.hid cS; clear cS
        have HSP := Lib.hid hsp; clear hsp
        clear hpr hR hK hWd
        cases st with
        | none =>
          have hz0' : z < 0 := hzn rfl
          go_wp2_with fail
          refine CS.out.mono ?_
          rintro e W' ⟨rfl, rfl⟩
          go_wp2
          go_roundg g'
          case measure => omega
          case rel => exact ⟨pos + K, some pos, acc, pos, rfl, (fun h => by cases h), fun a h => by cases h; rfl, by omega, hown2, hit2, hbw2, HSP.out, by omega, hwn, by omega, fun a h => by cases h; omega, hok, hnn⟩
        | some a =>
          have hza : z = (a : Int) := hzs a rfl
          subst hza
          go_wp2_with fail
          refine CS.out.mono ?_
          rintro e W' ⟨rfl, rfl⟩
          go_wp2
          go_roundg g'
          case measure => omega
          case rel => exact ⟨pos + K, some a, acc, a, rfl, (fun h => by cases h), fun b h => by cases h; rfl, by omega, hown2, hit2, hbw2, HSP.out, by omega, hwn, by omega, fun b h => by cases h; have := hst a rfl; omega, hok, hnn⟩
      · have CS := Lib.hid cS; clear cS
        have HSP := Lib.hid hsp; clear hsp
        clear hpr hR hK hWd
        cases st with
        | none =>
          have hz0' : z < 0 := hzn rfl
          have hz1' : ¬ 0 ≤ z := by omega
          go_wp2_with fail
          refine CS.out.mono ?_
          rintro e W' ⟨rfl, rfl⟩
          go_wp2
          go_roundg g'
          case measure => omega
          case rel => exact ⟨pos + K, none, acc, z, rfl, fun _ => hz0', (fun a h => by cases h), hzl, hown2, hit2, hbw2, HSP.out, by omega, hwn, by omega, (fun a h => by cases h), hok, hnn⟩
        | some a =>
          have hza : z = (a : Int) := hzs a rfl
          subst hza
          have hap := hst a rfl
          go_wp2_with fail
          refine CS.out.mono ?_
          rintro e W' ⟨rfl, rfl⟩
          go_wp2_with (at_builtin; refine wpList_append_own _ rfl (.tmp 24) (.tmp 28) 141 rfl w.heap.size 143 i0 (.agg #[.int .i64 0, .int .i64 0]) 2 16 Tryz.underlying141 hi hz0 hz1 hz2 rfl (by decide) _ acc.length _ rfl (hown2.alloc _) ⟨W'.heap.size, 0, none⟩ 1 1 [.int .i64 (a : Int), .int .i64 (pos : Int)] rfl rfl (two_new _ _ _ _) (by intro u hu; simp at hu; rcases hu with rfl | rfl <;> rfl) (by unfold maxLen; omega) (by omega) (by have := hbw2.size; simp; omega) ?_; intro v3 w3 hown3 hgrow3 hnil3)
          rw [i64_not a (by omega)]
          go_roundg g'
          case measure => omega
          case rel =>
            have hIT : W0.heap.size < W'.heap.size := (Array.getElem?_eq_some_iff.1 hit2).1
            have hX := hown2.alloc (.cells #[.int .i64 (a : Int), .int .i64 (pos : Int)] 143)
            refine ⟨pos + K, none, acc ++ [(a, pos)], -1 - (a : Int), rfl, fun _ => by omega, (fun b h => by cases h), by omega, by rw [List.length_append, Lib.spanCells_snoc]; exact hown3, ?_, ?_, HSP.out, by omega, hwn, by simp; omega, (fun b h => by cases h), ?_, fun h => by have := (hnil3.1 h).2; omega⟩
            · exact (hgrow3.block W0.heap.size (by simp; omega) (own_other hown2 hit2)).trans ((Below.heap_alloc _ _ _ hIT).trans hit2)
            · exact (hbw2.alloc hbw2.size _).grown hgrow3 (by have := hbw2.size; simp; omega) (fun j hj => (hX.lt j hj).1)
            · intro x hx
              rcases List.mem_append.1 hx with h | h
              · exact hok x h
              · simp at h; subst h; exact ⟨by simp; omega, by simp; omega⟩
    · obtain rfl : pos = s.size := by omega
      have hnx : ∀ ty, (Instr.next (.pointer (some ⟨W0.heap.size, 0, none⟩)) true ty).run Tryz.prog wr = _ := fun ty => Lib.run_next_end_at wr W0.heap.size s s.size ty hit hlt
      rw [Lib.spansFromP_end Fo.blR s gk _ _ _ hlt] at hsp
      have hSP : Lib.spansOfP Fo.blR s = Lib.closeSpans s (acc, st) := by unfold Lib.spansOfP; rw [← hsp]
      have hokS : ∀ x ∈ Lib.spansOfP Fo.blR s, x.1 ≤ x.2 ∧ x.2 ≤ s.size := by
        rw [hSP]
        cases st with
        | none => exact hok
        | some a =>
          intro x hx
          rcases List.mem_append.1 hx with h | h
          · exact hok x h
          · simp at h; subst h; have := hst a rfl; exact ⟨by simp; omega, by simp⟩
      have hlenS : (Lib.spansOfP Fo.blR s).length ≤ s.size + 1 := by
        rw [hSP]
        cases st with
        | none => show acc.length ≤ _; omega
        | some a => show (acc ++ [(a, s.size)]).length ≤ _; simp; omega
      obtain ⟨SP, hSPe⟩ : ∃ SP, SP = Lib.spansOfP Fo.blR s := ⟨_, rfl⟩
      rw [← hSPe] at hSP hokS hlenS
      have HSP := Lib.hid hSP
      have HSE := Lib.hid hSPe
      clear hSP hSPe hsp
      go_upto_if 36 with fail
      go_cut [5] (fun s5 wx => wx.ownsRow w.heap.size 143 2 s5 SP.length (Lib.spanCells SP) ∧ Below w.heap.size w wx ∧ s5 ≠ .slice none 0 0)
      case first =>
        cases st with
        | none =>
          have hz0' : z < 0 := hzn rfl
          have hz1' : ¬ 0 ≤ z := by omega
          go_wp2_with fail
          go_meet
          exact ⟨by rw [HSP.out]; exact hown, hbw, hnn⟩
        | some a =>
          have hza : z = (a : Int) := hzs a rfl
          subst hza
          go_wp2_with (at_builtin; refine wpList_append_own _ rfl (.tmp 37) (.tmp 42) 141 rfl w.heap.size 143 i0 (.agg #[.int .i64 0, .int .i64 0]) 2 16 Tryz.underlying141 hi hz0 hz1 hz2 rfl (by decide) _ acc.length _ rfl (hown.alloc _) ⟨wr.heap.size, 0, none⟩ 1 1 [.int .i64 (a : Int), .int .i64 (s.size : Int)] rfl rfl (two_new _ _ _ _) (by intro u hu; simp at hu; rcases hu with rfl | rfl <;> rfl) (by unfold maxLen; omega) (by omega) (by have := hbw.size; simp; omega) ?_; intro v3 w3 hown3 hgrow3 hnil3)
          go_meet
          have hX := hown.alloc (.cells #[.int .i64 (a : Int), .int .i64 (s.size : Int)] 143)
          exact ⟨by rw [HSP.out]; show w3.ownsRow _ _ _ _ (acc ++ [(a, s.size)]).length (Lib.spanCells (acc ++ [(a, s.size)])); rw [List.length_append, Lib.spanCells_snoc]; exact hown3,
            (hbw.alloc hbw.size _).grown hgrow3 (by have := hbw.size; simp; omega) (fun j hj => (hX.lt j hj).1), fun h => by have := (hnil3.1 h).2; omega⟩
      case rest =>
        obtain ⟨hownS, hbS, hnnS⟩ := hcut
        clear HSP hown hit hbw hok hnn hzn hzs hst hal hnx hmk hown0 hg0 hb0
        obtain ⟨g5, cap5, rfl⟩ : ∃ g5 cap5, u5 = .slice (some ⟨g5, 0, none⟩) SP.length cap5 := by
          rcases hownS.2 with ⟨h, _⟩ | ⟨g5, cap5, _, h, _⟩
          · exact absurd h hnnS
          · exact ⟨g5, cap5, h⟩
        have hg5 : g5 < wc.heap.size := (hownS.lt g5 rfl).2
        obtain ⟨i9, hi9', hz90, hz91, hz92⟩ := info_parts text_row
        obtain ⟨W5, hmk5, hown5, hgr5⟩ := run_make_full (P := Tryz.prog) wc w.heap.size 33 9 i9 _ 1 Tryz.underlying33 hi9' hz90 hz91 .i64 .i64 SP.length (by rw [hz92]; omega) (by unfold maxLen; omega) hbS.size
        have hS5 := hownS.kept hgr5 (Classical.em _)
        have hb5 : Below w.heap.size w W5 := hbS.grown hgr5 hbS.size (fun k hk => by cases hk)
        rw [show (Value.string ⟨#[]⟩).cells = #[Value.string ⟨#[]⟩] from rfl, Nat.mul_one, toList_madeCells_one, ← Lib.rowAt_zero s SP] at hown5
        go_wp2
        go_loopg [49] SP.length (fun gf s49 wx => ∃ i : Nat, i + gf = SP.length ∧ s49 = .int .i64 i ∧ wx.ownsRow w.heap.size 9 1 (.slice (some ⟨wc.heap.size, 0, none⟩) SP.length SP.length) SP.length (Lib.rowAt s SP i) ∧
          wx.ownsRow w.heap.size 143 2 (.slice (some ⟨g5, 0, none⟩) SP.length cap5) SP.length (Lib.spanCells SP) ∧ Below w.heap.size w wx)
        case atStart => exact ⟨0, by omega, rfl, hown5, hS5, hb5⟩
        case round =>
          obtain ⟨i, hig, rfl, hA, hS, hbr⟩ := hrel
          cases gk with
          | zero =>
            obtain rfl : i = SP.length := by omega
            go_wp2
            go_ret
            rw [Lib.rowAt_all] at hA
            have hm : (SP.map fun x => s.extract x.1 x.2).map Value.string = SP.map fun x => Value.string (s.extract x.1 x.2) := by rw [List.map_map]; rfl
            have hGF : Lib.goFieldsP Fo.blR s = SP.map fun x => s.extract x.1 x.2 := by unfold Lib.goFieldsP; rw [← HSE.out]
            rw [hGF]
            unfold OutFields
            rw [List.length_map, hm]
            exact ⟨wc.heap.size, rfl, hA, hbr⟩
          | succ gf =>
            have hin : (i : Int) < (SP.length : Int) := by omega
            obtain ⟨x, hx⟩ : ∃ x, SP[i]? = some x := ⟨_, List.getElem?_eq_getElem (by omega)⟩
            have hxo := hokS x (List.mem_of_getElem? hx)
            have hc0 : wr.cell? ⟨g5, i * 2, none⟩ = some (.int .i64 x.1) := (hS.cellAt (i * 2) (by omega)).trans (Lib.spanCells_at SP i x hx).1
            have hc1 : wr.cell? ⟨g5, i * 2 + 1, none⟩ = some (.int .i64 x.2) := (hS.cellAt (i * 2 + 1) (by omega)).trans (Lib.spanCells_at SP i x hx).2
            have hA' := hA.alloc (.cells #[.int .i64 (x.1 : Int), .int .i64 (x.2 : Int)] 143)
            have hS' := hS.alloc (.cells #[.int .i64 (x.1 : Int), .int .i64 (x.2 : Int)] 143)
            obtain ⟨old, hold⟩ : ∃ old, (Lib.rowAt s SP i)[i]? = some old := ⟨_, List.getElem?_eq_getElem (by have := hA.1; omega)⟩
            have hcA := (hA'.cellAt i (by omega)).trans hold
            have hfA := hA'.frozenAt i
            have hst' := hA'.stored i (.string (s.extract x.1 x.2))
            rw [Lib.rowAt_set s SP i x hx] at hst'
            have HST := Lib.hid hst'; clear hst'
            have HX := Lib.hid hx; clear hx
            go_wp2
            go_roundg gf
            case measure => omega
            case rel =>
              have hst' := HST.out
              refine ⟨i + 1, by omega, by go_num, ?_, ?_, ?_⟩
              · exact hst'.1
              · exact hS'.kept hst'.2 (by simp [Value.ownBlock]; omega)
              · exact (hbr.alloc hbr.size _).grown hst'.2 (by have := hbr.size; simp; omega) (fun k hk => by cases hk; exact hbS.size)

/-- Words. -/
def bs (l : List (List UInt8)) : List ByteArray := l.map fun x => ⟨x.toArray⟩
theorem bs_length (l : List (List UInt8)) : (bs l).length = l.length := by simp [bs]
theorem fields_bs (s : ByteArray) : Lib.goFieldsP Fo.blR s = bs (Fo.words s.data.toList) := by
  unfold bs
  rw [← Fo.fields_words, List.map_map]
  conv => lhs; rw [← List.map_id (Lib.goFieldsP Fo.blR s)]
  exact List.map_congr_left fun t _ => (mk_data' t).symm
theorem words_own (s : ByteArray) (w : World) (hs : s.size ≤ 10000000) : Calls Tryz.prog 56 #[.string s] w (OutFields (bs (Fo.words s.data.toList)) w) := by
  have c23 := fields_any s w hs
  rw [fields_bs] at c23
  obtain ⟨L, hL⟩ : ∃ L, L = bs (Fo.words s.data.toList) := ⟨_, rfl⟩
  rw [← hL] at c23 ⊢
  have C := Lib.hid c23; clear c23 hL
  go_enter Tryz.func56, Tryz.ntmps56
  go_wp2_with fail
  refine C.out.mono ?_
  rintro e w1 ⟨A, rfl, hown, hb1⟩
  go_wp2
  go_ret
  exact ⟨A, rfl, hown, hb1⟩
theorem words_any (s : ByteArray) (w : World) (hs : s.size ≤ 10000000) : Calls Tryz.prog 56 #[.string s] w (OutTexts (bs (Fo.words s.data.toList)) w) :=
  (words_own s w hs).mono fun e w' ⟨A, he, hown, hb⟩ => ⟨some ⟨A, 0, none⟩, _, he, Nat.le_refl _, (fun h => by cases h), Texts.of_own hown, hb⟩
end Go.Proofs.YtajokmcdhhiahaaGreatDoor
