import Derived.Test.YtbbgelgjepjpgaaDoorE
namespace Go.Proofs.YtbbgelgjepjpgaaDoor
open Go.RowKit

theorem Texts.of_own {w : World} {base n : Nat} {A : Option Addr} {c : Nat} {ss : List ByteArray} (h : w.ownsRow base 9 1 (.slice A n c) n (ss.map Value.string)) : Texts w A n ss := by
  have hl : ss.length = n := by have := h.1; simpa using this
  refine ⟨hl, fun hn => ?_⟩
  rcases h.2 with ⟨hv, h0⟩ | ⟨g, cap, cur, hv, _, hg, _⟩
  · omega
  · injection hv with hA
    subst hA
    refine ⟨_, rfl, (Array.getElem?_eq_some_iff.1 hg).1, fun j hj => ?_⟩
    exact h.cells (g := g) rfl j (.string ss[j]) (by simp [List.getElem?_eq_getElem hj])
theorem own_form {w : World} {base e s n : Nat} {v : Value} {xs : List Value} (h : w.ownsRow base e s v n xs) : ∃ A c, v = .slice A n c ∧ n ≤ c ∧ (A = none → c = 0) := by
  rcases h.2 with ⟨rfl, rfl⟩ | ⟨g, cap, cur, rfl, _, _, hc, _⟩
  · exact ⟨none, 0, rfl, Nat.le_refl _, fun _ => rfl⟩
  · exact ⟨_, cap, rfl, hc, fun h => by cases h⟩

/-- A result that is a slice of texts. -/
def OutTexts (ss : List ByteArray) (n : Nat) (w : World) (e : Ending) (w' : World) : Prop :=
  ∃ A' c', e = .returned (.slice A' n c') ∧ (A' = none → c' = 0) ∧ Texts w' A' n ss ∧ Below w.heap.size w w'

set_option maxHeartbeats 1000000 in
theorem own_any (A : Option Addr) (n c : Nat) (ss : List ByteArray) (w : World) (hr : Texts w A n ss) (hn : n ≤ 1000000000) (hA : A = none → c = 0) :
    Calls Tryd.prog 10 #[.slice A n c] w (OutTexts ss n w) := by
  obtain ⟨i0, hi, hz0, hz1, hz2⟩ := info_parts info9
  cases A with
  | none =>
    obtain rfl : c = 0 := hA rfl
    obtain rfl : n = 0 := by
      rcases Nat.eq_zero_or_pos n with h | h
      · exact h
      · obtain ⟨ad, h, _⟩ := hr.2 h; cases h
    go_enter Tryd.func10, Tryd.ntmps10
    go_wp2_with (at_builtin; refine wpList_append_own_none rfl _ _ 22 rfl w.heap.size 9 i0 1 Tryd.underlying22 hi _ 0 [] rfl (World.ownsRow_nil _ _ _ _) rfl ?_)
    go_ret
    exact ⟨none, 0, rfl, fun _ => rfl, hr, Below.refl _ _⟩
  | some ad =>
    have hcells : ∀ j u, (ss.map Value.string)[j]? = some u → w.cell? (ad.add j) = some u := by
      intro j u hu
      rcases Nat.lt_or_ge j ss.length with h | h
      · obtain ⟨ad', h1, _, h2⟩ := hr.2 (by have := hr.1; omega)
        injection h1 with h1
        subst h1
        rw [h2 j h]
        simpa [List.getElem?_eq_getElem h] using hu
      · simp [List.getElem?_eq_none h] at hu
    have HC := Lib.hid hcells; clear hcells
    have HN := Lib.hid hr.1
    go_enter Tryd.func10, Tryd.ntmps10
    go_wp2_with (at_builtin; refine wpList_append_own _ rfl _ _ 22 rfl w.heap.size 9 i0 (.string ⟨#[]⟩) 1 16 Tryd.underlying22 hi hz0 hz1 hz2 rfl (by decide) (.slice none 0 0) 0 [] rfl (World.ownsRow_nil _ _ _ _) ad n c (ss.map Value.string) rfl ?c0 HC.out ?c2 ?c3 ?c4 ?c5 ?_)
    case c0 => simp [HN.out]
    case c2 => intro u hu; simp at hu; obtain ⟨s, _, rfl⟩ := hu; rfl
    case c3 => unfold maxLen; omega
    case c4 => omega
    case c5 => exact Nat.le_refl _
    intro v' w' hown hg _
    obtain ⟨A', c', rfl, _, hnil⟩ := own_form hown
    have HNIL := Lib.hid hnil; clear hnil
    have HOWN := Lib.hid hown; clear hown
    have hbw : Below w.heap.size w w' := (Below.refl _ _).grown hg (Nat.le_refl _) (by simp [Value.ownBlock])
    clear hg
    go_wp2
    go_ret
    exact ⟨A', c', by simp, HNIL.out, Texts.of_own HOWN.out, hbw⟩

set_option maxHeartbeats 1000000 in
theorem texts_same (A A' : Option Addr) (n c c' : Nat) (ss : List ByteArray) (w : World) (hr : Texts w A n ss) (hr' : Texts w A' n ss) (hn : n ≤ 9223372036854775807) :
    Calls Tryd.prog 15 #[.slice A n c, .slice A' n c'] w fun e w' => e = .returned (.bool true) ∧ Below w.heap.size w w' := by
  have HN := Lib.hid hr.1
  go_enter Tryd.func15, Tryd.ntmps15
  go_wp2
  go_loopg [5] n (fun gk i wr => ∃ k : Nat, k + gk = n ∧ i = .int .i64 k ∧ Below w.heap.size w wr)
  case atStart => exact ⟨0, by omega, rfl, Below.refl _ _⟩
  case round =>
    obtain ⟨k, hk, rfl, hbw⟩ := hrel
    have HK := Lib.hid hk; clear hk
    by_cases hlt : k < n
    · have hkl : k < ss.length := by rw [HN.out]; exact hlt
      obtain ⟨ad, rfl, hc⟩ := hr.at_ hbw k hkl
      obtain ⟨ad', rfl, hc'⟩ := hr'.at_ hbw k hkl
      go_wp2
      go_quiet (fail)
      go_wp2
      go_roundg (gk - 1)
      case rel =>
        have hk := HK.out
        refine ⟨k + 1, by omega, by go_num, hbw.trans (below_drewN' _ _ |>.mono hbw.size)⟩
      case measure => have := HK.out; omega
    · go_wp2
      go_ret
      exact ⟨rfl, hbw⟩
end Go.Proofs.YtbbgelgjepjpgaaDoor
