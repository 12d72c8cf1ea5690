/- slices.Clone of nodes, of attributes, of numbers. -/
import Derived.Test.YtbhnfnbnngclmaaGreatDoorDC
import Derived.WalkSpells
namespace Go.Proofs.YtbhnfnbnngclmaaGreatDoor
open Go.RowKit Go.Sort Go.BigFrame Go.Maps Go.WideMaps
set_option maxRecDepth 100000

theorem clonen_row : (Tryz.prog.info? 37).map (fun i => (i.zero, i.size, i.bytes)) = some (some (.agg #[.int .i64 0, .string ⟨#[]⟩, .string ⟨#[]⟩, .slice none 0 0, .int .i64 0, .slice none 0 0, .bool false, .bool false]), 8, 104) := by kernel_rfl
theorem clonea_row : (Tryz.prog.info? 63).map (fun i => (i.zero, i.size, i.bytes)) = some (some (.agg #[.string ⟨#[]⟩, .string ⟨#[]⟩]), 2, 32) := by kernel_rfl
theorem clonei_row : (Tryz.prog.info? 3).map (fun i => (i.zero, i.size, i.bytes)) = some (some (.int .i64 0), 1, 8) := by kernel_rfl
theorem own_none (w : World) (base : Nat) (hb : base ≤ w.heap.size) (T : TypeId) (size : Nat) : (w.alloc (.cells #[] T)).ownsRow base T size (.slice (some ⟨w.heap.size, 0, none⟩) 0 0) 0 [] :=
  ⟨by simp, .inr ⟨w.heap.size, 0, #[], rfl, hb, heap_alloc_new w _, Nat.le_refl _, Nat.zero_le _, by simp, by simp⟩⟩
/-- A result that is a row of the call's own. -/
def OutRow (E size n : Nat) (news : List Value) (w : World) (e : Ending) (w' : World) : Prop := ∃ g c, e = .returned (.slice (some ⟨g, 0, none⟩) n c) ∧ w'.ownsRow w.heap.size E size (.slice (some ⟨g, 0, none⟩) n c) n news ∧ Below w.heap.size w w'

theorem clonen_nil (w : World) : Calls Tryz.prog 39 #[.slice none 0 0] w fun e w' => e = .returned (.slice none 0 0) ∧ w' = w := by
  have q : ∀ (w : World) (a : Option Addr) (n c n' c' : Nat), (binOp .eql 24 (.slice a n c) (.slice none n' c')).run Tryz.prog w = .ok (.bool a.isNone) w := fun w a n c n' c' => Lib.run_eql_slice_nil w _ _ a n c n' c' Tryz.underlying24
  go_enter Tryz.func39, Tryz.ntmps39
  go_wp2_with fail
  go_ret
  exact ⟨rfl, rfl⟩
theorem clonen_some (ad : Addr) (n cap : Nat) (news : List Value) (w : World) (hn : 0 < n) (hn2 : n ≤ 1000) (hl : news.length = n * 8) (hc : ∀ j u, news[j]? = some u → w.cell? (ad.add j) = some u) (h1 : ∀ u ∈ news, u.oneCell' = true) (had : ad.block < w.heap.size) :
    Calls Tryz.prog 39 #[.slice (some ad) n cap] w (OutRow 37 8 n news w) := by
  have q : ∀ (w : World) (a : Option Addr) (n c n' c' : Nat), (binOp .eql 24 (.slice a n c) (.slice none n' c')).run Tryz.prog w = .ok (.bool a.isNone) w := fun w a n c n' c' => Lib.run_eql_slice_nil w _ _ a n c n' c' Tryz.underlying24
  obtain ⟨i0, hi, hz0, hz1, hz2⟩ := info_parts clonen_row
  have HI := Lib.hid hi
  have hc2 : ∀ j u, news[j]? = some u → (w.alloc (.cells #[] 37)).cell? (ad.add j) = some u := fun j u h => ((below_alloc' w _).cell (by rw [add_block]; exact had)).trans (hc j u h)
  have HC := Lib.hid hc2
  have HL := Lib.hid hl
  have H1 := Lib.hid h1
  clear hi hc hc2 hl h1
  go_enter Tryz.func39, Tryz.ntmps39
  go_wp2_with (at_builtin; refine wpList_append_lies _ rfl (.tmp 5) (.tmp 6) 24 rfl w.heap.size 37 i0 _ 8 _ Tryz.underlying24 HI.out hz0 hz1 hz2 rfl (by omega) _ 0 [] rfl (own_none w w.heap.size (Nat.le_refl _) 37 8) ad n cap news rfl HL.out HC.out H1.out hn (by unfold maxLen; omega) (by omega) (by simp) (w.heap.size + 1) (by simp) ?_; intro gg cc w1 hown hgrow hat hltg; have hb1 := (below_alloc' w (.cells #[] 37)).grown hgrow (by simp) (fun k hk => by cases hk; exact Nat.le_refl _); have HO := Lib.hid hown; have HB := Lib.hid hb1; clear hown hgrow hat hltg hb1)
  go_ret
  have ho := HO.out
  rw [Nat.zero_add, List.nil_append] at ho
  exact ⟨gg, cc, rfl, ho, HB.out⟩

theorem clonea_nil (w : World) : Calls Tryz.prog 40 #[.slice none 0 0] w fun e w' => e = .returned (.slice none 0 0) ∧ w' = w := by
  have q : ∀ (w : World) (a : Option Addr) (n c n' c' : Nat), (binOp .eql 34 (.slice a n c) (.slice none n' c')).run Tryz.prog w = .ok (.bool a.isNone) w := fun w a n c n' c' => Lib.run_eql_slice_nil w _ _ a n c n' c' Tryz.underlying34
  go_enter Tryz.func40, Tryz.ntmps40
  go_wp2_with fail
  go_ret
  exact ⟨rfl, rfl⟩
theorem clonea_some (ad : Addr) (n cap : Nat) (news : List Value) (w : World) (hn : 0 < n) (hn2 : n ≤ 1000) (hl : news.length = n * 2) (hc : ∀ j u, news[j]? = some u → w.cell? (ad.add j) = some u) (h1 : ∀ u ∈ news, u.oneCell' = true) (had : ad.block < w.heap.size) :
    Calls Tryz.prog 40 #[.slice (some ad) n cap] w (OutRow 63 2 n news w) := by
  have q : ∀ (w : World) (a : Option Addr) (n c n' c' : Nat), (binOp .eql 34 (.slice a n c) (.slice none n' c')).run Tryz.prog w = .ok (.bool a.isNone) w := fun w a n c n' c' => Lib.run_eql_slice_nil w _ _ a n c n' c' Tryz.underlying34
  obtain ⟨i0, hi, hz0, hz1, hz2⟩ := info_parts clonea_row
  have HI := Lib.hid hi
  have hc2 : ∀ j u, news[j]? = some u → (w.alloc (.cells #[] 63)).cell? (ad.add j) = some u := fun j u h => ((below_alloc' w _).cell (by rw [add_block]; exact had)).trans (hc j u h)
  have HC := Lib.hid hc2
  have HL := Lib.hid hl
  have H1 := Lib.hid h1
  clear hi hc hc2 hl h1
  go_enter Tryz.func40, Tryz.ntmps40
  go_wp2_with (at_builtin; refine wpList_append_lies _ rfl (.tmp 5) (.tmp 6) 34 rfl w.heap.size 63 i0 _ 2 _ Tryz.underlying34 HI.out hz0 hz1 hz2 rfl (by omega) _ 0 [] rfl (own_none w w.heap.size (Nat.le_refl _) 63 2) ad n cap news rfl HL.out HC.out H1.out hn (by unfold maxLen; omega) (by omega) (by simp) (w.heap.size + 1) (by simp) ?_; intro gg cc w1 hown hgrow hat hltg; have hb1 := (below_alloc' w (.cells #[] 63)).grown hgrow (by simp) (fun k hk => by cases hk; exact Nat.le_refl _); have HO := Lib.hid hown; have HB := Lib.hid hb1; clear hown hgrow hat hltg hb1)
  go_ret
  have ho := HO.out
  rw [Nat.zero_add, List.nil_append] at ho
  exact ⟨gg, cc, rfl, ho, HB.out⟩

theorem clonei_nil (w : World) : Calls Tryz.prog 41 #[.slice none 0 0] w fun e w' => e = .returned (.slice none 0 0) ∧ w' = w := by
  have q : ∀ (w : World) (a : Option Addr) (n c n' c' : Nat), (binOp .eql 35 (.slice a n c) (.slice none n' c')).run Tryz.prog w = .ok (.bool a.isNone) w := fun w a n c n' c' => Lib.run_eql_slice_nil w _ _ a n c n' c' Tryz.underlying35
  go_enter Tryz.func41, Tryz.ntmps41
  go_wp2_with fail
  go_ret
  exact ⟨rfl, rfl⟩
theorem clonei_some (ad : Addr) (n cap : Nat) (news : List Value) (w : World) (hn : 0 < n) (hn2 : n ≤ 1000) (hl : news.length = n * 1) (hc : ∀ j u, news[j]? = some u → w.cell? (ad.add j) = some u) (h1 : ∀ u ∈ news, u.oneCell' = true) (had : ad.block < w.heap.size) :
    Calls Tryz.prog 41 #[.slice (some ad) n cap] w (OutRow 3 1 n news w) := by
  have q : ∀ (w : World) (a : Option Addr) (n c n' c' : Nat), (binOp .eql 35 (.slice a n c) (.slice none n' c')).run Tryz.prog w = .ok (.bool a.isNone) w := fun w a n c n' c' => Lib.run_eql_slice_nil w _ _ a n c n' c' Tryz.underlying35
  obtain ⟨i0, hi, hz0, hz1, hz2⟩ := info_parts clonei_row
  have HI := Lib.hid hi
  have hc2 : ∀ j u, news[j]? = some u → (w.alloc (.cells #[] 3)).cell? (ad.add j) = some u := fun j u h => ((below_alloc' w _).cell (by rw [add_block]; exact had)).trans (hc j u h)
  have HC := Lib.hid hc2
  have HL := Lib.hid hl
  have H1 := Lib.hid h1
  clear hi hc hc2 hl h1
  go_enter Tryz.func41, Tryz.ntmps41
  go_wp2_with (at_builtin; refine wpList_append_lies _ rfl (.tmp 5) (.tmp 6) 35 rfl w.heap.size 3 i0 _ 1 _ Tryz.underlying35 HI.out hz0 hz1 hz2 rfl (by omega) _ 0 [] rfl (own_none w w.heap.size (Nat.le_refl _) 3 1) ad n cap news rfl HL.out HC.out H1.out hn (by unfold maxLen; omega) (by omega) (by simp) (w.heap.size + 1) (by simp) ?_; intro gg cc w1 hown hgrow hat hltg; have hb1 := (below_alloc' w (.cells #[] 3)).grown hgrow (by simp) (fun k hk => by cases hk; exact Nat.le_refl _); have HO := Lib.hid hown; have HB := Lib.hid hb1; clear hown hgrow hat hltg hb1)
  go_ret
  have ho := HO.out
  rw [Nat.zero_add, List.nil_append] at ho
  exact ⟨gg, cc, rfl, ho, HB.out⟩

/-- A row of the call's own, whole. -/
theorem own_block {w : World} {base E size g n c : Nat} {xs : List Value} (h : w.ownsRow base E size (.slice (some ⟨g, 0, none⟩) n c) n xs) : ∃ cur : Array Value, w.heap[g]? = some (.cells cur E (0, 0)) ∧ base ≤ g ∧ n ≤ c ∧ cur.size = c * size ∧ ∀ (j : Nat) (u : Value), xs[j]? = some u → cur[j]? = some u := by
  rcases h.2 with ⟨hv, _⟩ | ⟨g', cap, cur, hv, hb, hg, hc, _, hs, ht⟩
  · cases hv
  · injection hv with h1 h2 h3
    injection h1 with h1
    injection h1 with h1
    subst h1 h3
    refine ⟨cur, hg, hb, hc, hs, fun j u hu => ?_⟩
    rw [← ht, List.getElem?_take] at hu
    split at hu
    · simpa using hu
    · cases hu
/-- A result that reads as this list of attributes, and is none of what was there. -/
def OutAts (o : Option (ByteArray × ByteArray)) (w : World) (e : Ending) (w' : World) : Prop := ∃ A n c, e = .returned (.slice A n c) ∧ Ats w' (.slice A n c) o ∧ Below w.heap.size w w'
def OutKid (o : Option Nat) (w : World) (e : Ending) (w' : World) : Prop := ∃ A n c, e = .returned (.slice A n c) ∧ Kid w' (.slice A n c) o ∧ Below w.heap.size w w'
theorem cloneats_any (v : Value) (o : Option (ByteArray × ByteArray)) (w : World) (h : Ats w v o) : Calls Tryz.prog 40 #[v] w (OutAts o w) := by
  cases o with
  | none =>
    obtain rfl : v = _ := h
    refine (clonea_nil w).mono ?_
    rintro e w' ⟨rfl, rfl⟩
    exact ⟨none, 0, 0, rfl, rfl, Below.refl _ _⟩
  | some p =>
    obtain ⟨g, cap, cs, fr, rfl, hcap, hg, h0, h1⟩ := h
    refine (clonea_some ⟨g, 0, none⟩ 1 cap [.string p.1, .string p.2] w (by omega) (by omega) rfl ?_ (by simp [Value.oneCell']) (hlt hg)).mono ?_
    · intro j u hu
      rw [add_at, Nat.zero_add, cell_row hg]
      match j, hu with
      | 0, hu => rw [h0]; exact hu
      | 1, hu => rw [h1]; exact hu
      | j + 2, hu => simp at hu
    · rintro e w' ⟨g', c', rfl, ho, hb⟩
      obtain ⟨cur, hg', _, hc', _, hx⟩ := own_block ho
      exact ⟨_, _, _, rfl, ⟨g', c', cur, _, rfl, hc', hg', hx 0 _ rfl, hx 1 _ rfl⟩, hb⟩
theorem clonekid_any (v : Value) (o : Option Nat) (w : World) (h : Kid w v o) : Calls Tryz.prog 41 #[v] w (OutKid o w) := by
  cases o with
  | none =>
    obtain rfl : v = _ := h
    refine (clonei_nil w).mono ?_
    rintro e w' ⟨rfl, rfl⟩
    exact ⟨none, 0, 0, rfl, rfl, Below.refl _ _⟩
  | some p =>
    obtain ⟨g, cap, cs, fr, rfl, hcap, hg, h0⟩ := h
    refine (clonei_some ⟨g, 0, none⟩ 1 cap [.int .i64 p] w (by omega) (by omega) rfl ?_ (by simp [Value.oneCell']) (hlt hg)).mono ?_
    · intro j u hu
      rw [add_at, Nat.zero_add, cell_row hg]
      match j, hu with
      | 0, hu => rw [h0]; exact hu
      | j + 1, hu => simp at hu
    · rintro e w' ⟨g', c', rfl, ho, hb⟩
      obtain ⟨cur, hg', _, hc', _, hx⟩ := own_block ho
      exact ⟨_, _, _, rfl, ⟨g', c', cur, _, rfl, hc', hg', hx 0 _ rfl⟩, hb⟩
end Go.Proofs.YtbhnfnbnngclmaaGreatDoor
