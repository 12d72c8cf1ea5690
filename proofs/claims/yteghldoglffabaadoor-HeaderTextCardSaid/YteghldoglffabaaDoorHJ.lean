/- Print: a policy's text. -/
import Derived.Test.YteghldoglffabaaDoorHI
import Derived.Test.YteghldoglffabaaDoorShelfC
import Derived.Lib.Join
namespace Go.Proofs.YteghldoglffabaaDoor
open Go.RowKit Go.Shelf

theorem joinTail_length (sep : List UInt8) (m : Nat) (r : List (List UInt8)) (h : ∀ x ∈ r, x.length ≤ m) : (Lib.joinTail sep r).length ≤ r.length * (m + sep.length) := by
  induction r with
  | nil => simp [Lib.joinTail]
  | cons x r ih =>
    have h1 := ih (fun y hy => h y (List.mem_cons_of_mem _ hy))
    have h2 := h x (List.mem_cons_self ..)
    simp only [Lib.joinTail, List.map_cons, List.flatten_cons, List.length_append, List.length_cons] at h1 ⊢
    rw [Nat.add_mul, Nat.one_mul]
    omega
theorem join_length (xs : List (List UInt8)) (sep : List UInt8) (m : Nat) (h : ∀ x ∈ xs, x.length ≤ m) : (Lib.join xs sep).length ≤ xs.length * (m + sep.length) := by
  cases xs with
  | nil => simp [Lib.join_nil]
  | cons x r =>
    rw [Lib.join_cons, List.length_append, List.length_cons, Nat.add_mul, Nat.one_mul]
    have h1 := joinTail_length sep m r (fun y hy => h y (List.mem_cons_of_mem _ hy))
    have h2 := h x (List.mem_cons_self ..)
    omega
/-- strings.Join. -/
theorem join_any (A : Option Addr) (n c : Nat) (ss : List ByteArray) (sep : ByteArray) (w : World) (ht : Texts w A n ss) (hc : n ≤ c) (hn : n ≤ 140737488355328) (hl : (Lib.join (ss.map (·.data.toList)) sep.data.toList).length ≤ 140737488355328) :
    Calls Tryd.prog 31 #[.slice A n c, .string sep] w fun e w' => e = .returned (.string ⟨(Lib.join (ss.map (·.data.toList)) sep.data.toList).toArray⟩) ∧ Below w.heap.size w w' := by
  rcases Nat.eq_zero_or_pos n with h0 | h0
  · subst h0
    have hs0 : ss = [] := List.eq_nil_of_length_eq_zero ht.1
    subst hs0
    exact (Tryd.strings_Join_none A c sep w).mono fun e w' ⟨he, hw⟩ => by subst hw; exact ⟨he, Below.refl _ _⟩
  · obtain ⟨ad, rfl, hlt, hcc⟩ := ht.2 h0
    have hl' := ht.1
    obtain ⟨b, off, sp⟩ := ad
    have hsp := World.cell?_spot (hcc 0 (by omega))
    simp [Addr.add] at hsp
    subst hsp
    have := Tryd.strings_Join b off c ss sep w (fun j x hj => by
      obtain ⟨hj1, rfl⟩ := List.getElem?_eq_some_iff.1 hj
      have := hcc j hj1
      rwa [add_at] at this) hlt (by omega) (by omega) hl
    rwa [hl'] at this
/-- A literal of one text is a row of its own. -/
theorem own_lit (w : World) (s : ByteArray) (base : Nat) (hb : base ≤ w.heap.size) : (w.alloc (.cells #[.string s] 9)).ownsRow base 9 1 (.slice (some ⟨w.heap.size, 0, none⟩) 1 1) 1 ([s].map Value.string) :=
  ⟨rfl, .inr ⟨w.heap.size, 1, _, rfl, hb, heap_alloc_new w _, Nat.le_refl _, by unfold maxLen; omega, rfl, rfl⟩⟩
def dirTextB (d : ByteArray × List ByteArray) : List UInt8 := Lib.join ((d.1 :: d.2).map (·.data.toList)) [32]
def printB (ds : List (ByteArray × List ByteArray)) : List UInt8 := Lib.join (ds.map dirTextB) [59, 32]
theorem right_mem : ∀ (ds : List (ByteArray × List ByteArray)) (seen : List (List UInt8)), rightGo seen ds = true → ∀ d ∈ ds, d.1.size ≤ 40 ∧ d.2.length ≤ 200
  | [], _, _, _, h => by cases h
  | e :: r, seen, hr, d, h => by
    unfold rightGo at hr
    simp only [Bool.and_eq_true, decide_eq_true_eq] at hr
    obtain ⟨⟨⟨⟨h1, _⟩, h3⟩, _⟩, h5⟩ := hr
    cases h with
    | head =>
      refine ⟨?_, h3⟩
      unfold Hd.name at h1
      simp at h1
      omega
    | tail _ h => exact right_mem r _ h5 d h

set_option maxHeartbeats 4000000 in
set_option maxRecDepth 100000 in
theorem print_any (dv : Value) (r : Bool) (ds : List (ByteArray × List ByteArray)) (w : World) (hd : DirsV w dv ds) (hm : Mild ds) (hsm : ds.length ≤ 10000) :
    Calls Tryd.prog 17 #[.agg #[dv, .bool r]] w fun e w' => e = .returned (.tuple #[.string (if rightB ds then ⟨(printB ds).toArray⟩ else ⟨#[]⟩), .bool (rightB ds)]) ∧ Below w.heap.size w w' := by
  have c30 := fun w' (hb : Below w.heap.size w w') => right_any dv r ds w' (hd.below hb) hm
  obtain ⟨A, c, rfl, hc, hz, hcell⟩ := hd
  obtain ⟨N, hN⟩ : ∃ N, N = ds.length := ⟨_, rfl⟩
  obtain ⟨RB, hRB⟩ : ∃ RB, RB = rightB ds := ⟨_, rfl⟩
  rw [← hN] at hc c30
  rw [← hRB] at c30 ⊢
  have HN := Lib.hid hN
  have HC := Lib.hid hcell
  have HM := Lib.hid hm
  have HRB := Lib.hid hRB
  have C30 := Lib.hid c30
  have hn : N ≤ 10000 := by rw [hN]; exact hsm
  clear hcell hm hRB c30 hsm
  go_enter Tryd.func17, Tryd.ntmps17
  rw [← hN]
  clear hN
  go_wp2_with fail
  refine (C30.out _ (below_alloc' w _)).mono ?_
  rintro e w1 ⟨rfl, hb1⟩
  have hbx1 := (hb1.block w.heap.size (by simp)).trans (heap_alloc_new w (.cells #[.slice A N c, .bool r] 29))
  have hc0 := cell_row hbx1 0
  have hc1 := cell_row hbx1 1
  simp at hc0 hc1
  have hbw1 : Below w.heap.size w w1 := (below_alloc' w _).trans (hb1.mono (by simp))
  have HBW1 := Lib.hid hbw1
  clear hb1 hbw1 hbx1
  cases RB
  · go_wp2_with fail
    go_ret2
    exact ⟨rfl, HBW1.out⟩
  have hrt : rightGo [] ds = true := by have := HRB.out; unfold rightB at this; simp at this; exact this.1
  have hmem := right_mem ds [] hrt
  have htext : ∀ d ∈ ds, (dirTextB d).length ≤ 2010000201 := fun d hd => by
    have h1 := hmem d hd
    have h2 := HM.out.2 d hd
    have h3 := join_length ((d.1 :: d.2).map (·.data.toList)) [32] 10000000 (fun x hx => by
      obtain ⟨y, hy, rfl⟩ := List.mem_map.1 hx
      rw [size_len]
      cases hy with
      | head => exact h2.1
      | tail _ hy => exact h2.2.2 y hy)
    refine Nat.le_trans h3 ?_
    rw [List.length_map, List.length_cons, show ([32] : List UInt8).length = 1 from rfl]
    omega
  have hfull : (printB ds).length ≤ 140737488355328 := by
    have h3 := join_length (ds.map dirTextB) [59, 32] 2010000201 (fun x hx => by
      obtain ⟨y, hy, rfl⟩ := List.mem_map.1 hx
      exact htext y hy)
    refine Nat.le_trans h3 ?_
    rw [List.length_map, ← HN.out, show ([59, 32] : List UInt8).length = 2 from rfl]
    omega
  have HTEXT := Lib.hid htext
  have HFULL := Lib.hid hfull
  clear hrt hmem htext hfull
  go_wp2_with fail
  go_loopg [4, 13] N (fun gk lv v wr => ∃ k : Nat, k + gk = N ∧ v = .int .i64 k ∧ wr.ownsRow w.heap.size 9 1 lv k ((bs ((ds.take k).map dirTextB)).map Value.string) ∧ Hid (Below w.heap.size w wr))
  case atStart => exact ⟨0, by omega, rfl, World.ownsRow_nil _ _ _ _, HBW1.out⟩
  case round =>
    obtain ⟨k, hk, rfl, hown, HB⟩ := hrel
    have HK := Lib.hid hk; clear hk
    have HOWN := Lib.hid hown
    clear hown
    by_cases hlt : k < N
    · have hkl : k < ds.length := by rw [← HN.out]; exact hlt
      obtain ⟨g, off, rfl, hgl, hcc⟩ := HC.out (by omega)
      obtain ⟨q1, wv, q2, q3⟩ := hcc k hkl
      have hmk := HM.out.2 _ (List.getElem_mem hkl)
      have htk := HTEXT.out _ (List.getElem_mem hkl)
      obtain ⟨nm, hnm⟩ : ∃ nm, nm = ds[k].1 := ⟨_, rfl⟩
      obtain ⟨ws, hws⟩ : ∃ ws, ws = ds[k].2 := ⟨_, rfl⟩
      have hdk : ds[k] = (nm, ws) := by rw [hnm, hws]
      rw [hdk] at htk
      rw [← hnm] at q1 hmk
      rw [← hws] at q3 hmk
      obtain ⟨hm1, hm2, hm3⟩ := hmk
      have r1 : wr.cell? ⟨g, off + k * 2, none⟩ = some (.string nm) := (HB.out.cell hgl).trans q1
      have r2 : wr.cell? ⟨g, off + k * 2 + 1, none⟩ = some wv := (HB.out.cell hgl).trans q2
      obtain ⟨WA, wc, rfl, hwc, hwz, hwt⟩ := q3.below HB.out
      obtain ⟨M, hM⟩ : ∃ M, M = ws.length := ⟨_, rfl⟩
      have hsucc : (bs ((ds.take (k + 1)).map dirTextB)) = bs ((ds.take k).map dirTextB) ++ [⟨(dirTextB (nm, ws)).toArray⟩] := by
        rw [List.take_succ_eq_append_getElem hkl, List.map_append, hdk]; simp [bs]
      have hlit : ((wr.alloc (.cells #[.string nm, .slice WA M wc] 42)).alloc (.cells #[.string nm] 9)).ownsRow wr.heap.size 9 1 (.slice (some ⟨wr.heap.size + 1, 0, none⟩) 1 1) 1 ([nm].map Value.string) := by
        have := own_lit (wr.alloc (.cells #[.string nm, .slice WA M wc] 42)) nm wr.heap.size (by simp)
        rwa [World.size_alloc] at this
      have hb2 : Below wr.heap.size wr ((wr.alloc (.cells #[.string nm, .slice WA M wc] 42)).alloc (.cells #[.string nm] 9)) := ((Below.refl _ wr).alloc (Nat.le_refl _) _).alloc (by simp) _
      rw [← hM] at r2 hm2 hwc hwt
      have hwt2 := hwt.below hb2
      have HLIT := Lib.hid hlit
      have HB2 := Lib.hid hb2
      have HWT := Lib.hid hwt2
      have HWZ := Lib.hid hwz
      have HSUCC := Lib.hid hsucc
      have HTK := Lib.hid htk
      clear hlit hb2 hwt hwt2 hwz hsucc htk hm1 hm3 q1 q2 q3 hcc hnm hws hdk hM
      go_wp2_with (at_builtin; refine wpList_append_any_texts rfl (.tmp 20) (.tmp 22) rfl _ wr wr.heap.size _ 1 [nm] ws WA M wc rfl rfl HLIT.out HWT.out (fun e => ⟨by have := HWZ.out e; omega, HWZ.out e⟩) HB2.out (by simp; omega) (by omega) ?_; intro v1 w2 hown2 hbw2; obtain ⟨VA, VC, rfl, hvc, hvz⟩ := own_form hown2)
      have htx2 := Texts.of_own hown2
      have hj := join_any VA (1 + M) VC ([nm] ++ ws) ⟨#[32]⟩ w2 htx2 hvc (by omega) (by have := HTK.out; unfold dirTextB at this; exact Nat.le_trans this (by omega))
      have HJN := Lib.hid hj
      have HBW2 := Lib.hid hbw2
      clear hown2 htx2 hj hbw2
      go_wp2_with fail
      refine HJN.out.mono ?_
      rintro e w3 ⟨rfl, hb3⟩
      have hbw3 := HBW2.out.trans (hb3.mono HBW2.out.size)
      have hown3 := own_below HOWN.out hbw3
      have hbw03 := HB.out.trans (hbw3.mono HB.out.size)
      have hw3 := hbw03.size
      have HOWN3 := Lib.hid hown3
      have HBW03 := Lib.hid hbw03
      clear hown3 hbw03 hbw3 hb3
      go_wp2_with (at_builtin; refine wpList_append_text rfl (.tmp 17) (.tmp 25) rfl w3 w w.heap.size _ k (bs ((ds.take k).map dirTextB)) _ rfl rfl HOWN3.out HBW03.out hw3 (by omega) ?_; intro v4 w4 hown4 hbw4)
      go_roundg (gk - 1)
      case rel =>
        have hk := HK.out
        refine ⟨k + 1, by omega, by go_num, ?_, hbw4⟩
        rw [HSUCC.out]
        exact hown4
      case measure => have hk := HK.out; omega
    · have hk := HK.out
      have hkn : ds.length ≤ k := by rw [← HN.out]; omega
      have hown := HOWN.out
      rw [List.take_of_length_le hkn] at hown
      obtain ⟨VA, VC, rfl, hvc, hvz⟩ := own_form hown
      have htx := Texts.of_own hown
      have hpr : Lib.join ((bs (ds.map dirTextB)).map (·.data.toList)) [59, 32] = printB ds := by
        unfold printB bs
        rw [List.map_map]
        congr 1
        conv => rhs; rw [← List.map_id (ds.map dirTextB)]
        exact List.map_congr_left fun x _ => rfl
      have hj := join_any VA k VC _ ⟨#[59, 32]⟩ wr htx hvc (by omega) (by show (Lib.join _ [59, 32]).length ≤ _; rw [hpr]; exact HFULL.out)
      rw [show ((⟨#[59, 32]⟩ : ByteArray).data.toList) = [59, 32] from rfl, hpr] at hj
      have HJN := Lib.hid hj
      clear hown htx hpr hj hk
      go_wp2_with fail
      refine HJN.out.mono ?_
      rintro e w3 ⟨rfl, hb3⟩
      have hbw3 := HB.out.trans (hb3.mono HB.out.size)
      go_wp2_with fail
      go_ret2
      exact ⟨rfl, hbw3⟩
end Go.Proofs.YteghldoglffabaaDoor
