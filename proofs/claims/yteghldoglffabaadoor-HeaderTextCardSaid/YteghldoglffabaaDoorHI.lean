/- right: is a policy right. -/
import Derived.Test.YteghldoglffabaaDoorHH
import Derived.Maps.OwnSet
import Derived.StringKeys
namespace Go.Proofs.YteghldoglffabaaDoor
open Go.RowKit Go.Shelf

theorem odd_any (x : Sm) (W : World) : FnGives Tryd.prog 46 #[] #[encS x] (.bool (noWord x)) W := by
  show Calls Tryd.prog 46 #[.string x.1] W _
  have c39 := word_any x.1
  go_enter Tryd.func46, Tryd.ntmps46
  go_wp2_with (go_at_call 39; refine (c39 _ x.2).mono ?_; rintro e w' ⟨rfl, rfl⟩)
  go_ret
  exact ⟨rfl, 0, rfl⟩
/-- Is one of the texts no word. -/
def oddB (ss : List ByteArray) : Bool := ss.any fun s => !Hd.word s.data.toList
theorem has45 (A : Option Addr) (n c : Nat) (ss : List ByteArray) (w : World) (ht : Texts w A n ss) (hss : ∀ s ∈ ss, s.size ≤ 10000000) (hn : n ≤ 10000000) : Calls Tryd.prog 45 #[.slice A n c, .func (.func 46) #[] #[]] w fun e w' => e = .returned (.bool (oddB ss)) ∧ Below w.heap.size w w' := by
  rcases Nat.eq_zero_or_pos n with h0 | h0
  · subst h0
    have hs0 : ss = [] := List.eq_nil_of_length_eq_zero ht.1
    subst hs0
    exact (AnyE.slices_ContainsFunc_empty Tryd.laysHas A c _ w).mono fun e w' ⟨he, hw⟩ => by subst hw; exact ⟨he, Below.refl _ _⟩
  · obtain ⟨ad, rfl, _, hc⟩ := ht.2 h0
    have hl := ht.1
    obtain ⟨b, off, sp⟩ := ad
    have hsp := World.cell?_spot (hc 0 (by omega))
    simp [Addr.add] at hsp
    subst hsp
    obtain ⟨dl, hdl⟩ : ∃ dl : List Sm, dl.map (·.1) = ss := ⟨ss.pmap (fun s h => ⟨s, h⟩) hss, by rw [List.map_pmap]; simp⟩
    have hdn : dl.length = n := by rw [← hl, ← hdl, List.length_map]
    have eg : ∀ args w, (callFunc 46 args).run Tryd.prog w = .ok (.enter 46 args) w := enters_of Tryd.func46 (by kernel_rfl) rfl
    have h := AnyE.slices_ContainsFunc Tryd.laysHas encS noWord 46 #[] eg b off n c dl w (fun W x _ => odd_any x W) (by omega) (by omega) (fun j hj => by
      have := hc j (by omega)
      rw [add_at] at this
      rw [this, getElem!_pos dl j hj]
      have h1 : (dl.map (·.1))[j]? = some (dl[j]).1 := by simp [List.getElem?_eq_getElem hj]
      simp only [hdl] at h1
      rw [List.getElem?_eq_getElem (by omega)] at h1
      injection h1 with h1
      rw [h1]; rfl)
    refine h.mono ?_
    rintro e w' ⟨rfl, q, rfl⟩
    refine ⟨?_, below_drewN' w q⟩
    rw [List.take_of_length_le (by omega)]
    apply ret_bool
    unfold oddB
    rw [← hdl, List.any_map]
    rfl
/-- The names that have come, each true. -/
def SetOK (D : DataW Unit) (ns : List (List UInt8)) : Prop := Maps.Tidy D ∧ (∀ l, Maps.has D (.string l) = ns.contains l) ∧ (∀ l z, ns.contains l = true → D.atKey (.string l) z = .lit (.bool true)) ∧ Maps.size D = ns.length
theorem SetOK.nil : SetOK (.map []) [] := ⟨Maps.tidy_empty, fun _ => rfl, fun l z h => by simp at h, rfl⟩
theorem SetOK.put {D : DataW Unit} {ns : List (List UInt8)} (h : SetOK D ns) (n : List UInt8) (hn : ns.contains n = false) : SetOK (D.put (.string n) (.lit (.bool true))) (ns ++ [n]) := by
  obtain ⟨h1, h2, h3, h4⟩ := h
  have hk : WideAt.IsKeyLit (Lit.string n) := by trivial
  refine ⟨h1.put hk _, fun l => ?_, fun l z hl => ?_, ?_⟩
  · by_cases e : l = n
    · subst e; rw [Maps.has_put_same h1.isMap hk]; simp
    · rw [Maps.has_put_other (by simpa using e), h2]; simp [e]
  · by_cases e : l = n
    · subst e; rw [Maps.atKey_put_same h1.isMap hk]
    · rw [Maps.atKey_put_other (by simpa using e)]
      exact h3 l z (by simpa [e] using hl)
  · rw [Maps.size_put h1, h2, hn, h4]; simp
theorem plain_bool {v : Value} {x : Bool} {ps : List MemPlace} (h : plainElem (H := Unit) Tryd.prog 4 v = some (.lit (.bool x), ps)) : v = .bool x := by
  unfold plainElem at h
  split at h
  · cases h; rfl
  · split at h <;> cases h
  · split at h <;> cases h
  · cases h
theorem SetOK.look {w : World} {b n : Nat} {D : DataW Unit} {ns : List (List UInt8)} (h : SetOK D ns) (hown : w.ownsMap Tryd.prog 9 (plainElem Tryd.prog 4) b n D) (s : ByteArray) (hs : s.size ≤ 10000000) :
    (Instr.lookup 60 (.map (some b)) (.string s) false).run Tryd.prog w = .ok (.bool (ns.contains s.data.toList)) w := by
  obtain ⟨h1, h2, h3, h4⟩ := h
  obtain ⟨v, ps, hrun, hv⟩ := hown.lookup (Maps.string_keyed Tryd.underlying9) Tryd.underlying60 (Tryd.zeroValue4 w) (plainElem_bool Tryd.underlying4 false) (Go.WideMaps.keyOf_string_mk (s := s) Tryd.underlying9 (by unfold maxLen; omega))
  rw [hrun]
  cases hc : ns.contains s.data.toList with
  | true => rw [h3 _ _ hc] at hv; rw [plain_bool hv]
  | false =>
    rw [Maps.atKey_of_not_has (by rw [h2, hc])] at hv
    rw [plain_bool hv]
def rightGo : List (List UInt8) → List (ByteArray × List ByteArray) → Bool
  | _, [] => true
  | seen, d :: r => Hd.name d.1.data.toList && !seen.contains d.1.data.toList && decide (d.2.length ≤ 200) && !oddB d.2 && rightGo (seen ++ [d.1.data.toList]) r
def rightB (ds : List (ByteArray × List ByteArray)) : Bool := rightGo [] ds && !ds.isEmpty
/-- A value that is a slice of directives of texts that are not great. -/
def Mild (ds : List (ByteArray × List ByteArray)) : Prop := ds.length ≤ 10000000 ∧ ∀ d ∈ ds, d.1.size ≤ 10000000 ∧ d.2.length ≤ 10000000 ∧ ∀ s ∈ d.2, s.size ≤ 10000000

set_option maxHeartbeats 4000000 in
set_option maxRecDepth 100000 in
theorem right_any (dv : Value) (r : Bool) (ds : List (ByteArray × List ByteArray)) (w : World) (hd : DirsV w dv ds) (hm : Mild ds) : Calls Tryd.prog 30 #[.agg #[dv, .bool r]] w fun e w' => e = .returned (.bool (rightB ds)) ∧ Below w.heap.size w w' := by
  obtain ⟨A, c, rfl, hc, hz, hcell⟩ := hd
  obtain ⟨N, hN⟩ : ∃ N, N = ds.length := ⟨_, rfl⟩
  rw [← hN] at hc
  have hn : N ≤ 10000000 := by rw [hN]; exact hm.1
  have HN := Lib.hid hN
  have HC := Lib.hid hcell
  have HM := Lib.hid hm
  clear hcell hm
  have hmm := @run_makeMap Tryd.prog
  go_enter Tryd.func30, Tryd.ntmps30
  rw [← hN]
  clear hN
  go_wp2_with fail
  go_loopg [11] N (fun gk v wr => ∃ (k : Nat) (D : DataW Unit), k + gk = N ∧ v = .int .i64 k ∧ Hid (rightGo [] ds = rightGo ((ds.take k).map fun d => d.1.data.toList) (ds.drop k)) ∧ Hid (SetOK D ((ds.take k).map fun d => d.1.data.toList)) ∧
    Hid (wr.ownsMap Tryd.prog 9 (plainElem Tryd.prog 4) (w.heap.size + 1) k D) ∧ Hid (Below w.heap.size w wr))
  case atStart =>
    have h := World.ownsMap_made (w.alloc (.cells #[.slice A N c, .bool r] 29)) Tryd.prog 9 (plainElem (H := Unit) Tryd.prog 4)
    rw [World.size_alloc] at h
    exact ⟨0, .map [], by omega, rfl, rfl, SetOK.nil, h, ((Below.refl _ w).alloc (Nat.le_refl _) _).alloc (by simp) _⟩
  case round =>
    obtain ⟨k, D, hk, rfl, HR, HS, HO, HB⟩ := hrel
    have HK := Lib.hid hk; clear hk
    by_cases hlt : k < N
    · have hkl : k < ds.length := by rw [← HN.out]; exact hlt
      obtain ⟨g, off, rfl, hgl, hcc⟩ := HC.out (by omega)
      obtain ⟨q1, wv, q2, q3⟩ := hcc k hkl
      have hmk := HM.out.2 _ (List.getElem_mem hkl)
      obtain ⟨nm, hnm⟩ : ∃ nm, nm = ds[k].1 := ⟨_, rfl⟩
      obtain ⟨ws, hws⟩ : ∃ ws, ws = ds[k].2 := ⟨_, rfl⟩
      rw [← hnm] at q1 hmk
      rw [← hws] at q3 hmk
      obtain ⟨hm1, hm2, hm3⟩ := hmk
      have r1 : wr.cell? ⟨g, off + k * 2, none⟩ = some (.string nm) := (HB.out.cell hgl).trans q1
      have r2 : wr.cell? ⟨g, off + k * 2 + 1, none⟩ = some wv := (HB.out.cell hgl).trans q2
      obtain ⟨WA, wc, rfl, hwc, hwz, hwt⟩ := q3.below HB.out
      obtain ⟨names, hnames⟩ : ∃ names, names = (ds.take k).map fun d => d.1.data.toList := ⟨_, rfl⟩
      have hsucc : ((ds.take (k + 1)).map fun d => d.1.data.toList) = names ++ [nm.data.toList] := by
        rw [List.take_succ_eq_append_getElem hkl, List.map_append, hnames, hnm]; rfl
      have hgo : rightGo names (ds.drop k) = (Hd.name nm.data.toList && !names.contains nm.data.toList && decide (ws.length ≤ 200) && !oddB ws && rightGo (names ++ [nm.data.toList]) (ds.drop (k + 1))) := by
        rw [List.drop_eq_getElem_cons hkl, hnm, hws]; rfl
      have hall := HR.out
      have hset := HS.out
      rw [← hnames] at hall hset
      obtain ⟨CT, hCT⟩ : ∃ b, b = names.contains nm.data.toList := ⟨_, rfl⟩
      obtain ⟨O, hO⟩ : ∃ b, b = oddB ws := ⟨_, rfl⟩
      obtain ⟨NB, hNB⟩ : ∃ b, b = Hd.name nm.data.toList := ⟨_, rfl⟩
      obtain ⟨M, hM⟩ : ∃ M, M = ws.length := ⟨_, rfl⟩
      have c45 := fun w' (hb : Below wr.heap.size wr w') => has45 WA ws.length wc ws w' (hwt.below hb) hm3 hm2
      have c40 := fun w' => named_any nm w' hm1
      rw [← hNB, ← hCT, ← hM, ← hO] at hgo
      rw [← hO, ← hM] at c45
      rw [← hNB] at c40
      rw [← hM] at r2 hm2 hwc
      rw [hgo] at hall
      have C45 := Lib.hid c45
      have C40 := Lib.hid c40
      have HALL := Lib.hid hall
      have HSET := Lib.hid hset
      have HSUCC := Lib.hid hsucc
      have HCT := Lib.hid hCT
      have HM1 := Lib.hid hm1
      clear c45 c40 hall hset hsucc hCT hO hNB hM hgo hm3 q1 q2 q3 hcc hnm hws hnames hwt hm1 hwz
      go_wp2_with fail
      refine (C45.out _ (below_alloc' wr _)).mono ?_
      rintro e w5 ⟨rfl, hb5⟩
      have hbx := (hb5.block wr.heap.size (by simp)).trans (heap_alloc_new wr (.cells #[.string nm, .slice WA M wc] 42))
      have hc0 := cell_row hbx 0
      have hc1 := cell_row hbx 1
      simp at hc0 hc1
      have hb15 : Below wr.heap.size wr w5 := (below_alloc' wr _).trans (hb5.mono (by simp))
      have ho5 := HO.out.kept (grown_of_below hb15) (by simp)
      have hlk := HSET.out.look ho5 nm HM1.out
      rw [← HCT.out] at hlk
      have HO5 := Lib.hid ho5
      have HB15 := Lib.hid hb15
      clear hb5 ho5 hb15 hbx
      go_wp2_with fail
      refine (C40.out _).mono ?_
      rintro e w6 ⟨rfl, rfl⟩
      have hend := HB.out.trans (HB15.out.mono HB.out.size)
      have HEND := Lib.hid hend
      clear hend
      cases NB
      · go_wp2_with fail
        go_ret
        refine ⟨ret_bool ?_, HEND.out⟩
        unfold rightB; rw [HALL.out]; simp
      cases CT
      · by_cases hM2 : M ≤ 200
        · have hM3 : ¬ (200 : Int) < (M : Int) := by omega
          cases O
          · obtain ⟨w7, hrun7, ho7, hg7⟩ := HO5.out.update (Maps.string_keyed Tryd.underlying9) Tryd.underlying60 (by unfold maxLen; omega) (Go.WideMaps.keyOf_string_mk (s := nm) Tryd.underlying9 (by have := HM1.out; unfold maxLen; omega)) (plainElem_bool Tryd.underlying4 true)
            have HO7 := Lib.hid ho7
            have HG7 := Lib.hid hg7
            clear ho7 hg7
            go_wp2_with fail
            go_roundg (gk - 1)
            case rel =>
              have hk := HK.out
              refine ⟨k + 1, _, by omega, by go_num, ?_, ?_, HO7.out, ?_⟩
              · show _ = _
                rw [HALL.out, HSUCC.out]
                simp [hM2]
              · show SetOK _ _
                rw [HSUCC.out]
                exact HSET.out.put _ HCT.out.symm
              · have := HEND.out.size
                exact HEND.out.grown HG7.out this (fun j hj => by cases hj; omega)
            case measure => have hk := HK.out; omega
          · go_wp2_with fail
            go_ret
            refine ⟨ret_bool ?_, HEND.out⟩
            unfold rightB; rw [HALL.out]; simp
        · have hM3 : (200 : Int) < (M : Int) := by omega
          go_wp2_with fail
          go_ret
          refine ⟨ret_bool ?_, HEND.out⟩
          unfold rightB; rw [HALL.out]; simp [hM2]
      · go_wp2_with fail
        go_ret
        refine ⟨ret_bool ?_, HEND.out⟩
        unfold rightB; rw [HALL.out]; simp
    · have hlen := HO.out.len Tryd.underlying60 3
      go_wp2_with fail
      go_ret
      refine ⟨ret_bool ?_, HB.out⟩
      have hk := HK.out
      have hkn : ds.length ≤ k := by rw [← HN.out]; omega
      unfold rightB
      have hall := HR.out
      rw [List.drop_eq_nil_of_le hkn] at hall
      rw [hall, HS.out.2.2.2, List.take_of_length_le hkn]
      cases ds with
      | nil => rfl
      | cons x r => simp [rightGo]
end Go.Proofs.YteghldoglffabaaDoor
