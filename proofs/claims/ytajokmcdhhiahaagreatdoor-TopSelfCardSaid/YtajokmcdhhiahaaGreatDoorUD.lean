/- url's Clean. -/
import Derived.Test.YtajokmcdhhiahaaGreatDoorUC
import Derived.Test.YtajokmcdhhiahaaGreatDoorHC
import Derived.Lib.SplitLaws
namespace Go.Proofs.YtajokmcdhhiahaaGreatDoor
open Go.RowKit
set_option maxRecDepth 100000

namespace Ur
def dd : List UInt8 := [46, 46]
def cstep (acc : List ByteArray) (p : ByteArray) (last : Bool) : List ByteArray :=
  if p.toList == [46, 46] then (if last then acc.dropLast ++ [⟨#[]⟩] else acc.dropLast) else if p.toList == [46] then (if last then acc ++ [⟨#[]⟩] else acc) else acc ++ [p]
def cleanL : List ByteArray → List ByteArray → List ByteArray
  | [], acc => acc
  | p :: r, acc => cleanL r (cstep acc p r.isEmpty)
def pieces (s : ByteArray) : List ByteArray := Lib.splitB ⟨#[47]⟩ 0 (Lib.countB s ⟨#[47]⟩) s
def clean (s : ByteArray) : ByteArray :=
  if Lib.hasPrefix s.data.toList [47] then (⟨#[47]⟩ : ByteArray) ++ ⟨(Lib.join ((cleanL (pieces (s.extract 1 s.size)) []).map (·.data.toList)) [47]).toArray⟩ else ⟨#[]⟩
end Ur
theorem Texts.row {w : World} {A : Option Addr} {n : Nat} {ss : List ByteArray} (h : Texts w A n ss) (hn : 0 < n) : ∃ b off, A = some ⟨b, off, none⟩ ∧ b < w.heap.size ∧ ∀ j (h : j < ss.length), w.cell? ⟨b, off + j, none⟩ = some (.string ss[j]) := by
  obtain ⟨ad, rfl, hlt, hc⟩ := h.2 hn
  obtain ⟨b, off, sp⟩ := ad
  have hsp := World.cell?_spot (hc 0 (by have := h.1; omega))
  simp [Addr.add] at hsp
  subst hsp
  exact ⟨b, off, rfl, hlt, fun j hj => by have := hc j hj; rwa [add_at] at this⟩
theorem cleanL_drop (P acc : List ByteArray) (k : Nat) (h : k < P.length) : Ur.cleanL (P.drop k) acc = Ur.cleanL (P.drop (k + 1)) (Ur.cstep acc P[k] (decide (k + 1 = P.length))) := by
  rw [List.drop_eq_getElem_cons h, Ur.cleanL]
  congr 2
  rw [Bool.eq_iff_iff, List.isEmpty_iff, List.drop_eq_nil_iff, decide_eq_true_eq]
  omega
theorem extract_le (s : ByteArray) (a b : Nat) : (s.extract a b).size ≤ s.size := by rw [ByteArray.size_extract]; omega
theorem splitB_sizes (sep : ByteArray) (sv : Nat) : ∀ (k : Nat) (s : ByteArray), ∀ p ∈ Lib.splitB sep sv k s, p.size ≤ s.size
  | 0, s, p, h => by
    rw [Lib.splitB_zero] at h
    simp at h
    rw [h]
    exact Nat.le_refl _
  | k + 1, s, p, h => by
    rcases Lib.indexB_cases s sep with hi | ⟨i, hi, _⟩
    · rw [Lib.splitB_miss _ _ _ _ hi] at h
      simp at h
      rw [h]
      exact Nat.le_refl _
    · rw [Lib.splitB_hit _ _ _ _ _ hi] at h
      rcases List.mem_cons.1 h with rfl | h
      · exact extract_le _ _ _
      · exact Nat.le_trans (splitB_sizes sep sv k _ p h) (extract_le _ _ _)
theorem pieces_length (s : ByteArray) : (Ur.pieces s).length = Lib.countB s ⟨#[47]⟩ + 1 := Lib.splitB_all ⟨#[47]⟩ (by decide) 0 _ s rfl
theorem pieces_many (s : ByteArray) : (Ur.pieces s).length ≤ s.size + 1 := by
  rw [pieces_length]
  have := Lib.countB_le ⟨#[47]⟩ (by decide) s.size s (Nat.le_refl _)
  omega
theorem lens_le (B : Nat) : ∀ l : List (List UInt8), (∀ x ∈ l, x.length ≤ B) → Lib.lens l ≤ l.length * B
  | [], _ => by simp [Lib.lens]
  | x :: r, h => by
    have h1 := lens_le B r fun y hy => h y (List.mem_cons_of_mem _ hy)
    have h2 := h x (List.mem_cons_self ..)
    have h3 : Lib.lens (x :: r) = x.length + Lib.lens r := by simp [Lib.lens]
    rw [h3, List.length_cons, Nat.add_mul]
    omega
theorem join_le (B : Nat) (l : List (List UInt8)) (h : ∀ x ∈ l, x.length ≤ B) : (Lib.join l [47]).length ≤ l.length + l.length * B := by
  cases l with
  | nil => simp [Lib.join_nil]
  | cons x r =>
    rw [Lib.join_length]
    have := lens_le B (x :: r) h
    simp at this ⊢
    omega
theorem own_short {w : World} {base : Nat} {g m c : Nat} {l : List ByteArray} (h : w.ownsRow base 9 1 (.slice (some ⟨g, 0, none⟩) (m + 1) c) (m + 1) (l.map Value.string)) :
    w.ownsRow base 9 1 (.slice (some ⟨g, 0, none⟩) m c) m (l.dropLast.map Value.string) := by
  obtain ⟨h1, h2⟩ := h
  rw [List.length_map] at h1
  refine ⟨by rw [List.length_map, List.length_dropLast]; omega, ?_⟩
  rcases h2 with ⟨hv, _⟩ | ⟨g', cap, cur, hv, hb, hg, hc, hm, hs, ht⟩
  · cases hv
  · injection hv with e1 _ e2
    injection e1 with e1
    injection e1 with e1
    subst e1 e2
    refine .inr ⟨g, c, cur, rfl, hb, hg, by omega, hm, hs, ?_⟩
    have := congrArg (List.take m) ht
    rw [List.take_take, Nat.min_eq_left (by omega)] at this
    rw [Nat.mul_one, this, ← List.map_take, List.dropLast_eq_take, h1]
    simp
set_option maxHeartbeats 4000000 in
theorem clean_any (s : ByteArray) (w : World) (hs : s.size ≤ 1000000) (m : Int) (hm : w.cell? ⟨0, 0, none⟩ = some (.int .i64 m)) : Calls Tryz.prog 15 #[.string s] w fun e w' => e = .returned (.string (Ur.clean s)) ∧ Below w.heap.size w w' := by
  have hd : Ur.clean s = if Lib.hasPrefix s.data.toList [47] then (⟨#[47]⟩ : ByteArray) ++ ⟨(Lib.join ((Ur.cleanL (Ur.pieces (s.extract 1 s.size)) []).map (·.data.toList)) [47]).toArray⟩ else ⟨#[]⟩ := rfl
  have c26 := Tryz.strings_HasPrefix s ⟨#[47]⟩ w
  obtain ⟨b, hb⟩ : ∃ b, b = Lib.hasPrefix s.data.toList [47] := ⟨_, rfl⟩
  rw [show Lib.hasPrefix s.data.toList (⟨#[47]⟩ : ByteArray).data.toList = b from hb.symm] at c26
  rw [← hb] at hd
  obtain ⟨r, hr⟩ : ∃ r, r = Ur.clean s := ⟨_, rfl⟩
  rw [← hr] at hd ⊢
  have h1 : b = true → 1 ≤ s.size := fun h => by
    rw [hb] at h
    unfold Lib.hasPrefix at h
    have := List.IsPrefix.length_le (List.isPrefixOf_iff_prefix.1 h)
    rw [size_len] at this
    exact this
  have HD := Lib.hid hd
  have C26 := Lib.hid c26
  clear hd c26 hb hr
  cases b
  · have HF := Lib.hid (show r = ⟨#[]⟩ by rw [HD.out]; rfl)
    go_enter Tryz.func15, Tryz.ntmps15
    go_wp2_with fail
    with_reducible refine C26.out.mono ?_
    rintro e w1 ⟨rfl, rfl⟩
    go_wp2
    go_ret
    exact ⟨ret_str HF.out.symm, Below.refl _ _⟩
  · have hz := h1 rfl
    obtain ⟨t, ht⟩ : ∃ t, t = s.extract 1 s.size := ⟨_, rfl⟩
    have htsz : t.size ≤ s.size := by rw [ht]; exact extract_le _ _ _
    have c27 := Tryz.strings_Split t ⟨#[47]⟩ m w (by omega) hm (by decide)
    have hpl := pieces_length t
    have hpm := pieces_many t
    have hps : ∀ p ∈ Ur.pieces t, p.size ≤ s.size := fun p hp => Nat.le_trans (splitB_sizes _ _ _ _ p hp) htsz
    rw [show Lib.splitB ⟨#[47]⟩ 0 (Lib.countB t ⟨#[47]⟩) t = Ur.pieces t from rfl] at c27
    have hfin : r = (⟨#[47]⟩ : ByteArray) ++ ⟨(Lib.join ((Ur.cleanL (Ur.pieces t) []).map (·.data.toList)) [47]).toArray⟩ := by rw [HD.out, ht]; rfl
    obtain ⟨P, hP⟩ : ∃ P, P = Ur.pieces t := ⟨_, rfl⟩
    obtain ⟨N, hN⟩ : ∃ N, N = Lib.countB t ⟨#[47]⟩ + 1 := ⟨_, rfl⟩
    rw [← hP] at c27 hpl hpm hps hfin
    rw [← hN] at c27 hpl
    have htx := Texts.lit w P
    have hbS := below_alloc' w (.cells (P.map Value.string).toArray 9)
    rw [hpl] at htx
    obtain ⟨wS, hwS⟩ : ∃ wS, wS = w.alloc (.cells (P.map Value.string).toArray 9) := ⟨_, rfl⟩
    rw [← hwS] at c27 htx hbS
    obtain ⟨A, hA⟩ : ∃ A : Option Addr, A = some ⟨w.heap.size, 0, none⟩ := ⟨_, rfl⟩
    rw [← hA] at c27 htx
    have hNs : N ≤ s.size + 1 := by omega
    have C27 := Lib.hid c27
    have HTX := Lib.hid htx
    have HPL := Lib.hid hpl
    have HPS := Lib.hid hps
    have HFIN := Lib.hid hfin
    have HBS := Lib.hid hbS
    have HX := Lib.hid ht
    clear c27 htx hpl hps hpm hfin hP hN hwS hA hbS h1 htsz hm
    go_enter Tryz.func15, Tryz.ntmps15
    go_wp2_with fail
    with_reducible refine C26.out.mono ?_
    rintro e w1 ⟨rfl, hw⟩
    obtain rfl : w = w1 := hw.symm
    clear hw
    go_wp2_with fail
    rw [← HX.out]
    with_reducible refine C27.out.mono ?_
    rintro e w1 ⟨rfl, hw⟩
    obtain rfl : wS = w1 := hw.symm
    clear hw
    go_wp2_with fail
    go_loopg [4, 15] N (fun gk v i wr => ∃ (k : Nat) (acc : List ByteArray), k + gk = N ∧ i = .int .i64 k ∧ acc.length ≤ k ∧ Hid (∀ x ∈ acc, x.size ≤ s.size) ∧ Hid (Ur.cleanL P [] = Ur.cleanL (P.drop k) acc) ∧ Hid (wr.ownsRow wS.heap.size 9 1 v acc.length (acc.map Value.string)) ∧ Hid (Below wS.heap.size wS wr))
    case atStart => exact ⟨0, [], by omega, rfl, Nat.le_refl _, (fun _ h => by cases h), rfl, World.ownsRow_nil _ _ _ _, Below.refl _ _⟩
    case round =>
      obtain ⟨k, acc, hk, rfl, hal, HSZ, HA, HOWN, HB⟩ := hrel
      have HK := Lib.hid hk; clear hk
      by_cases hlt : k < N
      · have hkl : k < P.length := by rw [HPL.out]; exact hlt
        obtain ⟨b, off, rfl, hbl, hcc⟩ := (HTX.out.below HB.out).row (by omega)
        have hck := hcc k hkl
        have hst := cleanL_drop P acc k hkl
        have hxs := HPS.out _ (List.getElem_mem hkl)
        obtain ⟨x, hx⟩ : ∃ x, x = P[k] := ⟨_, rfl⟩
        rw [← hx] at hck hst hxs
        rw [HPL.out] at hst
        have HST := Lib.hid hst
        clear hcc hst hx
        obtain ⟨L, hL⟩ : ∃ L : Bool, L = decide (k + 1 = N) := ⟨_, rfl⟩
        have HL := Lib.hid hL
        rw [← hL] at HST
        clear hL
        cases hq : (x.toList == [46, 46])
        · cases hq1 : (x.toList == [46])
          · have hcs : Ur.cstep acc x L = acc ++ [x] := by unfold Ur.cstep; rw [hq, hq1]; rfl
            rw [hcs] at HST
            clear hcs
            go_wp2_with (at_builtin; refine wpList_append_text rfl (.tmp 21) (.tmp 23) rfl wr wS wS.heap.size _ acc.length acc x rfl rfl HOWN.out HB.out HB.out.size (by omega) ?_; intro v' w3 hown3 hbw3)
            go_roundg (gk - 1)
            case measure => have := HK.out; omega
            case rel =>
              have := HK.out
              refine ⟨k + 1, acc ++ [x], by omega, by go_num, by simp; omega, fun y hy => ?_, HA.out.trans HST.out, by rw [List.length_append]; exact hown3, hbw3⟩
              rcases List.mem_append.1 hy with hy | hy
              · exact HSZ.out y hy
              · simp at hy; rw [hy]; exact hxs
          · cases L
            · have hcs : Ur.cstep acc x false = acc := by unfold Ur.cstep; rw [hq, hq1]; rfl
              rw [hcs] at HST
              have hkN : ¬ (k : Int) = (N : Int) - 1 := by have := HL.out; have h2 := of_decide_eq_false this.symm; omega
              clear hcs
              go_wp2_with fail
              go_roundg (gk - 1)
              case measure => have := HK.out; omega
              case rel =>
                have := HK.out
                exact ⟨k + 1, acc, by omega, by go_num, by omega, HSZ.out, HA.out.trans HST.out, HOWN.out, HB.out⟩
            · have hcs : Ur.cstep acc x true = acc ++ [⟨#[]⟩] := by unfold Ur.cstep; rw [hq, hq1]; rfl
              rw [hcs] at HST
              have hkN : ((k : Int) == (N : Int) - 1) = true := by have := HL.out; have h2 := of_decide_eq_true this.symm; rw [beq_iff_eq]; omega
              clear hcs
              go_wp2_with (at_builtin; refine wpList_append_text rfl (.tmp 40) (.tmp 41) rfl wr wS wS.heap.size _ acc.length acc ⟨#[]⟩ rfl rfl HOWN.out HB.out HB.out.size (by omega) ?_; intro v' w3 hown3 hbw3)
              go_roundg (gk - 1)
              case measure => have := HK.out; omega
              case rel =>
                have := HK.out
                refine ⟨k + 1, acc ++ [⟨#[]⟩], by omega, by go_num, by simp; omega, fun y hy => ?_, HA.out.trans HST.out, by rw [List.length_append]; exact hown3, hbw3⟩
                rcases List.mem_append.1 hy with hy | hy
                · exact HSZ.out y hy
                · simp at hy; rw [hy]; exact Nat.zero_le _
        · obtain ⟨A', c', rfl, hc1, hc2⟩ := own_form HOWN.out
          obtain ⟨n, hn⟩ : ∃ n, n = acc.length := ⟨_, rfl⟩
          have hdl : acc.dropLast.length = n - 1 := by rw [List.length_dropLast, hn]
          have hds : ∀ y ∈ acc.dropLast, y.size ≤ s.size := fun y hy => HSZ.out y ((List.dropLast_sublist acc).subset hy)
          have ho : wr.ownsRow wS.heap.size 9 1 (.slice A' (n - 1) c') (n - 1) (acc.dropLast.map Value.string) := by
            have ho := HOWN.out
            rw [← hn] at ho
            cases n with
            | zero =>
              have : acc = [] := List.eq_nil_of_length_eq_zero hn.symm
              subst this
              exact ho
            | succ m =>
              rcases ho.2 with ⟨hv, _⟩ | ⟨g, cap, cur, hv, _⟩
              · cases hv
              · injection hv with e1 _ e2
                subst e1 e2
                exact own_short ho
          rw [← hn] at hc1
          have hmax : max (0 : Int) ((n : Int) - 1) = ((n - 1 : Nat) : Int) := by omega
          have hrs : n - 1 ≤ c' := by omega
          have HO := Lib.hid ho
          have HN := Lib.hid hn
          have HDL := Lib.hid hdl
          have HDS := Lib.hid hds
          have hal' : n ≤ k := by omega
          rw [← hn]
          clear ho HOWN hal hn hdl hds
          cases L
          · have hcs : Ur.cstep acc x false = acc.dropLast := by unfold Ur.cstep; rw [hq]; rfl
            rw [hcs] at HST
            have hkN : ¬ (k : Int) = (N : Int) - 1 := by have := HL.out; have h2 := of_decide_eq_false this.symm; omega
            clear hcs
            go_wp2_with fail
            go_roundg (gk - 1)
            case measure => have := HK.out; omega
            case rel =>
              have := HK.out
              exact ⟨k + 1, acc.dropLast, by omega, by go_num, by rw [HDL.out]; omega, HDS.out, HA.out.trans HST.out, by rw [HDL.out]; exact HO.out, HB.out⟩
          · have hcs : Ur.cstep acc x true = acc.dropLast ++ [⟨#[]⟩] := by unfold Ur.cstep; rw [hq]; rfl
            rw [hcs] at HST
            have hkN : ((k : Int) == (N : Int) - 1) = true := by have := HL.out; have h2 := of_decide_eq_true this.symm; rw [beq_iff_eq]; omega
            clear hcs
            go_wp2_with (at_builtin; refine wpList_append_text rfl (.tmp 40) (.tmp 41) rfl wr wS wS.heap.size _ (n - 1) acc.dropLast ⟨#[]⟩ rfl rfl HO.out HB.out HB.out.size (by omega) ?_; intro v' w3 hown3 hbw3)
            go_roundg (gk - 1)
            case measure => have := HK.out; omega
            case rel =>
              have := HK.out
              refine ⟨k + 1, acc.dropLast ++ [⟨#[]⟩], by omega, by go_num, by rw [List.length_append, HDL.out]; simp; omega, fun y hy => ?_, HA.out.trans HST.out, by rw [List.length_append, HDL.out]; exact hown3, hbw3⟩
              rcases List.mem_append.1 hy with hy | hy
              · exact HDS.out y hy
              · simp at hy; rw [hy]; exact Nat.zero_le _
      · have hkP : P.drop k = [] := List.drop_eq_nil_of_le (by rw [HPL.out]; omega)
        have hfin := HFIN.out
        rw [HA.out, hkP, Ur.cleanL] at hfin
        obtain ⟨A', c', rfl, hc1, hc2⟩ := own_form HOWN.out
        have hbf : Below w.heap.size w wr := HBS.out.trans (HB.out.mono HBS.out.size)
        have HBF := Lib.hid hbf
        have hkN : k ≤ N := by have := HK.out; omega
        obtain ⟨R, hR⟩ : ∃ R : ByteArray, R = ⟨(Lib.join (acc.map (·.data.toList)) [47]).toArray⟩ := ⟨_, rfl⟩
        rw [← hR] at hfin
        have hjl : (Lib.join (acc.map (·.data.toList)) [47]).length ≤ 140737488355328 := by
          refine Nat.le_trans (join_le s.size _ fun y hy => ?_) ?_
          · obtain ⟨z, hz, rfl⟩ := List.mem_map.1 hy
            rw [size_len]
            exact HSZ.out z hz
          · rw [List.length_map]
            have h1 : acc.length * s.size ≤ 1000001 * 1000000 := Nat.mul_le_mul (by omega) hs
            omega
        have hRs : R.size ≤ 140737488355328 := by rw [hR, mk_size']; exact hjl
        have hcl : Calls Tryz.prog 28 #[.slice A' acc.length c', .string ⟨#[47]⟩] wr fun e w' => e = .returned (.string R) ∧ Below wr.heap.size wr w' := by
          by_cases h0 : acc.length = 0
          · have : acc = [] := List.eq_nil_of_length_eq_zero h0
            subst this
            refine (Tryz.strings_Join_none A' c' ⟨#[47]⟩ wr).mono ?_
            rintro e w1 ⟨rfl, rfl⟩
            exact ⟨by rw [hR]; rfl, Below.refl _ _⟩
          · obtain ⟨bk, o, rfl, hbk, hcell⟩ := (Texts.of_own HOWN.out).row (by omega)
            rw [hR]
            refine Tryz.strings_Join bk o c' acc ⟨#[47]⟩ wr (fun j y hj => ?_) hbk (by omega) hc1 ?_
            · obtain ⟨hj', rfl⟩ := List.getElem?_eq_some_iff.1 hj
              exact hcell j hj'
            · exact hjl
        have HCL := Lib.hid hcl
        have HF2 := Lib.hid hfin
        clear hcl hfin hR hbf hkP hjl
        obtain ⟨n, hn⟩ : ∃ n, n = acc.length := ⟨_, rfl⟩
        rw [← hn] at HCL hc1
        rw [← hn]
        clear hn HOWN hal
        go_wp2_with fail
        with_reducible refine HCL.out.mono ?_
        rintro e w4 ⟨rfl, hb4⟩
        go_wp2
        go_ret
        exact ⟨ret_str HF2.out.symm, HBF.out.trans (hb4.mono HBF.out.size)⟩
end Go.Proofs.YtajokmcdhhiahaaGreatDoor
