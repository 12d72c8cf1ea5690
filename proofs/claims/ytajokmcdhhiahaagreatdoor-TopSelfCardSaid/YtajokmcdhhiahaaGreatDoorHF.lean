/- The function that yields a policy's directives. -/
import Derived.Test.YtajokmcdhhiahaaGreatDoorHE
import Derived.Sort.LoopGhostIn
namespace Go.Proofs.YtajokmcdhhiahaaGreatDoor
open Go.RowKit Go.Shelf Go.Lib Go.Sort
attribute [local go_sem] Oper.semAt_some

theorem le_sum (l : List Nat) (x : Nat) (h : x ∈ l) : x ≤ l.sum := by
  induction l with
  | nil => cases h
  | cons y r ih =>
    rw [List.sum_cons]
    cases h with
    | head => omega
    | tail _ h => have := ih h; omega
theorem words_le (l w : List UInt8) (h : w ∈ Fo.words l) : w.length ≤ l.length := by
  have h1 := Fo.wgo_total [] l
  have h2 := le_sum _ _ (List.mem_map_of_mem (f := List.length) h)
  unfold Fo.words at h2
  simp at h1
  omega
theorem parts_le (sep : UInt8) (l p : List UInt8) (h : p ∈ Fo.parts sep l) : p.length ≤ l.length := by
  unfold Fo.parts at h
  obtain ⟨q, hq, rfl⟩ := List.mem_map.1 h
  have h1 := Fo.sgo_total sep [] l
  have h2 := le_sum _ _ (List.mem_map_of_mem (f := List.length) hq)
  have h3 := Fo.trim_length q
  unfold Fo.split at h2
  simp at h1
  omega
theorem TextsR.of_own {w : World} {base n : Nat} {v : Value} {ss : List ByteArray} (h : w.ownsRow base 9 1 v n (ss.map Value.string)) : TextsR w v ss := by
  have hl : ss.length = n := by have := h.1; simpa using this
  subst hl
  obtain ⟨A, c, rfl, h1, h2⟩ := own_form h
  refine ⟨A, c, rfl, h1, h2, fun hn => ?_⟩
  rcases h.2 with ⟨_, h0⟩ | ⟨g, cap, cur, hv, _, hg, _⟩
  · omega
  · injection hv with hA
    subst hA
    refine ⟨g, 0, rfl, ⟨_, _, hg⟩, fun j hj => ?_⟩
    have := h.cells (g := g) rfl j (.string ss[j]) (by simp [List.getElem?_eq_getElem hj])
    rwa [add_at] at this
theorem TextsR.at_ {w : World} {A : Option Addr} {n c : Nat} {ss : List ByteArray} (h : TextsR w (.slice A n c) ss) (k : Nat) (hk : k < ss.length) : ∃ g off, A = some ⟨g, off, none⟩ ∧ w.cell? ⟨g, off + k, none⟩ = some (.string ss[k]) := by
  obtain ⟨A', c', e, _, _, h4⟩ := h
  injection e with e1 e2 e3
  subst e1
  obtain ⟨g, off, e, _, hc⟩ := h4 (by omega)
  exact ⟨g, off, e, hc k hk⟩
theorem own_row {w : World} {base A L : Nat} {xs : List Value} (h : w.ownsRow base 9 1 (.slice (some ⟨A, 0, none⟩) L L) L xs) : base ≤ A ∧ w.heap[A]? = some (.cells xs.toArray 9 (0, 0)) := by
  rcases h.2 with ⟨hv, _⟩ | ⟨g, cap, cur, hv, hb, hg, _, _, hsz, htk⟩
  · cases hv
  · injection hv with e1 e2 e3
    injection e1 with e1
    injection e1 with e1
    subst e1 e3
    refine ⟨hb, ?_⟩
    rw [hg]
    rw [List.take_of_length_le (by simp [hsz])] at htk
    rw [← htk]
theorem grownBy_setAt (W : World) (a : Addr) (v : Value) : W.grownBy (W.setCell a v) (some a.block) := by
  have h := (Below.refl a.block W).setCell (p := a) (Nat.le_refl _) v
  refine ⟨h.os, h.tape, h.output, h.size, fun k _ hne => ?_⟩
  unfold World.setCell
  rw [Array.getElem?_modify, if_neg (fun e => hne (by rw [e]))]
theorem heap_setAt {W : World} {b k : Nat} {vs : Array Value} {T : TypeId} {fr : Nat × Nat} (h : W.heap[b]? = some (.cells vs T fr)) (v : Value) : (W.setCell ⟨b, k, none⟩ v).heap[b]? = some (.cells (vs.setIfInBounds k v) T fr) := by
  rw [Go.Sort.setCell_eq]
  show (W.heap.modify b _)[b]? = _
  rw [Array.getElem?_modify, h]
  simp [onCells]
/-- What DeleteFunc's call leaves. -/
def OutDel (A : Nat) (ss : List ByteArray) (W : World) (e : Ending) (w' : World) : Prop := ∃ v, e = .returned v ∧ TextsR w' v (restOf ss) ∧ W.grownBy w' (some A)
theorem del_one (A : Nat) (ss : List ByteArray) (h1 : ss.length = 1) (W : World) : Calls Tryz.prog 58 #[.slice (some ⟨A, 0, none⟩) ((min (1 : Int) 201).toNat - 1) 0, .func (.func 59) #[] #[]] W (OutDel A ss W) := by
  refine (del_any A 0 0 #[] W (fun j hj => absurd hj (by simp)) (by simp) (by simp)).mono ?_
  rintro e w' ⟨rfl, q, rfl⟩
  obtain ⟨a, rfl⟩ := List.length_eq_one_iff.1 h1
  exact ⟨_, rfl, ⟨some ⟨A, 0, none⟩, 0, rfl, Nat.le_refl _, (fun h => by cases h), fun h => absurd h (by simp [restOf])⟩, grownBy_putRow _ _ _ _ _ _⟩
theorem del_more (A L : Nat) (ss : List ByteArray) (hL : L = ss.length) (hss : ∀ s ∈ ss, s.size ≤ 10000000) (hn : 1 ≤ L) (W : World) (hrow : W.heap[A]? = some (.cells (ss.map Value.string).toArray 9 (0, 0))) :
    Calls Tryz.prog 58 #[.slice (some ⟨A, 1, none⟩) ((min (L : Int) 201).toNat - 1) (L - 1), .func (.func 59) #[] #[]] W (OutDel A ss W) := by
  subst hL
  rw [show (min (ss.length : Int) 201).toNat = min ss.length 201 by omega]
  exact del_own A ss W hrow hss hn
/-- What a part yields. -/
def dirB (part : List UInt8) : Option (ByteArray × List ByteArray) :=
  match Fo.words part with
  | [] => none
  | w :: r => if Hd.name (Fo.lower w) then some (⟨(Fo.lower w).toArray⟩, restOf (bs (w :: r))) else none
def dirsB (s : List UInt8) : List (ByteArray × List ByteArray) := (Fo.parts 59 s).filterMap dirB

set_option maxHeartbeats 4000000 in
set_option maxRecDepth 100000 in
theorem dirs1_in (n : Nat) (hn : 1 ≤ n) (l B : Nat) (s : ByteArray) (hs : s.size ≤ 10000000) (J : List Ent → World → Prop) (hJ : ∀ pre A B, J pre A → A.grownBy B none → J pre B)
    (hY : ∀ pre x W1, J pre W1 → XIn x W1 → (pre ++ [x]).map dat <+: dirsB s.data.toList → YieldAt Fence.wide (n - 1) Tryz.prog l (encE x) W1 fun e W' => e = .returned (.bool true) ∧ J (pre ++ [x]) W' ∧ KeepT 9 W1 W')
    (W : World) (hB : W.cell? ⟨B, 0, none⟩ = some (.string s)) (h0 : J [] W) :
    CallsIn Fence.wide n Tryz.prog 55 #[.func (.yield l) #[] #[], .pointer (some ⟨B, 0, none⟩)] W fun e W' => (∃ v, e = .returned v) ∧ ∃ ys, ys.map dat = dirsB s.data.toList ∧ J ys W' := by
  have c22 := fun w' => parts_own s 59 w' hs
  obtain ⟨P, hP⟩ : ∃ P, P = Fo.parts 59 s.data.toList := ⟨_, rfl⟩
  rw [← hP] at c22
  have C22 := Lib.hid c22; clear c22
  have hPd : dirsB s.data.toList = P.filterMap dirB := by rw [hP]; rfl
  rw [hPd] at hY ⊢
  have hPl : ∀ p ∈ P, p.length ≤ 10000000 := fun p hp => by
    have := parts_le 59 s.data.toList p (by rw [← hP]; exact hp)
    rw [size_len] at this
    omega
  have hPn : P.length ≤ 10000001 := by
    rw [hP, Fo.parts_length]
    have := List.count_le_length (a := (59 : UInt8)) (l := s.data.toList)
    rw [size_len] at this
    omega
  have HY := Lib.hid hY
  have HJ := Lib.hid hJ
  have HPL := Lib.hid hPl
  have H0 := Lib.hid h0
  clear hY hJ hPl hP hPd h0
  refine callsIn_of_wp Tryz.func55 rfl trivial ?_ rfl
  simp only [Tryz.ntmps55, List.size_toArray, List.length_cons, List.length_nil, Nat.reduceAdd, Nat.reduceSub, Array.replicate_succ, Array.replicate_zero, List.push_toArray, List.append_toArray, List.nil_append, List.cons_append]
  gi_wp2_with fail
  refine ⟨trivial, (callsIn_wide.2 (C22.out _)).mono ?_⟩
  rintro e w1 ⟨v, rfl, hown1, hb1⟩
  have hpv := TextsR.of_own hown1
  obtain ⟨PA, Pc, rfl, hPc, hPz⟩ := own_form hown1
  have hj1 : J [] w1 := HJ.out _ _ _ H0.out (grown_of_below hb1)
  rw [bs_length] at hpv hPc ⊢
  obtain ⟨N, hN⟩ : ∃ N, N = P.length := ⟨_, rfl⟩
  rw [← hN] at hpv hPc hPn ⊢
  have HN := Lib.hid hN
  clear hown1 hb1 hB hN
  gi_wp2_with fail
  gi_loopg [10] N (fun gk v wr => ∃ (k : Nat) (pre : List Ent), k + gk = N ∧ v = .int .i64 k ∧ Hid (pre.map dat = (P.take k).filterMap dirB) ∧ Hid (J pre wr) ∧ TextsR wr (.slice PA N Pc) (bs P))
  case atStart => exact ⟨0, [], by omega, rfl, rfl, hj1, hpv⟩
  case round =>
    obtain ⟨k, pre, hk, rfl, HPRE, HJW, hpr⟩ := hrel
    have HK := Lib.hid hk
    clear hk hj1 hpv
    by_cases hlt : k < N
    · have hkP : k < P.length := by rw [← HN.out]; exact hlt
      obtain ⟨g, off, rfl, hcell⟩ := hpr.at_ k (by rw [bs_length]; exact hkP)
      obtain ⟨p, hp⟩ : ∃ p, p = P[k] := ⟨_, rfl⟩
      have hpb : (bs P)[k]'(by rw [bs_length]; exact hkP) = ⟨p.toArray⟩ := by simp [bs, hp]
      rw [hpb] at hcell
      have hpl : p.length ≤ 10000000 := HPL.out p (by rw [hp]; exact List.getElem_mem hkP)
      have hpre : (P.take (k + 1)).filterMap dirB = (P.take k).filterMap dirB ++ (dirB p).toList := by
        rw [List.take_succ_eq_append_getElem hkP, List.filterMap_append, ← hp]
        rcases h : dirB p with _ | d <;> simp [h]
      have hfix : (P.take (k + 1)).filterMap dirB <+: P.filterMap dirB := (List.take_prefix _ _).filterMap _
      obtain ⟨pb, hpbd⟩ : ∃ pb : ByteArray, pb = ⟨p.toArray⟩ := ⟨_, rfl⟩
      have c36 := fun w' => words_own pb w' (by rw [hpbd, mk_size']; exact hpl)
      rw [show pb.data.toList = p by rw [hpbd]] at c36
      rw [← hpbd] at hcell
      obtain ⟨ws, hws⟩ : ∃ ws, ws = Fo.words p := ⟨_, rfl⟩
      rw [← hws] at c36
      have hwl : ∀ x ∈ bs ws, x.size ≤ 10000000 := fun x hx => by
        obtain ⟨y, hy, rfl⟩ := List.mem_map.1 hx
        rw [mk_size']
        rw [hws] at hy
        have := words_le p y hy
        omega
      have C36 := Lib.hid c36
      have HWL := Lib.hid hwl
      have HFIX := Lib.hid hfix
      have HPREN := Lib.hid hpre
      have HWS := Lib.hid hws
      have HPR := Lib.hid hpr
      clear c36 hwl hfix hpre hws hpb hpbd hpr hp
      gi_wp2_with fail
      refine ⟨trivial, (callsIn_wide.2 (C36.out _)).mono ?_⟩
      rintro e w2 ⟨A, rfl, hown2, hb2⟩
      obtain ⟨hA, hrow2⟩ := own_row hown2
      rcases ws with _ | ⟨x0, rest⟩
      · have hdn : dirB p = none := by unfold dirB; rw [← HWS.out]
        have HDN := Lib.hid hdn
        clear hdn hown2 hrow2
        have hz : bs ([] : List (List UInt8)) = [] := rfl
        rw [hz]
        gi_wp2_with fail
        gi_roundg (gk - 1)
        case rel =>
          have hk := HK.out
          have hpn := HPREN.out
          rw [HDN.out] at hpn
          exact ⟨k + 1, pre, by omega, by go_num, by show _ = _; rw [hpn, ← HPRE.out]; simp, HJ.out _ _ _ HJW.out (grown_of_below hb2), HPR.out.keep (KeepT.below hb2)⟩
        case measure => have := HK.out; omega
      · obtain ⟨L, hL⟩ : ∃ L, L = (bs (x0 :: rest)).length := ⟨_, rfl⟩
        obtain ⟨x0b, hx0⟩ : ∃ x0b : ByteArray, x0b = ⟨x0.toArray⟩ := ⟨_, rfl⟩
        have hc0 : w2.cell? ⟨A, 0, none⟩ = some (.string x0b) := by rw [cell_row hrow2, hx0]; rfl
        have hL1 : 1 ≤ L := by rw [hL, bs_length]; simp
        have hLb : L ≤ 10000000 := by
          have := Fo.words_length p
          rw [← HWS.out] at this
          rw [hL, bs_length]
          omega
        have hx0s : x0b.size ≤ 10000000 := by rw [hx0]; exact HWL.out _ (by simp [bs])
        have c28 := fun w' => lower_any x0b w' hx0s
        obtain ⟨D, hD⟩ : ∃ D : ByteArray, D = ⟨(Fo.lower x0).toArray⟩ := ⟨_, rfl⟩
        rw [show x0b.data.toList = x0 by rw [hx0], ← hD] at c28
        have hDs : D.size ≤ 10000000 := by rw [hD, mk_size', Fo.lower_length]; rw [hx0, mk_size'] at hx0s; exact hx0s
        have c40 := fun w' => named_any D w' hDs
        rw [show D.data.toList = Fo.lower x0 by rw [hD]] at c40
        have C37 := Lib.hid (fun W => del_more A L _ hL HWL.out hL1 W)
        have C37' := Lib.hid (fun (h : L = 1) W => del_one A (bs (x0 :: rest)) (by rw [← hL, h]) W)
        have C28 := Lib.hid c28
        have C40 := Lib.hid c40
        have HD := Lib.hid hD
        have HA := Lib.hid hA
        have HROW := Lib.hid hrow2
        have HL := Lib.hid hL
        rw [← hL]
        clear c28 c40 hD hA hrow2 hx0 hL hown2
        gi_wp2_with fail
        refine ⟨trivial, (callsIn_wide.2 (C28.out _)).mono ?_⟩
        rintro e w3 ⟨rfl, hb3⟩
        have hAlt : A < w2.heap.size := (Array.getElem?_eq_some_iff.1 HROW.out).1
        have hrow3 := (hb3.block A hAlt).trans HROW.out
        have HROW3 := Lib.hid hrow3
        clear hrow3
        have hb23 := hb2.trans (hb3.mono hb2.size)
        have hA3 : A < w3.heap.size := Nat.lt_of_lt_of_le hAlt hb3.size
        have HB23 := Lib.hid hb23
        clear hb23 hb2 hb3
        gi_wp2_with fail
        case' inr => refine ⟨trivial, (callsIn_wide.2 (C37.out _ ((heap_alloc_old _ _ hA3).trans HROW3.out))).mono ?_⟩
        case' inl => refine ⟨trivial, (callsIn_wide.2 (C37'.out (by omega) _)).mono ?_⟩
        all_goals
          rintro e w4 ⟨wv, rfl, hx4, hg4⟩
          have hbox : w4.heap[w3.heap.size]? = some (.cells #[.string D, .slice none 0 0] 66 (0, 0)) := (hg4.block _ (by simp) (by intro e; injection e with e; omega)).trans (heap_alloc_new _ _)
          have hc40 := cell_row hbox 0
          have hc41 := cell_row hbox 1
          have hf4 := frozen_row hbox
          obtain ⟨wA, wc, rfl, _⟩ := id hx4
          obtain ⟨M, hM⟩ : ∃ M, M = (restOf (bs (x0 :: rest))).length := ⟨_, rfl⟩
          rw [← hM] at hx4 ⊢
          have HM := Lib.hid hM
          clear hM
          have HX4 := Lib.hid hx4
          have HG4 := Lib.hid hg4
          clear hx4 hg4
          gi_wp2_with fail
          refine ⟨trivial, (callsIn_wide.2 (C40.out _)).mono ?_⟩
          rintro e w5 ⟨rfl, hw5⟩
          have hbox5 := heap_setAt (k := 1) hbox (.slice wA M wc)
          have hbw5 : Below wr.heap.size wr w5 := by
            rw [hw5]
            exact ((((HB23.out.alloc HB23.out.size _).grown HG4.out (by have := HB23.out.size; simp; omega) (fun k hk => by cases hk; exact HA.out)).setCell (p := ⟨w3.heap.size, 1, none⟩) HB23.out.size _))
          have hx5 : TextsR w5 (.slice wA M wc) (restOf (bs (x0 :: rest))) := by
            rw [hw5]
            refine TextsR.keep HX4.out (KeepT.grownBy (grownBy_setAt _ _ _) ?_)
            rintro ⟨vs, fr, e⟩
            rw [hbox] at e
            cases e
          rw [← hw5] at hbox5
          have hc50 := cell_row hbox5 0
          have hc51 := cell_row hbox5 1
          have hj5 := HJ.out _ _ _ HJW.out (grown_of_below hbw5)
          have HX5 := Lib.hid hx5
          have HJ5 := Lib.hid hj5
          have HBW5 := Lib.hid hbw5
          clear hw5 hx5 hj5 hbw5 hc40 hc41 hf4 hbox hbox5
          simp at hc50 hc51
          cases hnm : Hd.name (Fo.lower x0) with
          | false =>
            have hdn : dirB p = none := by unfold dirB; rw [← HWS.out]; simp [hnm]
            have HDN := Lib.hid hdn
            clear hdn
            gi_wp2_with fail
            refine ⟨fun _ h => (by cases h), ?_⟩
            gi_wp2_with fail
            gi_roundg (gk - 1)
            case rel =>
              have hk := HK.out
              have hpn := HPREN.out
              rw [HDN.out] at hpn
              exact ⟨k + 1, pre, by omega, by go_num, by show _ = _; rw [hpn, ← HPRE.out]; simp, HJ5.out, HPR.out.keep (KeepT.below HBW5.out)⟩
            case measure => have := HK.out; omega
          | true =>
            have hdn : dirB p = some (D, restOf (bs (x0 :: rest))) := by unfold dirB; rw [← HWS.out, HD.out]; simp [hnm]
            have hpn := HPREN.out
            rw [hdn, ← HPRE.out] at hpn
            have hmap : (pre ++ [((D, Value.slice wA M wc, restOf (bs (x0 :: rest))) : Ent)]).map dat = (P.take (k + 1)).filterMap dirB := by rw [hpn]; simp [dat]
            obtain ⟨fn, tmps, assign, body, hy, hR⟩ := HY.out pre (D, Value.slice wA M wc, restOf (bs (x0 :: rest))) w5 HJ5.out HX5.out (by rw [hmap]; exact HFIX.out)
            dsimp only [encE] at hy
            have HMAP := Lib.hid hmap
            clear hdn hpn hmap
            gi_wp2_with fail
            refine hR.mono ?_
            rintro e w6 ⟨rfl, hj6, hk6⟩
            have HJ6 := Lib.hid hj6
            have HK6 := Lib.hid hk6
            clear hj6 hk6 hy hR
            gi_wp2_with fail
            gi_roundg (gk - 1)
            case rel =>
              have hk := HK.out
              exact ⟨k + 1, _, by omega, by go_num, HMAP.out, HJ6.out, (HPR.out.keep (KeepT.below HBW5.out)).keep HK6.out⟩
            case measure => have := HK.out; omega
    · gi_wp2_with fail
      have hk := HK.out
      have hkn : k = N := by omega
      have hpre := HPRE.out
      rw [List.take_of_length_le (by rw [← HN.out]; omega)] at hpre
      go_end0
      exact ⟨⟨_, rfl⟩, pre, hpre, HJW.out⟩
end Go.Proofs.YtajokmcdhhiahaaGreatDoor
