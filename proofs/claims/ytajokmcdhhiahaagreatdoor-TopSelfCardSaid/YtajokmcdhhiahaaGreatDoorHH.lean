/- Parse. -/
import Derived.Test.YtajokmcdhhiahaaGreatDoorHG
namespace Go.Proofs.YtajokmcdhhiahaaGreatDoor
open Go.RowKit Go.Shelf
attribute [local go_sem] Oper.semAt_some

theorem addAll_length (l : List (ByteArray × List ByteArray)) : ∀ acc : List (ByteArray × List ByteArray), (l.foldl addB acc).length ≤ acc.length + l.length := by
  induction l with
  | nil => intro acc; simp
  | cons x r ih =>
    intro acc
    have := ih (addB acc x)
    have h2 : (addB acc x).length ≤ acc.length + 1 := by unfold addB; split <;> simp
    simp only [List.foldl_cons, List.length_cons]
    omega
theorem addAll_mem (l : List (ByteArray × List ByteArray)) : ∀ (acc : List (ByteArray × List ByteArray)) (d : ByteArray × List ByteArray), d ∈ l.foldl addB acc → d ∈ acc ∨ d ∈ l := by
  induction l with
  | nil => intro acc d h; exact .inl h
  | cons x r ih =>
    intro acc d h
    rcases ih _ d h with h | h
    · unfold addB at h
      split at h
      · exact .inl h
      · rcases List.mem_append.1 h with h | h
        · exact .inl h
        · exact .inr (by simp at h; simp [h])
    · exact .inr (List.mem_cons_of_mem _ h)
theorem dirsB_length (s : List UInt8) : (dirsB s).length ≤ 1 + s.length := by
  unfold dirsB
  have h1 := List.length_filterMap_le dirB (Fo.parts 59 s)
  rw [Fo.parts_length] at h1
  have := List.count_le_length (a := (59 : UInt8)) (l := s)
  omega
theorem restOf_length (ss : List ByteArray) : (restOf ss).length ≤ 200 := by
  unfold restOf
  have h := List.length_filter_le (fun s : ByteArray => Hd.word s.data.toList) (ss.tail.take 200)
  have h2 := List.length_take_le 200 ss.tail
  omega
theorem dirsB_mem (s : List UInt8) (d : ByteArray × List ByteArray) (h : d ∈ dirsB s) : d.1.size ≤ 40 ∧ d.2.length ≤ 200 := by
  unfold dirsB at h
  obtain ⟨p, hp, hd⟩ := List.mem_filterMap.1 h
  unfold dirB at hd
  split at hd
  · cases hd
  · rename_i w r hw
    split at hd
    · rename_i hn
      injection hd with hd
      subst hd
      refine ⟨?_, restOf_length _⟩
      rw [mk_size']
      unfold Hd.name at hn
      simp at hn
      omega
    · cases hd

/-- Between two rounds. -/
def IDirs (wr : World) (r : Bool) (pre : List Ent) (W : World) : Prop := (∃ (dv : Value) (es : List Ent), W.heap[wr.heap.size]? = some (.cells #[dv, .bool r] 56 (0, 0)) ∧ W.ownsRow wr.heap.size 66 2 dv es.length (flatD es) ∧ (∀ x ∈ es, XIn x W) ∧ es.map dat = (pre.map dat).foldl addB []) ∧ Below wr.heap.size wr W
theorem keep_own {A B : World} {row : Option Nat} {base : Nat} (hg : A.grownBy B row) (hr : ∀ r, row = some r → base ≤ r ∧ ∃ o : Obj, A.heap[r]? = some o ∧ o.isCells = false) (T : TypeId) : KeepT T A B := fun g hg' => hg.block g hg'.lt (fun e => by
  obtain ⟨_, o, ho, hc⟩ := hr g e.symm
  obtain ⟨vs, fr, e'⟩ := hg'
  rw [e'] at ho
  cases ho
  cases hc)
theorem own_keep {A B : World} {row : Option Nat} {base b T sz n : Nat} {v : Value} {xs : List Value} (h : A.ownsRow b T sz v n xs) (hg : A.grownBy B row) (hr : ∀ r, row = some r → base ≤ r ∧ ∃ o : Obj, A.heap[r]? = some o ∧ o.isCells = false) : B.ownsRow b T sz v n xs := by
  refine h.kept hg ?_
  rcases h.2 with ⟨rfl, _⟩ | ⟨g, cap, cur, rfl, _, hgb, _⟩
  · exact .inl rfl
  · refine .inr fun e => ?_
    obtain ⟨_, o, ho, hc⟩ := hr g e.symm
    rw [hgb] at ho
    cases ho
    cases hc
theorem IDirs_own (wr : World) (r : Bool) {base : Nat} (hb : wr.heap.size ≤ base) : OwnFrom base (IDirs wr r) := by
  rintro pre A B row ⟨⟨dv, es, h1, h2, h3, h4⟩, hB⟩ hg hr
  exact ⟨⟨dv, es, (keep_own hg hr 56 _ ⟨_, _, h1⟩).trans h1, own_keep h2 hg hr, fun x hx => TextsR.keep (h3 x hx) (keep_own hg hr 9), h4⟩, hB.grown hg hB.size (fun k e => Nat.le_trans hb (hr k e).1)⟩

/-- A value that is a slice of policies, in rows. -/
def PolsR (w : World) (v : Value) (r : Bool) (pss : List (List (ByteArray × List ByteArray))) : Prop := ∃ A c, v = .slice A pss.length c ∧ pss.length ≤ c ∧ (A = none → c = 0) ∧
  (0 < pss.length → ∃ g off, A = some ⟨g, off, none⟩ ∧ RowT 56 w g ∧ ∀ j (h : j < pss.length), ∃ dv, w.cell? ⟨g, off + j * 2, none⟩ = some dv ∧ w.cell? ⟨g, off + j * 2 + 1, none⟩ = some (.bool r) ∧ DirsR w dv pss[j])
theorem PolsR.keep {w w' : World} {v : Value} {r : Bool} {pss : List (List (ByteArray × List ByteArray))} (h : PolsR w v r pss) (k : KeepT 9 w w') (k' : KeepT 66 w w') (k'' : KeepT 56 w w') : PolsR w' v r pss := by
  obtain ⟨A, c, h1, h2, h3, h4⟩ := h
  refine ⟨A, c, h1, h2, h3, fun hn => ?_⟩
  obtain ⟨g, off, e, hr, hc⟩ := h4 hn
  refine ⟨g, off, e, hr.keep k'', fun j hj => ?_⟩
  obtain ⟨dv, c1, c2, c3⟩ := hc j hj
  exact ⟨dv, (k''.cell hr _).trans c1, (k''.cell hr _).trans c2, c3.keep k k'⟩
theorem PolsR.of_own {w : World} {base n m : Nat} {A : Option Addr} {c : Nat} {r : Bool} {ps : List PE} (h : w.ownsRow base 56 2 (.slice A n c) n (flatP r ps)) (hx : ∀ p ∈ ps, DirsR w p.1 p.2) (hm : m ≤ ps.length) :
    PolsR w (.slice A m c) r ((ps.map fun p => p.2).take m) := by
  have hl : ps.length = n := by have := h.1; rw [flatP, flat2_length] at this; omega
  have hlen : ((ps.map fun p => p.2).take m).length = m := by rw [List.length_take, List.length_map]; omega
  obtain ⟨A', c', e, h1, h2⟩ := own_form h
  injection e with e1 _ e2
  subst e1 e2
  refine ⟨A, c, by rw [hlen], by rw [hlen]; omega, h2, fun hn => ?_⟩
  rw [hlen] at hn
  rcases h.2 with ⟨_, h0⟩ | ⟨g, cap, cur, hv, _, hg, _⟩
  · omega
  · injection hv with hA
    subst hA
    refine ⟨g, 0, rfl, ⟨_, _, hg⟩, fun j hj => ?_⟩
    rw [hlen] at hj
    have hj' : j < ps.length := by omega
    obtain ⟨f1, f2⟩ := flat2_at (fun p : PE => p.1) (fun _ => Value.bool r) ps j hj'
    have c1 := h.cells (g := g) rfl (j * 2) _ f1
    have c2 := h.cells (g := g) rfl (j * 2 + 1) _ f2
    rw [add_at] at c1 c2
    refine ⟨_, c1, by rw [Nat.add_assoc]; exact c2, ?_⟩
    rw [List.getElem_take, List.getElem_map]
    exact hx _ (List.getElem_mem hj')
def parseB (s : List UInt8) : List (List (ByteArray × List ByteArray)) := (((Fo.parts 44 s).map polB).filter (fun ds => !ds.isEmpty)).take 10
def OutPols (r : Bool) (pss : List (List (ByteArray × List ByteArray))) (w : World) (e : Ending) (w' : World) : Prop := ∃ v, e = .returned v ∧ PolsR w' v r pss ∧ Below w.heap.size w w'

set_option maxHeartbeats 4000000 in
set_option maxRecDepth 100000 in
theorem parse_any (s : ByteArray) (report : Bool) (w : World) (hs : s.size ≤ 10000000) : Calls Tryz.prog 19 #[.string s, .bool report] w (OutPols report (parseB s.data.toList) w) := by
  have c22 := fun w' => parts_own s 44 w' hs
  obtain ⟨P, hP⟩ : ∃ P, P = Fo.parts 44 s.data.toList := ⟨_, rfl⟩
  rw [← hP] at c22
  have hpb : parseB s.data.toList = ((P.map polB).filter (fun ds => !ds.isEmpty)).take 10 := by rw [hP]; rfl
  have hPl : ∀ p ∈ P, p.length ≤ 10000000 := fun p hp => by
    have := parts_le 44 s.data.toList p (by rw [← hP]; exact hp)
    rw [size_len] at this
    omega
  have hPn : P.length ≤ 10000001 := by
    rw [hP, Fo.parts_length]
    have := List.count_le_length (a := (44 : UInt8)) (l := s.data.toList)
    rw [size_len] at this
    omega
  have C22 := Lib.hid c22
  have HPB := Lib.hid hpb
  have HPL := Lib.hid hPl
  clear c22 hpb hPl hP
  refine (callsIn_wide (n := 3)).1 ?_
  refine callsIn_of_wp_marks Tryz.func19 rfl trivial ?_ rfl
  simp only [Tryz.ntmps19, List.size_toArray, List.length_cons, List.length_nil, Nat.reduceAdd, Nat.reduceSub, Array.replicate_succ, Array.replicate_zero, List.push_toArray, List.append_toArray, List.nil_append, List.cons_append]
  gi_wp2_with fail
  refine ⟨trivial, (callsIn_wide.2 (C22.out _)).mono ?_⟩
  rintro e w1 ⟨v, rfl, hown1, hb1⟩
  have hpv := TextsR.of_own hown1
  obtain ⟨PA, Pc, rfl, hPc, hPz⟩ := own_form hown1
  rw [bs_length] at hpv hPc ⊢
  obtain ⟨N, hN⟩ : ∃ N, N = P.length := ⟨_, rfl⟩
  rw [← hN] at hpv hPc hPn ⊢
  have HN := Lib.hid hN
  clear hown1 hN
  gi_wp2_with fail
  refine wpIn_loop_ghost_k (fun gk a wr => ∃ (lv kv : Value) (df : List Deferred) (u2 u3 u4 u6 u7 u8 u9 u10 u11 u16 u17 u18 u19 u20 u21 u22 u23 u24 u25 u26 u27 u28 u29 u30 u31 u32 u33 u34 u35 u36 u37 u38 u39 u40 u41 u42 u43 u44 u45 u46 u47 : Value), PInv w report P (.slice PA N Pc) gk lv kv df wr ∧ a = { tmps := List.toArray (.string s :: .bool report :: u2 :: u3 :: u4 :: lv :: u6 :: u7 :: u8 :: u9 :: u10 :: u11 :: .string s :: .slice PA N Pc :: .int .i64 N :: kv :: u16 :: u17 :: u18 :: u19 :: u20 :: u21 :: u22 :: u23 :: u24 :: u25 :: u26 :: u27 :: u28 :: u29 :: u30 :: u31 :: u32 :: u33 :: u34 :: u35 :: u36 :: u37 :: u38 :: u39 :: u40 :: u41 :: u42 :: u43 :: u44 :: u45 :: u46 :: u47 :: undef :: undef :: undef :: undef :: undef :: []), defers := df }) N ?_ ?_
  · (repeat apply Exists.intro)
    exact ⟨⟨0, [], by rw [← HN.out]; omega, rfl, rfl, World.ownsRow_nil _ _ _ _, (fun _ h => by cases h), hpv, DefOK.nil _ _, hb1⟩, rfl⟩
  intro gk a' wr hinv
  obtain ⟨lv, kv, df, u2, u3, u4, u6, u7, u8, u9, u10, u11, u16, u17, u18, u19, u20, u21, u22, u23, u24, u25, u26, u27, u28, u29, u30, u31, u32, u33, u34, u35, u36, u37, u38, u39, u40, u41, u42, u43, u44, u45, u46, u47, ⟨k, ps, hk, rfl, hps, hout, hdr, hpr, hdf, hbw⟩, rfl⟩ := hinv
  intro J K hJ hK
  have HK := Lib.hid hk
  have HPS := Lib.hid hps
  have HJ := Lib.hid hJ
  have HKK := Lib.hid hK
  have HDR := Lib.hid hdr
  have HOUT := Lib.hid hout
  have HDF := Lib.hid hdf
  have HBW := Lib.hid hbw
  clear hk hps hdr hout hdf hbw hpv hb1
  by_cases hlt : k < N
  · have hkP : k < P.length := by rw [← HN.out]; exact hlt
    obtain ⟨g, off, rfl, hcell⟩ := hpr.at_ k (by rw [bs_length]; exact hkP)
    obtain ⟨p, hp⟩ : ∃ p, p = P[k] := ⟨_, rfl⟩
    have hpb : (bs P)[k]'(by rw [bs_length]; exact hkP) = ⟨p.toArray⟩ := by simp [bs, hp]
    rw [hpb] at hcell
    have hpl : p.length ≤ 10000000 := HPL.out p (by rw [hp]; exact List.getElem_mem hkP)
    have hpre : (P.take (k + 1)).map polB = (P.take k).map polB ++ [polB p] := by
      rw [List.take_succ_eq_append_getElem hkP, List.map_append, ← hp]; rfl
    obtain ⟨pb, hpbd⟩ : ∃ pb : ByteArray, pb = ⟨p.toArray⟩ := ⟨_, rfl⟩
    have hpbs : pb.size ≤ 10000000 := by rw [hpbd, mk_size']; exact hpl
    have hpbl : pb.data.toList = p := by rw [hpbd]
    rw [← hpbd] at hcell
    have HPR := Lib.hid hpr
    have HPRE := Lib.hid hpre
    have HPBL := Lib.hid hpbl
    clear hpre hpb hpbd hpr hp hpl hpbl
    gi_wp2_with fail
    refine ⟨trivial, (callsIn_wide.2 (directives_any pb _)).mono ?_⟩
    rintro e w2 ⟨rfl, rfl⟩
    gi_wp2_with fail
    obtain ⟨Wc, hWc⟩ : ∃ Wc, Wc = (wr.alloc (.cells #[.slice none 0 0, .bool report] 56)).alloc (.cells #[.string pb] 9) := ⟨_, rfl⟩
    have hszc : Wc.heap.size = wr.heap.size + 2 := by rw [hWc]; simp
    have hbc : Below wr.heap.size wr Wc := by rw [hWc]; exact ((Below.refl _ wr).alloc (Nat.le_refl _) _).alloc (by simp) _
    have hpc : Wc.heap[wr.heap.size]? = some (.cells #[.slice none 0 0, .bool report] 56 (0, 0)) := by rw [hWc]; exact (heap_alloc_old _ _ (by simp)).trans (heap_alloc_new _ _)
    have hsc : Wc.cell? ⟨wr.heap.size + 1, 0, none⟩ = some (.string pb) := by
      have := heap_alloc_new (wr.alloc (.cells #[.slice none 0 0, .bool report] 56)) (.cells #[.string pb] 9)
      rw [World.size_alloc, ← hWc] at this
      exact cell_row this 0
    rw [← hWc]
    clear hWc
    refine wpIn_range_own (w := Wc) (gf := 55) (lb := #[.pointer (some ⟨wr.heap.size + 1, 0, none⟩)]) (by omega) rfl (enters_of Tryz.func55 (by kernel_rfl) rfl) (dirs_seq _ (by omega) (wr.heap.size + 1) pb hpbs Wc hsc (by omega))
      (IDirs wr report) (IDirs_own wr report (by omega)) ⟨⟨.slice none 0 0, [], hpc, World.ownsRow_nil _ _ _ _, (fun _ h => by cases h), rfl⟩, hbc⟩
      (fun x a' W => ∃ DB, wr.heap.size ≤ DB ∧ W.heap[DB]? = some (.cells #[.string x.1, x.2.1] 66 (0, 0)) ∧ a' = { tmps := List.toArray (.string s :: .bool report :: u2 :: u3 :: u4 :: lv :: u6 :: .string pb :: .pointer (some ⟨wr.heap.size, 0, none⟩) :: .pointer (some ⟨DB, 0, none⟩) :: u10 :: u11 :: .string s :: .slice (some ⟨g, off, none⟩) N Pc :: .int .i64 N :: .int .i64 k :: .bool true :: .pointer (some ⟨g, off + k, none⟩) :: .string pb :: .bool report :: .agg #[.slice none 0 0, .bool report] :: .string pb :: .func (.func 55) #[] #[.pointer (some ⟨wr.heap.size + 1, 0, none⟩)] :: .agg #[.string x.1, x.2.1] :: u24 :: u25 :: u26 :: u27 :: u28 :: u29 :: u30 :: u31 :: u32 :: u33 :: u34 :: u35 :: u36 :: u37 :: u38 :: u39 :: u40 :: u41 :: u42 :: u43 :: u44 :: u45 :: u46 :: u47 :: undef :: undef :: undef :: undef :: undef :: []), defers := [] }) ?_ ?assign ?body ?done
    · rintro x a' _ A B row ⟨DB, h1, h2, h3⟩ hg hr
      exact ⟨DB, h1, (keep_own hg hr 66 _ ⟨_, _, h2⟩).trans h2, h3⟩
    case assign =>
      intro l pre x W K' hi hx hK'
      obtain ⟨nm, wv, ws⟩ := x
      have hx' : TextsR W wv ws := hx
      obtain ⟨wA, wc, rfl, _⟩ := id hx'
      have HKP := Lib.hid hK'
      have HI := Lib.hid hi
      clear hK' hi hx hx'
      gi_wp2_with fail
      exact HKP.out _ _ ((KeepsOthers.alloc W _).from _) (KeepT.grown (World.grownBy_alloc W _ none)) (IDirs_own wr report (Nat.le_refl _) pre W _ none HI.out (World.grownBy_alloc W _ none) (fun r e => by cases e)) ⟨W.heap.size, HI.out.2.size, heap_alloc_new _ _, rfl⟩
    case body =>
      rintro l pre x a' W ⟨⟨dv, es, hbx, hown, hxs, hes⟩, hB⟩ ⟨DB, hDB, hdb, rfl⟩ hx hpre
      obtain ⟨nm, wv, ws⟩ := x
      obtain ⟨EA, EC, rfl, hec, hez⟩ := own_form hown
      have hx' : TextsR W wv ws := hx
      obtain ⟨wA, wc, rfl, _⟩ := id hx'
      have hlen : es.length ≤ 10000000 := by
        have := addAll_length (pre.map dat) []
        rw [← hes] at this
        have h2 := hpre.length_le
        have h3 := dirsB_length pb.data.toList
        rw [size_len] at h3
        simp at this h2
        omega
      have hmem : ∀ d ∈ es.map dat, d.2.length ≤ 10000000 := fun d hd => by
        rw [hes] at hd
        rcases addAll_mem (pre.map dat) [] d hd with h | h
        · cases h
        · have := dirsB_mem pb.data.toList d (hpre.subset (by rw [List.map_append]; exact List.mem_append_left _ h))
          omega
      have hnm : nm.size ≤ 10000000 := by
        have := dirsB_mem pb.data.toList (dat (nm, .slice wA ws.length wc, ws)) (hpre.subset (by simp))
        exact Nat.le_trans this.1 (by omega)
      have hc0 := cell_row hbx 0
      have hc1 := cell_row hbx 1
      have hf0 := frozen_row hbx
      have hd0 := cell_row hdb 0
      have hd1 := cell_row hdb 1
      simp at hc0 hc1 hd0 hd1
      have c15 := fun w' (hb : Below W.heap.size W w') => find_any (.slice EA es.length EC) report (es.map dat) nm w' ((DirsR.of_own hown hxs).keep (KeepT.below hb) (KeepT.below hb)).toV hnm (by rw [List.length_map]; omega) hmem
      have C15 := Lib.hid c15
      have HOWN := Lib.hid hown
      have HXS := Lib.hid hxs
      have HES := Lib.hid hes
      have HBX := Lib.hid hbx
      have HBB := Lib.hid hB
      have HX := Lib.hid hx
      have HDB := Lib.hid hdb
      have HPRE2 := Lib.hid hpre
      clear c15 hown hxs hes hbx hB hx hpre hdb hmem
      clear hx'
      gi_wp2_with fail
      refine ⟨trivial, (CallsIn.inRound l (callsIn_wide.2 (C15.out _ (Below.refl _ _)))).mono ?_⟩
      rintro e w6 ⟨fv, rfl, ⟨fA, fc, rfl, _⟩, hb6⟩
      have hbx6 := (hb6.block _ (RowT.lt ⟨_, _, HBX.out⟩)).trans HBX.out
      have hc60 := cell_row hbx6 0
      have hc61 := cell_row hbx6 1
      have hf60 := frozen_row hbx6
      have hdb6 := (hb6.block DB (RowT.lt ⟨_, _, HDB.out⟩)).trans HDB.out
      have hd60 := cell_row hdb6 0
      have hd61 := cell_row hdb6 1
      simp at hc60 hc61 hd60 hd61
      have HB6 := Lib.hid hb6
      have HBX6 := Lib.hid hbx6
      clear hb6 hbx6 hdb6 hc0 hc1 hd0 hd1 hf0
      cases hq : (findB (es.map dat) (Fo.lower nm.data.toList)).isSome with
      | true =>
        have HQ := Lib.hid hq
        clear hq
        gi_wp2_with fail
        have k9 : KeepT 9 W w6 := KeepT.below HB6.out
        refine ⟨(KeepsOthers.of_grownBy (grown_of_below HB6.out) (fun _ _ e => by cases e)).from _, k9, ⟨_, es, HBX6.out, own_below HOWN.out HB6.out, fun y hy => TextsR.keep (HXS.out y hy) k9, ?_⟩, HBB.out.trans (HB6.out.mono HBB.out.size)⟩
        rw [List.map_append, List.foldl_append, ← HES.out]
        show _ = addB (es.map dat) (nm, ws)
        unfold addB
        rw [if_pos HQ.out]
      | false =>
        have HQ := Lib.hid hq
        clear hq
        have hown6 := own_below HOWN.out HB6.out
        have hWw : wr.heap.size ≤ w6.heap.size := Nat.le_trans HBB.out.size HB6.out.size
        obtain ⟨i0, hi, hz0, hz1, hz2⟩ := info_parts dir_row
        have HI0 := Lib.hid hi
        have HOWN6 := Lib.hid hown6
        clear hi hown6
        gi_wp2_with (gi_at_builtin; refine wpListIn_append_own _ rfl (.tmp 34) (.tmp 36) 54 rfl wr.heap.size 66 i0 (.agg #[.string ⟨#[]⟩, .slice none 0 0]) 2 40 Tryz.underlying54 HI0.out hz0 hz1 hz2 rfl (by decide) _ es.length (flatD es) rfl (HOWN6.out.alloc _) ⟨w6.heap.size, 0, none⟩ 1 1 [.string nm, .slice wA ws.length wc] rfl rfl (two_new _ _ _ _) (by simp [Value.oneCell']) (by unfold maxLen; omega) (by omega) (by simp; omega) ?_; intro v' w7 hown' hgrow _; obtain ⟨VA, VC, rfl, _, _⟩ := own_form hown'; have hbx7 := (keep_append (HOWN6.out.alloc _) hgrow (by decide) _ ⟨_, _, (heap_alloc_old _ _ (RowT.lt ⟨_, _, HBX6.out⟩)).trans HBX6.out⟩).trans ((heap_alloc_old _ _ (RowT.lt ⟨_, _, HBX6.out⟩)).trans HBX6.out); have hc70 := cell_row hbx7 0; have hf70 := frozen_row hbx7; simp at hc70)
        have hgs := grownBy_setAt w7 ⟨wr.heap.size, 0, none⟩ (.slice VA (es.length + 1) VC)
        have hown6a := HOWN6.out.alloc (.cells #[.string nm, .slice wA ws.length wc] 66)
        have k9 : KeepT 9 W (w7.setCell ⟨wr.heap.size, 0, none⟩ (.slice VA (es.length + 1) VC)) :=
          (((KeepT.below HB6.out).trans (KeepT.grown (World.grownBy_alloc w6 _ none))).trans (keep_append hown6a hgrow (by decide))).trans (KeepT.grownBy hgs (by rintro ⟨vs, fr, e⟩; rw [hbx7] at e; cases e))
        have ko : KeepsOthers W (w7.setCell ⟨wr.heap.size, 0, none⟩ (.slice VA (es.length + 1) VC)) :=
          (((KeepsOthers.of_grownBy (grown_of_below HB6.out) (fun _ _ e => by cases e)).trans (KeepsOthers.alloc w6 _)).trans (others_of_row hgrow (row_append hown6a))).trans (others_of_row hgs (fun k e => by cases e; exact ⟨56, _, _, hbx7⟩))
        have hbb : Below wr.heap.size W (w7.setCell ⟨wr.heap.size, 0, none⟩ (.slice VA (es.length + 1) VC)) :=
          ((((HB6.out.mono HBB.out.size).alloc hWw _).grown hgrow (by simp; omega) (fun k hk => (hown6a.lt k hk).1)).setCell (p := ⟨wr.heap.size, 0, none⟩) (Nat.le_refl _) _)
        have hend : IDirs wr report (pre ++ [((nm, Value.slice wA ws.length wc, ws) : Ent)]) (w7.setCell ⟨wr.heap.size, 0, none⟩ (.slice VA (es.length + 1) VC)) := by
          refine ⟨⟨_, es ++ [(nm, Value.slice wA ws.length wc, ws)], heap_setAt hbx7 _, ?_, fun y hy => ?_, ?_⟩, HBB.out.trans hbb⟩
          · rw [flatD, flat2_snoc, List.length_append]
            exact hown'.kept hgs (.inr (own_ne hown' ⟨_, _, hbx7⟩ (by decide)))
          · rcases List.mem_append.1 hy with hy | hy
            · exact TextsR.keep (HXS.out y hy) k9
            · obtain rfl := List.mem_singleton.1 hy
              exact TextsR.keep HX.out k9
          · rw [List.map_append, List.map_append, List.foldl_append, ← HES.out]
            show _ = addB (es.map dat) (nm, ws)
            unfold addB
            rw [if_neg (by rw [HQ.out]; exact Bool.false_ne_true)]
            rfl
        exact ⟨ko.from _, k9, hend⟩
    case done =>
      rintro D ys W hD hys ⟨⟨dv, es, hbx, hown, hxs, hes⟩, hB⟩ hDd
      obtain ⟨EA, EC, rfl, hec, hez⟩ := own_form hown
      have hc0 := cell_row hbx 0
      have hc1 := cell_row hbx 1
      simp at hc0 hc1
      have HOWN := Lib.hid hown
      have HXS := Lib.hid hxs
      have HES := Lib.hid hes
      have HBX := Lib.hid hbx
      have HBB := Lib.hid hB
      have HDD := Lib.hid hDd
      have HYS := Lib.hid hys
      have hout2 := own_below HOUT.out (w1 := W) hB
      have hpsl : ps.length ≤ 10000001 := by
        have h1 := congrArg List.length HPS.out
        rw [List.length_map] at h1
        have h2 := List.length_filter_le (fun ds : List (ByteArray × List ByteArray) => !ds.isEmpty) ((P.take k).map polB)
        rw [List.length_map, List.length_take] at h2
        omega
      have hWw : w.heap.size ≤ W.heap.size := Nat.le_trans HBW.out.size hB.size
      obtain ⟨i0, hi, hz0, hz1, hz2⟩ := info_parts pol_row
      have HI0 := Lib.hid hi
      have HOUT2 := Lib.hid hout2
      clear hown hxs hes hbx hB hDd hys hout2 hi
      obtain ⟨LA, LC, rfl, hlc, hlz⟩ := own_form HOUT2.out
      gi_wp2_with (gi_at_builtin; refine wpListIn_append_own _ rfl (.tmp 43) (.tmp 45) 44 rfl w.heap.size 56 i0 (.agg #[.slice none 0 0, .bool false]) 2 32 Tryz.underlying44 HI0.out hz0 hz1 hz2 rfl (by decide) _ ps.length (flatP report ps) rfl (HOUT2.out.alloc _) ⟨W.heap.size, 0, none⟩ 1 1 [.slice EA es.length EC, .bool report] rfl rfl (two_new _ _ _ _) (by simp [Value.oneCell']) (by unfold maxLen; omega) (by omega) (by simp; omega) ?_; intro v' w5 hown' hgrow _)
      · gi_roundg (gk - 1)
        case measure => have hk := HK.out; omega
        case rel =>
          have hk := HK.out
          have hpe : polB p = es.map dat := by unfold polB; rw [HES.out, HYS.out, HPBL.out]
          have hpos : 0 < es.length := by omega
          have h0 : (polB p).isEmpty = false := by rw [hpe]; cases hl : es with
            | nil => rw [hl] at hpos; simp at hpos
            | cons => rfl
          have hout2 := HOUT2.out.alloc (.cells #[.slice EA es.length EC, .bool report] 56)
          have kt : ∀ T, T ≠ 56 → KeepT T wr w5 := fun T hT => ((KeepT.below HBB.out).trans (KeepT.grown (World.grownBy_alloc W _ none))).trans (keep_append hout2 hgrow hT)
          have kw : ∀ T, T ≠ 56 → KeepT T W w5 := fun T hT => (KeepT.grown (World.grownBy_alloc W _ none)).trans (keep_append hout2 hgrow hT)
          refine ⟨k + 1, ps ++ [(.slice EA es.length EC, es.map dat)], by omega, by go_num, ?_, ?_, ?_, HPR.out.keep (kt 9 (by decide)), ?_, ?_⟩
          · rw [HPRE.out, List.filter_append, ← HPS.out, List.map_append, hpe]
            rw [hpe] at h0
            simp [h0]
          · rw [flatP, flat2_snoc, List.length_append]
            exact hown'
          · intro y hy
            rcases List.mem_append.1 hy with hy | hy
            · exact (HDR.out y hy).keep (kt 9 (by decide)) (kt 66 (by decide))
            · obtain rfl := List.mem_singleton.1 hy
              exact (DirsR.of_own HOWN.out HXS.out).keep (kw 9 (by decide)) (kw 66 (by decide))
          · refine (DefOK.cons (HDF.out.grown (grown_of_below HBB.out)) (by have := HBW.out.size; omega) HDD.out (fun d hd e => ?_) |>.grown (World.grownBy_alloc W (.cells #[.slice EA es.length EC, .bool report] 56) none)).grownBy hgrow (row_append hout2)
            have := HDF.out.lt d hd D e
            omega
          · exact ((HBW.out.trans (HBB.out.mono HBW.out.size)).alloc hWw _).grown hgrow (by simp; omega) (fun k hk => (hout2.lt k hk).1)
      · gi_roundg (gk - 1)
        case measure => have hk := HK.out; omega
        case rel =>
          have hk := HK.out
          have hpe : polB p = es.map dat := by unfold polB; rw [HES.out, HYS.out, HPBL.out]
          have hneg : es.length = 0 := by omega
          have h0 : (polB p).isEmpty = true := by rw [hpe]; cases hl : es with
            | nil => rfl
            | cons => rw [hl] at hneg; simp at hneg
          have kt : ∀ T, KeepT T wr W := fun T => KeepT.below HBB.out
          refine ⟨k + 1, ps, by omega, by go_num, ?_, HOUT2.out, fun y hy => (HDR.out y hy).keep (kt 9) (kt 66), HPR.out.keep (kt 9), ?_, HBW.out.trans (HBB.out.mono HBW.out.size)⟩
          · rw [HPRE.out, List.filter_append, ← HPS.out]
            simp [h0]
          · refine DefOK.cons (HDF.out.grown (grown_of_below HBB.out)) (by have := HBW.out.size; omega) HDD.out (fun d hd e => ?_)
            have := HDF.out.lt d hd D e
            omega
  · obtain ⟨LA, LC, rfl, hlc, hlz⟩ := own_form HOUT.out
    gi_wp2_with fail
    have hk := HK.out
    have hkn : P.length ≤ k := by rw [← HN.out]; omega
    have hps := HPS.out
    rw [List.take_of_length_le hkn] at hps
    refine leaves_all df wr w HDF.out HBW.out HBW.out.size fun w' hb' kt' => ?_
    refine ⟨_, results_tmp rfl _ _ _, _, rfl, ?_, hb'⟩
    rw [HPB.out, ← hps, show (min (ps.length : Int) 10).toNat = min 10 ps.length by omega]
    refine PolsR.keep ?_ (kt' 9) (kt' 66) (kt' 56)
    rw [List.take_eq_take_min, List.length_map]
    exact PolsR.of_own HOUT.out HDR.out (Nat.min_le_right _ _)
end Go.Proofs.YtajokmcdhhiahaaGreatDoor
