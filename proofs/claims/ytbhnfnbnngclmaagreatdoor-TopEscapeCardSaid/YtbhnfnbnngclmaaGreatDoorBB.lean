/- lay. -/
import Derived.Test.YtbhnfnbnngclmaaGreatDoorBA
import Derived.Test.YtbhnfnbnngclmaaGreatDoorDL
namespace Go.Proofs.YtbhnfnbnngclmaaGreatDoor
open Go.RowKit Go.Sort Go.BigFrame Go.Maps Go.WideMaps
set_option maxRecDepth 100000

/-- What a builder has laid: nodes, each below the one before, in a document. -/
structure Lays (w : World) (b : Nat) (o : Value) (a : Int) (fl : Value) (l : List Kd) : Prop where
  bu : ∃ g c, Bu w b (.slice (some ⟨g, 0, none⟩) l.length c) o a fl ∧ Doc w (.agg #[.slice (some ⟨g, 0, none⟩) l.length c]) l l.length
  good : Good l l.length
/-- Nodes stay where a block of another kind turns. -/
theorem Nodes.keepT {w w' : World} {g m b : Nat} {l : List Kd} (h : Nodes w g l m) {cs : Array Value} {T : TypeId} {fr : Nat × Nat} (hk : Keep [b] w w') (hb : w.heap[b]? = some (.cells cs T fr)) (hT : T ≠ 37 ∧ T ≠ 63 ∧ T ≠ 3) : Nodes w' g l m := by
  have st : ∀ {k : Nat} {cs' : Array Value} {T' : TypeId} {fr' : Nat × Nat}, w.heap[k]? = some (.cells cs' T' fr') → T' ≠ T → w'.heap[k]? = some (.cells cs' T' fr') := fun {k cs' T' fr'} hk' hne => by
    rw [hk.block k (hlt hk') ?_]
    · exact hk'
    · intro hm
      obtain rfl := List.mem_singleton.1 hm
      rw [hb] at hk'
      injection hk' with hk'
      injection hk' with _ e
      exact hne e.symm
  obtain ⟨cur, fr', h1, h2⟩ := h
  refine ⟨cur, fr', st h1 (Ne.symm hT.1), fun i x hx => ?_⟩
  obtain ⟨va, vk, h3, h4, h5⟩ := h2 i x hx
  refine ⟨va, vk, ?_, ?_, h5⟩
  · cases e : x.ats with
    | none => rw [e] at h3; exact h3
    | some q => rw [e] at h3; obtain ⟨k, cap, cs', fr2, f1, f2, f3, f4⟩ := h3; exact ⟨k, cap, cs', fr2, f1, f2, st f3 (Ne.symm hT.2.1), f4⟩
  · cases e : kidOf m i with
    | none => rw [e] at h4; exact h4
    | some q => rw [e] at h4; obtain ⟨k, cap, cs', fr2, f1, f2, f3, f4⟩ := h4; exact ⟨k, cap, cs', fr2, f1, f2, st f3 (Ne.symm hT.2.2), f4⟩
theorem Doc.keepT {w w' : World} {v : Value} {m b : Nat} {l : List Kd} (h : Doc w v l m) {cs : Array Value} {T : TypeId} {fr : Nat × Nat} (hk : Keep [b] w w') (hb : w.heap[b]? = some (.cells cs T fr)) (hT : T ≠ 37 ∧ T ≠ 63 ∧ T ≠ 3) : Doc w' v l m := by
  obtain ⟨g, c, h1, h2, h3⟩ := h
  exact ⟨g, c, h1, h2, h3.keepT hk hb hT⟩
theorem field108 (k : Int) (nm : ByteArray) (w : World) : (Instr.field 108 (.agg #[.int .i64 k, .string nm]) 0).run Tryz.prog w = .ok (.int .i64 k) w := by kernel_rfl
def OutLay (b : Nat) (o : Value) (a : Int) (fl : Value) (l : List Kd) (w : World) (e : Ending) (w' : World) : Prop := e = .returned (.tuple #[.int .i64 l.length, .int .i64 0]) ∧ ∃ x, Lays w' b o a fl (l ++ [x]) ∧ Keep [b] w w'
set_option maxHeartbeats 4000000 in
theorem lay_any (b B g n c p : Nat) (nm : ByteArray) (a : Int) (fl : Value) (l : List Kd) (st : List (Nat × ByteArray)) (x y : Kd) (va : Value) (w : World) (h : Lays w b (.slice (some ⟨g, 0, none⟩) (n + 1) c) a fl l)
    (hs : St w B (.slice (some ⟨g, 0, none⟩) (n + 1) c) st) (hp : st[n]? = some (p, nm)) (hn : n ≤ 100) (hl : l.length = p + 1) (hl50 : l.length < 50) (hy : l[p]? = some y) (hyh : y.holds = true) (ha : Ats w va x.ats) (hx : x.ok) (hx1 : (x.num == 1) = false) :
    Calls Tryz.prog 79 #[.pointer (some ⟨b, 0, none⟩), .agg (x.cells va 0 (.slice none 0 0)).toArray] w fun e w' => e = .returned (.tuple #[.int .i64 l.length, .int .i64 0]) ∧ Lays w' b (.slice (some ⟨g, 0, none⟩) (n + 1) c) a fl (l ++ [x]) ∧ Keep [b] w w' := by
  obtain ⟨⟨gd, cd, hbu, hd⟩, hgood⟩ := h
  obtain ⟨aA, an, ac, rfl⟩ := ha.form
  have cm := fun w' (hd' : Doc w' (.agg #[.slice (some ⟨gd, 0, none⟩) l.length cd]) l l.length) (ha' : Ats w' (.slice aA an ac) x.ats) => make_any l x _ (.slice aA an ac) (.slice none 0 0) 0 w' hd' hgood ha' hx hx1 ⟨_, _, _, rfl⟩
  have hmore := hgood.more hl50 hx1 hx
  have cp := fun v' w' (hd' : Doc w' v' (l ++ [x]) l.length) => put_any (l ++ [x]) l.length p y v' w' hd' hmore (by simp) hl (by rw [List.getElem?_append_left (by omega)]; exact hy) hyh
  have hatt := hmore.attach (by simp) hl (by rw [List.getElem?_append_left (by omega)]; exact hy) hyh
  obtain ⟨m, hm⟩ : ∃ m, m = l.length := ⟨_, rfl⟩
  have hm50 : m < 50 := by omega
  have hmp : m = p + 1 := by omega
  rw [← hm] at cm cp hbu hd hatt ⊢
  have hb1 := below_alloc' w (.cells (x.cells (.slice aA an ac) 0 (.slice none 0 0)).toArray 37)
  have hr1 := heap_alloc_new w (.cells (x.cells (.slice aA an ac) 0 (.slice none 0 0)).toArray 37)
  obtain ⟨X, hX⟩ : ∃ X, X = w.alloc (.cells (x.cells (.slice aA an ac) 0 (.slice none 0 0)).toArray 37) := ⟨_, rfl⟩
  rw [← hX] at hb1 hr1
  have hsp : ∀ w', Below X.heap.size X w' → (w'.cell? ⟨b, 0, none⟩ = some (.slice (some ⟨gd, 0, none⟩) m cd) ∧ w'.cell? ⟨w.heap.size, 0, none⟩ = some (.int .i64 x.num) ∧ w'.cell? ⟨w.heap.size, 1, none⟩ = some (.string x.nm) ∧ w'.cell? ⟨w.heap.size, 2, none⟩ = some (.string x.dt) ∧ w'.cell? ⟨w.heap.size, 3, none⟩ = some (.slice aA an ac) ∧ w'.cell? ⟨w.heap.size, 4, none⟩ = some (.int .i64 0) ∧ w'.cell? ⟨w.heap.size, 5, none⟩ = some (.slice none 0 0) ∧ w'.cell? ⟨w.heap.size, 6, none⟩ = some (.bool x.pr) ∧ w'.cell? ⟨w.heap.size, 7, none⟩ = some (.bool false)) := fun w' hb => by
    have hrr := (hb.block _ (hlt hr1)).trans hr1
    obtain ⟨v0, v1, v2, v3, v4, v5, v6, v7⟩ := row_facts hrr
    exact ⟨((hbu.below hb1).below hb).c0, v0, v1, v2, v3, v4, v5, v6, v7⟩
  have hdX : ∀ w', Below X.heap.size X w' → Doc w' (.agg #[.slice (some ⟨gd, 0, none⟩) m cd]) l m := fun w' hb => (hd.below hb1).below hb
  have haX : ∀ w', Below X.heap.size X w' → Ats w' (.slice aA an ac) x.ats := fun w' hb => (ha.below hb1).below hb
  unfold Kd.cells at cm hX ⊢
  have HX := Lib.hid hX
  have HB1 := Lib.hid hb1
  have HBU := Lib.hid hbu
  have HS := Lib.hid hs
  have HSP := Lib.hid hsp
  have HDX := Lib.hid hdX
  have HAX := Lib.hid haX
  have HCM := Lib.hid cm
  have HCP := Lib.hid cp
  have HM := Lib.hid hm
  have HMP := Lib.hid hmp
  have HPP := Lib.hid hp
  have HATT := Lib.hid hatt
  clear hX hb1 hr1 hbu hd hs hsp hdX haX ha cm cp hm hmp hp hatt hmore hl hl50 hy hyh hx hx1 hgood
  go_enter Tryz.func79, Tryz.ntmps79
  go_upto_region 1 with fail
  rw [← HX.out]
  go_region_held3 (fun w' => w'.cell? ⟨b, 0, none⟩ = some (.slice (some ⟨gd, 0, none⟩) m cd) ∧ w'.cell? ⟨w.heap.size, 0, none⟩ = some (.int .i64 x.num) ∧ w'.cell? ⟨w.heap.size, 1, none⟩ = some (.string x.nm) ∧ w'.cell? ⟨w.heap.size, 2, none⟩ = some (.string x.dt) ∧ w'.cell? ⟨w.heap.size, 3, none⟩ = some (.slice aA an ac) ∧ w'.cell? ⟨w.heap.size, 4, none⟩ = some (.int .i64 0) ∧ w'.cell? ⟨w.heap.size, 5, none⟩ = some (.slice none 0 0) ∧ w'.cell? ⟨w.heap.size, 6, none⟩ = some (.bool x.pr) ∧ w'.cell? ⟨w.heap.size, 7, none⟩ = some (.bool false))
    (first | exact HSP.out _ (below_drew' X) | exact HSP.out _ ((below_alloc' X _).drew) | exact HSP.out _ ((below_drew' X).alloc (by exact Nat.le_refl _) _) | exact HSP.out _ HB3.out | exact HSP.out _ (HB3.out.alloc HB3.out.size _) | exact HSP.out _ (HB3.out.setCell (by exact Nat.le_refl _) _))
    (first
      | (go_at_call 97; (with_reducible refine (HCM.out (X.drew) (HDX.out _ (below_drew' X)) (HAX.out _ (below_drew' X))).mono ?_); rintro e w3 ⟨g3, c3, he, ho, hb3⟩; rw [← HM.out] at he; subst he; have HO3 := Lib.hid ho; have HB3 := Lib.hid (nx (below_drew' X) hb3); clear ho hb3)
      | (go_at_call 97; (with_reducible refine (HCM.out ((X.alloc (.cells #[.slice none 0 0] 26)).drew) (HDX.out _ ((below_alloc' X _).drew)) (HAX.out _ ((below_alloc' X _).drew))).mono ?_); rintro e w3 ⟨g3, c3, he, ho, hb3⟩; rw [← HM.out] at he; subst he; have HO3 := Lib.hid ho; have HB3 := Lib.hid (((below_alloc' X (.cells #[.slice none 0 0] 26)).drew).trans (hb3.mono (by simp))); have hrt := (hb3.block X.heap.size (by simp)).trans (heap_alloc_new X (.cells #[.slice none 0 0] 26)); have z0 := cell_row hrt 0; simp at z0; have zf := free_of (k := 0) hrt; have HRT := Lib.hid hrt; clear ho hb3 hrt))
  · have hT := heap_alloc_new w3 (.cells #[.slice (some ⟨g3, 0, none⟩) (m + 1) c3] 26)
    have hB4 : Below X.heap.size X (w3.alloc (.cells #[.slice (some ⟨g3, 0, none⟩) (m + 1) c3] 26)) := HB3.out.alloc HB3.out.size _
    have hO4 := OwnN.below HO3.out (below_alloc' w3 (.cells #[.slice (some ⟨g3, 0, none⟩) (m + 1) c3] 26))
    have hTX : X.heap.size ≤ w3.heap.size := HB3.out.size
    obtain ⟨T, hTe⟩ : ∃ T, T = w3.heap.size := ⟨_, rfl⟩
    obtain ⟨W4, hW4⟩ : ∃ W4, W4 = w3.alloc (.cells #[.slice (some ⟨g3, 0, none⟩) (m + 1) c3] 26) := ⟨_, rfl⟩
    rw [← hW4] at hT hB4 hO4 ⊢
    rw [← hTe] at hT hTX ⊢
    have HT := Lib.hid hT
    have HB4 := Lib.hid hB4
    have HO4 := Lib.hid hO4.doc
    have hLB : (l ++ [x]).length = m + 1 := by rw [List.length_append, ← HM.out]; rfl
    have hD4 : Doc W4 (.agg #[.slice (some ⟨g3, 0, none⟩) (m + 1) c3]) (l ++ [x]) m := by
      have h := hO4.doc
      rw [hLB, ← HM.out] at h
      exact h
    have HD4 := Lib.hid hD4
    have HLB := Lib.hid hLB
    clear hT hB4 hO4 hTe hW4 HB3 HO3 hD4 hLB
    go_upto_region 4 with fail
    have hbu4 := (HBU.out.below HB1.out).below HB4.out
    have hst4 := (HS.out.below HB1.out).below HB4.out
    have hTl : T < W4.heap.size := hlt HT.out
    have s0 : W4.drew.cell? ⟨T, 0, none⟩ = some (.slice (some ⟨g3, 0, none⟩) (m + 1) c3) := ((below_drew' W4).cell (p := ⟨T, 0, none⟩) hTl).trans (cell_row HT.out 0)
    have ctop := top_any b B g n c _ a fl st (p, nm) W4.drew (hbu4.below (below_drew' W4)) (hst4.below (below_drew' W4)) HPP.out hn
    have CTOP := Lib.hid ctop
    clear hbu4 hst4 ctop
    have hfld := field108 p nm
    refine wp_region_noPanic ?_
    refine region_G (fun w' => w'.cell? ⟨T, 0, none⟩ = some (.slice (some ⟨g3, 0, none⟩) (m + 1) c3)) 11 13 (by kernel_rfl) (by rfl) ?_
    refine anyG_take 0 ?v0 (by kernel_rfl) (by kernel_rfl) (by rfl) (by kernel_rfl) (by kernel_rfl) (by kernel_rfl) (fun _ _ _ h => h) (Or.inl ⟨by rfl, ?y0⟩) s0 ?r0
    case y0 =>
      intro w' hS
      try dsimp only at hS
      go_simp
      all_goals with_reducible rfl
    try simp only [Act.put, List.setIfInBounds_toArray, List.set_cons_zero, List.set_cons_succ, List.getElem_toArray, List.getElem_cons_zero, List.getElem_cons_succ]
    refine anyG_pure 1 ?v1 (by kernel_rfl) (by rfl) (by kernel_rfl) (by kernel_rfl) (by kernel_rfl) (fun _ _ _ h => h) (Or.inl ⟨by rfl, ?y1⟩) (fun _ => s0) ?r1
    case y1 =>
      intro w' _
      go_simp
      all_goals with_reducible rfl
    try simp only [Act.put, List.setIfInBounds_toArray, List.set_cons_zero, List.set_cons_succ, List.getElem_toArray, List.getElem_cons_zero, List.getElem_cons_succ]
    refine anyG_pure 2 ?v2 (by kernel_rfl) (by rfl) (by kernel_rfl) (by kernel_rfl) (by kernel_rfl) (fun _ _ _ h => h) (Or.inl ⟨by rfl, ?y2⟩) (fun _ => s0) ?r2
    case y2 =>
      intro w' _
      go_simp
      all_goals with_reducible rfl
    try simp only [Act.put, List.setIfInBounds_toArray, List.set_cons_zero, List.set_cons_succ, List.getElem_toArray, List.getElem_cons_zero, List.getElem_cons_succ]
    refine anyG_pure 3 ?v3 (by kernel_rfl) (by rfl) (by kernel_rfl) (by kernel_rfl) (by kernel_rfl) (fun _ _ _ h => h) (Or.inl ⟨by rfl, ?y3⟩) (fun _ => s0) ?r3
    case y3 =>
      intro w' _
      go_simp
      all_goals with_reducible rfl
    try simp only [Act.put, List.setIfInBounds_toArray, List.set_cons_zero, List.set_cons_succ, List.getElem_toArray, List.getElem_cons_zero, List.getElem_cons_succ]
    refine anyG_pure 6 ?v6 (by kernel_rfl) (by rfl) (by kernel_rfl) (by kernel_rfl) (by kernel_rfl) (fun _ _ _ h => h) (Or.inl ⟨by rfl, ?y6⟩) (fun _ => s0) ?r6
    case y6 =>
      intro w' _
      go_simp
      all_goals with_reducible rfl
    try simp only [Act.put, List.setIfInBounds_toArray, List.set_cons_zero, List.set_cons_succ, List.getElem_toArray, List.getElem_cons_zero, List.getElem_cons_succ]
    refine anyG_one 4 (by kernel_rfl) (by rfl) (by rfl) ?_
    go_simp
    refine CTOP.out.mono ?_
    rintro e w5 ⟨rfl, hb5⟩
    have s1 := (hb5.cell (p := ⟨T, 0, none⟩) hTl).trans s0
    have HB5 := Lib.hid (nx (below_drew' W4) hb5)
    clear hb5
    refine ⟨s1, ?_⟩
    try simp only [Act.put, List.setIfInBounds_toArray, List.set_cons_zero, List.set_cons_succ, List.getElem_toArray, List.getElem_cons_zero, List.getElem_cons_succ]
    refine anyG_pure 5 ?v5 (by kernel_rfl) (by rfl) (by kernel_rfl) (by kernel_rfl) (by kernel_rfl) (fun _ _ _ h => h) (Or.inl ⟨by rfl, ?y5⟩) (fun _ => s1) ?r5
    case y5 =>
      intro w' _
      go_simp
      all_goals with_reducible rfl
    try simp only [Act.put, List.setIfInBounds_toArray, List.set_cons_zero, List.set_cons_succ, List.getElem_toArray, List.getElem_cons_zero, List.getElem_cons_succ]
    refine anyG_one 7 (by kernel_rfl) (by rfl) (by rfl) ?_
    go_simp
    refine (HCP.out _ w5 (HD4.out.below HB5.out)).mono ?_
    rintro e w6 ⟨g6, c6, he, ho, hb6⟩
    rw [HLB.out] at he
    subst he
    have hrT := (hb6.block T (by have := HB5.out.size; omega)).trans ((HB5.out.block T hTl).trans HT.out)
    have s2 : w6.cell? ⟨T, 0, none⟩ = some (.slice (some ⟨g3, 0, none⟩) (m + 1) c3) := cell_row hrT 0
    have f2 := free_of (k := 0) hrT
    have HRT6 := Lib.hid hrT
    have HB6 := Lib.hid (nx HB5.out hb6)
    have HD6 := Lib.hid ho
    clear hrT hb6 ho
    refine ⟨s2, ?_⟩
    try simp only [Act.put, List.setIfInBounds_toArray, List.set_cons_zero, List.set_cons_succ, List.getElem_toArray, List.getElem_cons_zero, List.getElem_cons_succ]
    refine anyG_pure 8 ?v8 (by kernel_rfl) (by rfl) (by kernel_rfl) (by kernel_rfl) (by kernel_rfl) (fun _ _ _ h => h) (Or.inl ⟨by rfl, ?y8⟩) (fun _ => s2) ?r8
    case y8 =>
      intro w' _
      go_simp
      all_goals with_reducible rfl
    try simp only [Act.put, List.setIfInBounds_toArray, List.set_cons_zero, List.set_cons_succ, List.getElem_toArray, List.getElem_cons_zero, List.getElem_cons_succ]
    refine anyG_pure 9 ?v9 (by kernel_rfl) (by rfl) (by kernel_rfl) (by kernel_rfl) (by kernel_rfl) (fun _ _ _ h => h) (Or.inl ⟨by rfl, ?y9⟩) (fun _ => s2) ?r9
    case y9 =>
      intro w' _
      go_simp
      all_goals with_reducible rfl
    try simp only [Act.put, List.setIfInBounds_toArray, List.set_cons_zero, List.set_cons_succ, List.getElem_toArray, List.getElem_cons_zero, List.getElem_cons_succ]
    refine anyG_pure 10 ?v10 (by kernel_rfl) (by rfl) (by kernel_rfl) (by kernel_rfl) (by kernel_rfl) (fun _ _ _ h => h) (Or.inl ⟨by rfl, ?y10⟩) (fun _ => s2) ?r10
    case y10 =>
      intro w' _
      go_simp
      all_goals with_reducible rfl
    try simp only [Act.put, List.setIfInBounds_toArray, List.set_cons_zero, List.set_cons_succ, List.getElem_toArray, List.getElem_cons_zero, List.getElem_cons_succ]
    refine anyG_last (by kernel_rfl) (by rfl) (by rfl) (by kernel_rfl) ?_
    go_simp
    try simp only [Act.put, List.setIfInBounds_toArray, List.set_cons_zero, List.set_cons_succ, List.getElem_toArray, List.getElem_cons_zero, List.getElem_cons_succ]
    refine anyG_pure 12 ?v12 (by kernel_rfl) (by rfl) (by kernel_rfl) (by kernel_rfl) (by kernel_rfl) (fun _ _ _ h => h) (Or.inl ⟨by rfl, ?y12⟩) (fun h => by cases h) ?r12
    case y12 =>
      intro w' _
      go_simp
      all_goals with_reducible rfl
    try simp only [Act.put, List.setIfInBounds_toArray, List.set_cons_zero, List.set_cons_succ, List.getElem_toArray, List.getElem_cons_zero, List.getElem_cons_succ]
    refine anyG_done (by kernel_rfl) ?_
    refine NoPanic.normal ?_
    have hbX : b < X.heap.size := Nat.lt_of_lt_of_le HBU.out.lt HB1.out.size
    have hTb : T ≠ b := by omega
    have hbw6 : Below w.heap.size w w6 := HB1.out.trans ((HB4.out.trans (HB6.out.mono HB4.out.size)).mono HB1.out.size)
    have hbu6 := ((HBU.out.below HB1.out).below HB4.out).below HB6.out
    have hk7 := keep_set w6 T 0 (.slice (some ⟨g6, 0, none⟩) (m + 1) c6)
    have hd7 : Doc (w6.setCell ⟨T, 0, none⟩ (.slice (some ⟨g6, 0, none⟩) (m + 1) c6)) (.agg #[.slice (some ⟨g6, 0, none⟩) (m + 1) c6]) (l ++ [x]) (m + 1) := by
      have h := HD6.out.doc
      rw [HLB.out] at h
      exact h.keepT hk7 HRT6.out ⟨by decide, by decide, by decide⟩
    have hbu7 : Bu (w6.setCell ⟨T, 0, none⟩ (.slice (some ⟨g6, 0, none⟩) (m + 1) c6)) b (.slice (some ⟨gd, 0, none⟩) m cd) (.slice (some ⟨g, 0, none⟩) (n + 1) c) a fl := (set_other (Ne.symm hTb)).trans hbu6
    have hrT7 := set_same (k := 0) (u := .slice (some ⟨g6, 0, none⟩) (m + 1) c6) HRT6.out
    have hbw7 : Below w.heap.size w (w6.setCell ⟨T, 0, none⟩ (.slice (some ⟨g6, 0, none⟩) (m + 1) c6)) := hbw6.setCell (by show w.heap.size ≤ T; have := HB1.out.size; omega) _
    obtain ⟨w7, hw7⟩ : ∃ w7, w7 = w6.setCell ⟨T, 0, none⟩ (.slice (some ⟨g6, 0, none⟩) (m + 1) c6) := ⟨_, rfl⟩
    rw [← hw7] at hd7 hbu7 hrT7 hbw7 ⊢
    have t0 : w7.cell? ⟨T, 0, none⟩ = some (.slice (some ⟨g6, 0, none⟩) (m + 1) c6) := cell_row hrT7 0
    have b0 := hbu7.c0
    have bf := hbu7.fz 0
    have HD7 := Lib.hid hd7
    have HBU7 := Lib.hid hbu7
    have HBW7 := Lib.hid hbw7
    clear hd7 hbu7 hrT7 hbw7 hw7 hk7 hbw6 hbu6 s0 s1 s2 f2 hfld
    go_wp2_with fail
    go_ret2
    have hk8 := keep_set w7 b 0 (.slice (some ⟨g6, 0, none⟩) (m + 1) c6)
    have hd8 := HD7.out.keepT hk8 HBU7.out ⟨by decide, by decide, by decide⟩
    have hat := HATT.out
    refine ⟨rfl, ⟨⟨g6, c6, ?_, ?_⟩, ?_⟩, (Keep.of_below HBW7.out).trans hk8⟩
    · rw [HLB.out]; exact HBU7.out.set0 _
    · rw [HLB.out]; exact hd8
    · rw [HLB.out]; exact hat
  · have hT := set_same (k := 0) (u := .slice (some ⟨g3, 0, none⟩) (m + 1) c3) HRT.out
    have hB4 : Below X.heap.size X (w3.setCell ⟨X.heap.size, 0, none⟩ (.slice (some ⟨g3, 0, none⟩) (m + 1) c3)) := HB3.out.setCell (by exact Nat.le_refl _) _
    have hO4 := OwnN.keep HO3.out (keep_set w3 X.heap.size 0 (.slice (some ⟨g3, 0, none⟩) (m + 1) c3)) HRT.out
    have hTX : X.heap.size ≤ X.heap.size := Nat.le_refl _
    obtain ⟨W4, hW4⟩ : ∃ W4, W4 = w3.setCell ⟨X.heap.size, 0, none⟩ (.slice (some ⟨g3, 0, none⟩) (m + 1) c3) := ⟨_, rfl⟩
    rw [← hW4] at hT hB4 hO4 ⊢
    obtain ⟨T, hTe⟩ : ∃ T, T = X.heap.size := ⟨_, rfl⟩
    rw [← hTe] at hT ⊢
    have hTX : X.heap.size ≤ T := by omega
    have HT := Lib.hid hT
    have HB4 := Lib.hid hB4
    have HO4 := Lib.hid hO4.doc
    have hLB : (l ++ [x]).length = m + 1 := by rw [List.length_append, ← HM.out]; rfl
    have hD4 : Doc W4 (.agg #[.slice (some ⟨g3, 0, none⟩) (m + 1) c3]) (l ++ [x]) m := by
      have h := hO4.doc
      rw [hLB, ← HM.out] at h
      exact h
    have HD4 := Lib.hid hD4
    have HLB := Lib.hid hLB
    clear hT hB4 hO4 hTe hW4 HB3 HO3 hD4 hLB z0 zf HRT
    go_upto_region 4 with fail
    have hbu4 := (HBU.out.below HB1.out).below HB4.out
    have hst4 := (HS.out.below HB1.out).below HB4.out
    have hTl : T < W4.heap.size := hlt HT.out
    have s0 : W4.drew.cell? ⟨T, 0, none⟩ = some (.slice (some ⟨g3, 0, none⟩) (m + 1) c3) := ((below_drew' W4).cell (p := ⟨T, 0, none⟩) hTl).trans (cell_row HT.out 0)
    have ctop := top_any b B g n c _ a fl st (p, nm) W4.drew (hbu4.below (below_drew' W4)) (hst4.below (below_drew' W4)) HPP.out hn
    have CTOP := Lib.hid ctop
    clear hbu4 hst4 ctop
    have hfld := field108 p nm
    refine wp_region_noPanic ?_
    refine region_G (fun w' => w'.cell? ⟨T, 0, none⟩ = some (.slice (some ⟨g3, 0, none⟩) (m + 1) c3)) 11 13 (by kernel_rfl) (by rfl) ?_
    refine anyG_take 0 ?vv0 (by kernel_rfl) (by kernel_rfl) (by rfl) (by kernel_rfl) (by kernel_rfl) (by kernel_rfl) (fun _ _ _ h => h) (Or.inl ⟨by rfl, ?yy0⟩) s0 ?rr0
    case yy0 =>
      intro w' hS
      try dsimp only at hS
      go_simp
      all_goals with_reducible rfl
    try simp only [Act.put, List.setIfInBounds_toArray, List.set_cons_zero, List.set_cons_succ, List.getElem_toArray, List.getElem_cons_zero, List.getElem_cons_succ]
    refine anyG_pure 1 ?vv1 (by kernel_rfl) (by rfl) (by kernel_rfl) (by kernel_rfl) (by kernel_rfl) (fun _ _ _ h => h) (Or.inl ⟨by rfl, ?yy1⟩) (fun _ => s0) ?rr1
    case yy1 =>
      intro w' _
      go_simp
      all_goals with_reducible rfl
    try simp only [Act.put, List.setIfInBounds_toArray, List.set_cons_zero, List.set_cons_succ, List.getElem_toArray, List.getElem_cons_zero, List.getElem_cons_succ]
    refine anyG_pure 2 ?vv2 (by kernel_rfl) (by rfl) (by kernel_rfl) (by kernel_rfl) (by kernel_rfl) (fun _ _ _ h => h) (Or.inl ⟨by rfl, ?yy2⟩) (fun _ => s0) ?rr2
    case yy2 =>
      intro w' _
      go_simp
      all_goals with_reducible rfl
    try simp only [Act.put, List.setIfInBounds_toArray, List.set_cons_zero, List.set_cons_succ, List.getElem_toArray, List.getElem_cons_zero, List.getElem_cons_succ]
    refine anyG_pure 3 ?vv3 (by kernel_rfl) (by rfl) (by kernel_rfl) (by kernel_rfl) (by kernel_rfl) (fun _ _ _ h => h) (Or.inl ⟨by rfl, ?yy3⟩) (fun _ => s0) ?rr3
    case yy3 =>
      intro w' _
      go_simp
      all_goals with_reducible rfl
    try simp only [Act.put, List.setIfInBounds_toArray, List.set_cons_zero, List.set_cons_succ, List.getElem_toArray, List.getElem_cons_zero, List.getElem_cons_succ]
    refine anyG_pure 6 ?vv6 (by kernel_rfl) (by rfl) (by kernel_rfl) (by kernel_rfl) (by kernel_rfl) (fun _ _ _ h => h) (Or.inl ⟨by rfl, ?yy6⟩) (fun _ => s0) ?rr6
    case yy6 =>
      intro w' _
      go_simp
      all_goals with_reducible rfl
    try simp only [Act.put, List.setIfInBounds_toArray, List.set_cons_zero, List.set_cons_succ, List.getElem_toArray, List.getElem_cons_zero, List.getElem_cons_succ]
    refine anyG_one 4 (by kernel_rfl) (by rfl) (by rfl) ?_
    go_simp
    refine CTOP.out.mono ?_
    rintro e w5 ⟨rfl, hb5⟩
    have s1 := (hb5.cell (p := ⟨T, 0, none⟩) hTl).trans s0
    have HB5 := Lib.hid (nx (below_drew' W4) hb5)
    clear hb5
    refine ⟨s1, ?_⟩
    try simp only [Act.put, List.setIfInBounds_toArray, List.set_cons_zero, List.set_cons_succ, List.getElem_toArray, List.getElem_cons_zero, List.getElem_cons_succ]
    refine anyG_pure 5 ?vv5 (by kernel_rfl) (by rfl) (by kernel_rfl) (by kernel_rfl) (by kernel_rfl) (fun _ _ _ h => h) (Or.inl ⟨by rfl, ?yy5⟩) (fun _ => s1) ?rr5
    case yy5 =>
      intro w' _
      go_simp
      all_goals with_reducible rfl
    try simp only [Act.put, List.setIfInBounds_toArray, List.set_cons_zero, List.set_cons_succ, List.getElem_toArray, List.getElem_cons_zero, List.getElem_cons_succ]
    refine anyG_one 7 (by kernel_rfl) (by rfl) (by rfl) ?_
    go_simp
    refine (HCP.out _ w5 (HD4.out.below HB5.out)).mono ?_
    rintro e w6 ⟨g6, c6, he, ho, hb6⟩
    rw [HLB.out] at he
    subst he
    have hrT := (hb6.block T (by have := HB5.out.size; omega)).trans ((HB5.out.block T hTl).trans HT.out)
    have s2 : w6.cell? ⟨T, 0, none⟩ = some (.slice (some ⟨g3, 0, none⟩) (m + 1) c3) := cell_row hrT 0
    have f2 := free_of (k := 0) hrT
    have HRT6 := Lib.hid hrT
    have HB6 := Lib.hid (nx HB5.out hb6)
    have HD6 := Lib.hid ho
    clear hrT hb6 ho
    refine ⟨s2, ?_⟩
    try simp only [Act.put, List.setIfInBounds_toArray, List.set_cons_zero, List.set_cons_succ, List.getElem_toArray, List.getElem_cons_zero, List.getElem_cons_succ]
    refine anyG_pure 8 ?vv8 (by kernel_rfl) (by rfl) (by kernel_rfl) (by kernel_rfl) (by kernel_rfl) (fun _ _ _ h => h) (Or.inl ⟨by rfl, ?yy8⟩) (fun _ => s2) ?rr8
    case yy8 =>
      intro w' _
      go_simp
      all_goals with_reducible rfl
    try simp only [Act.put, List.setIfInBounds_toArray, List.set_cons_zero, List.set_cons_succ, List.getElem_toArray, List.getElem_cons_zero, List.getElem_cons_succ]
    refine anyG_pure 9 ?vv9 (by kernel_rfl) (by rfl) (by kernel_rfl) (by kernel_rfl) (by kernel_rfl) (fun _ _ _ h => h) (Or.inl ⟨by rfl, ?yy9⟩) (fun _ => s2) ?rr9
    case yy9 =>
      intro w' _
      go_simp
      all_goals with_reducible rfl
    try simp only [Act.put, List.setIfInBounds_toArray, List.set_cons_zero, List.set_cons_succ, List.getElem_toArray, List.getElem_cons_zero, List.getElem_cons_succ]
    refine anyG_pure 10 ?vv10 (by kernel_rfl) (by rfl) (by kernel_rfl) (by kernel_rfl) (by kernel_rfl) (fun _ _ _ h => h) (Or.inl ⟨by rfl, ?yy10⟩) (fun _ => s2) ?rr10
    case yy10 =>
      intro w' _
      go_simp
      all_goals with_reducible rfl
    try simp only [Act.put, List.setIfInBounds_toArray, List.set_cons_zero, List.set_cons_succ, List.getElem_toArray, List.getElem_cons_zero, List.getElem_cons_succ]
    refine anyG_last (by kernel_rfl) (by rfl) (by rfl) (by kernel_rfl) ?_
    go_simp
    try simp only [Act.put, List.setIfInBounds_toArray, List.set_cons_zero, List.set_cons_succ, List.getElem_toArray, List.getElem_cons_zero, List.getElem_cons_succ]
    refine anyG_pure 12 ?vv12 (by kernel_rfl) (by rfl) (by kernel_rfl) (by kernel_rfl) (by kernel_rfl) (fun _ _ _ h => h) (Or.inl ⟨by rfl, ?yy12⟩) (fun h => by cases h) ?rr12
    case yy12 =>
      intro w' _
      go_simp
      all_goals with_reducible rfl
    try simp only [Act.put, List.setIfInBounds_toArray, List.set_cons_zero, List.set_cons_succ, List.getElem_toArray, List.getElem_cons_zero, List.getElem_cons_succ]
    refine anyG_done (by kernel_rfl) ?_
    refine NoPanic.normal ?_
    have hbX : b < X.heap.size := Nat.lt_of_lt_of_le HBU.out.lt HB1.out.size
    have hTb : T ≠ b := by omega
    have hbw6 : Below w.heap.size w w6 := HB1.out.trans ((HB4.out.trans (HB6.out.mono HB4.out.size)).mono HB1.out.size)
    have hbu6 := ((HBU.out.below HB1.out).below HB4.out).below HB6.out
    have hk7 := keep_set w6 T 0 (.slice (some ⟨g6, 0, none⟩) (m + 1) c6)
    have hd7 : Doc (w6.setCell ⟨T, 0, none⟩ (.slice (some ⟨g6, 0, none⟩) (m + 1) c6)) (.agg #[.slice (some ⟨g6, 0, none⟩) (m + 1) c6]) (l ++ [x]) (m + 1) := by
      have h := HD6.out.doc
      rw [HLB.out] at h
      exact h.keepT hk7 HRT6.out ⟨by decide, by decide, by decide⟩
    have hbu7 : Bu (w6.setCell ⟨T, 0, none⟩ (.slice (some ⟨g6, 0, none⟩) (m + 1) c6)) b (.slice (some ⟨gd, 0, none⟩) m cd) (.slice (some ⟨g, 0, none⟩) (n + 1) c) a fl := (set_other (Ne.symm hTb)).trans hbu6
    have hrT7 := set_same (k := 0) (u := .slice (some ⟨g6, 0, none⟩) (m + 1) c6) HRT6.out
    have hbw7 : Below w.heap.size w (w6.setCell ⟨T, 0, none⟩ (.slice (some ⟨g6, 0, none⟩) (m + 1) c6)) := hbw6.setCell (by show w.heap.size ≤ T; have := HB1.out.size; omega) _
    obtain ⟨w7, hw7⟩ : ∃ w7, w7 = w6.setCell ⟨T, 0, none⟩ (.slice (some ⟨g6, 0, none⟩) (m + 1) c6) := ⟨_, rfl⟩
    rw [← hw7] at hd7 hbu7 hrT7 hbw7 ⊢
    have t0 : w7.cell? ⟨T, 0, none⟩ = some (.slice (some ⟨g6, 0, none⟩) (m + 1) c6) := cell_row hrT7 0
    have b0 := hbu7.c0
    have bf := hbu7.fz 0
    have HD7 := Lib.hid hd7
    have HBU7 := Lib.hid hbu7
    have HBW7 := Lib.hid hbw7
    clear hd7 hbu7 hrT7 hbw7 hw7 hk7 hbw6 hbu6 s0 s1 s2 f2 hfld
    go_wp2_with fail
    go_ret2
    have hk8 := keep_set w7 b 0 (.slice (some ⟨g6, 0, none⟩) (m + 1) c6)
    have hd8 := HD7.out.keepT hk8 HBU7.out ⟨by decide, by decide, by decide⟩
    have hat := HATT.out
    refine ⟨rfl, ⟨⟨g6, c6, ?_, ?_⟩, ?_⟩, (Keep.of_below HBW7.out).trans hk8⟩
    · rw [HLB.out]; exact HBU7.out.set0 _
    · rw [HLB.out]; exact hd8
    · rw [HLB.out]; exact hat
end Go.Proofs.YtbhnfnbnngclmaaGreatDoor
