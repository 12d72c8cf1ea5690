/- chain's All, of a request for a text. -/
import Derived.Test.YtajokmcdhhiahaaGreatDoorCE
namespace Go.Proofs.YtajokmcdhhiahaaGreatDoor
open Go.RowKit Go.Shelf
set_option maxRecDepth 100000
attribute [local go_sem] Oper.semAt_some

set_option maxHeartbeats 4000000 in
theorem all1_inline (g off c : Nat) (dv : Value) (ds : List (ByteArray × List ByteArray)) (h : Nat) (x : ByteArray) (hq : Quo x) (hp : PolOne ds h x) (i : Nat) (hi : i = 1 ∨ i = 2 ∨ i = 3) (hx : WordIs i x) (t : ByteArray) (ht : t.size ≤ 1000000) (s0 : Bool) (s1 s2 : ByteArray) (s3 : Int) (s4 s5 : ByteArray) (w : World) (hg : Gl w) (hd : DirsV w dv ds)
    (h0 : w.cell? ⟨g, off, none⟩ = some dv) (h1 : w.cell? ⟨g, off + 1, none⟩ = some (.bool false)) :
    Calls Tryz.prog 18 #[.slice (some ⟨g, off, none⟩) 1 c, inlineV t s0 s1 s2 s3 s4 s5] w (OutOk ((i : Int) == 3) w) := by
  have c31 := fun w' (hg' : Gl w') (hd' : DirsV w' dv ds) => one_inline dv false ds h x i hi hx t ht s0 s1 s2 s3 s4 s5 hq hp w' hg' hd'
  unfold inlineV at c31 ⊢
  obtain ⟨R, hR⟩ : ∃ R : Bool, R = ((i : Int) == 3) := ⟨_, rfl⟩
  obtain ⟨nm, hnm⟩ : ∃ nm, nm = namesL.getD h ⟨#[]⟩ := ⟨_, rfl⟩
  rw [← hR, ← hnm] at c31
  rw [← hR]
  obtain ⟨DA, DC, rfl, -⟩ := id hd
  obtain ⟨M, hM⟩ : ∃ M, M = ds.length := ⟨_, rfl⟩
  rw [← hM] at c31 hd h0
  have C31 := Lib.hid c31
  have HG := Lib.hid hg
  have HD := Lib.hid hd
  clear c31 hR hnm hM hg hd hp hq hx hi
  refine (callsIn_wide (n := 3)).1 ?_
  refine callsIn_of_wp_marks Tryz.func18 rfl trivial ?_ rfl
  simp only [Tryz.ntmps18, List.size_toArray, List.length_cons, List.length_nil, Nat.reduceAdd, Nat.reduceSub, Array.replicate_succ, Array.replicate_zero, List.push_toArray, List.append_toArray, List.nil_append, List.cons_append]
  gi_wp2_with fail
  refine ⟨trivial, (callsIn_wide.2 (sall_any (.slice (some ⟨g, off, none⟩) 1 c) _ _ _ rfl _)).mono ?_⟩
  rintro e w1 ⟨rfl, rfl⟩
  gi_wp2_with fail
  obtain ⟨W, hW⟩ : ∃ W, W = (((w.alloc (.cells #[.int .i64 1, .string t, .bool false, .string ⟨#[]⟩, .string ⟨#[]⟩, .int .i64 0, .string ⟨#[]⟩, .string ⟨#[]⟩, .bool false, .string ⟨#[]⟩, .bool false, .bool s0, .string s1, .string s2, .int .i64 s3, .string s4, .string s5] 30)).alloc (.cells #[.bool false, .slice none 0 0] 42)).alloc (.cells #[.bool true, .slice none 0 0] 42)).alloc (.cells #[.slice (some ⟨g, off, none⟩) 1 c] 44) := ⟨_, rfl⟩
  have hsz : W.heap.size = w.heap.size + 1 + 1 + 1 + 1 := by rw [hW]; simp
  have hlist : W.cell? ⟨w.heap.size + 1 + 1 + 1, 0, none⟩ = some (.slice (some ⟨g, off, none⟩) 1 c) := by
    rw [hW]
    have h := heap_alloc_new (((w.alloc (.cells #[.int .i64 1, .string t, .bool false, .string ⟨#[]⟩, .string ⟨#[]⟩, .int .i64 0, .string ⟨#[]⟩, .string ⟨#[]⟩, .bool false, .string ⟨#[]⟩, .bool false, .bool s0, .string s1, .string s2, .int .i64 s3, .string s4, .string s5] 30)).alloc (.cells #[.bool false, .slice none 0 0] 42)).alloc (.cells #[.bool true, .slice none 0 0] 42)) (.cells #[.slice (some ⟨g, off, none⟩) 1 c] 44)
    rw [World.size_alloc, World.size_alloc, World.size_alloc] at h
    exact cell_row h 0
  have hbW : Below w.heap.size w W := by rw [hW]; exact (((((Below.refl _ w).alloc (Nat.le_refl _) _).alloc (by simp) _).alloc (by simp; omega) _).alloc (by simp; omega) _)
  have hi0 := IAll.start (w := w) #[.int .i64 1, .string t, .bool false, .string ⟨#[]⟩, .string ⟨#[]⟩, .int .i64 0, .string ⟨#[]⟩, .string ⟨#[]⟩, .bool false, .string ⟨#[]⟩, .bool false, .bool s0, .string s1, .string s2, .int .i64 s3, .string s4, .string s5] R (.cells #[.slice (some ⟨g, off, none⟩) 1 c] 44)
  rw [← hW] at hi0 ⊢
  have HSZ : Hid (w.heap.size ≤ W.heap.size) := by show _ ≤ _; omega
  clear hW
  have h0W := (hbW.cell (p := ⟨g, off, none⟩) (World.block_lt_of_cell? w _ h0)).trans h0
  have h1W := (hbW.cell (p := ⟨g, off + 1, none⟩) (World.block_lt_of_cell? w _ h1)).trans h1
  refine wpIn_range2 (w := W) (gf := 49) (lb := #[.pointer (some ⟨w.heap.size + 1 + 1 + 1, 0, none⟩)]) (by omega) rfl (enters_of Tryz.func49 (by kernel_rfl) rfl) (all1_seq _ (by omega) (w.heap.size + 1 + 1 + 1) g off c DA M DC false W hlist h0W h1W)
    (IAll w #[.int .i64 1, .string t, .bool false, .string ⟨#[]⟩, .string ⟨#[]⟩, .int .i64 0, .string ⟨#[]⟩, .string ⟨#[]⟩, .bool false, .string ⟨#[]⟩, .bool false, .bool s0, .string s1, .string s2, .int .i64 s3, .string s4, .string s5] R) (IAll.own (by omega)) hi0 (fun _ a' W5 => ∃ PB, w.heap.size ≤ PB ∧ W5.heap[PB]? = some (.cells #[.slice DA M DC, .bool false] 56 (0, 0)) ∧ a' = { tmps := List.toArray (.slice (some ⟨g, off, none⟩) 1 c :: .agg #[.int .i64 1, .string t, .bool false, .string ⟨#[]⟩, .string ⟨#[]⟩, .int .i64 0, .string ⟨#[]⟩, .string ⟨#[]⟩, .bool false, .string ⟨#[]⟩, .bool false, .bool s0, .string s1, .string s2, .int .i64 s3, .string s4, .string s5] :: undef :: .pointer (some ⟨w.heap.size, 0, none⟩) :: .pointer (some ⟨w.heap.size + 1, 0, none⟩) :: .pointer (some ⟨w.heap.size + 1 + 1, 0, none⟩) :: .int .i64 0 :: .pointer (some ⟨PB, 0, none⟩) :: undef :: undef :: .agg #[.bool true, .slice none 0 0] :: .slice (some ⟨g, off, none⟩) 1 c :: .func (.func 49) #[] #[.pointer (some ⟨w.heap.size + 1 + 1 + 1, 0, none⟩)] :: .int .i64 0 :: .agg #[.slice DA M DC, .bool false] :: undef :: undef :: undef :: undef :: undef :: undef :: undef :: undef :: undef :: undef :: undef :: undef :: undef :: undef :: undef :: undef :: undef :: undef :: undef :: undef :: undef :: undef :: undef :: undef :: undef :: undef :: []), defers := [] }) ?_ ?assign ?body ?done
  · rintro x a' _ A B row ⟨PB, k1, k2, k3⟩ hg hr
    exact ⟨PB, k1, (keep_own hg hr 56 _ ⟨_, _, k2⟩).trans k2, k3⟩
  case assign =>
    intro l pre x W5 K hi hpre hK
    obtain ⟨rfl, rfl⟩ := one_pre hpre
    have HKP := Lib.hid hK
    have HI := Lib.hid hi
    clear hK hi hpre
    gi_wp2_with fail
    exact HKP.out _ _ ((KeepsOthers.alloc W5 _).from _) (IAll.own (base := w.heap.size) (Nat.le_refl _) [] W5 _ none HI.out (World.grownBy_alloc W5 _ none) (fun r e => by cases e)) ⟨W5.heap.size, HI.out.below.size, heap_alloc_new _ _, rfl⟩
  case body =>
    rintro l pre x a' W5 hi ⟨PB, hPB, hpb, rfl⟩ hpre
    obtain ⟨rfl, rfl⟩ := one_pre hpre
    have hreq := hi.req
    have hB5 := hi.below
    have r0 := cell_row hreq 0
    have r1 := cell_row hreq 1
    have r2 := cell_row hreq 2
    have r3 := cell_row hreq 3
    have r4 := cell_row hreq 4
    have r5 := cell_row hreq 5
    have r6 := cell_row hreq 6
    have r7 := cell_row hreq 7
    have r8 := cell_row hreq 8
    have r9 := cell_row hreq 9
    have r10 := cell_row hreq 10
    have r11 := cell_row hreq 11
    have r12 := cell_row hreq 12
    have r13 := cell_row hreq 13
    have r14 := cell_row hreq 14
    have r15 := cell_row hreq 15
    have r16 := cell_row hreq 16
    simp only [List.getElem?_toArray, List.getElem?_cons_zero, List.getElem?_cons_succ] at r0 r1 r2 r3 r4 r5 r6 r7 r8 r9 r10 r11 r12 r13 r14 r15 r16
    have p0 := cell_row hpb 0
    have p1 := cell_row hpb 1
    simp only [List.getElem?_toArray, List.getElem?_cons_zero, List.getElem?_cons_succ] at p0 p1
    have c31 := C31.out W5 (HG.out.below hB5) (HD.out.below hB5)
    have C31W := Lib.hid c31
    have HI := Lib.hid hi
    have HPBR := Lib.hid hpb
    clear c31 hi hpre hreq hpb hB5
    gi_wp2_with fail
    refine ⟨trivial, (CallsIn.inRound l (callsIn_wide.2 C31W.out)).mono ?_⟩
    rintro e w6 ⟨rfl, hb6⟩
    have HB6 := Lib.hid hb6
    clear hb6 r0 r1 r2 r3 r4 r5 r6 r7 r8 r9 r10 r11 r12 r13 r14 r15 r16 p0 p1
    have ko6 : KeepsOthers W5 w6 := KeepsOthers.of_grownBy (grown_of_below HB6.out) (fun _ _ e => by cases e)
    cases R with
    | true =>
      gi_wp2_with fail
      refine ⟨ko6.from _, ?_⟩
      obtain ⟨⟨OKv, VA, Vn, Vc, v1, v2, -⟩, i2, i3, i4⟩ := HI.out
      obtain ⟨rfl, rfl, rfl, rfl⟩ := v2 rfl
      exact ⟨⟨true, none, 0, 0, (HB6.out.block _ (RowT.lt ⟨_, _, v1⟩)).trans v1, (fun e => by simp at e), fun _ => rfl⟩, (HB6.out.block _ (RowT.lt ⟨_, _, i2⟩)).trans i2, (HB6.out.block _ (RowT.lt ⟨_, _, i3⟩)).trans i3, i4.trans (HB6.out.mono i4.size)⟩
    | false =>
      obtain ⟨⟨OKv, VA, Vn, Vc, v1, v2, -⟩, i2, i3, i4⟩ := HI.out
      obtain ⟨rfl, rfl, rfl, rfl⟩ := v2 rfl
      have v16 := (HB6.out.block _ (RowT.lt ⟨_, _, v1⟩)).trans v1
      have i26 := (HB6.out.block _ (RowT.lt ⟨_, _, i2⟩)).trans i2
      have i36 := (HB6.out.block _ (RowT.lt ⟨_, _, i3⟩)).trans i3
      have pb6 := (HB6.out.block _ (RowT.lt ⟨_, _, HPBR.out⟩)).trans HPBR.out
      have b6 := i4.trans (HB6.out.mono i4.size)
      have hn1 : ¬ PB = w.heap.size + 1 + 1 := fun e => by rw [e, v16] at pb6; simp at pb6
      have hn2 : ¬ w.heap.size + 1 + 1 = PB := fun e => hn1 e.symm
      have z0 := cell_row v16 0
      have z1 := cell_row v16 1
      have p1 := cell_row pb6 1
      simp only [List.getElem?_toArray, List.getElem?_cons_zero, List.getElem?_cons_succ] at z0 z1 p1
      obtain ⟨i0, hi, hz0, hz1, hz2⟩ := info_parts break_row
      have HI0 := Lib.hid hi
      have HV := Lib.hid v16
      have HR := Lib.hid i26
      have HQ := Lib.hid i36
      have HP := Lib.hid pb6
      have HB := Lib.hid b6
      clear v1 v2 i2 i3 i4 v16 i26 i36 pb6 b6 hi
      have hnil : (w6.alloc (.cells #[.int .i64 0, .string nm, .bool false] 60)).ownsRow w.heap.size 60 3 (.slice none 0 0) 0 [] := World.ownsRow_nil _ _ _ _
      gi_wp2_with (gi_at_builtin; refine wpListIn_append_own _ rfl (.tmp 24) (.tmp 30) 40 rfl w.heap.size 60 i0 (.agg #[.int .i64 0, .string ⟨#[]⟩, .bool false]) 3 32 Tryz.underlying40 HI0.out hz0 hz1 hz2 rfl (by decide) _ 0 [] rfl hnil ⟨w6.heap.size, 0, none⟩ 1 1 [.int .i64 0, .string nm, .bool false] rfl rfl (three_new _ _ _ _ _) (by simp [Value.oneCell']) (by unfold maxLen; omega) (by omega) (by have := HB.out.size; simp; omega) ?_; intro v' w7 hown' hgrow _; obtain ⟨VA, VC, rfl, _, _⟩ := own_form hown'; have kall : ∀ T, KeepT T (w6.alloc (.cells #[.int .i64 0, .string nm, .bool false] 60)) w7 := fun T => KeepT.grown hgrow; have k67 : ∀ T, KeepT T w6 w7 := fun T => (KeepT.grown (World.grownBy_alloc w6 _ none)).trans (kall T); have hv7 := (k67 42 _ ⟨_, _, HV.out⟩).trans HV.out; have hp7 := (k67 56 _ ⟨_, _, HP.out⟩).trans HP.out; have e0 := cell_row hv7 0; have e1 := cell_row hv7 1; have e2 := frozen_row hv7 1; have e3 := frozen_row hv7 0; have e4 := cell_row hp7 1; simp only [List.getElem?_toArray, List.getElem?_cons_zero, List.getElem?_cons_succ] at e0 e1 e4)
      have hgn : (w6.alloc (.cells #[.int .i64 0, .string nm, .bool false] 60)).grownBy w7 none := hgrow
      have hr7 := (k67 42 _ ⟨_, _, HR.out⟩).trans HR.out
      have hq7 := (k67 30 _ ⟨_, _, HQ.out⟩).trans HQ.out
      have hb7 : Below w.heap.size w w7 := (HB.out.alloc HB.out.size _).grown hgn (by have := HB.out.size; simp; omega) (fun k e => by cases e)
      have ne1 : w.heap.size + 1 ≠ w.heap.size + 1 + 1 := by omega
      have ne0 : w.heap.size ≠ w.heap.size + 1 + 1 := by omega
      refine ⟨((((ko6.trans (KeepsOthers.alloc w6 _)).trans (KeepsOthers.of_grownBy hgn (fun _ _ e => by cases e))).trans (KeepsOthers.setCell _ _ _)).trans (KeepsOthers.setCell _ _ _)).from _, ⟨⟨false, VA, 1, VC, heap_setCell_same _ _ 0 _ 42 _ (heap_setCell_same _ _ 1 _ 42 _ hv7), (fun e => by simp at e), fun _ => rfl⟩,
        (heap_setCell_other _ ⟨w.heap.size + 1 + 1, 0, none⟩ _ _ ne1).trans ((heap_setCell_other _ ⟨w.heap.size + 1 + 1, 1, none⟩ _ _ ne1).trans hr7), (heap_setCell_other _ ⟨w.heap.size + 1 + 1, 0, none⟩ _ _ ne0).trans ((heap_setCell_other _ ⟨w.heap.size + 1 + 1, 1, none⟩ _ _ ne0).trans hq7),
        (hb7.setCell (p := ⟨w.heap.size + 1 + 1, 1, none⟩) (by show _ ≤ w.heap.size + 1 + 1; omega) _).setCell (p := ⟨w.heap.size + 1 + 1, 0, none⟩) (by show _ ≤ w.heap.size + 1 + 1; omega) _⟩⟩
  case done =>
    rintro D W5 hD ⟨⟨OKv, VA, Vn, Vc, hv1, hv2, hv3⟩, hr1, -, hB5⟩ hDd
    have hok : OKv = R := hv3 (by simp)
    rw [hok] at hv1
    clear hok
    have x0 := cell_row hv1 0
    have x1 := cell_row hv1 1
    have y0 := cell_row hr1 0
    have y1 := cell_row hr1 1
    have f0 := frozen_row hr1 0
    have f1 := frozen_row hr1 1
    simp only [List.getElem?_toArray, List.getElem?_cons_zero, List.getElem?_cons_succ] at x0 x1 y0 y1
    have HR1 := Lib.hid hr1
    have HB5 := Lib.hid hB5
    have HDD := Lib.hid hDd
    have HD := Lib.hid hD
    clear hv1 hv2 hv3 hr1 hB5 hDd hD
    gi_wp2_with fail
    have h3 := set2 HR1.out (.bool R) (.slice VA Vn Vc)
    have hb4 : Below w.heap.size w ((W5.setCell ⟨w.heap.size + 1, 0, none⟩ (.bool R)).setCell ⟨w.heap.size + 1, 1, none⟩ (.slice VA Vn Vc)) := (HB5.out.setCell (p := ⟨w.heap.size + 1, 0, none⟩) (Nat.le_succ _) _).setCell (p := ⟨w.heap.size + 1, 1, none⟩) (Nat.le_succ _) _
    have hne : D ≠ w.heap.size + 1 := fun e => by have := HR1.out; rw [← e, HDD.out] at this; cases this
    have hd4 : ((W5.setCell ⟨w.heap.size + 1, 0, none⟩ (.bool R)).setCell ⟨w.heap.size + 1, 1, none⟩ (.slice VA Vn Vc)).heap[D]? = some (.deferred (some [])) := (heap_setCell_other _ ⟨w.heap.size + 1, 1, none⟩ D _ hne).trans ((heap_setCell_other _ ⟨w.heap.size + 1, 0, none⟩ D _ hne).trans HDD.out)
    refine leaves_all _ _ w (DefOK.cons (DefOK.nil w.heap.size _) (Nat.le_trans HSZ.out HD.out) hd4 (fun _ h => by cases h)) hb4 hb4.size fun w' hb' kt' => ?_
    have h5 := (kt' 42 _ ⟨_, _, h3⟩).trans h3
    have q0 := cell_row h5 0
    have q1 := cell_row h5 1
    simp only [List.getElem?_toArray, List.getElem?_cons_zero, List.getElem?_cons_succ] at q0 q1
    exact ⟨.agg #[.bool R, .slice VA Vn Vc], by simp [results, Tryz.results18, go_sem, q0, q1], _, _, _, rfl, hb'⟩
end Go.Proofs.YtajokmcdhhiahaaGreatDoor
