/- Into, of the root alone. -/
import Derived.Test.YtbhnfnbnngclmaaGreatDoorBD
namespace Go.Proofs.YtbhnfnbnngclmaaGreatDoor
open Go.RowKit Go.Sort Go.BigFrame Go.Maps Go.WideMaps
set_option maxRecDepth 100000

theorem good_root : Good [.root] 1 where
  m1 := Nat.le_refl _
  ml := Nat.le_refl _
  len := by simp
  root := rfl
  ne := by
    intro i x hx hi
    match i, hx with
    | 0, _ => omega
    | i + 1, hx => simp at hx
  holds := by intro i x hx hi; omega
  ok := by
    intro x hx
    rw [List.mem_singleton.1 hx]
    exact trivial
theorem neqf (F : Nat) (a : Value) (w : World) : (binOp .neq 109 (.func (.func F) #[a] #[]) .nilFunc).run Tryz.prog w = .ok (.bool true) w := by kernel_rfl
/-- What Into hands back. -/
def OutInto (l : List Kd) (w : World) (e : Ending) (w' : World) : Prop := ∃ v, e = .returned (.tuple #[.agg #[v], .slice none 0 0, .int .i64 0]) ∧ (∃ A n c, v = .slice A n c) ∧ Doc w' (.agg #[v]) l l.length ∧ Good l l.length ∧ Below w.heap.size w w'
set_option maxHeartbeats 8000000 in
theorem into_any (dv tv : Value) (ts : List Tk) (sts : Nat → List Kd × List (Nat × ByteArray)) (l : List Kd) (w : World) (hd : Doc w dv [.root] 1) (ht : Toks w tv ts) (hn : ts.length ≤ 100)
    (h0 : sts 0 = ([.root], [(0, ⟨#[]⟩)])) (hstep : ∀ j tk, ts[j]? = some tk → Stp (sts j) tk (sts (j + 1))) (hend : sts ts.length = (l, [(0, ⟨#[]⟩)])) :
    Calls Tryz.prog 24 #[dv, .int .i64 0, tv, .bool true] w (OutInto l w) := by
  obtain ⟨gd, cd, rfl, hcd, hnd⟩ := hd
  obtain ⟨A, cap, rfl, hts⟩ := ht
  obtain ⟨n, hnn⟩ : ∃ n, n = ts.length := ⟨_, rfl⟩
  have hT : ∀ w', Below w.heap.size w w' → ∀ (i : Nat) (tk : Tk), ts[i]? = some tk → ∃ g va, A = some ⟨g, 0, none⟩ ∧ g < w.heap.size ∧ Ats w' va tk.ats ∧ ∀ (j : Nat) (u : Value), (tk.cells va)[j]? = some u → w'.cell? ⟨g, i * 5 + j, none⟩ = some u := by
    intro w' hb i tk hi
    obtain ⟨g, va, e1, e2, e3, e4⟩ := hts i tk hi
    exact ⟨g, va, e1, e2, e3.below hb, fun j u hu => (hb.cell (p := ⟨g, i * 5 + j, none⟩) e2).trans (e4 j u hu)⟩
  have hD : ∀ w', Below w.heap.size w w' → Doc w' (.agg #[.slice (some ⟨gd, 0, none⟩) 1 cd]) [.root] 1 := fun w' hb => ⟨gd, cd, rfl, hcd, hnd.below hb⟩
  have hb1 := below_alloc' w (.cells #[.slice (some ⟨gd, 0, none⟩) 1 cd] 26)
  have hr1 := heap_alloc_new w (.cells #[.slice (some ⟨gd, 0, none⟩) 1 cd] 26)
  have hs1 : (w.alloc (.cells #[.slice (some ⟨gd, 0, none⟩) 1 cd] 26)).heap.size = w.heap.size + 1 := by simp
  obtain ⟨W1, hW1⟩ : ∃ W1, W1 = w.alloc (.cells #[.slice (some ⟨gd, 0, none⟩) 1 cd] 26) := ⟨_, rfl⟩
  rw [← hW1] at hb1 hr1 hs1
  have hb2 := below_alloc' W1 (.cells #[.slice none 0 0] 26)
  have hr2 := heap_alloc_new W1 (.cells #[.slice none 0 0] 26)
  obtain ⟨W, hW⟩ : ∃ W, W = W1.alloc (.cells #[.slice none 0 0] 26) := ⟨_, rfl⟩
  rw [← hW] at hb2 hr2
  rw [hs1] at hr2
  have hr1' := (hb2.block _ (hlt hr1)).trans hr1
  have hbW := nx hb1 hb2
  have x0 := cell_row hr1' 0
  simp at x0
  have HW1 := Lib.hid hW1
  have HW := Lib.hid hW
  have HB := Lib.hid hbW
  have HR1 := Lib.hid hr1'
  have HR2 := Lib.hid hr2
  have HD := Lib.hid hD
  have HT := Lib.hid hT
  have HN := Lib.hid hnn
  have HH0 := Lib.hid h0
  have HSTEP := Lib.hid hstep
  have HEND := Lib.hid hend
  rw [← hnn] at hn ⊢
  clear hW1 hW hb1 hr1 hs1 hb2 hr2 hr1' hbW hD hT hnn h0 hstep hend hts hcd hnd
  go_enter Tryz.func24, Tryz.ntmps24
  go_upto_region 1 with fail
  rw [← HW1.out, ← HW.out]
  go_wp2_with fail
  have cc := check_any [.root] 1 _ W (HD.out _ HB.out) good_root
  with_reducible refine cc.mono ?_
  clear cc
  rintro e w1 ⟨rfl, hb1⟩
  have hB1 := nx HB.out hb1
  have hR1 := (hb1.block _ (hlt HR1.out)).trans HR1.out
  have hR2 := (hb1.block _ (hlt HR2.out)).trans HR2.out
  have y0 := cell_row hR1 0
  simp at y0
  have hroot : w1.cell? ⟨gd, 0, none⟩ = some (.int .i64 1) := by
    obtain ⟨g', c', he, _, hn'⟩ := HD.out _ hB1
    injection he with he
    have he' := congrArg (fun a : Array Value => a[0]?) he
    simp at he'
    obtain ⟨e1, e2⟩ := he'
    subst e1
    obtain ⟨va, vk, _, _, hra⟩ := hn'.at_ 0 .root rfl
    exact hra 0 _ rfl
  have f0 := free_of (k := 0) hR1
  have HB1 := Lib.hid hB1
  have HR1' := Lib.hid hR1
  have HR2' := Lib.hid hR2
  clear x0 hb1 hB1 hR1 hR2
  go_wp2_with fail
  have hnw : Nodes w1 gd [.root] 1 := by
    obtain ⟨g', c', he, _, hn'⟩ := HD.out _ HB1.out
    injection he with he
    have he' := congrArg (fun a : Array Value => a[0]?) he
    simp at he'
    obtain ⟨e1, e2⟩ := he'
    subst e1
    exact hn'
  have cn := clonenodes_any gd cd [.root] 1 w1 hnw (by simp) (by simp)
  rw [show [Kd.root].length = 1 from rfl] at cn
  with_reducible refine cn.mono ?_
  clear cn hnw
  rintro e w2 ⟨g, c, he, ho, hb2⟩
  have he' : e = .returned (.slice (some ⟨g, 0, none⟩) 1 c) := he
  subst he'
  clear he
  have hR1 := (hb2.block _ (hlt HR1'.out)).trans HR1'.out
  have hR2 := (hb2.block _ (hlt HR2'.out)).trans HR2'.out
  have z0 := cell_row hR1 0
  simp at z0
  have zf := free_of (k := 0) hR1
  have hk3 := keep_set w2 w.heap.size 0 (.slice (some ⟨g, 0, none⟩) 1 c)
  have hR13 := set_same (k := 0) (u := .slice (some ⟨g, 0, none⟩) 1 c) hR1
  have hR23 := (hk3.block _ (hlt hR2) (by simp)).trans hR2
  have ho3 := ho.keep hk3 hR1
  have hB3 : Below w.heap.size w (w2.setCell ⟨w.heap.size, 0, none⟩ (.slice (some ⟨g, 0, none⟩) 1 c)) := (HB1.out.trans (hb2.mono HB1.out.size)).setCell (by exact Nat.le_refl _) _
  have hgl3 : w.heap.size + 1 < g := by obtain ⟨_, _, h, _⟩ := ho; have := hlt HR2'.out; omega
  obtain ⟨w3, hw3⟩ : ∃ w3, w3 = w2.setCell ⟨w.heap.size, 0, none⟩ (.slice (some ⟨g, 0, none⟩) 1 c) := ⟨_, rfl⟩
  rw [← hw3] at hR13 hR23 ho3 hB3
  have HW3 := Lib.hid hw3
  have HR13 := Lib.hid hR13
  have HR23 := Lib.hid hR23
  have HO3 := Lib.hid ho3
  have HB3 := Lib.hid hB3
  clear hw3 hR13 hR23 ho3 hB3 hk3 hR1 hR2 ho hb2 y0 hroot f0
  go_upto_region 7 with fail
  rw [← HW3.out]
  clear z0 zf
  have q0 : w3.cell? ⟨w.heap.size, 0, none⟩ = some (.slice (some ⟨g, 0, none⟩) 1 c) := cell_row HR13.out 0
  obtain ⟨va, vk, ha, hk, hra⟩ := HO3.out.nodes.at_ 0 .root rfl
  obtain rfl : va = _ := ha
  have hkn : kidOf 1 0 = none := rfl
  rw [hkn] at hk
  obtain rfl : vk = _ := hk
  obtain ⟨r0, r1, r2, r3, r4, r5, r6, r7⟩ := range_facts hra
  simp only [Kd.num, Kd.nm, Kd.dt, Kd.pr, Nat.zero_mul, Nat.zero_add] at r0 r1 r2 r3 r4 r5 r6 r7
  have hpa : paOf 1 0 = -1 := rfl
  rw [hpa] at r4
  clear hra hkn hpa
  go_wp2_with fail
  refine wp_loop_rounds 2 ?_
  rw [rounds_succ]
  have hbV := below_alloc' w3 (.cells #[.int .i64 1, .string ⟨#[]⟩, .string ⟨#[]⟩, .slice none 0 0, .int .i64 (-1), .slice none 0 0, .bool false, .bool false] 37)
  have hrV := heap_alloc_new w3 (.cells #[.int .i64 1, .string ⟨#[]⟩, .string ⟨#[]⟩, .slice none 0 0, .int .i64 (-1), .slice none 0 0, .bool false, .bool false] 37)
  obtain ⟨V, hV⟩ : ∃ V, V = w3.alloc (.cells #[.int .i64 1, .string ⟨#[]⟩, .string ⟨#[]⟩, .slice none 0 0, .int .i64 (-1), .slice none 0 0, .bool false, .bool false] 37) := ⟨_, rfl⟩
  rw [← hV] at hbV hrV
  have v0 := (hbV.cell (p := ⟨w.heap.size, 0, none⟩) (hlt HR13.out)).trans q0
  have v3 : V.cell? ⟨w3.heap.size, 3, none⟩ = some (.slice none 0 0) := cell_row hrV 3
  have v5 : V.cell? ⟨w3.heap.size, 5, none⟩ = some (.slice none 0 0) := cell_row hrV 5
  have hgV := HO3.out.lt
  have g3 := (hbV.cell (p := ⟨g, 3, none⟩) hgV).trans r3
  have g5 := (hbV.cell (p := ⟨g, 5, none⟩) hgV).trans r5
  have hOV := HO3.out.below hbV
  have fg3 := hOV.free 3
  have fg5 := hOV.free 5
  have hsv : ∀ w', Below V.heap.size V w' → (w'.cell? ⟨w.heap.size, 0, none⟩ = some (.slice (some ⟨g, 0, none⟩) 1 c) ∧ w'.cell? ⟨w3.heap.size, 3, none⟩ = some (.slice none 0 0) ∧ w'.cell? ⟨w3.heap.size, 5, none⟩ = some (.slice none 0 0)) := fun w' hb => ⟨(hb.cell (p := ⟨w.heap.size, 0, none⟩) (block_lt_of_cell v0)).trans v0, (hb.cell (p := ⟨w3.heap.size, 3, none⟩) (block_lt_of_cell v3)).trans v3, (hb.cell (p := ⟨w3.heap.size, 5, none⟩) (block_lt_of_cell v5)).trans v5⟩
  obtain ⟨cur, hcur, _, _, _, _, hcn⟩ := hOV
  obtain ⟨va', vk', ha', hk', hc9⟩ := hcn 0 .root rfl
  obtain rfl : va' = _ := ha'
  have hkn : kidOf 1 0 = none := rfl
  rw [hkn] at hk'
  obtain rfl : vk' = _ := hk'
  have k3 : cur[3]? = some (.slice none 0 0) := hc9 3 _ rfl
  have k5 : cur[5]? = some (.slice none 0 0) := hc9 5 _ rfl
  have hB35 : Below V.heap.size V ((V.drew.setCell ⟨g, 3, none⟩ (.slice none 0 0)).setCell ⟨g, 5, none⟩ (.slice none 0 0)) := by
    have h1 := ((below_drew' V).block g (hlt hcur)).trans hcur
    have h2 := below_eq (below_drew' V) h1 k3
    exact below_eq h2 ((set_eq h1 k3)) k5
  have hB3' : Below V.heap.size V (V.drew.setCell ⟨g, 3, none⟩ (.slice none 0 0)) := below_eq (below_drew' V) (((below_drew' V).block g (hlt hcur)).trans hcur) k3
  have HV := Lib.hid hV
  have HBV := Lib.hid hbV
  have HSV := Lib.hid hsv
  have HB35 := Lib.hid hB35
  have HB3' := Lib.hid hB3'
  clear hV hbV hrV hsv hB35 hB3' hcur hcn hc9 hkn k3 k5
  go_upto_region 10 with fail
  rw [← HV.out]
  clear q0 r0 r1 r2 r3 r4 r5 r6 r7
  go_region_held3 (fun w' => w'.cell? ⟨w.heap.size, 0, none⟩ = some (.slice (some ⟨g, 0, none⟩) 1 c) ∧ w'.cell? ⟨w3.heap.size, 3, none⟩ = some (.slice none 0 0) ∧ w'.cell? ⟨w3.heap.size, 5, none⟩ = some (.slice none 0 0))
    (first | exact HSV.out _ (below_drew' V) | exact HSV.out _ HB3'.out | exact HSV.out _ HB35.out)
    (first | (go_at_call 40; (with_reducible refine (clonea_nil _).mono ?_); rintro e w5 ⟨rfl, rfl⟩) | (go_at_call 41; (with_reducible refine (clonei_nil _).mono ?_); rintro e w5 ⟨rfl, rfl⟩))
  have hB5 : Below V.heap.size V (((V.setCell ⟨g, 3, none⟩ (.slice none 0 0)).setCell ⟨g, 5, none⟩ (.slice none 0 0)).drew) := HB35.out
  obtain ⟨w5, hw5⟩ : ∃ w5, w5 = ((V.setCell ⟨g, 3, none⟩ (.slice none 0 0)).setCell ⟨g, 5, none⟩ (.slice none 0 0)).drew := ⟨_, rfl⟩
  rw [← hw5] at hB5 ⊢
  obtain ⟨u0, _, _⟩ := HSV.out _ hB5
  have HB5 := Lib.hid hB5
  have hO5 := (HO3.out.below HBV.out).below hB5
  have hBw5 : Below w.heap.size w w5 := HB3.out.trans ((nx HBV.out hB5).mono HB3.out.size)
  have hR25 := (hB5.block _ (hlt ((HBV.out.block _ (hlt HR23.out)).trans HR23.out))).trans ((HBV.out.block _ (hlt HR23.out)).trans HR23.out)
  have HO5 := Lib.hid hO5
  have HBW5 := Lib.hid hBw5
  have HR25 := Lib.hid hR25
  clear hw5 hB5 hO5 hBw5 hR25 v0 v3 v5 g3 g5 fg3 fg5
  go_wp2_with fail
  rw [rounds_succ]
  go_upto_region 13 with fail
  have hb6 := below_alloc' w5 (.cells #[.slice (some ⟨g, 0, none⟩) 1 c, .slice none 0 0, .bool true, .int .i64 0, .slice none 0 0] 105)
  have hr6 := heap_alloc_new w5 (.cells #[.slice (some ⟨g, 0, none⟩) 1 c, .slice none 0 0, .bool true, .int .i64 0, .slice none 0 0] 105)
  obtain ⟨w6, hw6⟩ : ∃ w6, w6 = w5.alloc (.cells #[.slice (some ⟨g, 0, none⟩) 1 c, .slice none 0 0, .bool true, .int .i64 0, .slice none 0 0] 105) := ⟨_, rfl⟩
  rw [← hw6] at hb6 hr6 ⊢
  have cpu := push_any w5.heap.size w5.heap.size 0 ⟨#[]⟩ (.slice (some ⟨g, 0, none⟩) 1 c) (.slice none 0 0) 0 (.slice none 0 0) [] w6 hr6 (World.ownsRow_nil _ _ _ _) hb6.size (by simp)
  rw [show ((0 : Nat) : Int) = 0 from rfl] at cpu
  have HPU := Lib.hid cpu
  have HB6 := Lib.hid hb6
  have HR6 := Lib.hid hr6
  clear cpu hb6 hr6 hw6 u0
  go_wp2_with fail
  with_reducible refine HPU.out.mono ?_
  rintro e w7 ⟨rfl, o', hbu7, hst7, hk7⟩
  have hbst7 : Bst w7 w5.heap.size w5.heap.size 0 (sts 0) := by
    rw [HH0.out]
    have hd := (HO5.out.below HB6.out).doc
    obtain ⟨g', c', e1, e2, e3⟩ := hd
    exact ⟨o', ⟨⟨g, c, hbu7, ⟨g', c', e1, e2, e3.keepL hk7 (fun k hk => by
      rcases List.mem_cons.1 hk with h | h
      · subst h; exact ⟨_, _, _, HR6.out, by decide, by decide, by decide⟩
      · simp [ob, Value.ownBlock] at h)⟩⟩, good_root⟩, hst7⟩
  have hb7 : Below w5.heap.size w5 w7 := HB6.out.trans (hk7.below (fun k hk => by
      rcases List.mem_cons.1 hk with h | h
      · subst h; exact Nat.le_refl _
      · simp [ob, Value.ownBlock] at h) HB6.out.size)
  have HBST7 := Lib.hid hbst7
  have HB7 := Lib.hid hb7
  clear hbst7 hb7 hbu7 hst7 hk7
  go_wp2_with fail
  have hW5 : w.heap.size ≤ w5.heap.size := HBW5.out.size
  go_loopg [85] n (fun gk v wr => ∃ j : Nat, j + gk = n ∧ v = .int .i64 j ∧ Hid (∃ a : Int, Bst wr w5.heap.size w5.heap.size a (sts j)) ∧ Hid (Below w5.heap.size w5 wr))
  case atStart => exact ⟨0, by omega, rfl, ⟨0, HBST7.out⟩, HB7.out⟩
  case round =>
    obtain ⟨j, hj, rfl, HBS, HBJ⟩ := hrel
    obtain ⟨a, hbs⟩ := HBS.out
    by_cases hjn : j < n
    · have j4 : decide ((j : Int) < (n : Int)) = true := by simpa using hjn
      obtain ⟨tk, htk⟩ : ∃ tk, ts[j]? = some tk := ⟨_, List.getElem?_eq_getElem (by have := HN.out; omega)⟩
      have hbw : Below w.heap.size w wr := HBW5.out.trans (HBJ.out.mono hW5)
      obtain ⟨gT, va, rfl, hgT, hva, hcl⟩ := HT.out wr hbw j tk htk
      obtain ⟨aA, an, ac, rfl⟩ := hva.form
      have r0 : wr.cell? ⟨gT, j * 5, none⟩ = some (.int .i64 tk.num) := hcl 0 _ rfl
      have r1 : wr.cell? ⟨gT, j * 5 + 1, none⟩ = some (.string tk.nm) := hcl 1 _ rfl
      have r2 : wr.cell? ⟨gT, j * 5 + 2, none⟩ = some (.string tk.dt) := hcl 2 _ rfl
      have r3 : wr.cell? ⟨gT, j * 5 + 3, none⟩ = some (.slice aA an ac) := hcl 3 _ rfl
      have r4 : wr.cell? ⟨gT, j * 5 + 4, none⟩ = some (.bool false) := hcl 4 _ rfl
      have hbX := below_alloc' wr (.cells (tk.cells (.slice aA an ac)).toArray 77)
      have hrX := heap_alloc_new wr (.cells (tk.cells (.slice aA an ac)).toArray 77)
      obtain ⟨X, hX⟩ : ∃ X, X = wr.alloc (.cells (tk.cells (.slice aA an ac)).toArray 77) := ⟨_, rfl⟩
      rw [← hX] at hbX hrX
      have hbsX := hbs.below hbX
      obtain ⟨c3, f3⟩ := hbsX.c3
      have hbY := hbsX.at_ (j : Int)
      have hne : wr.heap.size ≠ w5.heap.size := by have := hbs.lt; omega
      have hrY := (set_other (g := w5.heap.size) (k := 3) (u := .int .i64 (j : Int)) hne).trans hrX
      have hB5Y : Below w5.heap.size w5 (X.setCell ⟨w5.heap.size, 3, none⟩ (.int .i64 (j : Int))) := (HBJ.out.trans (hbX.mono HBJ.out.size)).setCell (by exact Nat.le_refl _) _
      have haY : Ats (X.setCell ⟨w5.heap.size, 3, none⟩ (.int .i64 (j : Int))) (.slice aA an ac) tk.ats := by
        obtain ⟨cs, fr, hbk⟩ := hbsX.blk
        exact (hva.below hbX).setT hbk (by decide)
      unfold Tk.cells at hX
      have HX := Lib.hid hX
      have HBS2 := Lib.hid hbs
      clear hX
      go_upto_region 17 with fail
      rw [← HX.out]
      clear r0 r1 r2 r3 r4
      obtain ⟨Y, hY⟩ : ∃ Y, Y = X.setCell ⟨w5.heap.size, 3, none⟩ (.int .i64 (j : Int)) := ⟨_, rfl⟩
      rw [← hY] at hbY hrY hB5Y haY
      have HY := Lib.hid hY
      obtain ⟨F, hF, hcal⟩ := step_tok w5.heap.size w5.heap.size (j : Int) (sts j) (sts (j + 1)) tk (HSTEP.out j tk htk) Y hB5Y.size (Nat.le_refl _) hbY (.slice aA an ac) haY
      have y0 := cell_row hrY 0
      have y1 := cell_row hrY 1
      have y2 := cell_row hrY 2
      have y3 := cell_row hrY 3
      have y4 := cell_row hrY 4
      simp only [Tk.cells, List.getElem?_toArray, List.getElem?_cons_zero, List.getElem?_cons_succ] at y0 y1 y2 y3 y4
      have hdo := fun w' => does_any w5.heap.size tk.num F hF w'
      unfold Tk.cells at hcal
      have hcf : ∀ args w, (callFunc F args).run Tryz.prog w = .ok (.enter F args) w := by
        rcases hF with ⟨_, rfl⟩ | ⟨_, rfl⟩ | ⟨_, rfl⟩ <;> intro args w' <;> rfl
      have hnq := neqf F
      have HCAL := Lib.hid hcal
      have HDO := Lib.hid hdo
      have HB5Y := Lib.hid hB5Y
      clear hY hbY hrY hB5Y haY hcal hdo hF hbX hrX hbsX hbs hva hcl htk
      go_upto_region 18 with fail
      rw [← HY.out]
      clear c3 f3
      go_wp2_with fail
      with_reducible refine (HDO.out _).mono ?_
      rintro e w8 ⟨rfl, hw8⟩
      obtain rfl : Y = w8 := hw8.symm
      go_wp2_with fail
      with_reducible refine HCAL.out.mono ?_
      rintro e w9 ⟨rfl, hb9, hw9⟩
      have HBS9 := Lib.hid hb9
      have HB9 := Lib.hid (HB5Y.out.trans hw9)
      clear hb9 hw9 y0 y1 y2 y3 y4
      go_wp2_with fail
      go_roundg (gk - 1)
      case measure => omega
      case rel => exact ⟨j + 1, by omega, by go_num, ⟨_, HBS9.out⟩, HB9.out⟩
    · have hje : j = n := by omega
      subst hje
      have hend := HEND.out
      rw [← HN.out] at hend
      rw [hend] at hbs
      obtain ⟨o9, ⟨⟨g9, c9, b1, b2⟩, b3⟩, b4⟩ := hbs
      obtain ⟨gs, cs, rfl, _⟩ := b4.form (by simp)
      have e0 := b1.c0
      have e1 := b1.c1
      have e3 := b1.c3
      have e4 := b1.c4
      have ef3 := b1.fz 3
      have hrt := (HBJ.out.block _ (hlt HR25.out)).trans HR25.out
      have t0 := cell_row hrt 0
      simp at t0
      have tf := free_of (k := 0) hrt
      go_wp2_with fail
      have hk10 := keep_set wr w5.heap.size 3 (.int .i64 (j : Int))
      have bu10 := b1.set3 (j : Int)
      have hd10 := b2.keepT hk10 b1 ⟨by decide, by decide, by decide⟩
      have hrt10 := (hk10.block _ (hlt hrt) (by intro e; have e := List.mem_singleton.1 e; have := hlt HR25.out; omega)).trans hrt
      have hB10 : Below w.heap.size w (wr.setCell ⟨w5.heap.size, 3, none⟩ (.int .i64 (j : Int))) := (HBW5.out.trans (HBJ.out.mono hW5)).setCell (by exact hW5) _
      obtain ⟨w10, hw10⟩ : ∃ w10, w10 = wr.setCell ⟨w5.heap.size, 3, none⟩ (.int .i64 (j : Int)) := ⟨_, rfl⟩
      rw [← hw10] at bu10 hd10 hrt10 hB10 ⊢
      have d0 := bu10.c0
      have d4 := bu10.c4
      have s0 := cell_row hrt10 0
      simp at s0
      have sf := free_of (k := 0) hrt10
      have hw5l : w.heap.size + 1 < w5.heap.size := hlt HR25.out
      have HRT10 := Lib.hid hrt10
      have HD10 := Lib.hid hd10
      have HB10 := Lib.hid hB10
      have HG10 := Lib.hid b3
      clear e0 e1 e3 e4 ef3 t0 tf hrt b1 b2 b3 b4 hk10 bu10 hd10 hrt10 hB10 hw10 hend
      go_region_held3 (fun w' => w'.cell? ⟨w5.heap.size, 0, none⟩ = some (.slice (some ⟨g9, 0, none⟩) l.length c9) ∧ w'.cell? ⟨w5.heap.size, 4, none⟩ = some (.slice none 0 0))
        (first | exact ⟨d0, d4⟩ | exact ⟨(set_cell (by omega)).trans d0, (set_cell (by omega)).trans d4⟩) (fail)
      have hk11 := keep_set w10 (w.heap.size + 1) 0 (.slice (some ⟨g9, 0, none⟩) l.length c9)
      have hrt11 := set_same (k := 0) (u := .slice (some ⟨g9, 0, none⟩) l.length c9) HRT10.out
      have hd11 := (HD10.out.keepT hk11 HRT10.out ⟨by decide, by decide, by decide⟩).below (below_drew' _)
      have hb11 : Below w.heap.size w ((w10.setCell ⟨w.heap.size + 1, 0, none⟩ (.slice (some ⟨g9, 0, none⟩) l.length c9)).drew) := (HB10.out.setCell (by show w.heap.size ≤ w.heap.size + 1; omega) _).drew
      have hc11 : ((w10.setCell ⟨w.heap.size + 1, 0, none⟩ (.slice (some ⟨g9, 0, none⟩) l.length c9)).drew).cell? ⟨w.heap.size + 1, 0, none⟩ = some (.slice (some ⟨g9, 0, none⟩) l.length c9) := cell_row (((below_drew' _).block _ (hlt hrt11)).trans hrt11) 0
      obtain ⟨w11, hw11⟩ : ∃ w11, w11 = (w10.setCell ⟨w.heap.size + 1, 0, none⟩ (.slice (some ⟨g9, 0, none⟩) l.length c9)).drew := ⟨_, rfl⟩
      rw [← hw11] at hd11 hb11 hc11 ⊢
      have HD11 := Lib.hid hd11
      have HB11 := Lib.hid hb11
      clear hk11 hrt11 hd11 hb11 hw11 d0 d4 s0 sf
      go_wp2_with fail
      exact bodyPost_ret (v := .tuple #[.agg #[.slice (some ⟨g9, 0, none⟩) l.length c9], .slice none 0 0, .int .i64 0]) (by simp [results, Tryz.results24, go_sem, hc11]) rfl ⟨_, rfl, ⟨_, _, _, rfl⟩, HD11.out, HG10.out, HB11.out⟩
set_option maxHeartbeats 2000000 in
/-- Page. -/
theorem page_any (tv : Value) (ts : List Tk) (sts : Nat → List Kd × List (Nat × ByteArray)) (l : List Kd) (w : World) (ht : Toks w tv ts) (hn : ts.length ≤ 100)
    (h0 : sts 0 = ([.root], [(0, ⟨#[]⟩)])) (hstep : ∀ j tk, ts[j]? = some tk → Stp (sts j) tk (sts (j + 1))) (hend : sts ts.length = (l, [(0, ⟨#[]⟩)])) :
    Calls Tryz.prog 14 #[tv] w (OutInto l w) := by
  have hb1 := below_alloc' w (.cells #[.slice none 0 0] 26)
  have hr1 := heap_alloc_new w (.cells #[.slice none 0 0] 26)
  obtain ⟨W, hW⟩ : ∃ W, W = w.alloc (.cells #[.slice none 0 0] 26) := ⟨_, rfl⟩
  rw [← hW] at hb1 hr1
  have htv : ∃ A n c, tv = .slice A n c := by obtain ⟨A, cap, h, _⟩ := ht; exact ⟨_, _, _, h⟩
  obtain ⟨tA, tn, tc, rfl⟩ := htv
  have ci := fun dv w' (hb : Below w.heap.size w w') (hd : Doc w' dv [.root] 1) => into_any dv (.slice tA tn tc) ts sts l w' hd (by
    obtain ⟨A, cap, e1, e2⟩ := ht
    exact ⟨A, cap, e1, fun i tk hi => by
      obtain ⟨g, va, f1, f2, f3, f4⟩ := e2 i tk hi
      exact ⟨g, va, f1, Nat.lt_of_lt_of_le f2 hb.size, f3.below hb, fun j u hu => (hb.cell (p := ⟨g, i * 5 + j, none⟩) f2).trans (f4 j u hu)⟩⟩) hn h0 hstep hend
  have HW := Lib.hid hW
  have HB := Lib.hid hb1
  have HR := Lib.hid hr1
  have HCI := Lib.hid ci
  clear hW hb1 hr1 ci ht h0 hstep hend hn
  go_enter Tryz.func14, Tryz.ntmps14
  go_upto_region 1 with fail
  rw [← HW.out]
  go_wp2_with fail
  with_reducible refine (new_any W).mono ?_
  rintro e w1 ⟨g, c, he, ho, hb1⟩
  have he' : e = .returned (.agg #[.slice (some ⟨g, 0, none⟩) 1 c]) := he
  subst he'
  clear he
  have hd : Doc w1 (.agg #[.slice (some ⟨g, 0, none⟩) 1 c]) [.root] 1 := ho.doc
  have hR1 := (hb1.block _ (hlt HR.out)).trans HR.out
  have HR1 := Lib.hid hR1
  have HD := Lib.hid hd
  have HB1 := Lib.hid (nx HB.out hb1)
  clear ho hb1 hd hR1
  go_wp2_with fail
  with_reducible refine (HCI.out _ _ HB1.out HD.out).mono ?_
  rintro e w2 ⟨v, rfl, ⟨vA, vn, vc, rfl⟩, hd2, hg2, hb2⟩
  have hR2 := (hb2.block _ (hlt HR1.out)).trans HR1.out
  have t0 := cell_row hR2 0
  simp at t0
  have tf := free_of (k := 0) hR2
  have HR2 := Lib.hid hR2
  have HD2 := Lib.hid hd2
  have HG2 := Lib.hid hg2
  have HB2 := Lib.hid (nx HB1.out hb2)
  clear hR2 hd2 hg2 hb2
  go_wp2_with fail
  have hk3 := keep_set w2 w.heap.size 0 (.slice vA vn vc)
  have hr3 := set_same (k := 0) (u := .slice vA vn vc) HR2.out
  have hd3 := HD2.out.keepT hk3 HR2.out ⟨by decide, by decide, by decide⟩
  have hb3 : Below w.heap.size w (w2.setCell ⟨w.heap.size, 0, none⟩ (.slice vA vn vc)) := HB2.out.setCell (by exact Nat.le_refl _) _
  obtain ⟨w3, hw3⟩ : ∃ w3, w3 = w2.setCell ⟨w.heap.size, 0, none⟩ (.slice vA vn vc) := ⟨_, rfl⟩
  rw [← hw3] at hr3 hd3 hb3 ⊢
  have c3 : w3.cell? ⟨w.heap.size, 0, none⟩ = some (.slice vA vn vc) := cell_row hr3 0
  exact bodyPost_ret (v := .tuple #[.agg #[.slice vA vn vc], .slice none 0 0, .int .i64 0]) (by simp [results, Tryz.results14, go_sem, c3]) rfl ⟨_, rfl, ⟨_, _, _, rfl⟩, hd3, HG2.out, hb3⟩
end Go.Proofs.YtbhnfnbnngclmaaGreatDoor
