/- The document's rows hold. -/
import Derived.Test.YtpjakdekaolmeaaDoorRM
namespace Go.Proofs.YtpjakdekaolmeaaDoor
open Go.RowKit Go.Shelf

def True1 (w : World) (e : Ending) (w' : World) : Prop := e = .returned (.bool true) ∧ Below w.heap.size w w'
abbrev PB : ByteArray := ⟨#[112]⟩
theorem Texts.lit39 (w : World) (ss : List ByteArray) : Texts (w.alloc (.cells (ss.map Value.string).toArray 39)) (some ⟨w.heap.size, 0, none⟩) ss.length ss :=
  ⟨rfl, fun _ => ⟨_, rfl, by simp, fun j hj => cells_new w _ 39 j _ (by simp [List.getElem?_eq_getElem hj])⟩⟩
theorem Texts.none0 (w : World) : Texts w none 0 [] := ⟨rfl, fun h => absurd h (by simp)⟩
theorem mk1_val : makeM (polsF ⟨#[]⟩) [] ⟨#[112]⟩ = ([PB], 0, true, [], 0) := by decide +kernel
theorem mk1_mild : PMild (polsF ⟨#[]⟩) := p_mild (by decide +kernel)
theorem mk1_lit (w : World) : Calls Tryd.prog 25 #[.string ⟨#[]⟩, .string ⟨#[112]⟩, .slice none 0 0] w (OutTold ([PB], 0, true, [], 0) w) := by
  have := makes_any ⟨#[]⟩ ⟨#[112]⟩ none 0 0 [] w mk1_mild (Texts.none0 w) (fun _ => ⟨rfl, rfl⟩) (by decide) (by decide) (by decide)
  rw [mk1_val] at this
  exact this
theorem mk2_val : makeM (polsF ⟨#[116, 114, 117, 115, 116, 101, 100, 45, 116, 121, 112, 101, 115, 32, 112]⟩) [] ⟨#[113]⟩ = ([], -1, false, [(0, false)], 200) := by decide +kernel
theorem mk2_mild : PMild (polsF ⟨#[116, 114, 117, 115, 116, 101, 100, 45, 116, 121, 112, 101, 115, 32, 112]⟩) := p_mild (by decide +kernel)
theorem mk2_lit (w : World) : Calls Tryd.prog 25 #[.string ⟨#[116, 114, 117, 115, 116, 101, 100, 45, 116, 121, 112, 101, 115, 32, 112]⟩, .string ⟨#[113]⟩, .slice none 0 0] w (OutTold ([], -1, false, [(0, false)], 200) w) := by
  have := makes_any ⟨#[116, 114, 117, 115, 116, 101, 100, 45, 116, 121, 112, 101, 115, 32, 112]⟩ ⟨#[113]⟩ none 0 0 [] w mk2_mild (Texts.none0 w) (fun _ => ⟨rfl, rfl⟩) (by decide) (by decide) (by decide)
  rw [mk2_val] at this
  exact this
theorem mk3_val : makeM (polsF ⟨#[116, 114, 117, 115, 116, 101, 100, 45, 116, 121, 112, 101, 115, 32, 112, 32, 39, 65, 108, 108, 111, 119, 45, 68, 117, 112, 108, 105, 99, 97, 116, 101, 115, 39]⟩) [⟨#[112]⟩] ⟨#[112]⟩ = ([PB, PB], 1, true, [], 0) := by decide +kernel
theorem mk3_mild : PMild (polsF ⟨#[116, 114, 117, 115, 116, 101, 100, 45, 116, 121, 112, 101, 115, 32, 112, 32, 39, 65, 108, 108, 111, 119, 45, 68, 117, 112, 108, 105, 99, 97, 116, 101, 115, 39]⟩) := p_mild (by decide +kernel)
theorem mk3_lit (w : World) (b : Nat) (hb : b = w.heap.size) : Calls Tryd.prog 25 #[.string ⟨#[116, 114, 117, 115, 116, 101, 100, 45, 116, 121, 112, 101, 115, 32, 112, 32, 39, 65, 108, 108, 111, 119, 45, 68, 117, 112, 108, 105, 99, 97, 116, 101, 115, 39]⟩, .string ⟨#[112]⟩, .slice (some ⟨b, 0, none⟩) 1 1] (w.alloc (.cells #[.string ⟨#[112]⟩] 39)) (OutTold ([PB, PB], 1, true, [], 0) (w.alloc (.cells #[.string ⟨#[112]⟩] 39))) := by
  subst hb
  have := makes_any ⟨#[116, 114, 117, 115, 116, 101, 100, 45, 116, 121, 112, 101, 115, 32, 112, 32, 39, 65, 108, 108, 111, 119, 45, 68, 117, 112, 108, 105, 99, 97, 116, 101, 115, 39]⟩ ⟨#[112]⟩ _ 1 1 _ (w.alloc (.cells #[.string ⟨#[112]⟩] 39)) mk3_mild (Texts.lit39 w [⟨#[112]⟩]) (fun e => by cases e) (by decide) (by decide) (by decide)
  rw [mk3_val] at this
  exact this
theorem mk4_val : makeM (polsF ⟨#[116, 114, 117, 115, 116, 101, 100, 45, 116, 121, 112, 101, 115, 32, 42]⟩) [⟨#[112]⟩] ⟨#[112]⟩ = ([], -1, false, [(0, false)], 200) := by decide +kernel
theorem mk4_mild : PMild (polsF ⟨#[116, 114, 117, 115, 116, 101, 100, 45, 116, 121, 112, 101, 115, 32, 42]⟩) := p_mild (by decide +kernel)
theorem mk4_lit (w : World) (b : Nat) (hb : b = w.heap.size) : Calls Tryd.prog 25 #[.string ⟨#[116, 114, 117, 115, 116, 101, 100, 45, 116, 121, 112, 101, 115, 32, 42]⟩, .string ⟨#[112]⟩, .slice (some ⟨b, 0, none⟩) 1 1] (w.alloc (.cells #[.string ⟨#[112]⟩] 39)) (OutTold ([], -1, false, [(0, false)], 200) (w.alloc (.cells #[.string ⟨#[112]⟩] 39))) := by
  subst hb
  have := makes_any ⟨#[116, 114, 117, 115, 116, 101, 100, 45, 116, 121, 112, 101, 115, 32, 42]⟩ ⟨#[112]⟩ _ 1 1 _ (w.alloc (.cells #[.string ⟨#[112]⟩] 39)) mk4_mild (Texts.lit39 w [⟨#[112]⟩]) (fun e => by cases e) (by decide) (by decide) (by decide)
  rw [mk4_val] at this
  exact this
theorem mk5_val : makeM (polsF ⟨#[]⟩) [⟨#[100, 101, 102, 97, 117, 108, 116]⟩] ⟨#[100, 101, 102, 97, 117, 108, 116]⟩ = ([], -1, false, [], 191) := by decide +kernel
theorem mk5_mild : PMild (polsF ⟨#[]⟩) := p_mild (by decide +kernel)
theorem mk5_lit (w : World) (b : Nat) (hb : b = w.heap.size) : Calls Tryd.prog 25 #[.string ⟨#[]⟩, .string ⟨#[100, 101, 102, 97, 117, 108, 116]⟩, .slice (some ⟨b, 0, none⟩) 1 1] (w.alloc (.cells #[.string ⟨#[100, 101, 102, 97, 117, 108, 116]⟩] 39)) (OutTold ([], -1, false, [], 191) (w.alloc (.cells #[.string ⟨#[100, 101, 102, 97, 117, 108, 116]⟩] 39))) := by
  subst hb
  have := makes_any ⟨#[]⟩ ⟨#[100, 101, 102, 97, 117, 108, 116]⟩ _ 1 1 _ (w.alloc (.cells #[.string ⟨#[100, 101, 102, 97, 117, 108, 116]⟩] 39)) mk5_mild (Texts.lit39 w [⟨#[100, 101, 102, 97, 117, 108, 116]⟩]) (fun e => by cases e) (by decide) (by decide) (by decide)
  rw [mk5_val] at this
  exact this
theorem mk6_val : makeM (polsF ⟨#[]⟩) [] ⟨#[97, 32, 98]⟩ = ([], -1, false, [], 190) := by decide +kernel
theorem mk6_mild : PMild (polsF ⟨#[]⟩) := p_mild (by decide +kernel)
theorem mk6_lit (w : World) : Calls Tryd.prog 25 #[.string ⟨#[]⟩, .string ⟨#[97, 32, 98]⟩, .slice none 0 0] w (OutTold ([], -1, false, [], 190) w) := by
  have := makes_any ⟨#[]⟩ ⟨#[97, 32, 98]⟩ none 0 0 [] w mk6_mild (Texts.none0 w) (fun _ => ⟨rfl, rfl⟩) (by decide) (by decide) (by decide)
  rw [mk6_val] at this
  exact this
theorem breaks_lit (w : World) : BreaksV (w.alloc (.cells #[.int .i64 0, .string ttS, .bool false] 56)) (.slice (some ⟨w.heap.size, 0, none⟩) 1 1) [(0, false)] :=
  ⟨_, 1, rfl, Nat.le_refl _, fun e => (by cases e), fun _ => ⟨w.heap.size, 0, rfl, by simp, fun j hj => by
    obtain rfl : j = 0 := by simp at hj; exact hj
    have h := heap_alloc_new w (.cells #[.int .i64 0, .string ttS, .bool false] 56)
    exact ⟨cell_row h 0, cell_row h 1, cell_row h 2⟩⟩⟩
theorem same_lit (va : Value) (w : World) (b : Nat) (hb : b = w.heap.size) (h : BreaksV w va [(0, false)]) : Calls Tryd.prog 16 #[.agg #[.bool false, va], .agg #[.bool false, .slice (some ⟨b, 0, none⟩) 1 1]] (w.alloc (.cells #[.int .i64 0, .string ttS, .bool false] 56)) (True1 (w.alloc (.cells #[.int .i64 0, .string ttS, .bool false] 56))) := by
  subst hb
  exact (vsame_any false false va _ [(0, false)] [(0, false)] _ (h.below (below_alloc' w _)) (breaks_lit w) (by decide) (by decide)).mono fun e w' ⟨he, hb⟩ => ⟨by rw [he]; simp, hb⟩
theorem find1_lit (w : World) : Calls Tryd.prog 14 #[.slice (some ⟨w.heap.size, 0, none⟩) 1 1, .string PB] (w.alloc (.cells #[.string PB] 39)) fun e w' => e = .returned (.int .i64 0) ∧ Below (w.alloc (.cells #[.string PB] 39)).heap.size (w.alloc (.cells #[.string PB] 39)) w' := by
  have := find19_any _ 1 1 _ PB _ (Texts.lit39 w [PB]) (by decide)
  rw [show findM [PB] PB = 0 by decide +kernel] at this
  exact this
theorem find2_lit (w : World) : Calls Tryd.prog 14 #[.slice none 0 0, .string PB] w fun e w' => e = .returned (.int .i64 (-1)) ∧ Below w.heap.size w w' := by
  have := find19_any none 0 0 [] PB w (Texts.none0 w) (by decide)
  rw [show findM [] PB = -1 by decide +kernel] at this
  exact this
theorem one_step {w w' : World} {a : Obj} (h : Below (w.alloc a).heap.size (w.alloc a) w') : Below w.heap.size w w' := (below_alloc' w a).trans (h.mono (by simp))
theorem two_step {w w' : World} {a b : Obj} (h : Below ((w.alloc a).alloc b).heap.size ((w.alloc a).alloc b) w') : Below (w.heap.size + 1) (w.alloc a) w' := by
  have := one_step h
  rwa [World.size_alloc] at this
set_option maxRecDepth 100000 in
set_option maxHeartbeats 4000000 in
theorem registers_any (w : World) : Calls Tryd.prog 11 #[] w (True1 w) := by
  go_enter Tryd.func11, Tryd.ntmps11
  go_wp2_with fail
  with_reducible refine (mk1_lit _).mono ?_
  rintro e w1 ⟨bv1, rfl, hbv1, hb1⟩
  obtain ⟨A1, c1, rfl, -, -⟩ := own_form hbv1
  go_wp2_with fail
  with_reducible refine (mk2_lit _).mono ?_
  rintro e w2 ⟨bv2, rfl, hbv2, hb2⟩
  obtain ⟨A2, c2, rfl, -, -⟩ := own_form hbv2
  have hx2 : Below w.heap.size w w2 := nx hb1 (one_step hb2)
  have hbr2 : BreaksV w2 (.slice A2 1 c2) [(0, false)] := BreaksV.of_own hbv2
  clear hbv1 hbv2 hb1 hb2
  go_wp2_with fail
  with_reducible refine (mk3_lit _ _ (by simp)).mono ?_
  rintro e w3 ⟨bv3, rfl, hbv3, hb3⟩
  obtain ⟨A3, c3, rfl, -, -⟩ := own_form hbv3
  have hs3 := two_step hb3
  have hbox3 := (hs3.block w2.heap.size (Nat.lt_succ_self _)).trans (heap_alloc_new w2 _)
  have hs3' : Below w2.heap.size w2 w3 := (below_alloc' w2 _).trans (hs3.mono (Nat.le_succ _))
  have hx3 : Below w.heap.size w w3 := nx hx2 hs3'
  have hbr3 := hbr2.below hs3'
  clear hbv3 hb3 hs3 hs3' hx2 hbr2
  go_wp2_with fail
  with_reducible refine (mk4_lit _ _ (by simp)).mono ?_
  rintro e w4 ⟨bv4, rfl, hbv4, hb4⟩
  obtain ⟨A4, c4, rfl, -, -⟩ := own_form hbv4
  have hs4' : Below w3.heap.size w3 w4 := (below_alloc' w3 _).trans ((two_step hb4).mono (Nat.le_succ _))
  have hbox4 := carry hbox3 hs4'
  have hx4 : Below w.heap.size w w4 := nx hx3 hs4'
  have hbr4 := hbr3.below hs4'
  clear hbv4 hb4 hs4' hx3 hbr3 hbox3
  go_wp2_with fail
  with_reducible refine (mk5_lit _ _ (by simp)).mono ?_
  rintro e w5 ⟨bv5, rfl, hbv5, hb5⟩
  obtain ⟨A5, c5, rfl, -, -⟩ := own_form hbv5
  have hs5' : Below w4.heap.size w4 w5 := (below_alloc' w4 _).trans ((two_step hb5).mono (Nat.le_succ _))
  have hbox5 := carry hbox4 hs5'
  have hx5 : Below w.heap.size w w5 := nx hx4 hs5'
  have hbr5 := hbr4.below hs5'
  clear hbv5 hb5 hs5' hx4 hbr4 hbox4
  go_wp2_with fail
  with_reducible refine (mk6_lit _).mono ?_
  rintro e w6 ⟨bv6, rfl, hbv6, hb6⟩
  obtain ⟨A6, c6, rfl, -, -⟩ := own_form hbv6
  have hs6' : Below w5.heap.size w5 w6 := one_step hb6
  have hbox6 := carry hbox5 hs6'
  have hx6 : Below w.heap.size w w6 := nx hx5 hs6'
  have hbr6 := hbr5.below hs6'
  clear hbv6 hb6 hs6' hx5 hbr5 hbox5
  have hbox7 := carry hbox6 (below_alloc' w6 (.cells #[.bool false, .slice A6 0 c6] 32))
  have hbr7 := hbr6.below (below_alloc' w6 (.cells #[.bool false, .slice A6 0 c6] 32))
  have hx7 := nx hx6 (below_alloc' w6 (.cells #[.bool false, .slice A6 0 c6] 32))
  have h0 := cell_row hbox7 0
  have h1 := cell_row hbox7 1
  simp at h0 h1
  have HX7 := Lib.hid hx7
  have HBR7 := Lib.hid hbr7
  clear hx6 hbr6 hbox6 hbox7 hbr7 hx7
  go_wp2_with fail
  with_reducible refine (same_lit _ (w6.alloc (.cells #[.bool false, .slice A6 0 c6] 32)) (w6.heap.size + 1) (by simp) HBR7.out).mono ?_
  rintro e w7 ⟨rfl, hb7⟩
  have HX8 := Lib.hid (nx HX7.out (one_step hb7))
  clear hb7
  go_wp2_with fail
  with_reducible refine (find1_lit w7).mono ?_
  rintro e w8 ⟨rfl, hb8⟩
  have HX9 := Lib.hid (nx HX8.out (one_step hb8))
  clear hb8
  go_wp2_with fail
  with_reducible refine (find2_lit w8).mono ?_
  rintro e w9 ⟨rfl, hb9⟩
  have HXA := Lib.hid (nx HX9.out hb9)
  clear hb9
  go_wp2_with fail
  go_ret
  exact ⟨rfl, HXA.out⟩
end Go.Proofs.YtpjakdekaolmeaaDoor
