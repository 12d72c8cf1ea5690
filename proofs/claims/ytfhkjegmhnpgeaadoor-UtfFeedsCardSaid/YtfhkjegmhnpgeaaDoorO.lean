import Derived.Test.YtfhkjegmhnpgeaaDoorN
namespace Go.Proofs.YtfhkjegmhnpgeaaDoor
open Go.RowKit

theorem ref_dec_of (l : List UInt8) (w : World) (hs : l.length ≤ 100000) : Calls Tryd.prog 12 #[.string ⟨l.toArray⟩] w fun e w' => e = .returned (.string ⟨(Ut.dec l).toArray⟩) ∧ Below w.heap.size w w' :=
  ref_dec_any ⟨l.toArray⟩ w (by rw [mk_size']; exact hs)
theorem points_of (l : List UInt8) (w : World) (hs : l.length ≤ 100000) : Calls Tryd.prog 14 #[.string ⟨l.toArray⟩] w (OutInts (zs (Ut.pts l)) w) :=
  points_any ⟨l.toArray⟩ w (by rw [mk_size']; omega)
theorem ref_points_of (l : List UInt8) (w : World) (hs : l.length ≤ 100000) : Calls Tryd.prog 15 #[.string ⟨l.toArray⟩] w (OutInts (zs (Ut.pts l)) w) :=
  ref_points_any ⟨l.toArray⟩ w (by rw [mk_size']; exact hs)
theorem ints_same (A B : Option Addr) (n c d : Nat) (p : List Int) (w : World) (hp : Row w A n (ic p)) (hq : Row w B n (ic p)) (hn : n ≤ 1000000) :
    Calls Tryd.prog 13 #[.slice A n c, .slice B n d] w (True1 w) :=
  (ints_any A B n n c d p p w hp hq hn hn).mono fun e w' ⟨he, hb⟩ => ⟨by rw [he]; simp, hb⟩
theorem conv_later {w : World} {base n : Nat} {v : Value} {l : List UInt8} (h : w.ownsRow base 5 1 v n (Lib.byteCells l)) (w' : World) (hb : Below w.heap.size w w') :
    (convert 22 9 v).run Tryd.prog w' = .ok (.string ⟨l.toArray⟩) w' := own_string (own_below h hb)
theorem conv_later_arg {w : World} {A : Option Addr} {n c : Nat} {l : List UInt8} (h : BytesIn w A n l) (w' : World) (hb : Below w.heap.size w w') :
    (convert 22 9 (.slice A n c)).run Tryd.prog w' = .ok (.string ⟨l.toArray⟩) w' := bytes_string (h.below hb)

set_option maxRecDepth 100000 in
set_option maxHeartbeats 2000000 in
theorem law_decodes_any (A : Option Addr) (n c : Nat) (l : List UInt8) (w : World) (hT : T w) (hb : BytesIn w A n l) (hc : n ≤ c) (hz : A = none → c = 0) : Calls Tryd.prog 3 #[.slice A n c] w (True1 w) := by
  by_cases h : 5000 < n
  · go_enter Tryd.func3, Tryd.ntmps3
    go_wp2
    go_ret
    exact ⟨rfl, Below.refl _ _⟩
  · have hl := hb.1
    have hpl := (Ut.pts_length l).1
    obtain ⟨D, hD⟩ : ∃ D : ByteArray, D = ⟨(Ut.dec l).toArray⟩ := ⟨_, rfl⟩
    obtain ⟨S, hS⟩ : ∃ S : ByteArray, S = ⟨l.toArray⟩ := ⟨_, rfl⟩
    obtain ⟨p, hp⟩ : ∃ p : List Int, p = zs (Ut.pts l) := ⟨_, rfl⟩
    have hpn : p.length ≤ 1000000 := by rw [hp]; simp [zs]; omega
    have c10 := Lib.hid (fun w' (hT : T w') (hb : BytesIn w' A n l) => dec_any A n c l w' hT hb hc (by omega))
    have c12 := Lib.hid (fun w' => ref_dec_of l w' (by omega))
    have c14 := Lib.hid (fun w' => points_of l w' (by omega))
    have c15 := Lib.hid (fun w' => ref_points_of l w' (by omega))
    have hzz : A = none → n = 0 ∧ c = 0 := fun e => ⟨by have := hz e; omega, hz e⟩
    have hcl := fun w1 (base n1 : Nat) v (h : World.ownsRow w1 base 5 1 v n1 (Lib.byteCells l)) => conv_later h
    have hca := fun w1 (h : BytesIn w1 A n l) => conv_later_arg (c := c) h
    rw [← hD] at c10 c12
    rw [← hS] at c12 c14 c15 hcl hca
    rw [← hp] at c14 c15
    have HCL := Lib.hid hcl; clear hcl
    have HCA := Lib.hid hca; clear hca
    have hqD : (D.toList == D.toList) = true := beq_self_eq_true _
    have hqS : (S.toList == S.toList) = true := beq_self_eq_true _
    have HL := Lib.hid hl; clear hl
    have HZ := Lib.hid hz; clear hz
    clear hpl hD hS hp
    go_enter Tryd.func3, Tryd.ntmps3
    go_wp2_with (at_builtin; refine wpList_append_any_bytes rfl (.tmp 8) (.tmp 9) rfl _ w w.heap.size _ 0 [] l A n c rfl rfl (World.ownsRow_nil _ _ _ _) hb hzz (Below.refl _ _) (Nat.le_refl _) (by omega) ?_; intro v w1 hown hb1)
    have hT1 := T.below hT hb1
    have hbi := hb.below hb1
    go_wp2_with fail
    refine (c10.out w1 hT1 hbi).mono ?_
    rintro e w2 ⟨rfl, hb2⟩
    have hT2 := T.below hT1 hb2
    have hbi2 := hbi.below hb2
    rw [List.nil_append] at hown
    have hown2 := own_below (w1 := w2) hown ⟨hb2.os, hb2.tape, hb2.output, hb2.size, hb2.block⟩
    have hcv := HCL.out w2 _ _ v hown2
    have hcw := HCA.out w2 hbi2
    have hbb := nx hb1 hb2
    have B0 := Lib.hid hbb; clear hbb
    clear hb hb1 hb2 hown hbi
    go_wp2_with fail
    go_region_held3 (fun w' => Below w2.heap.size w2 w') (first | exact hK | exact ⟨rfl, rfl, rfl, Nat.le_refl _, fun _ _ => rfl⟩)
      (first
        | (go_at_call 11; refine (decodes_any _ (T.below hT2 (by assumption))).mono ?_; rintro e w3 ⟨rfl, hb3⟩; have hK := nx (by assumption : Below w2.heap.size w2 _) hb3)
        | (go_at_call 12; refine (c12.out _).mono ?_; rintro e w4 ⟨rfl, hb4⟩; have hK := nx (by assumption : Below w2.heap.size w2 _) hb4)
        | (go_at_call 14; refine (c14.out _).mono ?_; rintro e w5 ⟨A5, d5, rfl, _, r5, hb5⟩; have hK := nx (by assumption : Below w2.heap.size w2 _) hb5)
        | (go_at_call 15; refine (c15.out _).mono ?_; rintro e w6 ⟨A6, d6, rfl, _, r6, hb6⟩; have hK := nx (by assumption : Below w2.heap.size w2 _) hb6)
        | (go_at_call 13; refine (ints_same A5 A6 _ d5 d6 p _ (r5.below hb6) r6 hpn).mono ?_; rintro e w7 ⟨rfl, hb7⟩; have hK := nx (by assumption : Below w2.heap.size w2 _) hb7)
        | (go_at_call 13; refine (ints_same A5 A6 _ d5 d6 p _ r5 (r6.below hb5) hpn).mono ?_; rintro e w7 ⟨rfl, hb7⟩; have hK := nx (by assumption : Below w2.heap.size w2 _) hb7))
    all_goals
      go_wp2
      go_ret
      exact ⟨rfl, nx B0.out hK⟩

theorem ref_text_of (A : Option Addr) (n c : Nat) (p : List Int) (w : World) (hr : Row w A n (ic p)) (hn : n ≤ 100000) : Calls Tryd.prog 17 #[.slice A n c] w (OutTxt (txt p) w) := ref_text_any A n c p w hr hn
set_option maxRecDepth 100000 in
set_option maxHeartbeats 2000000 in
theorem law_texts_any (A : Option Addr) (n c : Nat) (p : List Int) (w : World) (hT : T w) (hr : Row w A n (ic p)) (hc : n ≤ c) (hz : A = none → c = 0) : Calls Tryd.prog 4 #[.slice A n c] w (True1 w) := by
  by_cases h : 5000 < n
  · go_enter Tryd.func4, Tryd.ntmps4
    go_wp2
    go_ret
    exact ⟨rfl, Below.refl _ _⟩
  · obtain ⟨s, hs⟩ : ∃ s : ByteArray, s = ⟨((txt p).getD []).toArray⟩ := ⟨_, rfl⟩
    obtain ⟨g, hg⟩ : ∃ g : Int, g = (if (txt p).isSome then 0 else 1) := ⟨_, rfl⟩
    have hq : (s.toList == s.toList) = true := beq_self_eq_true _
    have hqg : (g == g) = true := beq_self_eq_true _
    have hzz : A = none → n = 0 ∧ c = 0 := fun e => ⟨by have := hz e; omega, hz e⟩
    have c16 := Lib.hid (fun (w' : World) (hr : Row w' A n (ic p)) => text_any A n c p w' hr (by omega))
    have c17 := Lib.hid (fun (w' : World) (B : Option Addr) (d : Nat) (hr : Row w' B n (ic p)) => ref_text_of B n d p w' hr (by omega))
    unfold OutTxt at c16 c17
    rw [← hs, ← hg] at c16 c17
    clear hs hg
    go_enter Tryd.func4, Tryd.ntmps4
    go_wp2_with (at_builtin; refine wpList_append_any_ints rfl (.tmp 11) (.tmp 12) rfl _ w w.heap.size _ 0 [] p A n c rfl rfl (World.ownsRow_nil _ _ _ _) hr hzz (Below.refl _ _) (Nat.le_refl _) (by omega) ?_; intro v w1 hown hb1)
    rw [List.nil_append, Nat.zero_add] at hown
    obtain ⟨B, d, rfl, hd, _⟩ := own_form hown
    have hrB := Row.of_own hown
    have hT1 := T.below hT hb1
    have hr1 := hr.below hb1
    go_wp2_with fail
    refine (c16.out w1 hr1).mono ?_
    rintro e w2 ⟨rfl, hb2⟩
    have hT2 := T.below hT1 hb2
    have hr2 := hr1.below hb2
    have hrB2 := hrB.below hb2
    go_wp2_with fail
    refine (c17.out w2 B d hrB2).mono ?_
    rintro e w3 ⟨rfl, hb3⟩
    have hT3 := T.below hT2 hb3
    have hr3 := hr2.below hb3
    have hrB3 := hrB2.below hb3
    have hbb := nx (nx hb1 hb2) hb3
    have B0 := Lib.hid hbb; clear hbb
    clear hr hr1 hr2 hrB hrB2 hT hT1 hT2 hb1 hb2 hb3 hown
    go_wp2_with fail
    refine (decodes_any _ hT3).mono ?_
    rintro e w4 ⟨rfl, hb4⟩
    go_wp2_with fail
    refine (ints_same A B n c d p _ (hr3.below hb4) (hrB3.below hb4) (by omega)).mono ?_
    rintro e w5 ⟨rfl, hb5⟩
    go_wp2
    go_ret
    exact ⟨rfl, nx B0.out (nx hb4 hb5)⟩
end Go.Proofs.YtfhkjegmhnpgeaaDoor
