/- The law HeaderJoins. -/
import Derived.Test.YteghldoglffabaaDoorHT
import Derived.IntWalk
namespace Go.Proofs.YteghldoglffabaaDoor
open Go.RowKit Go.Shelf

theorem PolsV.take {w : World} {A : Option Addr} {n c : Nat} {ps : List PolB} (h : PolsV w (.slice A n c) ps) (k : Nat) (hk : k ≤ n) : PolsV w (.slice A k c) (ps.take k) := by
  obtain ⟨A', c', e, h1, h2, h3⟩ := h
  injection e with e1 e2 e3
  subst e1 e2 e3
  have hl : (ps.take k).length = k := by rw [List.length_take]; omega
  refine ⟨A, c, by rw [hl], by rw [hl]; omega, h2, fun h0 => ?_⟩
  obtain ⟨g, off, e, hlt, hc⟩ := h3 (by omega)
  refine ⟨g, off, e, hlt, fun j hj => ?_⟩
  rw [hl] at hj
  obtain ⟨dv, q1, q2, q3⟩ := hc j (by omega)
  exact ⟨dv, q1, by rw [List.getElem_take]; exact q2, by rw [List.getElem_take]; exact q3⟩
theorem PolsV.drop {w : World} {g off n c : Nat} {ps : List PolB} (h : PolsV w (.slice (some ⟨g, off, none⟩) n c) ps) (k : Nat) (hk : k ≤ n) : PolsV w (.slice (some ⟨g, off + k * 2, none⟩) (n - k) (c - k)) (ps.drop k) := by
  obtain ⟨A', c', e, h1, h2, h3⟩ := h
  injection e with e1 e2 e3
  subst e1 e2 e3
  have hl : (ps.drop k).length = ps.length - k := by rw [List.length_drop]
  refine ⟨_, c - k, by rw [hl], by rw [hl]; omega, (fun e => by cases e), fun h0 => ?_⟩
  rw [hl] at h0
  obtain ⟨g', off', e, hlt, hc⟩ := h3 (by omega)
  injection e with e
  injection e with e1 e2 _
  subst e1 e2
  refine ⟨g, off + k * 2, rfl, hlt, fun j hj => ?_⟩
  rw [hl] at hj
  obtain ⟨dv, q1, q2, q3⟩ := hc (k + j) (by omega)
  rw [show off + (k + j) * 2 = off + k * 2 + j * 2 by omega] at q1 q2
  exact ⟨dv, q1, by rw [List.getElem_drop]; exact q2, by rw [List.getElem_drop]; exact q3⟩

set_option maxHeartbeats 4000000 in
set_option maxRecDepth 100000 in
theorem law_joins_any (a b : ByteArray) (r : Bool) (w : World) (ha : a.size ≤ 9223372036854775807) (hb : b.size ≤ 9223372036854775807) : Calls Tryd.prog 6 #[.string a, .string b, .bool r] w (True1 w) := by
  by_cases h1 : 2000 < a.size
  · go_enter Tryd.func6, Tryd.ntmps6
    go_wp2
    go_ret
    exact ⟨rfl, Below.refl _ _⟩
  by_cases h2 : 2000 < b.size
  · go_enter Tryd.func6, Tryd.ntmps6
    go_wp2
    go_ret
    exact ⟨rfl, Below.refl _ _⟩
  obtain ⟨T, hT⟩ : ∃ T, a ++ (⟨#[44]⟩ : ByteArray) = T := ⟨_, rfl⟩
  obtain ⟨U, hU⟩ : ∃ U, T ++ b = U := ⟨_, rfl⟩
  have hTs : T.size = a.size + 1 := by rw [← hT, ByteArray.size_append]; rfl
  have hUs : U.size = T.size + b.size := by rw [← hU, ByteArray.size_append]
  have hUd : U.data.toList = a.data.toList ++ 44 :: b.data.toList := by rw [← hU, cat_data, ← hT, cat_data]; simp
  have hcat := parse_cat a.data.toList b.data.toList
  rw [← hUd] at hcat
  have c1 := fun w' => parse_any a r w' (by omega)
  have c2 := fun w' => parse_any b r w' (by omega)
  have c3 := fun w' => parse_any U r w' (by omega)
  have hwa : ∀ l : List (List (ByteArray × List ByteArray)), (∀ ds ∈ l, ds ∈ parseB a.data.toList) → l.length ≤ 100 → Wide (pols r l) := wide_sub a.data.toList (by rw [size_len]; omega) r
  have hwb : ∀ l : List (List (ByteArray × List ByteArray)), (∀ ds ∈ l, ds ∈ parseB b.data.toList) → l.length ≤ 100 → Wide (pols r l) := wide_sub b.data.toList (by rw [size_len]; omega) r
  have hla := parseB_length a.data.toList
  have hlb := parseB_length b.data.toList
  obtain ⟨la, hpa⟩ : ∃ l, l = parseB a.data.toList := ⟨_, rfl⟩
  obtain ⟨lb, hpb⟩ : ∃ l, l = parseB b.data.toList := ⟨_, rfl⟩
  rw [hcat] at c3
  rw [← hpa] at c1 c3 hla hwa
  rw [← hpb] at c2 c3 hlb hwb
  obtain ⟨ln, hln⟩ : ∃ l, l = (la ++ lb).take 10 := ⟨_, rfl⟩
  rw [← hln] at c3
  have hnl : ln.length = min 10 (la.length + lb.length) := by rw [hln, List.length_take, List.length_append]
  have hft : ln.take la.length = la := by rw [hln, List.take_take, show min la.length 10 = la.length by omega, List.take_append_of_le_length (Nat.le_refl _), List.take_length]
  have hfd : ln.drop la.length = lb.take (ln.length - la.length) := by
    rw [hnl, hln, List.drop_take, List.drop_append_of_le_length (Nat.le_refl _), List.drop_length, List.nil_append]
    rcases Nat.lt_or_ge 10 (la.length + lb.length) with h | h
    · rw [show min 10 (la.length + lb.length) = 10 by omega]
    · rw [show min 10 (la.length + lb.length) - la.length = lb.length by omega, List.take_of_length_le (by omega), List.take_length]
  obtain ⟨LA, hLA⟩ : ∃ L, L = la.length := ⟨_, rfl⟩
  obtain ⟨LB, hLB⟩ : ∃ L, L = lb.length := ⟨_, rfl⟩
  obtain ⟨LN, hLN⟩ : ∃ L, L = ln.length := ⟨_, rfl⟩
  rw [← hLA] at hla hft hfd hnl
  rw [← hLB] at hlb hnl
  rw [← hLN] at hnl hfd
  have hne : ((LN : Int) != min 10 ((LA : Int) + (LB : Int))) = false := by rw [bne_eq_false_iff_eq]; omega
  have hge : LA ≤ LN := by omega
  have hsb : LN - LA ≤ LB := by omega
  have C1 := Lib.hid c1
  have C2 := Lib.hid c2
  have C3 := Lib.hid c3
  have HA := Lib.hid (hwa la (fun _ h => h) (by omega))
  have HB := Lib.hid (hwb (lb.take (LN - LA)) (fun _ h => List.mem_of_mem_take h) (by rw [List.length_take]; omega))
  have HFT := Lib.hid hft
  have HFD := Lib.hid hfd
  have HLA := Lib.hid hLA
  have HLB := Lib.hid hLB
  have HLN := Lib.hid hLN
  have hno1 : ¬ 9223372036854775807 < a.size + 1 := by omega
  have hno2 : ¬ 9223372036854775807 < T.size + b.size := by omega
  have hl1 : (⟨#[44]⟩ : ByteArray).size = 1 := rfl
  clear c1 c2 c3 hwa hwb hft hfd hLA hLB hLN hln hnl hpa hpb hcat hUd hUs hTs
  go_enter Tryd.func6, Tryd.ntmps6
  go_wp2_with fail
  refine (C1.out _).mono ?_
  rintro e w1 ⟨v1, rfl, r1, hb1⟩
  go_wp2_with fail
  refine (C2.out _).mono ?_
  rintro e w2 ⟨v2, rfl, r2, hb2⟩
  go_wp2_with fail
  refine (C3.out _).mono ?_
  rintro e w3 ⟨v3, rfl, r3, hb3⟩
  have p1 : PolsV w3 v1 (pols r la) := r1.toV.below (nx hb2 hb3)
  have p2 : PolsV w3 v2 (pols r lb) := r2.toV.below hb3
  have p3 : PolsV w3 v3 (pols r ln) := r3.toV
  obtain ⟨A1, k1, rfl, hk1, hz1, -⟩ := id p1
  obtain ⟨A2, k2, rfl, hk2, hz2, -⟩ := id p2
  obtain ⟨A3, k3, rfl, hk3, hz3, -⟩ := id p3
  rw [show (pols r la).length = LA by unfold pols; rw [List.length_map]; exact HLA.out.symm] at p1 hk1 ⊢
  rw [show (pols r lb).length = LB by unfold pols; rw [List.length_map]; exact HLB.out.symm] at p2 hk2 ⊢
  rw [show (pols r ln).length = LN by unfold pols; rw [List.length_map]; exact HLN.out.symm] at p3 hk3 ⊢
  have P1 := Lib.hid p1
  have P2 := Lib.hid p2
  have P3 := Lib.hid p3
  have HX := Lib.hid (nx (nx hb1 hb2) hb3)
  have HZ3 := Lib.hid hz3
  clear p1 p2 p3 r1 r2 r3 hb1 hb2 hb3 hz1 hz2 hz3
  go_wp2_with fail
  have hca : ∀ w', Below w3.heap.size w3 w' → Calls Tryd.prog 10 #[.slice A3 LA k3, .slice A1 LA k1] w' (True1 w') := fun w' hb => by
    refine allp_same _ _ (pols r la) w' ?_ (P1.out.below hb) HA.out
    have := (P3.out.below hb).take LA hge
    rwa [show (pols r ln).take LA = pols r la by unfold pols; rw [← List.map_take, HFT.out]] at this
  have hcb : ∀ (A : Option Addr) (k : Nat) w', Below w3.heap.size w3 w' → PolsV w' (.slice A (LN - LA) k) (pols r (lb.take (LN - LA))) → Calls Tryd.prog 10 #[.slice A (LN - LA) k, .slice A2 (LN - LA) k2] w' (True1 w') := fun A k w' hb h => by
    refine allp_same _ _ (pols r (lb.take (LN - LA))) w' h ?_ HB.out
    have := (P2.out.below hb).take (LN - LA) hsb
    rwa [show (pols r lb).take (LN - LA) = pols r (lb.take (LN - LA)) by unfold pols; rw [← List.map_take]] at this
  have HCA := Lib.hid hca
  clear hca
  have hi1 : (LA : Int) ≤ (k3 : Int) := by omega
  have hi2 : (LA : Int) ≤ (LN : Int) := by omega
  have hi3 : (0 : Int) ≤ (LN : Int) - (LA : Int) := by omega
  have hi4 : (LN : Int) - (LA : Int) ≤ (k2 : Int) := by omega
  have hi5 : ((LN : Int) - (LA : Int)).toNat = LN - LA := by omega
  have hi6 : (0 : Int) ≤ (LA : Int) := by omega
  have hnil : ∀ (A : Option Addr) (c : Nat) (w' : World), (A = none → c = 0) → PolsV w' (.slice A 0 c) (pols r []) := fun A c w' h => ⟨A, c, rfl, Nat.zero_le _, h, fun h => absurd h (by simp [pols])⟩
  have hlz : LN - LA = 0 → pols r (lb.take (LN - LA)) = pols r [] := fun h => by rw [h]; rfl
  have hwz : IntKind.i64.wrap 0 = 0 := IntWalk.i64_in 0 (by omega)
  rcases Nat.eq_zero_or_pos LN with h0 | h0
  · obtain rfl : LA = 0 := by omega
    subst h0
    cases A3 with
    | none =>
      obtain rfl := HZ3.out rfl
      have HCB := Lib.hid (fun w' hb => hcb none 0 w' hb (by rw [hlz rfl]; exact hnil none 0 w' fun _ => rfl))
      simp only [Nat.sub_zero] at HCB
      clear hcb hnil hlz
      go_region_held3 (fun _ => True) (trivial) (first
        | (go_at_call 9; refine (reads_any _).mono ?_; rintro e w4 ⟨rfl, hb4'⟩; have hb4 : Below w3.heap.size w3 w4 := ⟨hb4'.os, hb4'.tape, hb4'.output, hb4'.size, hb4'.block⟩)
        | (go_at_call 10; have hq := HCA.out w4 hb4; (with_reducible refine hq.mono ?_); clear hq; rintro e w5 ⟨rfl, hb5⟩)
        | (go_at_call 10; have hq := HCB.out w5 (nx hb4 hb5); (with_reducible refine hq.mono ?_); clear hq; rintro e w6 ⟨rfl, hb6⟩))
      go_wp2
      go_ret
      exact ⟨rfl, nx (nx (nx HX.out hb4) hb5) hb6⟩
    | some ad =>
      have HCB := Lib.hid (fun w' hb => hcb (some ad) k3 w' hb (by rw [hlz rfl]; exact hnil _ _ w' fun e => by cases e))
      simp only [Nat.sub_zero] at HCB
      clear hcb hnil hlz
      by_cases hk : k3 = 0
      · subst hk
        go_region_held3 (fun _ => True) (trivial) (first
          | (go_at_call 9; refine (reads_any _).mono ?_; rintro e w4 ⟨rfl, hb4'⟩; have hb4 : Below w3.heap.size w3 w4 := ⟨hb4'.os, hb4'.tape, hb4'.output, hb4'.size, hb4'.block⟩)
          | (go_at_call 10; have hq := HCA.out w4 hb4; (with_reducible refine hq.mono ?_); clear hq; rintro e w5 ⟨rfl, hb5⟩)
          | (go_at_call 10; have hq := HCB.out w5 (nx hb4 hb5); (with_reducible refine hq.mono ?_); clear hq; rintro e w6 ⟨rfl, hb6⟩))
        go_wp2
        go_ret
        exact ⟨rfl, nx (nx (nx HX.out hb4) hb5) hb6⟩
      · have hk2 : ¬ 0 = k3 := fun e => hk e.symm
        go_region_held3 (fun _ => True) (trivial) (first
          | (go_at_call 9; refine (reads_any _).mono ?_; rintro e w4 ⟨rfl, hb4'⟩; have hb4 : Below w3.heap.size w3 w4 := ⟨hb4'.os, hb4'.tape, hb4'.output, hb4'.size, hb4'.block⟩)
          | (go_at_call 10; have hq := HCA.out w4 hb4; (with_reducible refine hq.mono ?_); clear hq; rintro e w5 ⟨rfl, hb5⟩)
          | (go_at_call 10; have hq := HCB.out w5 (nx hb4 hb5); (with_reducible refine hq.mono ?_); clear hq; rintro e w6 ⟨rfl, hb6⟩))
        go_wp2
        go_ret
        exact ⟨rfl, nx (nx (nx HX.out hb4) hb5) hb6⟩
  · obtain ⟨g, off, dv, e, -⟩ := P3.out.at_ 0 (by unfold pols; rw [List.length_map, ← HLN.out]; exact h0)
    subst e
    by_cases hk : k3 = LA
    · obtain rfl : LN = LA := by omega
      subst hk
      have HCB := Lib.hid (fun w' hb => hcb (some ⟨g, off, none⟩) 0 w' hb (by rw [hlz (Nat.sub_self _), Nat.sub_self]; exact hnil _ _ w' fun e => by cases e))
      simp only [Nat.sub_self] at HCB
      clear hcb hnil hlz
      go_region_held3 (fun _ => True) (trivial) (first
        | (go_at_call 9; refine (reads_any _).mono ?_; rintro e w4 ⟨rfl, hb4'⟩; have hb4 : Below w3.heap.size w3 w4 := ⟨hb4'.os, hb4'.tape, hb4'.output, hb4'.size, hb4'.block⟩)
        | (go_at_call 10; have hq := HCA.out w4 hb4; (with_reducible refine hq.mono ?_); clear hq; rintro e w5 ⟨rfl, hb5⟩)
        | (go_at_call 10; have hq := HCB.out w5 (nx hb4 hb5); (with_reducible refine hq.mono ?_); clear hq; rintro e w6 ⟨rfl, hb6⟩))
      go_wp2
      go_ret
      exact ⟨rfl, nx (nx (nx HX.out hb4) hb5) hb6⟩
    · have hcb2 : ∀ w', Below w3.heap.size w3 w' → Calls Tryd.prog 10 #[.slice (some ⟨g, off + LA * 2, none⟩) (LN - LA) (k3 - LA), .slice A2 (LN - LA) k2] w' (True1 w') := fun w' hb => by
        refine hcb _ _ w' hb ?_
        have := (P3.out.below hb).drop LA hge
        rwa [show (pols r ln).drop LA = pols r (lb.take (LN - LA)) by unfold pols; rw [← List.map_drop, HFD.out]] at this
      have HCB := Lib.hid hcb2
      have hwr : IntKind.i64.wrap ((LN : Int) - (LA : Int)) = (LN : Int) - (LA : Int) := IntWalk.i64_in _ (by omega)
      have hk2 : ¬ LA = k3 := fun e => hk e.symm
      clear hcb2 hcb hnil hlz
      go_region_held3 (fun _ => True) (trivial) (first
        | (go_at_call 9; refine (reads_any _).mono ?_; rintro e w4 ⟨rfl, hb4'⟩; have hb4 : Below w3.heap.size w3 w4 := ⟨hb4'.os, hb4'.tape, hb4'.output, hb4'.size, hb4'.block⟩)
        | (go_at_call 10; have hq := HCA.out w4 hb4; (with_reducible refine hq.mono ?_); clear hq; rintro e w5 ⟨rfl, hb5⟩)
        | (go_at_call 10; have hq := HCB.out w5 (nx hb4 hb5); (with_reducible refine hq.mono ?_); clear hq; rintro e w6 ⟨rfl, hb6⟩))
      go_wp2
      go_ret
      exact ⟨rfl, nx (nx (nx HX.out hb4) hb5) hb6⟩
end Go.Proofs.YteghldoglffabaaDoor
