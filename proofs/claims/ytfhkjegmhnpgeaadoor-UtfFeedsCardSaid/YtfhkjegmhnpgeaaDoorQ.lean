import Derived.Test.YtfhkjegmhnpgeaaDoorP
namespace Go.Proofs.YtfhkjegmhnpgeaaDoor
open Go.RowKit

set_option maxRecDepth 100000 in
set_option maxHeartbeats 2000000 in
theorem law_joined_any (A : Option Addr) (n c : Nat) (l : List UInt8) (B : Option Addr) (m d : Nat) (k : List UInt8) (w : World) (hT : T w) (hb : BytesIn w A n l) (hc : n ≤ c) (hk : BytesIn w B m k) (hd : m ≤ d) (hz : B = none → d = 0) :
    Calls Tryd.prog 6 #[.slice A n c, .slice B m d] w (True1 w) := by
  by_cases h : 5000 < n
  · go_enter Tryd.func6, Tryd.ntmps6
    go_wp2
    go_ret
    exact ⟨rfl, Below.refl _ _⟩
  by_cases h2 : 5000 < m
  · go_enter Tryd.func6, Tryd.ntmps6
    go_wp2
    go_ret
    exact ⟨rfl, Below.refl _ _⟩
  have hl := hb.1
  have hlk := hk.1
  have hdl : (Ut.dec l).length ≤ 20000 := by have := Ut.dec_length l; omega
  obtain ⟨D, hD⟩ : ∃ D : ByteArray, D = ⟨(Ut.dec l).toArray⟩ := ⟨_, rfl⟩
  obtain ⟨E, hE⟩ : ∃ E : ByteArray, E = ⟨(Ut.dec k).toArray⟩ := ⟨_, rfl⟩
  have hDl : D.data.toList = Ut.dec l := by rw [hD]
  have hDs : D.size ≤ 20000 := by rw [hD, mk_size']; exact hdl
  have hEs : E.size ≤ 20000 := by rw [hE, mk_size']; have := Ut.dec_length k; omega
  have hno : ¬ 9223372036854775807 < D.size + E.size := by omega
  have hDE : (⟨(Ut.dec (D.data.toList ++ k)).toArray⟩ : ByteArray) = D ++ E := by rw [hDl, Ut.dec_append, hD, hE, cat_str]
  have c10 := Lib.hid (fun w' (hT : T w') (hb : BytesIn w' A n l) => dec_any A n c l w' hT hb hc (by omega))
  have c10k := Lib.hid (fun w' (hT : T w') (hb : BytesIn w' B m k) => dec_any B m d k w' hT hb hd (by omega))
  have c10a := Lib.hid (fun w' (hT : T w') (A : Option Addr) (n c : Nat) (hc : n ≤ c) (hn : n ≤ 1000000) (hb : BytesIn w' A n (D.data.toList ++ k)) => dec_any A n c _ w' hT hb hc hn)
  rw [← hD] at c10
  rw [← hE] at c10k
  obtain ⟨F, hF⟩ : ∃ F, D ++ E = F := ⟨_, rfl⟩
  rw [hDE, hF] at c10a
  have hq : (F.toList == F.toList) = true := beq_self_eq_true _
  have hzz : B = none → m = 0 ∧ d = 0 := fun e => ⟨by have := hz e; omega, hz e⟩
  have HT := Lib.hid hT; clear hT
  have HB := Lib.hid hb; clear hb
  have HK := Lib.hid hk; clear hk
  clear hdl hD hE hl hlk hDl hDE hz
  go_enter Tryd.func6, Tryd.ntmps6
  go_wp2_with fail
  refine (c10.out w HT.out HB.out).mono ?_
  rintro e w1 ⟨rfl, hb1⟩
  have hs1 := hb1.size
  have B1 := Lib.hid hb1
  go_wp2_with (first
    | (at_builtin; refine wpList_append_str rfl (.tmp 17) (.tmp 18) rfl w1 w w.heap.size _ 0 [] D rfl rfl (World.ownsRow_nil _ _ _ _) hb1 hs1 (by omega) ?_; intro v2 w2 hown2 hb2; have hs2 := hb2.size; rw [Nat.zero_add, List.nil_append] at hown2)
    | (at_builtin; have hbk := HK.out.below hb2; refine wpList_append_any_bytes rfl (.tmp 20) (.tmp 21) rfl w2 w w.heap.size v2 D.size D.data.toList k B m d rfl rfl hown2 hbk hzz hb2 hs2 (by omega) ?_; intro v3 w3 hown3 hb3))
  obtain ⟨A3, d3, rfl, hd3, _⟩ := own_form hown3
  have hb3i := BytesIn.of_own hown3
  have B3 := Lib.hid hb3
  clear hb1 hb2 hown2 hown3 hs1 hs2 hb3
  go_wp2_with fail
  refine (decodes_any w3 (T.below HT.out B3.out)).mono ?_
  rintro e w4 ⟨rfl, hb4⟩
  have B4 := Lib.hid (nx B3.out hb4)
  have hb4i := hb3i.below hb4
  clear hb4 hb3i
  go_wp2_with fail
  refine (c10a.out w4 (T.below HT.out B4.out) A3 _ d3 hd3 (by omega) hb4i).mono ?_
  rintro e w5 ⟨rfl, hb5⟩
  have B5 := Lib.hid (nx B4.out hb5)
  clear hb5 hb4i
  go_wp2_with fail
  refine (c10k.out w5 (T.below HT.out B5.out) (HK.out.below B5.out)).mono ?_
  rintro e w6 ⟨rfl, hb6⟩
  have B6 := Lib.hid (nx B5.out hb6)
  clear hb6
  go_wp2
  go_ret
  exact ⟨rfl, B6.out⟩

theorem Row.piece {w : World} {A : Option Addr} {n : Nat} {p : List Int} (h : Row w A n (ic p)) (k : Nat) (x : Int) (hk : p[k]? = some x) : ∃ ad, A = some ad ∧ Row w (some (ad.add k)) 1 (ic [x]) := by
  have hl : k < p.length := (List.getElem?_eq_some_iff.1 hk).1
  have hn := h.1; rw [ic_length] at hn
  obtain ⟨ad, e, hlt, hc⟩ := h.2 (by omega)
  refine ⟨ad, e, rfl, fun _ => ⟨_, rfl, by rw [add_block]; exact hlt, fun j u hj => ?_⟩⟩
  match j, hj with
  | 0, hj =>
    simp [ic] at hj
    subst hj
    have := hc k (.int .i64 x) (by simp [ic, hk])
    simpa [Addr.add] using this
theorem jn_len_take (p : List Int) (k : Nat) (x : Nat) (hk : p[k]? = some (x : Int)) : (jn (p.take (k + 1))).length = (jn (p.take k)).length + (Ut.by_ x).length := by
  rw [List.take_add_one, hk]
  show (jn (p.take k ++ [(x : Int)])).length = _
  rw [jn_snoc, List.length_append]
theorem text_one (A : Option Addr) (c : Nat) (x : Nat) (w : World) (hx : Ut.ok x = true) (hr : Row w A 1 (ic [(x : Int)])) :
    Calls Tryd.prog 16 #[.slice A 1 c] w fun e w' => e = .returned (.tuple #[.string ⟨(Ut.by_ x).toArray⟩, .int .i64 0]) ∧ Below w.heap.size w w' := by
  refine text_some A 1 c [(x : Int)] (Ut.by_ x) ?_ w hr (by omega)
  unfold txt
  rw [if_pos (by simp [pok, hx])]
  simp [jn, Ut.join]
set_option maxRecDepth 100000 in
set_option maxHeartbeats 2000000 in
theorem law_sizes_any (A : Option Addr) (n c : Nat) (l : List UInt8) (w : World) (hT : T w) (hb : BytesIn w A n l) (hc : n ≤ c) :
    Calls Tryd.prog 7 #[.slice A n c] w (True1 w) := by
  by_cases h : 5000 < n
  · go_enter Tryd.func7, Tryd.ntmps7
    go_wp2
    go_ret
    exact ⟨rfl, Below.refl _ _⟩
  have hl := hb.1
  have hpl := Ut.pts_length l
  have hdl : (Ut.dec l).length ≤ 20000 := by have := Ut.dec_length l; omega
  obtain ⟨D, hD⟩ : ∃ D : ByteArray, D = ⟨(Ut.dec l).toArray⟩ := ⟨_, rfl⟩
  obtain ⟨p, hp⟩ : ∃ p : List Int, p = zs (Ut.pts l) := ⟨_, rfl⟩
  obtain ⟨m, hm⟩ : ∃ m : Nat, m = p.length := ⟨_, rfl⟩
  have hDs : D.size = (Ut.dec l).length := by rw [hD, mk_size']
  have hjn : (jn p).length = D.size := by rw [hDs, hp, jn, zs_nat]; rfl
  have hpm : m ≤ n ∧ n ≤ 4 * m := by rw [hm, hp]; simp [zs]; omega
  have hpo : ∀ k, k < m → ∃ x : Nat, p[k]? = some (x : Int) ∧ Ut.ok x = true := by
    intro k hk
    rw [hm, hp] at hk
    simp [zs] at hk
    refine ⟨(Ut.pts l)[k], ?_, Ut.pts_ok l _ (List.getElem_mem hk)⟩
    rw [hp]; simp [zs, List.getElem?_eq_getElem hk]
  have c10 := Lib.hid (fun w' (hT : T w') (hb : BytesIn w' A n l) => dec_any A n c l w' hT hb hc (by omega))
  have c14 := Lib.hid (fun w' => points_of (Ut.dec l) w' (by omega))
  rw [Ut.pts_dec] at c14
  rw [← hD] at c10 c14
  rw [← hp] at c14
  unfold OutInts at c14
  rw [← hm] at c14
  have HM := Lib.hid hm; clear hm
  have HT := Lib.hid hT; clear hT
  have HB := Lib.hid hb; clear hb
  have HPO := Lib.hid hpo; clear hpo
  have HJ := Lib.hid hjn; clear hjn
  have hDs2 : D.size ≤ 20000 := by omega
  clear hdl hD hp hl hpl hDs
  go_enter Tryd.func7, Tryd.ntmps7
  go_wp2_with fail
  refine (c10.out w HT.out HB.out).mono ?_
  rintro e w1 ⟨rfl, hb1⟩
  have B1 := Lib.hid hb1; clear hb1
  go_wp2_with fail
  refine (c14.out w1).mono ?_
  rintro e w2 ⟨A2, d2, rfl, hd2, r2, hb2⟩
  have B2 := Lib.hid (nx B1.out hb2); clear hb2
  have R2 := Lib.hid r2; clear r2
  go_wp2_with fail
  go_loopg [4, 5] m (fun gk v i wr => ∃ k : Nat, k + gk = m ∧ i = .int .i64 k ∧ v = .int .i64 (jn (p.take k)).length ∧ Below w2.heap.size w2 wr)
  case atStart => exact ⟨0, by omega, rfl, rfl, Below.refl _ _⟩
  case round =>
    obtain ⟨k, hk, rfl, rfl, hbw⟩ := hrel
    have HK := Lib.hid hk; clear hk
    have hsz := hbw.size
    have HBW := Lib.hid hbw; clear hbw
    by_cases hlt : k < m
    · obtain ⟨x, hx, hok⟩ := HPO.out k hlt
      obtain ⟨ad, rfl, hpi⟩ := R2.out.piece k x hx
      have hjl := jn_len_take p k x hx
      obtain ⟨a, ha⟩ : ∃ a, a = (jn (p.take k)).length := ⟨_, rfl⟩
      have ham : a ≤ 4 * k := by
        have h1 := Ut.join_length ((p.take k).map Int.toNat)
        rw [List.length_map, List.length_take] at h1
        have h2 : a ≤ 4 * min k p.length := by rw [ha]; exact h1
        omega
      rw [← ha] at hjl ⊢
      have HJ1 := Lib.hid hjl; clear hjl ha hx
      have HOK := Lib.hid hok; clear hok
      have HPI := Lib.hid hpi; clear hpi
      have hbl := Ut.by_len x
      obtain ⟨U, hU⟩ : ∃ U : ByteArray, U = ⟨(Ut.by_ x).toArray⟩ := ⟨_, rfl⟩
      have hUs : U.size = (Ut.by_ x).length := by rw [hU, mk_size']
      have hUe : (U.toList == []) = false := by
        rw [Lib.toList_data, beq_eq_false_iff_ne]
        intro e; rw [hU] at e; exact Ut.by_ne x e
      have hUi : U.toList.isEmpty = false := by
        rw [Lib.toList_data, hU]; exact Bool.eq_false_iff.2 (fun e => Ut.by_ne x (List.isEmpty_iff.1 e))
      have HUS := Lib.hid hUs; clear hUs hbl
      have c16 := text_one (some (ad.add k)) (d2 - k) x wr HOK.out (HPI.out.below HBW.out)
      rw [← hU] at c16
      have C16 := Lib.hid c16; clear c16 hU
      have hUm : U.size ≤ 4 := by have := HUS.out; have := (Ut.by_len x).2; omega
      go_wp2_with fail
      refine C16.out.mono ?_
      rintro e w3 ⟨rfl, hb3⟩
      have B3 := Lib.hid (nx HBW.out hb3); clear hb3
      go_wp2
      go_roundg (gk - 1)
      case rel =>
        have hk := HK.out
        have hj := HJ1.out
        have hs := HUS.out
        exact ⟨k + 1, by omega, by go_num, by rw [hj, ← hs]; go_num, B3.out⟩
      case measure => have := HK.out; omega
    · obtain rfl : k = m := by have := HK.out; omega
      have hall : jn (p.take k) = jn p := by rw [List.take_of_length_le (by rw [HM.out]; exact Nat.le_refl _)]
      rw [hall, HJ.out]
      clear hall
      have B3 := Lib.hid (nx B2.out HBW.out)
      go_wp2_with fail
      refine (decodes_any wr (T.below HT.out B3.out)).mono ?_
      rintro e w4 ⟨rfl, hb4⟩
      have B4 := Lib.hid (nx B3.out hb4); clear hb4
      go_wp2_with fail
      refine (c10.out w4 (T.below HT.out B4.out) (HB.out.below B4.out)).mono ?_
      rintro e w5 ⟨rfl, hb5⟩
      have B5 := Lib.hid (nx B4.out hb5); clear hb5
      go_wp2
      go_ret
      exact ⟨ret_bool (by rw [decide_eq_true_eq]; omega), B5.out⟩
end Go.Proofs.YtfhkjegmhnpgeaaDoor
