import Derived.Test.YtfhkjegmhnpgeaaDoorO
import Derived.Lib.ConvBytes
namespace Go.Proofs.YtfhkjegmhnpgeaaDoor
open Go.RowKit

theorem txt_pts (l : List UInt8) : txt (zs (Ut.pts l)) = some (Ut.dec l) := by
  unfold txt
  rw [if_pos (List.all_eq_true.2 (zs_pok _ (Ut.pts_ok l))), jn, zs_nat]; rfl
theorem nat_zs (p : List Int) (h : ∀ x ∈ p, pok x = true) : zs (p.map Int.toNat) = p := by
  unfold zs; rw [List.map_map]
  conv => rhs; rw [← List.map_id p]
  refine List.map_congr_left fun n hn => ?_
  obtain ⟨k, rfl, _, _⟩ := pok_of (h n hn)
  rfl
theorem pts_txt (p : List Int) (q : List UInt8) (h : txt p = some q) : zs (Ut.pts q) = p := by
  unfold txt at h
  split at h
  · rename_i ha
    have ha := List.all_eq_true.1 ha
    injection h with h
    subst h
    unfold jn
    rw [Ut.pts_join_nil _ (fun n hn => ?_), nat_zs p ha]
    simp only [List.mem_map] at hn
    obtain ⟨x, hx, rfl⟩ := hn
    obtain ⟨k, rfl, hk, _⟩ := pok_of (ha x hx)
    exact hk
  · cases h
theorem txt_len (p : List Int) (q : List UInt8) (h : txt p = some q) : q.length ≤ 4 * p.length := by
  unfold txt at h
  split at h
  · injection h with h
    subst h
    have := Ut.join_length (p.map Int.toNat)
    rw [List.length_map] at this; exact this
  · cases h
theorem below_bytesWorld (w : World) (e : TypeId) (s : ByteArray) : Below w.heap.size w (Lib.bytesWorld w e s) :=
  ⟨rfl, rfl, rfl, by rw [Lib.bytesWorld_size]; omega, fun j hj => Lib.bytesWorld_at_old w e s j hj⟩
theorem BytesIn.conv (w : World) (l : List UInt8) : BytesIn (Lib.bytesWorld w 5 ⟨l.toArray⟩) (some ⟨w.heap.size, 0, .none⟩) l.length l :=
  ⟨rfl, fun _ => ⟨_, _, rfl, by rw [Lib.bytesWorld_size]; omega, fun j u hj => by
    have hj' : j < l.length := by have := (List.getElem?_eq_some_iff.1 hj).1; rwa [Lib.byteCells_length] at this
    rw [Nat.zero_add, Lib.bytesWorld_cell w 5 ⟨l.toArray⟩ j (by rw [mk_size']; exact hj')]
    rw [← hj]
    simp [Lib.byteCells, List.getElem?_eq_getElem hj', List.getD_eq_getElem?_getD]⟩⟩
theorem dec_conv (w : World) (l : List UInt8) (hT : T w) (hn : l.length ≤ 1000000) : 
    Calls Tryd.prog 10 #[.slice (some ⟨w.heap.size, 0, none⟩) (⟨l.toArray⟩ : ByteArray).size (grownCap w (⟨l.toArray⟩ : ByteArray).size 0 5)] (Lib.bytesWorld w 5 ⟨l.toArray⟩) fun e w' => e = .returned (.string ⟨(Ut.dec l).toArray⟩) ∧ Below w.heap.size w w' :=
  (dec_any _ l.length _ l _ (T.below hT (below_bytesWorld _ _ _)) (BytesIn.conv w l) (Nat.le_trans (Nat.le_of_eq (mk_size' l).symm) (grownCap_ge w _ 0 5)) hn).mono fun e w' ⟨he, hb⟩ => ⟨he, nx (below_bytesWorld _ _ _) hb⟩

theorem text_pts (A : Option Addr) (c : Nat) (l : List UInt8) (w : World) (hr : Row w A (zs (Ut.pts l)).length (ic (zs (Ut.pts l)))) (hn : l.length ≤ 100000) :
    Calls Tryd.prog 16 #[.slice A (zs (Ut.pts l)).length c] w fun e w' => e = .returned (.tuple #[.string ⟨(Ut.dec l).toArray⟩, .int .i64 0]) ∧ Below w.heap.size w w' := by
  have := text_any A _ c _ w hr (by have := (Ut.pts_length l).1; simp [zs]; omega)
  rw [txt_pts] at this; exact this
theorem text_some (A : Option Addr) (n c : Nat) (p : List Int) (q : List UInt8) (h : txt p = some q) (w : World) (hr : Row w A n (ic p)) (hn : n ≤ 100000) :
    Calls Tryd.prog 16 #[.slice A n c] w fun e w' => e = .returned (.tuple #[.string ⟨q.toArray⟩, .int .i64 0]) ∧ Below w.heap.size w w' := by
  have := text_any A n c p w hr hn
  rw [h] at this; exact this
theorem text_none (A : Option Addr) (n c : Nat) (p : List Int) (h : txt p = none) (w : World) (hr : Row w A n (ic p)) (hn : n ≤ 100000) :
    Calls Tryd.prog 16 #[.slice A n c] w fun e w' => e = .returned (.tuple #[.string ⟨#[]⟩, .int .i64 1]) ∧ Below w.heap.size w w' := by
  have := text_any A n c p w hr hn
  rw [h] at this; exact this

set_option maxRecDepth 100000 in
set_option maxHeartbeats 2000000 in
theorem law_back_any (A : Option Addr) (n c : Nat) (l : List UInt8) (B : Option Addr) (m d : Nat) (p : List Int) (w : World) (hT : T w) (hb : BytesIn w A n l) (hc : n ≤ c) (hr : Row w B m (ic p)) :
    Calls Tryd.prog 5 #[.slice A n c, .slice B m d] w (True1 w) := by
  by_cases h : 5000 < n
  · go_enter Tryd.func5, Tryd.ntmps5
    go_wp2
    go_ret
    exact ⟨rfl, Below.refl _ _⟩
  by_cases h2 : 5000 < m
  · go_enter Tryd.func5, Tryd.ntmps5
    go_wp2
    go_ret
    exact ⟨rfl, Below.refl _ _⟩
  have hl := hb.1
  have hlp : p.length = m := by have := hr.1; rwa [ic_length] at this
  have hdl : (Ut.dec l).length ≤ 100000 := by have := Ut.dec_length l; omega
  obtain ⟨D, hD⟩ : ∃ D : ByteArray, D = ⟨(Ut.dec l).toArray⟩ := ⟨_, rfl⟩
  obtain ⟨P, hP⟩ : ∃ P : List Int, P = zs (Ut.pts l) := ⟨_, rfl⟩
  have c10 := Lib.hid (fun w' (hT : T w') (hb : BytesIn w' A n l) => dec_any A n c l w' hT hb hc (by omega))
  have c10b := Lib.hid (fun w' (hT : T w') => dec_conv w' (Ut.dec l) hT (by omega))
  have c14 := Lib.hid (fun w' => points_of (Ut.dec l) w' (by omega))
  have c16 := Lib.hid (fun w' (A : Option Addr) (c : Nat) (hr : Row w' A (zs (Ut.pts l)).length (ic (zs (Ut.pts l)))) => text_pts A c l w' hr (by omega))
  rw [Ut.dec_dec] at c10b
  rw [Ut.pts_dec] at c14
  rw [← hD] at c10 c10b c14 c16
  rw [← hP] at c14 c16
  have hqD : (D.toList == D.toList) = true := beq_self_eq_true _
  have hqN : (D.toList != D.toList) = false := by simp
  have HT := Lib.hid hT; clear hT
  have HR := Lib.hid hr; clear hr
  have HB := Lib.hid hb; clear hb
  have HLP := Lib.hid hlp; clear hlp
  clear hdl hD hP hl
  cases htx : txt p with
  | none =>
    have c16b := Lib.hid (fun w' (hr : Row w' B m (ic p)) => text_none B m d p htx w' hr (by omega))
    clear htx
    go_enter Tryd.func5, Tryd.ntmps5
    go_wp2_with fail
    refine (c10.out w HT.out HB.out).mono ?_
    rintro e w1 ⟨rfl, hb1⟩
    have B1 := Lib.hid hb1; clear hb1
    go_wp2_with fail
    refine (c14.out w1).mono ?_
    rintro e w2 ⟨A2, d2, rfl, _, r2, hb2⟩
    have B2 := Lib.hid (nx B1.out hb2); clear hb2
    go_wp2_with fail
    refine (c16.out w2 A2 d2 r2).mono ?_
    rintro e w3 ⟨rfl, hb3⟩
    have B3 := Lib.hid (nx B2.out hb3); clear hb3
    have hcv := Lib.run_convert_string_bytes (P := Tryd.prog) w3 9 22 5 D Tryd.underlying9 Tryd.underlying22 Tryd.underlying5
    go_wp2_with fail
    refine (c10b.out w3 (T.below HT.out B3.out)).mono ?_
    rintro e w4 ⟨rfl, hb4⟩
    have B4 := Lib.hid (nx B3.out hb4); clear hb4
    go_wp2_with fail
    refine (c16b.out w4 (HR.out.below B4.out)).mono ?_
    rintro e w5 ⟨rfl, hb5⟩
    have B5 := Lib.hid (nx B4.out hb5); clear hb5
    go_wp2_with fail
    refine (decodes_any w5 (T.below HT.out B5.out)).mono ?_
    rintro e w6 ⟨rfl, hb6⟩
    go_wp2
    go_ret
    exact ⟨rfl, nx B5.out hb6⟩
  | some q =>
    have hlq := txt_len p q htx
    have c16b := Lib.hid (fun w' (hr : Row w' B m (ic p)) => text_some B m d p q htx w' hr (by omega))
    have c14b := Lib.hid (fun w' => points_of q w' (by have := HLP.out; omega))
    rw [pts_txt p q htx] at c14b
    obtain ⟨U, hU⟩ : ∃ U : ByteArray, U = ⟨q.toArray⟩ := ⟨_, rfl⟩
    rw [← hU] at c16b c14b
    clear htx hU hlq
    go_enter Tryd.func5, Tryd.ntmps5
    go_wp2_with fail
    refine (c10.out w HT.out HB.out).mono ?_
    rintro e w1 ⟨rfl, hb1⟩
    have B1 := Lib.hid hb1; clear hb1
    go_wp2_with fail
    refine (c14.out w1).mono ?_
    rintro e w2 ⟨A2, d2, rfl, _, r2, hb2⟩
    have B2 := Lib.hid (nx B1.out hb2); clear hb2
    go_wp2_with fail
    refine (c16.out w2 A2 d2 r2).mono ?_
    rintro e w3 ⟨rfl, hb3⟩
    have B3 := Lib.hid (nx B2.out hb3); clear hb3
    have hcv := Lib.run_convert_string_bytes (P := Tryd.prog) w3 9 22 5 D Tryd.underlying9 Tryd.underlying22 Tryd.underlying5
    go_wp2_with fail
    refine (c10b.out w3 (T.below HT.out B3.out)).mono ?_
    rintro e w4 ⟨rfl, hb4⟩
    have B4 := Lib.hid (nx B3.out hb4); clear hb4
    go_wp2_with fail
    refine (c16b.out w4 (HR.out.below B4.out)).mono ?_
    rintro e w5 ⟨rfl, hb5⟩
    have B5 := Lib.hid (nx B4.out hb5); clear hb5
    go_wp2_with fail
    refine (decodes_any w5 (T.below HT.out B5.out)).mono ?_
    rintro e w6 ⟨rfl, hb6⟩
    have B6 := Lib.hid (nx B5.out hb6); clear hb6
    go_wp2_with fail
    refine (c14b.out w6).mono ?_
    rintro e w7 ⟨A7, d7, rfl, _, r7, hb7⟩
    have B7 := Lib.hid (nx B6.out hb7); clear hb7
    have c13 := ints_same A7 B p.length d7 d p w7 r7 (by rw [HLP.out]; exact HR.out.below B7.out) (by have := HLP.out; omega)
    rw [HLP.out] at c13
    have hlp' := HLP.out
    rw [hlp']
    go_wp2_with fail
    refine c13.mono ?_
    rintro e w8 ⟨rfl, hb8⟩
    go_wp2
    go_ret
    exact ⟨rfl, nx B7.out hb8⟩
end Go.Proofs.YtfhkjegmhnpgeaaDoor
