/- chain's Effective and One. -/
import Derived.Test.YtajokmcdhhiahaaGreatDoorCA
namespace Go.Proofs.YtajokmcdhhiahaaGreatDoor
open Go.RowKit
set_option maxRecDepth 100000

/-- A policy of one directive with one word; at which of the names it is found. -/
structure PolOne (ds : List (ByteArray × List ByteArray)) (h : Nat) (x : ByteArray) : Prop where
  few : ds.length ≤ 10 ∧ ∀ d ∈ ds, d.2.length ≤ 10
  lt : h < namesL.length
  find : ∀ k (hk : k < namesL.length), k ≤ h → findB ds (Fo.lower namesL[k].data.toList) = if k = h then some [x] else none
def OutEff (i : Int) (nm : ByteArray) (w : World) (e : Ending) (w' : World) : Prop := ∃ v, e = .returned (.tuple #[v, .string nm, .bool true]) ∧ SrcV w' v i ∧ Below w.heap.size w w'
theorem names_small : ∀ k (hk : k < namesL.length), namesL[k].size ≤ 10000000 := fun k hk => by
  have : namesL.length = 3 := rfl
  rcases (show k = 0 ∨ k = 1 ∨ k = 2 by omega) with rfl | rfl | rfl
  · show (15 : Nat) ≤ _; decide
  · show (10 : Nat) ≤ _; decide
  · show (11 : Nat) ≤ _; decide
set_option maxHeartbeats 4000000 in
theorem eff_any (dv : Value) (r : Bool) (ds : List (ByteArray × List ByteArray)) (h i : Nat) (hi : i = 1 ∨ i = 2 ∨ i = 3) (x : ByteArray) (hx : WordIs i x) (hq : Quo x) (hp : PolOne ds h x) (K : Int) (hK : K = 1 ∨ K = 2) (w : World) (hg : Gl w) (hd : DirsV w dv ds) :
    Calls Tryz.prog 50 #[.agg #[dv, .bool r], .int .i64 K] w (OutEff i (namesL.getD h ⟨#[]⟩) w) := by
  have c73 := fun w' => names_any K hK w'
  have c34 := fun w' (hd' : DirsV w' dv ds) k (hk : k < namesL.length) => find_any dv r ds namesL[k] w' hd' (names_small k hk) (by have := hp.few.1; omega) (fun d hd => by have := hp.few.2 d hd; omega)
  have c74 := fun b off c w' (hg' : Gl w') hb => list_any i hi x hx hq w' hg' b off c hb
  obtain ⟨nm, hnm⟩ : ∃ nm, nm = namesL.getD h ⟨#[]⟩ := ⟨_, rfl⟩
  have hnm2 : ∀ hl : h < namesL.length, namesL[h]'hl = nm := fun hl => by rw [hnm, List.getD_eq_getElem?_getD, List.getElem?_eq_getElem hl]; rfl
  rw [← hnm]
  obtain ⟨I, hI⟩ : ∃ I : Int, I = i := ⟨_, rfl⟩
  rw [← hI] at c74 ⊢
  have h3 : h < 3 := hp.lt
  obtain ⟨DA, DC, rfl, -⟩ := id hd
  have C73 := Lib.hid c73
  have C34 := Lib.hid c34
  have C74 := Lib.hid c74
  have HP := Lib.hid hp
  have HD := Lib.hid hd
  have HG := Lib.hid hg
  have HNM := Lib.hid hnm2
  obtain ⟨M, hM⟩ : ∃ M, M = ds.length := ⟨_, rfl⟩
  rw [← hM] at C34 HD
  rw [← hM]
  have hbB := below_alloc' w (.cells #[.slice DA M DC, .bool r] 56)
  have hrow := heap_alloc_new w (.cells #[.slice DA M DC, .bool r] 56)
  obtain ⟨W, hW⟩ : ∃ W, W = w.alloc (.cells #[.slice DA M DC, .bool r] 56) := ⟨_, rfl⟩
  rw [← hW] at hbB hrow
  have HB := Lib.hid hbB
  have HROW := Lib.hid hrow
  have HW := Lib.hid hW
  clear c73 c34 c74 hnm hnm2 hI hp hd hg hM hbB hrow hW hi hx hq hK
  go_enter Tryz.func50, Tryz.ntmps50
  go_wp2_with fail
  rw [← HW.out]
  with_reducible refine (C73.out _).mono ?_
  rintro e w1 ⟨NA, NC, rfl, -, -, hnt, hb1⟩
  have hnl : namesL.length = 3 := rfl
  rw [hnl] at hnt ⊢
  have HNT := Lib.hid hnt
  have HB1 := Lib.hid (nx HB.out hb1)
  have hrow1 := (hb1.block w.heap.size (Array.getElem?_eq_some_iff.1 HROW.out).1).trans HROW.out
  have HROW1 := Lib.hid hrow1
  clear hnt hb1 hrow1 hnl
  go_wp2_with fail
  go_loopg [14] (h + 1) (fun gk v wr => ∃ k : Nat, k + gk = h + 1 ∧ v = .int .i64 k ∧ k ≤ h ∧ Hid (Below w1.heap.size w1 wr))
  case atStart => exact ⟨0, by omega, rfl, by omega, Below.refl _ _⟩
  case round =>
    obtain ⟨k, hk, rfl, hkh, HBR⟩ := hrel
    have HK := Lib.hid hk
    clear hk
    have hkl : k < namesL.length := by show k < 3; omega
    have hk3 : k < 3 := hkl
    obtain ⟨b, off, rfl, hbl, hcc⟩ := (HNT.out.below HBR.out).row (by omega)
    have hck := hcc k hkl
    have hf := HP.out.find k hkl hkh
    have hBw : Below w.heap.size w wr := nx HB1.out HBR.out
    have c34k := C34.out wr (HD.out.below hBw) k hkl
    rw [hf] at c34k
    have hnk := HNM.out
    obtain ⟨y, hy⟩ : ∃ y, y = namesL[k]'hkl := ⟨_, rfl⟩
    rw [← hy] at hck c34k
    have hrowR := (HBR.out.block w.heap.size (Array.getElem?_eq_some_iff.1 HROW1.out).1).trans HROW1.out
    have z0 := cell_row hrowR 0
    have z1 := cell_row hrowR 1
    simp only [List.getElem?_toArray, List.getElem?_cons_zero, List.getElem?_cons_succ] at z0 z1
    have hyn : k = h → y = nm := fun e => by subst e; rw [hy, hnk hkl]
    have HY := Lib.hid hyn
    have C34K := Lib.hid c34k
    have HBW := Lib.hid hBw
    clear hcc hf c34k hnk hy hrowR hyn hBw
    by_cases hkeq : k = h
    · obtain rfl : y = nm := HY.out hkeq
      rw [if_pos hkeq] at C34K
      clear hkeq
      go_wp2_with fail
      with_reducible refine C34K.out.mono ?_
      rintro e w2 ⟨v2, rfl, hv2, hb2⟩
      simp only [Option.isSome_some]
      obtain ⟨A2, c2, rfl, -, -, ht2⟩ := hv2
      obtain ⟨b2, o2, rfl, hb2l, hcc2⟩ := ht2.row (by simp)
      have hc2 := hcc2 0 (by simp)
      simp only [Nat.add_zero, Option.getD_some, List.getElem_cons_zero] at hc2
      have HB2 := Lib.hid (nx HBW.out hb2)
      have c74' := C74.out b2 o2 c2 w2 (HG.out.below HB2.out) hc2
      have C74' := Lib.hid c74'
      clear hcc2 ht2 hc2 hb2 c74'
      simp only [Option.getD_some, List.length_cons, List.length_nil, Nat.zero_add]
      go_wp2_with fail
      with_reducible refine C74'.out.mono ?_
      rintro e w3 ⟨v3, rfl, hs3, hb3⟩
      have HS3 := Lib.hid hs3
      have HB3 := Lib.hid (nx HB2.out hb3)
      clear hs3 hb3
      go_wp2_with fail
      go_ret3
      exact ⟨_, rfl, HS3.out, HB3.out⟩
    · rw [if_neg hkeq] at C34K
      go_wp2_with fail
      with_reducible refine C34K.out.mono ?_
      rintro e w2 ⟨v2, rfl, hv2, hb2⟩
      simp only [Option.isSome_none]
      have HB2 := Lib.hid (nx HBR.out hb2)
      clear hv2 hb2
      go_wp2_with fail
      go_roundg (gk - 1)
      case measure => have := HK.out; omega
      case rel =>
        have := HK.out
        exact ⟨k + 1, by omega, by go_num, by omega, HB2.out⟩
end Go.Proofs.YtajokmcdhhiahaaGreatDoor
