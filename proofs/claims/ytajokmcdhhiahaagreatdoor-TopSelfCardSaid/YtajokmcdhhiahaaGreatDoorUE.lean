/- The package-level variables that the walks read; url's text. -/
import Derived.Test.YtajokmcdhhiahaaGreatDoorUD
import Derived.Test.YtajokmcdhhiahaaGreatDoorHH
import Derived.Lib.AppendIntMem
import Derived.Lib.ItoaLen
import Derived.Lib.LaidTab
namespace Go.Proofs.YtajokmcdhhiahaaGreatDoor
open Go.RowKit
set_option maxRecDepth 100000

def keptL : List ByteArray := [⟨#[]⟩, ⟨#[39, 110, 111, 110, 101, 39]⟩, ⟨#[39, 115, 101, 108, 102, 39]⟩, ⟨#[39, 117, 110, 115, 97, 102, 101, 45, 105, 110, 108, 105, 110, 101, 39]⟩, ⟨#[39, 117, 110, 115, 97, 102, 101, 45, 101, 118, 97, 108, 39]⟩, ⟨#[39, 119, 97, 115, 109, 45, 117, 110, 115, 97, 102, 101, 45, 101, 118, 97, 108, 39]⟩, ⟨#[39, 115, 116, 114, 105, 99, 116, 45, 100, 121, 110, 97, 109, 105, 99, 39]⟩, ⟨#[39, 117, 110, 115, 97, 102, 101, 45, 104, 97, 115, 104, 101, 115, 39]⟩, ⟨#[39, 114, 101, 112, 111, 114, 116, 45, 115, 97, 109, 112, 108, 101, 39]⟩]
structure Gl (w : World) : Prop where
  ml : ∃ m, w.cell? ⟨0, 0, none⟩ = some (.int .i64 m)
  tab : Lib.TabIs Tryz.prog w "internal/strconv.uint64pow10" .u64 Lib.pow10Tab
  s0 : w.cell? ⟨5, 0, none⟩ = some (.int .u64 257)
  s1 : w.cell? ⟨5, 1, none⟩ = some (.int .u64 65539)
  kept : ∀ i (h : i < keptL.length), w.cell? ⟨4, i, none⟩ = some (.string keptL[i])
theorem Gl.five {w : World} (h : Gl w) : 5 < w.heap.size := World.block_lt_of_cell? w _ h.s0
theorem Gl.below {w w' : World} (h : Gl w) (hb : Below w.heap.size w w') : Gl w' := by
  have h5 := h.five
  obtain ⟨m, hm⟩ := h.ml
  exact ⟨⟨m, (hb.cell (p := ⟨0, 0, none⟩) (by show 0 < _; omega)).trans hm⟩, Lib.tabBelow_of_tabIs h.tab w' hb,
    (hb.cell (p := ⟨5, 0, none⟩) h5).trans h.s0, (hb.cell (p := ⟨5, 1, none⟩) h5).trans h.s1, fun i hi => (hb.cell (p := ⟨4, i, none⟩) (by show 4 < _; omega)).trans (h.kept i hi)⟩

structure URL where
  opq : Bool
  scheme : ByteArray
  host : ByteArray
  port : Int
  path : ByteArray
  query : ByteArray
def URL.val (u : URL) : Value := .agg #[.bool u.opq, .string u.scheme, .string u.host, .int .i64 u.port, .string u.path, .string u.query]
structure URL.fits (u : URL) : Prop where
  scheme : u.scheme.size ≤ 1000000
  host : u.host.size ≤ 1000000
  path : u.path.size ≤ 1000000
  query : u.query.size ≤ 1000000
  port0 : -9223372036854775808 ≤ u.port
  port1 : u.port ≤ 9223372036854775807
def Ur.text (u : URL) : ByteArray :=
  if u.opq then (u.scheme ++ (⟨#[58]⟩ : ByteArray)) ++ u.path
  else (if u.port = 0 then ((u.scheme ++ (⟨#[58, 47, 47]⟩ : ByteArray)) ++ u.host) ++ u.path else (((u.scheme ++ (⟨#[58, 47, 47]⟩ : ByteArray)) ++ u.host) ++ ((⟨#[58]⟩ : ByteArray) ++ ⟨(Lib.itoa u.port).toArray⟩)) ++ u.path) ++ u.query
set_option maxHeartbeats 2000000 in
theorem text_any (u : URL) (hu : u.fits) (w : World) (hg : Gl w) : Calls Tryz.prog 17 #[u.val] w fun e w' => e = .returned (.string (Ur.text u)) ∧ Below w.heap.size w w' := by
  obtain ⟨q, sc, ho, p, pa, qu⟩ := u
  obtain ⟨h1, h2, h3, h4, h5, h6⟩ := hu
  have h1 : sc.size ≤ 1000000 := h1
  have h2 : ho.size ≤ 1000000 := h2
  have h3 : pa.size ≤ 1000000 := h3
  have h4 : qu.size ≤ 1000000 := h4
  have h5 : -9223372036854775808 ≤ p := h5
  have h6 : p ≤ 9223372036854775807 := h6
  show Calls Tryz.prog 17 #[.agg #[.bool q, .string sc, .string ho, .int .i64 p, .string pa, .string qu]] w _
  have ht : Ur.text ⟨q, sc, ho, p, pa, qu⟩ = if q then (sc ++ (⟨#[58]⟩ : ByteArray)) ++ pa
    else (if p = 0 then ((sc ++ (⟨#[58, 47, 47]⟩ : ByteArray)) ++ ho) ++ pa else (((sc ++ (⟨#[58, 47, 47]⟩ : ByteArray)) ++ ho) ++ ((⟨#[58]⟩ : ByteArray) ++ ⟨(Lib.itoa p).toArray⟩)) ++ pa) ++ qu := rfl
  obtain ⟨r, hr⟩ : ∃ r, r = Ur.text ⟨q, sc, ho, p, pa, qu⟩ := ⟨_, rfl⟩
  obtain ⟨I, hI⟩ : ∃ I : ByteArray, I = ⟨(Lib.itoa p).toArray⟩ := ⟨_, rfl⟩
  have hIs : I.size ≤ 21 := by rw [hI, mk_size']; exact Lib.itoa_length_le p h5 h6
  rw [← hr, ← hI] at ht
  rw [← hr]
  have hbB := below_alloc' w (.cells #[.bool q, .string sc, .string ho, .int .i64 p, .string pa, .string qu] 23)
  have hw1 := heap_alloc_new w (.cells #[.bool q, .string sc, .string ho, .int .i64 p, .string pa, .string qu] 23)
  have c29 := Tryz.strconv_Itoa p h5 h6 _ (hg.below hbB).tab
  rw [← hI] at c29
  obtain ⟨W, hW⟩ : ∃ W, W = w.alloc (.cells #[.bool q, .string sc, .string ho, .int .i64 p, .string pa, .string qu] 23) := ⟨_, rfl⟩
  rw [← hW] at c29
  have c29' : Calls Tryz.prog 29 #[.int .i64 p] W fun e w' => e = .returned (.string I) ∧ Below W.heap.size W w' := c29.mono fun e w' h => ⟨h.1, by obtain ⟨k, os, rfl⟩ := h.2; exact Lib.below_grow _ _ (Nat.le_refl _) k os⟩
  have HT := Lib.hid ht
  have C29 := Lib.hid c29'
  have HW := Lib.hid hW
  clear ht c29 c29' hI hr hg
  cases q
  · by_cases hp : p = 0
    · subst hp
      have HF := Lib.hid (show r = (((sc ++ (⟨#[58, 47, 47]⟩ : ByteArray)) ++ ho) ++ pa) ++ qu by rw [HT.out]; rfl)
      clear hbB hw1 hW
      go_enter Tryz.func17, Tryz.ntmps17
      go_wp2_with fail
      go_ret
      exact ⟨ret_str HF.out.symm, below_alloc' _ _⟩
    · have hpn : (p != 0) = true := by simp [hp]
      have HF := Lib.hid (show r = ((((sc ++ (⟨#[58, 47, 47]⟩ : ByteArray)) ++ ho) ++ ((⟨#[58]⟩ : ByteArray) ++ I)) ++ pa) ++ qu by rw [HT.out, if_neg (by simp), if_neg hp])
      have HBB := Lib.hid hbB
      have HW1 := Lib.hid hw1
      clear hbB hw1 hW hp
      go_enter Tryz.func17, Tryz.ntmps17
      go_wp2_with fail
      rw [← HW.out]
      with_reducible refine C29.out.mono ?_
      rintro e w1 ⟨rfl, hb1⟩
      have hbx := HW1.out
      rw [← HW.out] at hbx
      have hb2 := (hb1.block w.heap.size (Array.getElem?_eq_some_iff.1 hbx).1).trans hbx
      have hc4 := cell_row hb2 4
      have hc5 := cell_row hb2 5
      simp at hc4 hc5
      have HBF := Lib.hid (HBB.out.trans (by rw [← HW.out]; exact hb1.mono (by rw [HW.out]; simp)))
      clear hb1 hbx hb2
      go_wp2_with fail
      go_ret
      exact ⟨ret_str HF.out.symm, HBF.out⟩
  · have HF := Lib.hid (show r = (sc ++ (⟨#[58]⟩ : ByteArray)) ++ pa by rw [HT.out]; rfl)
    clear hbB hw1 hW
    go_enter Tryz.func17, Tryz.ntmps17
    go_wp2_with fail
    go_ret
    exact ⟨ret_str HF.out.symm, below_alloc' _ _⟩
end Go.Proofs.YtajokmcdhhiahaaGreatDoor
