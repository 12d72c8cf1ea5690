import Derived.Test.YtfhkjegmhnpgeaaDoorJ
import Derived.Lib.SlBytesConst
namespace Go.Proofs.YtfhkjegmhnpgeaaDoor
open Go.RowKit

def True1 (w : World) (e : Ending) (w' : World) : Prop := e = .returned (.bool true) ∧ Below w.heap.size w w'
theorem text_lit (w : World) (p : List Int) (r : Option (List UInt8)) (h : txt p = r) (hn : p.length ≤ 100000) :
    Calls Tryd.prog 16 #[.slice (some ⟨w.heap.size, 0, none⟩) p.length p.length] (w.alloc (.cells (ic p).toArray 3)) (OutTxt r w) := by
  subst h
  have hr := Row.lit w (ic p) 3
  rw [ic_length] at hr
  exact (text_any _ _ p.length p _ hr hn).mono fun e w' ⟨he, hb⟩ => ⟨he, (below_alloc' w _).trans (hb.mono (by simp))⟩
theorem BytesIn.litf (w : World) (l : List UInt8) (fr : Nat × Nat) : BytesIn (w.alloc (.cells (Lib.byteCells l).toArray 5 fr)) (some ⟨w.heap.size, 0, .none⟩) l.length l :=
  ⟨rfl, fun _ => ⟨_, _, rfl, by simp, fun j u hj => by
    rw [Nat.zero_add, cell_of_row _ w.heap.size j _ 5 fr (heap_alloc_new w _)]
    simpa using hj⟩⟩
theorem dec_lit (w : World) (hT : T w) (l r : List UInt8) (fr : Nat × Nat) (h : Ut.dec l = r) (hn : l.length ≤ 1000000) :
    Calls Tryd.prog 10 #[.slice (some ⟨w.heap.size, 0, none⟩) l.length l.length] (w.alloc (.cells (Lib.byteCells l).toArray 5 fr)) fun e w' => e = .returned (.string ⟨r.toArray⟩) ∧ Below w.heap.size w w' := by
  subst h
  exact (dec_any _ _ l.length l _ (T.below hT (below_alloc' w _)) (BytesIn.litf w l fr) (Nat.le_refl _) hn).mono fun e w' ⟨he, hb⟩ => ⟨he, (below_alloc' w _).trans (hb.mono (by simp))⟩

set_option maxRecDepth 100000 in
set_option maxHeartbeats 1000000 in
theorem decodes_any (w : World) (hT : T w) : Calls Tryd.prog 11 #[] w (True1 w) := by
  go_enter Tryd.func11, Tryd.ntmps11
  go_wp2_with fail
  refine (text_lit w [65533, 97] _ lit_t (by decide)).mono ?_
  rintro e w1 ⟨rfl, hb1⟩
  have hT1 := T.below hT hb1
  go_wp2_with fail
  refine (text_lit w1 [55296] _ lit_u (by decide)).mono ?_
  rintro e w2 ⟨rfl, hb2⟩
  have hT2 := T.below hT1 hb2
  have hcva := Lib.run_convert_bytes_const (P := Tryd.prog) w2 22 5 #[.int .u8 97, .int .u8 195, .int .u8 164] 3 3 Tryd.underlying22 Tryd.underlying5
  go_wp2_with fail
  refine (dec_lit w2 hT2 [97, 195, 164] _ _ lit_a (by decide)).mono ?_
  rintro e w3 ⟨rfl, hb3⟩
  have hT3 := T.below hT2 hb3
  have hcvb := Lib.run_convert_bytes_const (P := Tryd.prog) w3 22 5 #[.int .u8 195, .int .u8 97] 2 2 Tryd.underlying22 Tryd.underlying5
  go_wp2_with fail
  refine (dec_lit w3 hT3 [195, 97] _ _ lit_b (by decide)).mono ?_
  rintro e w4 ⟨rfl, hb4⟩
  have hT4 := T.below hT3 hb4
  have hcvc := Lib.run_convert_bytes_const (P := Tryd.prog) w4 22 5 #[.int .u8 237, .int .u8 160, .int .u8 128] 3 3 Tryd.underlying22 Tryd.underlying5
  go_wp2_with fail
  refine (dec_lit w4 hT4 [237, 160, 128] _ _ lit_c (by decide)).mono ?_
  rintro e w5 ⟨rfl, hb5⟩
  go_wp2_with fail
  refine (points_any ⟨#[97, 195, 164]⟩ w5 (by decide)).mono ?_
  rw [show (⟨#[97, 195, 164]⟩ : ByteArray).data.toList = [97, 195, 164] from rfl, lit_p]
  rintro e w6 ⟨A, c, rfl, hc, hr, hb6⟩
  go_wp2_with fail
  refine (ints_any A _ _ 2 c 2 (zs [97, 228]) [97, 228] _ (hr.below (below_alloc' w6 _)) (Row.lit w6 (ic [97, 228]) 3) (by decide) (by decide)).mono ?_
  rintro e w7 ⟨rfl, hb7⟩
  go_wp2
  go_ret
  exact ⟨rfl, nx (nx (nx (nx (nx (nx hb1 hb2) hb3) hb4) hb5) hb6) ((below_alloc' w6 _).trans (hb7.mono (by simp)))⟩
end Go.Proofs.YtfhkjegmhnpgeaaDoor
