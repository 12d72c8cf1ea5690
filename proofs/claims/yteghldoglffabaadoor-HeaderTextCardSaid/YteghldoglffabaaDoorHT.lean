/- The laws HeaderParses and HeaderJoins. -/
import Derived.Test.YteghldoglffabaaDoorHS
namespace Go.Proofs.YteghldoglffabaaDoor
open Go.RowKit Go.Shelf

def pols (r : Bool) (pss : List (List (ByteArray × List ByteArray))) : List PolB := pss.map fun d => (d, r)
theorem parseB_wide (s : List UInt8) (h : s.length ≤ 9000000) (ds : List (ByteArray × List ByteArray)) (hd : ds ∈ parseB s) : ds.length ≤ 9000001 ∧ ∀ d ∈ ds, d.2.length ≤ 200 := by
  have h1 := List.mem_of_mem_take hd
  obtain ⟨h2, _⟩ := List.mem_filter.1 h1
  obtain ⟨p, hp, rfl⟩ := List.mem_map.1 h2
  have h3 := parts_le 44 s p hp
  refine ⟨?_, fun d hd => ?_⟩
  · have h4 := addAll_length (dirsB p) []
    have h5 := dirsB_length p
    unfold polB
    simp at h4
    omega
  · rcases addAll_mem _ [] d hd with h | h
    · cases h
    · exact (dirsB_mem p d h).2
theorem wide_sub (s : List UInt8) (h : s.length ≤ 9000000) (r : Bool) (l : List (List (ByteArray × List ByteArray))) (hl : ∀ ds ∈ l, ds ∈ parseB s) (hn : l.length ≤ 100) : Wide (pols r l) := by
  refine ⟨by unfold pols; rw [List.length_map]; omega, fun p hp => ?_⟩
  obtain ⟨ds, hds, rfl⟩ := List.mem_map.1 hp
  have := parseB_wide s h ds (hl ds hds)
  exact ⟨by show ds.length ≤ _; omega, fun d hd => by have := this.2 d hd; omega⟩
theorem wide_parse (s : List UInt8) (h : s.length ≤ 9000000) (r : Bool) : Wide (pols r (parseB s)) := wide_sub s h r _ (fun _ h => h) (by have := parseB_length s; omega)
/-- All at policies that are the same. -/
theorem allp_same (v1 v2 : Value) (p : List PolB) (w : World) (h1 : PolsV w v1 p) (h2 : PolsV w v2 p) (hw : Wide p) : Calls Tryd.prog 10 #[v1, v2] w (True1 w) :=
  (allp_any v1 v2 p p w h1 h2 hw hw).mono fun e w' ⟨he, hb⟩ => ⟨by rw [he]; simp, hb⟩

set_option maxHeartbeats 1000000 in
theorem law_parses_any (s : ByteArray) (r : Bool) (w : World) (hs : s.size ≤ 9223372036854775807) : Calls Tryd.prog 3 #[.string s, .bool r] w (True1 w) := by
  by_cases h1 : 6000 < s.size
  · go_enter Tryd.func3, Tryd.ntmps3
    go_wp2
    go_ret
    exact ⟨rfl, Below.refl _ _⟩
  have hsl := size_len s
  have hw := wide_parse s.data.toList (by omega) r
  have c11 := fun w' => parse_any s r w' (by omega)
  have c12 := fun w' => ref_parse_any s r w' (by omega)
  have C11 := Lib.hid c11
  have C12 := Lib.hid c12
  have HW := Lib.hid hw
  clear c11 c12 hw hsl
  go_enter Tryd.func3, Tryd.ntmps3
  go_wp2_with fail
  refine (reads_any _).mono ?_
  rintro e w1 ⟨rfl, hb1⟩
  go_wp2_with fail
  refine (C11.out _).mono ?_
  rintro e w2 ⟨v2, rfl, h2, hb2⟩
  go_wp2_with fail
  refine (C12.out _).mono ?_
  rintro e w3 ⟨v3, rfl, h3, hb3⟩
  have c10 := allp_same v2 v3 _ w3 (h2.toV.below hb3) h3.toV HW.out
  have C10 := Lib.hid c10
  clear c10
  go_wp2_with fail
  refine C10.out.mono ?_
  rintro e w4 ⟨rfl, hb4⟩
  go_wp2
  go_ret
  exact ⟨rfl, nx (nx (nx hb1 hb2) hb3) hb4⟩
end Go.Proofs.YteghldoglffabaaDoor
