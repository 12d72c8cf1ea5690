/- allow's small functions over a list of one kept word's source. -/
import Derived.Test.YtajokmcdhhiahaaGreatDoorSC
import Derived.Test.YtajokmcdhhiahaaGreatDoorMA
namespace Go.Proofs.YtajokmcdhhiahaaGreatDoor
open Go.RowKit
set_option maxRecDepth 100000

def Ret (b : Bool) (w : World) (e : Ending) (w' : World) : Prop := e = .returned (.bool b) ∧ Below w.heap.size w w'
/-- has' inner question. -/
theorem has11_any (K k : Int) (B : Nat) (w : World) (hB : w.cell? ⟨B, 0, none⟩ = some (.int .i64 k)) : Calls Tryz.prog 106 #[src K, .pointer (some ⟨B, 0, none⟩)] w (Ret (K == k) w) := by
  unfold src
  have hA := ((below_alloc' w (.cells #[.int .i64 K, .string ⟨#[]⟩, .string ⟨#[]⟩, .string ⟨#[]⟩, .bool false, .int .i64 0, .string ⟨#[]⟩] 130)).cell (p := ⟨B, 0, none⟩) (World.block_lt_of_cell? w _ hB)).trans hB
  clear hB
  go_enter Tryz.func106, Tryz.ntmps106
  go_wp2_with fail
  go_ret
  exact ⟨rfl, below_alloc' _ _⟩
/-- text's inner question: of another kind. -/
theorem text1_any (K k : Int) (hk : (K == k) = false) (B C : Nat) (t : ByteArray) (w : World) (hB : w.cell? ⟨B, 0, none⟩ = some (.int .i64 k)) (hC : w.cell? ⟨C, 0, none⟩ = some (.string t)) :
    Calls Tryz.prog 121 #[src K, .pointer (some ⟨B, 0, none⟩), .pointer (some ⟨C, 0, none⟩)] w (Ret false w) := by
  unfold src
  have hA := ((below_alloc' w (.cells #[.int .i64 K, .string ⟨#[]⟩, .string ⟨#[]⟩, .string ⟨#[]⟩, .bool false, .int .i64 0, .string ⟨#[]⟩] 130)).cell (p := ⟨B, 0, none⟩) (World.block_lt_of_cell? w _ hB)).trans hB
  have hA2 := ((below_alloc' w (.cells #[.int .i64 K, .string ⟨#[]⟩, .string ⟨#[]⟩, .string ⟨#[]⟩, .bool false, .int .i64 0, .string ⟨#[]⟩] 130)).cell (p := ⟨C, 0, none⟩) (World.block_lt_of_cell? w _ hC)).trans hC
  clear hB hC
  go_enter Tryz.func121, Tryz.ntmps121
  go_wp2_with fail
  go_ret
  exact ⟨rfl, below_alloc' _ _⟩
set_option maxHeartbeats 4000000 in
/-- some, of a list of one source. -/
theorem some1_any (g : FuncId) (hg : g = 106 ∨ g = 121 ∨ g = 107) (lb : Array Value) (p : Bool) (K : Int) (v : Value) (w : World) (hv : SrcV w v K)
    (hp : ∀ W, Below w.heap.size w W → Calls Tryz.prog g (#[src K] ++ lb) W (Ret p W)) :
    Calls Tryz.prog 105 #[v, .func (.func g) #[] lb] w (Ret p w) := by
  obtain ⟨b, c, rfl, h1, h2, h3⟩ := hv.is
  have y0 := h3 0 _ rfl
  have y1 := h3 1 _ rfl
  have y2 := h3 2 _ rfl
  have y3 := h3 3 _ rfl
  have y4 := h3 4 _ rfl
  have y5 := h3 5 _ rfl
  have y6 := h3 6 _ rfl
  have hbA := below_alloc' w (.cells #[.int .i64 K, .string ⟨#[]⟩, .string ⟨#[]⟩, .string ⟨#[]⟩, .bool false, .int .i64 0, .string ⟨#[]⟩] 130)
  have hpA := hp _ hbA
  unfold src at hpA
  have HP := Lib.hid hpA
  have HB := Lib.hid hbA
  clear hp hv h3 hpA hbA
  rcases hg with rfl | rfl | rfl
  all_goals
    go_enter Tryz.func105, Tryz.ntmps105
    go_wp2_with fail
    go_loopg [9] 1 (fun gk n wr => (gk = 1 ∧ n = .int .i64 0 ∧ wr = w) ∨ (gk = 0 ∧ n = .int .i64 1 ∧ p = false ∧ Hid (Below w.heap.size w wr)))
    case atStart => exact Or.inl ⟨rfl, rfl, rfl⟩
    case round =>
      rcases hrel with ⟨hgk, rfl, hw⟩ | ⟨hgk, rfl, hpf, HBW⟩
      · obtain rfl : w = wr := hw.symm
        have HGK := Lib.hid hgk
        clear hw hgk
        go_wp2_with fail
        refine HP.out.mono ?_
        rintro e w1 ⟨rfl, hb1⟩
        have HB1 := Lib.hid (nx HB.out hb1)
        cases p
        · go_wp2_with fail
          go_roundg 0
          case measure => have := HGK.out; omega
          case rel => exact Or.inr ⟨by trivial, by go_num, by trivial, HB1.out⟩
        · go_wp2_with fail
          go_ret
          exact ⟨rfl, HB1.out⟩
      · subst hpf
        go_wp2_with fail
        go_ret
        exact ⟨rfl, HBW.out⟩
end Go.Proofs.YtajokmcdhhiahaaGreatDoor
