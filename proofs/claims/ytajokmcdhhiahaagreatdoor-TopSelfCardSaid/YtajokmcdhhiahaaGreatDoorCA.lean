/- chain's Names, Effective. -/
import Derived.Test.YtajokmcdhhiahaaGreatDoorAC
namespace Go.Proofs.YtajokmcdhhiahaaGreatDoor
open Go.RowKit
set_option maxRecDepth 100000

def namesL : List ByteArray := [⟨#[115, 99, 114, 105, 112, 116, 45, 115, 114, 99, 45, 101, 108, 101, 109]⟩, ⟨#[115, 99, 114, 105, 112, 116, 45, 115, 114, 99]⟩, ⟨#[100, 101, 102, 97, 117, 108, 116, 45, 115, 114, 99]⟩]
theorem names_any (K : Int) (hK : K = 1 ∨ K = 2) (w : World) : Calls Tryz.prog 73 #[.int .i64 K] w (OutTexts namesL w) := by
  rcases hK with rfl | rfl
  all_goals
    go_enter Tryz.func73, Tryz.ntmps73
    go_wp2_with (at_builtin; first | (refine wpList_append_any_texts rfl (.tmp 17) (.tmp 18) rfl _ w w.heap.size _ 0 [] [⟨#[115, 99, 114, 105, 112, 116, 45, 115, 114, 99, 45, 101, 108, 101, 109]⟩] (some ⟨w.heap.size, 0, none⟩) 1 1 rfl rfl (World.ownsRow_nil _ _ _ _) (Texts.lit w [⟨#[115, 99, 114, 105, 112, 116, 45, 115, 114, 99, 45, 101, 108, 101, 109]⟩]) (fun e => by cases e) (below_alloc' w _) (by simp) (by omega) ?_; intro v1 w1 hown1 hb1) | (refine wpList_append_any_texts rfl (.tmp 20) (.tmp 21) rfl _ w w.heap.size _ 1 [⟨#[115, 99, 114, 105, 112, 116, 45, 115, 114, 99, 45, 101, 108, 101, 109]⟩] [⟨#[115, 99, 114, 105, 112, 116, 45, 115, 114, 99]⟩, ⟨#[100, 101, 102, 97, 117, 108, 116, 45, 115, 114, 99]⟩] (some ⟨w1.heap.size, 0, none⟩) 2 2 rfl rfl (World.ownsRow.alloc hown1 _) (Texts.lit w1 [⟨#[115, 99, 114, 105, 112, 116, 45, 115, 114, 99]⟩, ⟨#[100, 101, 102, 97, 117, 108, 116, 45, 115, 114, 99]⟩]) (fun e => by cases e) (hb1.alloc hb1.size _) (by have := hb1.size; simp; omega) (by omega) ?_; intro v2 w2 hown2 hb2))
    go_ret
    obtain ⟨A, c, rfl, h1, h2⟩ := own_form hown2
    exact ⟨A, c, rfl, h1, h2, Texts.of_own hown2, hb2⟩
end Go.Proofs.YtajokmcdhhiahaaGreatDoor
