import Derived.Test.YtajokmcdhhiahaaGreatDoorFoldC
namespace Go.Proofs.YtajokmcdhhiahaaGreatDoor
open Go.RowKit

theorem trim_cut (l : List UInt8) (k t : Nat) (h : k ≤ t) (ht : t ≤ l.length) (h1 : ∀ (j : Nat) b, j < k → l[j]? = some b → Fo.bl b = true) (h2 : ∀ (j : Nat) b, t ≤ j → l[j]? = some b → Fo.bl b = true)
    (h3 : k < t → (∀ b, l[k]? = some b → Fo.bl b = false) ∧ ∀ b, l[t - 1]? = some b → Fo.bl b = false) : Fo.trim l = (l.take t).drop k := by
  unfold Fo.trim Lib.trimS
  rcases Nat.lt_or_ge k t with hkt | hkt
  · rw [Lib.trimRightS_take l Fo.cut t ht (fun j b hj hb => by rw [Fo.cut_bl]; exact h2 j b hj hb) (fun b _ hb => by rw [Fo.cut_bl]; exact (h3 hkt).2 b hb)]
    rw [Lib.trimLeftS_drop (l.take t) Fo.cut k (by rw [List.length_take]; omega) (fun j b hj hb => by
      rw [List.getElem?_take] at hb
      split at hb
      · rw [Fo.cut_bl]; exact h1 j b hj hb
      · cases hb) (fun b hb => by
      rw [List.getElem?_take, if_pos hkt] at hb
      rw [Fo.cut_bl]; exact (h3 hkt).1 b hb)]
  · obtain rfl : k = t := by omega
    rw [Lib.trimRightS_take l Fo.cut 0 (Nat.zero_le _) (fun j b _ hb => by
      rw [Fo.cut_bl]
      rcases Nat.lt_or_ge j k with h | h
      · exact h1 j b h hb
      · exact h2 j b h hb) (fun b h0 => absurd h0 (by omega))]
    rw [List.take_zero, List.drop_eq_nil_of_le (by rw [List.length_take]; omega)]
    rfl
theorem slice_data (s : ByteArray) (a b : Nat) : (s.extract a b).data.toList = (s.data.toList.take b).drop a := Fo.extract_piece s a b

end Go.Proofs.YtajokmcdhhiahaaGreatDoor
