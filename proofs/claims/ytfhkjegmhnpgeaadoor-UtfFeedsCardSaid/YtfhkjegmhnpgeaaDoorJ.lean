import Derived.Test.YtfhkjegmhnpgeaaDoorI
namespace Go.Proofs.YtfhkjegmhnpgeaaDoor
open Go.RowKit

theorem Row.lit (w : World) (vs : List Value) (T : TypeId) : Row (w.alloc (.cells vs.toArray T)) (some ⟨w.heap.size, 0, none⟩) vs.length vs :=
  ⟨rfl, fun _ => ⟨_, rfl, by simp, fun j u hj => cells_new w _ T j u (by simpa using hj)⟩⟩
theorem BytesIn.lit (w : World) (l : List UInt8) : BytesIn (w.alloc (.cells (Lib.byteCells l).toArray 5)) (some ⟨w.heap.size, 0, .none⟩) l.length l :=
  ⟨rfl, fun _ => ⟨_, _, rfl, by simp, fun j u hj => by
    have := cells_new w (Lib.byteCells l).toArray 5 j u (by simpa using hj)
    rwa [add_at] at this⟩⟩
theorem lit_a : Ut.dec [97, 195, 164] = [97, 195, 164] := by
  have e : ([97, 195, 164] : List UInt8) = Ut.join [97, 228] := by decide +kernel
  rw [Ut.dec, e, Ut.pts_join_nil _ (by decide)]
theorem lit_p : Ut.pts [97, 195, 164] = [97, 228] := by
  have e : ([97, 195, 164] : List UInt8) = Ut.join [97, 228] := by decide +kernel
  rw [e, Ut.pts_join_nil _ (by decide)]
theorem lit_b : Ut.dec [195, 97] = [239, 191, 189, 97] := by
  rw [Ut.dec_cons _ (by decide), show Ut.dN [195, 97] = (65533, 1) by decide +kernel]
  show Ut.by_ 65533 ++ Ut.dec [97] = _
  rw [Ut.dec_cons _ (by decide), show Ut.dN [97] = (97, 1) by decide +kernel]
  show Ut.by_ 65533 ++ (Ut.by_ 97 ++ Ut.dec []) = _
  rw [Ut.dec_nil]
  decide +kernel
theorem lit_c : Ut.dec [237, 160, 128] = [239, 191, 189, 239, 191, 189, 239, 191, 189] := by
  rw [Ut.dec_cons _ (by decide), show Ut.dN [237, 160, 128] = (65533, 1) by decide +kernel]
  show Ut.by_ 65533 ++ Ut.dec [160, 128] = _
  rw [Ut.dec_cons _ (by decide), show Ut.dN [160, 128] = (65533, 1) by decide +kernel]
  show Ut.by_ 65533 ++ (Ut.by_ 65533 ++ Ut.dec [128]) = _
  rw [Ut.dec_cons _ (by decide), show Ut.dN [128] = (65533, 1) by decide +kernel]
  show Ut.by_ 65533 ++ (Ut.by_ 65533 ++ (Ut.by_ 65533 ++ Ut.dec [])) = _
  rw [Ut.dec_nil]
  decide +kernel
theorem lit_t : txt [65533, 97] = some [239, 191, 189, 97] := by decide +kernel
theorem lit_u : txt [55296] = none := by decide +kernel
end Go.Proofs.YtfhkjegmhnpgeaaDoor
