/- The table of names; Encode. -/
import Derived.Test.YtbhnfnbnngclmaaGreatDoorFoldB
import Derived.Test.YtbhnfnbnngclmaaGreatDoorWrite
import Derived.Test.YtbhnfnbnngclmaaGreatDoorWByte
import Derived.Test.YtbhnfnbnngclmaaGreatDoorEscPlain
namespace Go.Proofs.YtbhnfnbnngclmaaGreatDoor
open Go.RowKit
set_option maxRecDepth 100000

/-- The ten names, and what they stand for. -/
def nms : List (ByteArray × ByteArray) := [(⟨#[97, 109, 112]⟩, ⟨#[38]⟩), (⟨#[108, 116]⟩, ⟨#[60]⟩), (⟨#[103, 116]⟩, ⟨#[62]⟩), (⟨#[113, 117, 111, 116]⟩, ⟨#[34]⟩), (⟨#[97, 112, 111, 115]⟩, ⟨#[39]⟩), (⟨#[110, 98, 115, 112]⟩, ⟨#[194, 160]⟩), (⟨#[99, 111, 108, 111, 110]⟩, ⟨#[58]⟩), (⟨#[108, 112, 97, 114]⟩, ⟨#[40]⟩), (⟨#[114, 112, 97, 114]⟩, ⟨#[41]⟩), (⟨#[116, 97, 98]⟩, ⟨#[9]⟩)]
/-- What the walks read of the package-level variables. -/
structure GN (w : World) : Prop where
  ml : ∃ m, w.cell? ⟨1, 0, none⟩ = some (.int .i64 m)
  key : ∀ i (h : i < nms.length), w.cell? ⟨0, i * 2, none⟩ = some (.string nms[i].1)
  val : ∀ i (h : i < nms.length), w.cell? ⟨0, i * 2 + 1, none⟩ = some (.string nms[i].2)
theorem GN.one {w : World} (h : GN w) : 1 < w.heap.size := by obtain ⟨m, hm⟩ := h.ml; exact World.block_lt_of_cell? w _ hm
theorem GN.below {w w' : World} (h : GN w) (hb : Below w.heap.size w w') : GN w' := by
  have h1 := h.one
  obtain ⟨m, hm⟩ := h.ml
  exact ⟨⟨m, (hb.cell (p := ⟨1, 0, none⟩) h1).trans hm⟩, fun i hi => (hb.cell (p := ⟨0, i * 2, none⟩) (by show 0 < _; omega)).trans (h.key i hi),
    fun i hi => (hb.cell (p := ⟨0, i * 2 + 1, none⟩) (by show 0 < _; omega)).trans (h.val i hi)⟩
def nsg : List UInt8 := [38, 60, 62, 34, 39]
theorem esc_at (k : Nat) (hk : k < 5) : En.esc nsg[k] = 38 :: ((nms[k]'(by have : nms.length = 10 := rfl; omega)).1.data.toList ++ [59]) := by
  rcases (show k = 0 ∨ k = 1 ∨ k = 2 ∨ k = 3 ∨ k = 4 by omega) with rfl | rfl | rfl | rfl | rfl <;> rfl
theorem esc_none (c : UInt8) (h : ∀ k (hk : k < 5), c ≠ nsg[k]) : En.esc c = [c] := by
  have h0 := h 0 (by omega); have h1 := h 1 (by omega); have h2 := h 2 (by omega); have h3 := h 3 (by omega); have h4 := h 4 (by omega)
  unfold En.esc En.odd
  simp only [nsg, List.getElem_cons_zero, List.getElem_cons_succ] at h0 h1 h2 h3 h4
  simp [h0, h1, h2, h3, h4]
theorem val_at (k : Nat) (hk : k < 5) : (nms[k]'(by have : nms.length = 10 := rfl; omega)).2 = ⟨#[nsg[k]]⟩ := by
  rcases (show k = 0 ∨ k = 1 ∨ k = 2 ∨ k = 3 ∨ k = 4 by omega) with rfl | rfl | rfl | rfl | rfl <;> rfl
theorem key_le (k : Nat) (hk : k < nms.length) : nms[k].1.size ≤ 5 := by
  have : ∀ x ∈ nms, x.1.size ≤ 5 := by decide
  exact this _ (List.getElem_mem hk)
theorem val_le (k : Nat) (hk : k < nms.length) : nms[k].2.size ≤ 5 := by
  have : ∀ x ∈ nms, x.2.size ≤ 5 := by decide
  exact this _ (List.getElem_mem hk)
theorem own_below' {B : Nat} {e : TypeId} {k : Nat} {v : Value} {n : Nat} {xs : List Value} {w w' : World} (h : w.ownsRow B e k v n xs) (hb : Below w.heap.size w w') : w'.ownsRow B e k v n xs :=
  h.kept (row := none) ⟨hb.os, hb.tape, hb.output, hb.size, fun j hj _ => hb.block j hj⟩ (by cases hv : v.ownBlock <;> simp)
theorem builderAt_below {T e : TypeId} {B b : Nat} {p : Value} {bs : List Value} {w w' : World} (h : Lib.BuilderAt T e B b p bs w) (hb : Below w.heap.size w w') : Lib.BuilderAt T e B b p bs w' := by
  have hlt := h.lt
  obtain ⟨hB, v, hv, ho, hn⟩ := h
  exact ⟨hB, v, (hb.block b hlt).trans hv, own_below' ho hb, hn⟩
theorem builder_below {T e : TypeId} {B b : Nat} {bs : List Value} {w w' : World} (h : Lib.IsBuilder T e B b bs w) (hb : Below w.heap.size w w') : Lib.IsBuilder T e B b bs w' :=
  h.elim (fun h => .inl (builderAt_below h hb)) (fun h => .inr (builderAt_below h hb))
theorem below_alloc_drewN (w : World) (o : Obj) (n : Nat) : Below w.heap.size w ((w.alloc o).drewN n) := nx (below_alloc' w o) (below_drewN' _ n)
theorem ext_one (s : ByteArray) (j : Nat) (h : j < s.size) : (s.extract j (j + 1)).toList = [s[j]] := by
  rw [Lib.toList_data, Lib.extract_data, show j + 1 - j = 1 by omega, List.drop_eq_getElem_cons (by rw [size_len]; exact h)]
  rfl
theorem mk_toList (c : UInt8) : (⟨#[c]⟩ : ByteArray).toList = [c] := by rw [Lib.toList_data]
theorem enc_take (s : ByteArray) (j : Nat) (h : j < s.size) : En.enc (s.data.toList.take (j + 1)) = En.enc (s.data.toList.take j) ++ En.esc s[j] := by
  rw [take_snoc s j h, En.enc_append]
  congr 1
  rw [En.enc_cons, En.enc_nil, List.append_nil]
theorem enc_take_le (s : ByteArray) (j : Nat) : (En.enc (s.data.toList.take j)).length ≤ 6 * s.size := by
  have h1 := En.enc_le (s.data.toList.take j)
  have h2 : (s.data.toList.take j).length ≤ s.size := by rw [List.length_take, size_len]; omega
  omega
set_option maxHeartbeats 4000000 in
theorem encode_any (s : ByteArray) (hs : s.size ≤ 1000000) (w : World) (hg : GN w) : Calls Tryz.prog 5 #[.string s] w fun e w' => e = .returned (.string ⟨(En.enc s.data.toList).toArray⟩) ∧ Below w.heap.size w w' := by
  have HG := Lib.hid hg
  clear hg
  go_enter Tryz.func5, Tryz.ntmps5
  go_wp2_with fail
  go_step3
  go_wp2_with fail
  go_step3
  go_wp2_with fail
  go_loopg [9] s.size (fun gk i wr => ∃ j : Nat, j + gk = s.size ∧ i = .int .i64 j ∧ Lib.IsBuilder 43 5 w.heap.size w.heap.size (Lib.byteCells (En.enc (s.data.toList.take j))) wr ∧ Below w.heap.size w wr)
  case atStart => exact ⟨0, by omega, rfl, Lib.fresh_isBuilder 43 5 w, below_alloc' w _⟩
  case round =>
    obtain ⟨j, hj, rfl, hI, hbw⟩ := hrel
    have HJ := Lib.hid hj
    have HI := Lib.hid hI
    have HBW := Lib.hid hbw
    clear hj hI hbw
    by_cases hlt : j < s.size
    · obtain ⟨c, hc⟩ : ∃ c, c = s[j]'hlt := ⟨_, rfl⟩
      have HC := Lib.hid hc
      clear hc
      go_wp2_with fail
      go_loopg [14] 5 (fun gq q wq => ∃ k : Nat, k + gq = 5 ∧ q = .int .i64 k ∧ Hid (∀ m (hm : m < 5), m < k → c ≠ nsg[m]) ∧ Hid (Lib.IsBuilder 43 5 w.heap.size w.heap.size (Lib.byteCells (En.enc (s.data.toList.take j))) wq) ∧ Hid (Below w.heap.size w wq))
      case atStart => exact ⟨0, by omega, rfl, fun m _ hm => absurd hm (by omega), HI.out, HBW.out⟩
      case round =>
        obtain ⟨k, hk, rfl, HN, HIQ, HBQ⟩ := hrel
        have HK := Lib.hid hk
        clear hk
        by_cases hk5 : k < 5
        · have hkl : k < nms.length := by have : nms.length = 10 := rfl; omega
          have y0 := (HG.out.below HBQ.out).key k hkl
          have y1 := (HG.out.below HBQ.out).val k hkl
          obtain ⟨n0, hn0⟩ : ∃ n, n = nms[k].1 := ⟨_, rfl⟩
          obtain ⟨n1, hn1⟩ : ∃ n, n = nms[k].2 := ⟨_, rfl⟩
          rw [← hn0] at y0
          rw [← hn1] at y1
          have HN0 := Lib.hid hn0
          have HN1 := Lib.hid hn1
          clear hn0 hn1
          have b0 : (0 : Int) ≤ (j : Int) := by omega
          have b1 : (j : Int) + 1 ≤ (s.size : Int) := by omega
          have b2 : (j : Int) ≤ (j : Int) + 1 := by omega
          have hks := key_le k hkl
          rw [← HN0.out] at hks
          have hx : (s.extract j (j + 1)).toList = [c] := by rw [ext_one s j hlt, HC.out]
          have hv : n1.toList = [nsg[k]'hk5] := by rw [HN1.out, val_at k hk5, mk_toList]
          have hle := enc_take_le s j
          by_cases hcn : c = nsg[k]'hk5
          · have he : ((s.extract j (j + 1)).toList == n1.toList) = true := by rw [hx, hv, hcn]; simp
            have HE : Hid (En.esc c = ((⟨#[38]⟩ : ByteArray) ++ n0 ++ (⟨#[59]⟩ : ByteArray)).data.toList) := by
              show _ = _
              rw [hcn, esc_at k hk5, HN0.out]
              simp
            have HLE := Lib.hid hle
            clear hcn hx hv hle
            go_wp2_with fail
            go_quiet (fail)
            go_wp2_with fail
            with_reducible refine (writeString_any w.heap.size w.heap.size _ _ _ (builder_below HIQ.out (below_alloc_drewN _ _ _)) ?_ ?_).mono ?_
            · have := HLE.out
              simp only [ByteArray.size_append]
              show _ + (1 + n0.size + 1) ≤ _
              omega
            · have := HBQ.out.size
              have := (below_alloc' wr (.cells #[.string n0, .string n1] 45)).size
              exact Nat.le_trans HBQ.out.size this
            · rintro e w1 ⟨rfl, hI1, hb1⟩
              go_wp2_with fail
              go_roundg (s.size - j - 1)
              case measure => have := HJ.out; omega
              case rel =>
                refine ⟨j + 1, by omega, by go_num, ?_, ?_⟩
                · rw [enc_take s j hlt, ← HC.out, HE.out]
                  exact hI1
                · exact (HBQ.out.trans ((below_alloc_drewN _ _ _).mono HBQ.out.size)).trans hb1
          · have he : ((s.extract j (j + 1)).toList == n1.toList) = false := by rw [hx, hv]; simpa using hcn
            have HCN := Lib.hid hcn
            clear hcn hx hv hle
            go_wp2_with fail
            go_quiet (fail)
            go_wp2_with fail
            go_roundg (gk - 1)
            case measure => have := HK.out; omega
            case rel =>
              have := HK.out
              refine ⟨k + 1, by omega, by go_num, fun m hm hmk => ?_, builder_below HIQ.out (below_alloc_drewN _ _ _), HBQ.out.trans ((below_alloc_drewN _ _ _).mono HBQ.out.size)⟩
              rcases (show m < k ∨ m = k by omega) with h | rfl
              · exact HN.out m hm h
              · exact HCN.out
        · have hle := enc_take_le s j
          have HE : Hid (En.esc c = [c]) := esc_none c fun m hm => HN.out m hm (by omega)
          have HLE := Lib.hid hle
          clear hle
          go_wp2_with fail
          with_reducible refine (writeByte_any w.heap.size w.heap.size _ _ _ HIQ.out (by have := HLE.out; omega) HBQ.out.size).mono ?_
          rintro e w1 ⟨rfl, hI1, hb1⟩
          go_wp2_with fail
          go_roundg (s.size - j - 1)
          case measure => have := HJ.out; omega
          case rel =>
            refine ⟨j + 1, by omega, by go_num, ?_, HBQ.out.trans hb1⟩
            rw [enc_take s j hlt, ← HC.out, HE.out, HC.out]
            exact hI1
    · have hjs : j = s.size := by have := HJ.out; omega
      have hI := HI.out
      rw [hjs, take_all] at hI
      have HI2 := Lib.hid hI
      clear hjs hI
      go_wp2_with fail
      with_reducible refine (Tryz.Builder_String_any w.heap.size w.heap.size _ _ HI2.out HBW.out.size).mono ?_
      rintro e w1 ⟨rfl, hb1⟩
      go_wp2_with fail
      try rw [Exit.noGoto_ret]
      go_ret
      exact ⟨rfl, HBW.out.trans hb1⟩
end Go.Proofs.YtbhnfnbnngclmaaGreatDoor
