/- Makers: Index, Find, the reference's Find, Big, Same, Own. -/
import Derived.Test.YtpjakdekaolmeaaDoorRC
import Derived.Deep.AppendLies
namespace Go.Proofs.YtpjakdekaolmeaaDoor
open Go.RowKit Go.Shelf

theorem bcell' {B : Nat} {W W' : World} (hb : Below B W W') {b o : Nat} (h : b < B) : W'.cell? ⟨b, o, none⟩ = W.cell? ⟨b, o, none⟩ := hb.cell (p := ⟨b, o, none⟩) h
theorem below_drewR {B : Nat} {w w' : World} (h : Below B w w') : Below B w w'.drew := ⟨h.os, h.tape, h.output, h.size, h.block⟩
theorem carry {w w' : World} {b : Nat} {vs : Array Value} {T : TypeId} {fr : Nat × Nat} (h : w.heap[b]? = some (.cells vs T fr)) (hb : Below w.heap.size w w') : w'.heap[b]? = some (.cells vs T fr) :=
  (hb.block b (Array.getElem?_eq_some_iff.1 h).1).trans h
theorem Texts.row {w : World} {A : Option Addr} {n : Nat} {ss : List ByteArray} (h : Texts w A n ss) (hn : 0 < n) : ∃ b off, A = some ⟨b, off, none⟩ ∧ b < w.heap.size ∧ ∀ j (h : j < ss.length), w.cell? ⟨b, off + j, none⟩ = some (.string ss[j]) := by
  obtain ⟨ad, rfl, hlt, hc⟩ := h.2 hn
  obtain ⟨b, off, sp⟩ := ad
  have hsp := World.cell?_spot (hc 0 (by have := h.1; omega))
  simp [Addr.add] at hsp
  subst hsp
  exact ⟨b, off, rfl, hlt, fun j hj => by have := hc j hj; rwa [add_at] at this⟩
theorem findM_at {ms : List ByteArray} {n : ByteArray} (k : Nat) (hk : k < ms.length) (hn : ms[k] = n) (h : ∀ j (hj : j < ms.length), j < k → ms[j] ≠ n) : findM ms n = k := by
  induction ms generalizing k with
  | nil => simp at hk
  | cons a r ih =>
    unfold findM
    cases k with
    | zero => rw [if_pos (by simpa using hn)]; rfl
    | succ k =>
      have h0 := h 0 (by simp) (by omega)
      have := ih k (by simpa using hk) (by simpa using hn) (fun j hj hjk => by have := h (j + 1) (by simpa using hj) (by omega); rwa [List.getElem_cons_succ] at this)
      rw [if_neg (by simpa using h0), this, if_neg (by omega)]
      simp
theorem findM_no {ms : List ByteArray} {n : ByteArray} (h : ∀ j (hj : j < ms.length), ms[j] ≠ n) : findM ms n = -1 :=
  findM_neg ((findM_none ms n).2 fun hm => by obtain ⟨j, hj, e⟩ := List.getElem_of_mem hm; exact h j hj e)
theorem str_ne {x y : ByteArray} (h : x ≠ y) : (x.toList == y.toList) = false := by
  rw [beq_eq_false_iff_ne, Lib.toList_data, Lib.toList_data]
  exact fun e => h (ByteArray.ext (Array.toList_inj.1 e))
theorem str_eq {x y : ByteArray} (h : x = y) : (x.toList == y.toList) = true := by rw [h]; simp

set_option maxHeartbeats 2000000 in
theorem index_any (A : Option Addr) (N c : Nat) (ms : List ByteArray) (n : ByteArray) (w : World) (ht : Texts w A N ms) (hn : N ≤ 10000000) :
    Calls Tryd.prog 28 #[.slice A N c, .agg #[.string n]] w fun e w' => e = .returned (.int .i64 (findM ms n)) ∧ Below w.heap.size w w' := by
  have hl := ht.1
  have HT := Lib.hid ht
  have HL := Lib.hid hl
  clear ht hl
  go_enter Tryd.func28, Tryd.ntmps28
  go_wp2_with fail
  go_loopg [8] N (fun gk i wr => ∃ k : Nat, k + gk = N ∧ i = .int .i64 k ∧ Hid (∀ j (h : j < ms.length), j < k → ms[j] ≠ n) ∧ Hid (wr.heap[w.heap.size]? = some (.cells #[.string n] 39 (0, 0))) ∧ Hid (Below w.heap.size w wr))
  case atStart => exact ⟨0, by omega, rfl, (fun j _ h => absurd h (by omega)), heap_alloc_new w _, below_alloc' w _⟩
  case round =>
    obtain ⟨k, hk, rfl, HA, HP, HB⟩ := hrel
    have HK := Lib.hid hk; clear hk
    have hc0 := cell_row HP.out 0
    simp at hc0
    by_cases hlt : k < N
    · have hkl : k < ms.length := by rw [HL.out]; exact hlt
      obtain ⟨b, off, rfl, hbl, hcc⟩ := (HT.out.below HB.out).row (by omega)
      have hck := hcc k hkl
      have hat : ms[k] = n → (∀ j (h : j < ms.length), j < k → ms[j] ≠ n) → findM ms n = k := findM_at k hkl
      obtain ⟨x, hx⟩ : ∃ x, x = ms[k] := ⟨_, rfl⟩
      rw [← hx] at hck hat
      have HAT := Lib.hid hat
      have HX := Lib.hid hx
      clear hcc hat hx
      by_cases hq : n = x
      · have hqi := str_eq hq
        have HQ := Lib.hid hq
        clear hq
        go_wp2_with fail
        go_quiet (fail)
        go_wp2
        go_ret
        exact ⟨ret_int (HAT.out HQ.out.symm HA.out).symm, HB.out.trans ((below_drewN' _ _).mono HB.out.size)⟩
      · have hqi := str_ne hq
        have HQ := Lib.hid hq
        clear hq
        go_wp2_with fail
        go_quiet (fail)
        go_wp2
        go_roundg (gk - 1)
        case measure => have := HK.out; omega
        case rel =>
          have := HK.out
          refine ⟨k + 1, by omega, by go_num, fun j h hj e => ?_, HP.out, HB.out.trans ((below_drewN' _ _).mono HB.out.size)⟩
          rcases Nat.lt_or_ge j k with h' | h'
          · exact HA.out j h h' e
          · obtain rfl : j = k := by omega
            rw [← HX.out] at e
            exact HQ.out e.symm
    · have hno : findM ms n = -1 := findM_no fun j hj => HA.out j hj (by have := HK.out; have := HL.out; omega)
      have HN := Lib.hid hno
      clear hno
      go_wp2_with fail
      go_ret
      exact ⟨ret_int HN.out.symm, HB.out⟩
theorem find19_any (A : Option Addr) (N c : Nat) (ms : List ByteArray) (n : ByteArray) (w : World) (ht : Texts w A N ms) (hn : N ≤ 10000000) :
    Calls Tryd.prog 14 #[.slice A N c, .string n] w fun e w' => e = .returned (.int .i64 (findM ms n)) ∧ Below w.heap.size w w' := by
  have c28 := index_any A N c ms n w ht hn
  obtain ⟨x, hx⟩ : ∃ x, x = findM ms n := ⟨_, rfl⟩
  rw [← hx] at c28 ⊢
  have C28 := Lib.hid c28
  clear c28 hx ht
  go_enter Tryd.func14, Tryd.ntmps14
  go_wp2_with fail
  with_reducible refine C28.out.mono ?_
  rintro e w1 ⟨rfl, hb1⟩
  go_wp2_with fail
  go_ret
  exact ⟨rfl, hb1⟩
set_option maxHeartbeats 2000000 in
theorem ref_find19_any (A : Option Addr) (N c : Nat) (ms : List ByteArray) (n : ByteArray) (w : World) (ht : Texts w A N ms) (hn : N ≤ 10000000) :
    Calls Tryd.prog 15 #[.slice A N c, .string n] w fun e w' => e = .returned (.int .i64 (findM ms n)) ∧ w' = w := by
  have hl := ht.1
  have HT := Lib.hid ht
  have HL := Lib.hid hl
  clear ht hl
  go_enter Tryd.func15, Tryd.ntmps15
  go_wp2_with fail
  go_loopg [5] N (fun gk i wr => ∃ k : Nat, k + gk = N ∧ i = .int .i64 k ∧ Hid (∀ j (h : j < ms.length), j < k → ms[j] ≠ n) ∧ wr = w)
  case atStart => exact ⟨0, by omega, rfl, (fun j _ h => absurd h (by omega)), rfl⟩
  case round =>
    obtain ⟨k, hk, rfl, HA, hwr⟩ := hrel
    obtain rfl : w = _ := hwr.symm
    have HK := Lib.hid hk; clear hk hwr
    by_cases hlt : k < N
    · have hkl : k < ms.length := by rw [HL.out]; exact hlt
      obtain ⟨b, off, rfl, hbl, hcc⟩ := HT.out.row (by omega)
      have hck := hcc k hkl
      have hat : ms[k] = n → (∀ j (h : j < ms.length), j < k → ms[j] ≠ n) → findM ms n = k := findM_at k hkl
      obtain ⟨x, hx⟩ : ∃ x, x = ms[k] := ⟨_, rfl⟩
      rw [← hx] at hck hat
      have HAT := Lib.hid hat
      have HX := Lib.hid hx
      clear hcc hat hx
      by_cases hq : x = n
      · have hqi := str_eq hq
        have HQ := Lib.hid hq
        clear hq
        go_wp2_with fail
        go_ret
        exact ⟨ret_int (HAT.out HQ.out HA.out).symm, rfl⟩
      · have hqi := str_ne hq
        have HQ := Lib.hid hq
        clear hq
        go_wp2_with fail
        go_roundg (gk - 1)
        case measure => have := HK.out; omega
        case rel =>
          have := HK.out
          refine ⟨k + 1, by omega, by go_num, fun j h hj e => ?_, rfl⟩
          rcases Nat.lt_or_ge j k with h' | h'
          · exact HA.out j h h' e
          · obtain rfl : j = k := by omega
            rw [← HX.out] at e
            exact HQ.out e
    · have hno : findM ms n = -1 := findM_no fun j hj => HA.out j hj (by have := HK.out; have := HL.out; omega)
      have HN := Lib.hid hno
      clear hno
      go_wp2_with fail
      go_ret
      exact ⟨ret_int HN.out.symm, rfl⟩
/-- Are makers too many, or too great. -/
def bigM (ms : List ByteArray) : Bool := decide (210 < ms.length) || ms.any fun s => decide (300 < s.size)
set_option maxHeartbeats 2000000 in
theorem bigm_any (A : Option Addr) (N c : Nat) (ms : List ByteArray) (w : World) (ht : Texts w A N ms) : Calls Tryd.prog 24 #[.slice A N c] w fun e w' => e = .returned (.bool (bigM ms)) ∧ w' = w := by
  have hl := ht.1
  have HT := Lib.hid ht
  have HL := Lib.hid hl
  clear ht hl
  by_cases hbig : 210 < N
  · have hf : bigM ms = true := by unfold bigM; rw [HL.out]; simp [hbig]
    have HF := Lib.hid hf; clear hf
    go_enter Tryd.func24, Tryd.ntmps24
    go_wp2_with fail
    go_ret
    exact ⟨ret_bool HF.out.symm, rfl⟩
  · go_enter Tryd.func24, Tryd.ntmps24
    go_wp2_with fail
    go_loopg [3] N (fun gk i wr => ∃ j : Nat, j + gk = N ∧ i = .int .i64 j ∧ Hid ((ms.take j).any (fun s => decide (300 < s.size)) = false) ∧ wr = w)
    case atStart => exact ⟨0, by omega, rfl, rfl, rfl⟩
    case round =>
      obtain ⟨j, hj, rfl, HA, hwr⟩ := hrel
      obtain rfl : w = _ := hwr.symm
      have HJ := Lib.hid hj; clear hj hwr
      by_cases hlt : j < N
      · have hjl : j < ms.length := by rw [HL.out]; exact hlt
        obtain ⟨b, off, rfl, hbl, hcc⟩ := HT.out.row (by omega)
        have hc := hcc j hjl
        have ht1 : ms.take (j + 1) = ms.take j ++ [ms[j]] := List.take_succ_eq_append_getElem hjl
        have hmem : ms[j] ∈ ms := List.getElem_mem hjl
        obtain ⟨x, hx⟩ : ∃ x, x = ms[j] := ⟨_, rfl⟩
        rw [← hx] at hc ht1 hmem
        have HT1 := Lib.hid ht1
        have HMEM := Lib.hid hmem
        clear ht1 hmem hx hcc
        by_cases hb : 300 < x.size
        · go_wp2_with fail
          go_ret
          refine ⟨ret_bool ?_, rfl⟩
          unfold bigM
          symm
          rw [Bool.or_eq_true]
          exact .inr (List.any_eq_true.2 ⟨x, HMEM.out, by simpa using hb⟩)
        · go_wp2_with fail
          go_roundg (gk - 1)
          case measure => have hj := HJ.out; omega
          case rel =>
            have hj := HJ.out
            refine ⟨j + 1, by omega, by go_num, ?_, rfl⟩
            show _ = _
            rw [HT1.out, List.any_append, HA.out]
            simp; omega
      · go_wp2_with fail
        go_ret
        refine ⟨ret_bool ?_, rfl⟩
        have hj := HJ.out
        have ha := HA.out
        rw [List.take_of_length_le (by rw [HL.out]; omega)] at ha
        unfold bigM
        rw [ha, HL.out]
        simp; omega
set_option maxHeartbeats 2000000 in
theorem samem_any (A B : Option Addr) (N M c d : Nat) (p q : List ByteArray) (w : World) (hp : Texts w A N p) (hq : Texts w B M q) (hn : N ≤ 10000000) (hm : M ≤ 10000000) :
    Calls Tryd.prog 19 #[.slice A N c, .slice B M d] w fun e w' => e = .returned (.bool (decide (p = q))) ∧ Below w.heap.size w w' := by
  have hlp := hp.1
  have hlq := hq.1
  have HP := Lib.hid hp
  have HQ := Lib.hid hq
  have HLP := Lib.hid hlp
  have HLQ := Lib.hid hlq
  clear hp hq hlp hlq
  by_cases hN : N = M
  · have hnb : ((N : Int) != (M : Int)) = false := by rw [hN]; simp
    have HNN := Lib.hid hN
    clear hN
    go_enter Tryd.func19, Tryd.ntmps19
    go_wp2_with fail
    go_loopg [5] N (fun gk i wr => ∃ k : Nat, k + gk = N ∧ i = .int .i64 k ∧ Hid (p.take k = q.take k) ∧ Hid (Below w.heap.size w wr))
    case atStart => exact ⟨0, by omega, rfl, rfl, Below.refl _ _⟩
    case round =>
      obtain ⟨k, hk, rfl, HA, HB⟩ := hrel
      have HK := Lib.hid hk; clear hk
      by_cases hlt : k < N
      · have hk1 : k < p.length := by rw [HLP.out]; exact hlt
        have hlt2 : k < M := by rw [← HNN.out]; exact hlt
        have hk2 : k < q.length := by rw [HLQ.out]; exact hlt2
        obtain ⟨b1, o1, rfl, l1, cc1⟩ := (HP.out.below HB.out).row (by omega)
        obtain ⟨b2, o2, rfl, l2, cc2⟩ := (HQ.out.below HB.out).row (by omega)
        have h1 := cc1 k hk1
        have h2 := cc2 k hk2
        have ht1 : p.take (k + 1) = p.take k ++ [p[k]] := List.take_succ_eq_append_getElem hk1
        have ht2 : q.take (k + 1) = q.take k ++ [q[k]] := List.take_succ_eq_append_getElem hk2
        have hne : p[k] ≠ q[k] → decide (p = q) = false := fun h => by
          rw [decide_eq_false_iff_not]
          intro e
          subst e; exact h rfl
        have hnx : p[k] = q[k] → p.take (k + 1) = q.take (k + 1) := fun h => by rw [ht1, ht2, HA.out, h]
        obtain ⟨x, hx⟩ : ∃ x, x = p[k] := ⟨_, rfl⟩
        obtain ⟨y, hy⟩ : ∃ x, x = q[k] := ⟨_, rfl⟩
        rw [← hx] at h1 hne hnx
        rw [← hy] at h2 hne hnx
        have HNE := Lib.hid hne
        have HNX := Lib.hid hnx
        clear hne hnx ht1 ht2 hx hy cc1 cc2
        by_cases hxy : x = y
        · have hxb := str_eq hxy
          have hxb2 : (x.toList != y.toList) = false := by rw [bne, hxb]; rfl
          have HXY := Lib.hid hxy
          clear hxy
          go_wp2_with fail
          go_quiet (fail)
          go_wp2
          go_roundg (gk - 1)
          case measure => have := HK.out; omega
          case rel => have := HK.out; exact ⟨k + 1, by omega, by go_num, HNX.out HXY.out, HB.out.trans ((below_drewN' _ _).mono HB.out.size)⟩
        · have hxb := str_ne hxy
          have hxb2 : (x.toList != y.toList) = true := by rw [bne, hxb]; rfl
          have HXY := Lib.hid hxy
          clear hxy
          go_wp2_with fail
          go_quiet (fail)
          go_wp2
          go_ret
          exact ⟨ret_bool (HNE.out HXY.out).symm, HB.out.trans ((below_drewN' _ _).mono HB.out.size)⟩
      · have ha := HA.out
        rw [List.take_of_length_le (by rw [HLP.out]; omega), List.take_of_length_le (by rw [HLQ.out, ← HNN.out]; omega)] at ha
        have HAA := Lib.hid ha
        clear ha
        go_wp2_with fail
        go_ret
        exact ⟨ret_bool (by rw [HAA.out]; simp), HB.out⟩
  · have hnb : ((N : Int) != (M : Int)) = true := by rw [bne_iff_ne]; omega
    have hf : decide (p = q) = false := by
      rw [decide_eq_false_iff_not]
      intro e
      subst e; exact hN (by rw [← HLP.out, ← HLQ.out])
    have HF := Lib.hid hf
    clear hf hN
    go_enter Tryd.func19, Tryd.ntmps19
    go_wp2_with fail
    go_ret
    exact ⟨ret_bool HF.out.symm, Below.refl _ _⟩
end Go.Proofs.YtpjakdekaolmeaaDoor
