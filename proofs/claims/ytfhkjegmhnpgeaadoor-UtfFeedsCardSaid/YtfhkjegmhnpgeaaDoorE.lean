import Derived.Test.YtfhkjegmhnpgeaaDoorD
namespace Go.Proofs.YtfhkjegmhnpgeaaDoor
open Go.RowKit

/-- Is a number a code point? -/
def pok (n : Int) : Bool := decide (0 ≤ n) && Ut.ok n.toNat
theorem pok_nat (n : Nat) : pok (n : Int) = Ut.ok n := by simp [pok]
theorem pok_of {n : Int} (h : pok n = true) : ∃ k : Nat, n = k ∧ Ut.ok k = true ∧ k ≤ 1114111 := by
  simp only [pok, Bool.and_eq_true, decide_eq_true_eq] at h
  refine ⟨n.toNat, by omega, h.2, ?_⟩
  have := h.2
  simp [Ut.ok] at this; omega
theorem zs_pok (p : List Nat) (h : ∀ n ∈ p, Ut.ok n = true) : ∀ n ∈ zs p, pok n = true := by
  intro n hn
  simp only [zs, List.mem_map] at hn
  obtain ⟨k, hk, rfl⟩ := hn
  exact (pok_nat k).trans (h k hk)
theorem zs_nat (p : List Nat) : (zs p).map Int.toNat = p := by
  unfold zs; rw [List.map_map]
  conv => rhs; rw [← List.map_id p]
  exact List.map_congr_left fun n _ => rfl
def jn (p : List Int) : List UInt8 := Ut.join (p.map Int.toNat)
theorem jn_snoc (p : List Int) (n : Nat) : jn (p ++ [(n : Int)]) = jn p ++ Ut.by_ n := by simp [jn, Ut.join]

/-- append(out, s...): a text's bytes behind. -/
theorem wpList_append_str {ops : Array Oper} {rest : List Oper} {o : Oper} {a : Act} {Q : Exit → Act → World → Prop} (hgd : o.guard = none) (s x : Operand)
    (ho : o.op = .call { callee := .builtin .append, args := #[s, x], argTypes := #[22, 9] }) (W w0 : World) (base : Nat) (v : Value) (n : Nat) (l : List UInt8) (t : ByteArray)
    (hs : a.eval s = v) (hx : a.eval x = .string t) (hown : W.ownsRow base 5 1 v n (Lib.byteCells l)) (hb : Below base w0 W) (hB : base ≤ W.heap.size) (hn : n + t.size ≤ 1000000000000)
    (h : ∀ v' w', w'.ownsRow base 5 1 v' (n + t.size) (Lib.byteCells (l ++ t.data.toList)) → Below base w0 w' → wpList Tryd.prog ops Q rest (a.put o.dst v') w') :
    wpList Tryd.prog ops Q (o :: rest) a W := by
  obtain ⟨i0, hi, hz0, hz1, hz2⟩ := info_parts byte_info
  refine Lib.wpList_append_own_string _ hgd s x 22 9 ho base 5 i0 Tryd.underlying22 Tryd.underlying9 hi hz0 hz1 hz2 v n _ hs hown t hx (by unfold maxLen; omega) (by omega) hB ?_
  intro v' w' h1 h2 _
  rw [Lib.strCells_eq, ← Lib.byteCells_append] at h1
  exact h v' w' h1 (hb.grown h2 hB (fun q hq => (hown.lt q hq).1))

set_option maxHeartbeats 1000000 in
theorem join_any (A : Option Addr) (n c : Nat) (p : List Int) (w : World) (hr : Row w A n (ic p)) (hp : ∀ x ∈ p, pok x = true) (hn : n ≤ 100000) :
    Calls Tryd.prog 26 #[.slice A n c] w fun e w' => e = .returned (.string ⟨(jn p).toArray⟩) ∧ Below w.heap.size w w' := by
  have hl : p.length = n := by have := hr.1; rw [ic_length] at this; exact this
  have HP := Lib.hid hp; clear hp
  have HL := Lib.hid hl; clear hl
  go_enter Tryd.func26, Tryd.ntmps26
  go_wp2
  go_loopg [3, 4] n (fun gk v i wr => ∃ k m : Nat, k + gk = n ∧ i = .int .i64 k ∧ m ≤ 4 * k ∧ wr.ownsRow w.heap.size 5 1 v m (Lib.byteCells (jn (p.take k))) ∧ Below w.heap.size w wr)
  case atStart => exact ⟨0, 0, by omega, rfl, by omega, World.ownsRow_nil _ _ _ _, Below.refl _ _⟩
  case round =>
    obtain ⟨k, m, hk, rfl, hm, hown, hbw⟩ := hrel
    have HK := Lib.hid hk; clear hk
    have hsz := hbw.size
    by_cases hlt : k < n
    · have hkl : k < p.length := by rw [HL.out]; exact hlt
      obtain ⟨x, hx, hok, hx11⟩ := pok_of (HP.out p[k] (List.getElem_mem hkl))
      obtain ⟨ad, rfl, hc⟩ := hr.at_ hbw k (.int .i64 x) (by simp [ic, List.getElem?_eq_getElem hkl, hx])
      have htk : jn (p.take (k + 1)) = jn (p.take k) ++ Ut.by_ x := by rw [List.take_succ_eq_append_getElem hkl, hx, jn_snoc]
      have HT := Lib.hid htk; clear htk hx
      have hbl := Ut.by_len x
      have hsb : (⟨(Ut.by_ x).toArray⟩ : ByteArray).size = (Ut.by_ x).length := mk_size' _
      have HSB := Lib.hid hsb; clear hsb
      go_wp2_with fail
      refine (bytes_any x hx11 wr).mono ?_
      rintro e w1 ⟨rfl, hb1⟩
      have hown1 := own_below hown hb1
      have hbw1 := hbw.trans (hb1.mono hsz)
      have hsz1 := hbw1.size
      go_wp2_with (at_builtin; refine wpList_append_str rfl (.tmp 11) (.tmp 16) rfl w1 w w.heap.size _ m _ ⟨(Ut.by_ x).toArray⟩ rfl rfl hown1 hbw1 hsz1 (by rw [HSB.out]; omega) ?_; intro v' w2 hown2 hbw2)
      go_roundg (gk - 1)
      case rel =>
        have hk := HK.out
        have hs := HSB.out
        exact ⟨k + 1, m + (Ut.by_ x).length, by omega, by go_num, by omega, by rw [HT.out, ← hs]; exact hown2, hbw2⟩
      case measure => have := HK.out; omega
    · obtain rfl : k = n := by have := HK.out; omega
      have hall : p.take k = p := List.take_of_length_le (by rw [HL.out]; exact Nat.le_refl _)
      rw [hall] at hown
      have hcv := own_string hown
      go_wp2
      go_ret
      exact ⟨rfl, hbw⟩

theorem ref_dec_any (s : ByteArray) (w : World) (hs : s.size ≤ 100000) : Calls Tryd.prog 12 #[.string s] w fun e w' => e = .returned (.string ⟨(Ut.dec s.data.toList).toArray⟩) ∧ Below w.heap.size w w' := by
  have hl := (Ut.pts_length s.data.toList).1
  rw [size_len] at hl
  go_enter Tryd.func12, Tryd.ntmps12
  go_wp2_with fail
  refine (ref_points_any s w hs).mono ?_
  rintro e w1 ⟨A, c, rfl, hc, hr, hb1⟩
  go_wp2_with fail
  refine (join_any A _ c _ w1 hr (zs_pok _ (Ut.pts_ok _)) (by simp [zs]; omega)).mono ?_
  rintro e w2 ⟨rfl, hb2⟩
  go_wp2
  go_ret
  exact ⟨ret_str (by rw [jn, zs_nat]; rfl), nx hb1 hb2⟩

/-- The text of numbers; none: one of them is no code point. -/
def txt (p : List Int) : Option (List UInt8) := if p.all pok then some (jn p) else none
def OutTxt (r : Option (List UInt8)) (w : World) (e : Ending) (w' : World) : Prop := e = .returned (.tuple #[.string ⟨(r.getD []).toArray⟩, .int .i64 (if r.isSome then 0 else 1)]) ∧ Below w.heap.size w w'

set_option maxHeartbeats 1000000 in
theorem ints_any (A B : Option Addr) (n m c d : Nat) (p q : List Int) (w : World) (hp : Row w A n (ic p)) (hq : Row w B m (ic q)) (hn : n ≤ 1000000) (hm : m ≤ 1000000) :
    Calls Tryd.prog 13 #[.slice A n c, .slice B m d] w fun e w' => e = .returned (.bool (decide (p = q))) ∧ Below w.heap.size w w' := by
  have hlp : p.length = n := by have := hp.1; rw [ic_length] at this; exact this
  have hlq : q.length = m := by have := hq.1; rw [ic_length] at this; exact this
  by_cases hnm : n = m
  · subst hnm
    have HP := Lib.hid hlp; clear hlp
    have HQ := Lib.hid hlq; clear hlq
    go_enter Tryd.func13, Tryd.ntmps13
    go_wp2
    go_loopg [5] n (fun gk i wr => ∃ k : Nat, k + gk = n ∧ i = .int .i64 k ∧ Hid (p.take k = q.take k) ∧ Below w.heap.size w wr)
    case atStart => exact ⟨0, by omega, rfl, rfl, Below.refl _ _⟩
    case round =>
      obtain ⟨k, hk, rfl, HA, hbw⟩ := hrel
      have HK := Lib.hid hk; clear hk
      have hsz := hbw.size
      by_cases hlt : k < n
      · have hkp : k < p.length := by rw [HP.out]; exact hlt
        have hkq : k < q.length := by rw [HQ.out]; exact hlt
        obtain ⟨a1, rfl, hc1⟩ := hp.at_ hbw k (.int .i64 p[k]) (by simp [ic, List.getElem?_eq_getElem hkp])
        obtain ⟨a2, rfl, hc2⟩ := hq.at_ hbw k (.int .i64 q[k]) (by simp [ic, List.getElem?_eq_getElem hkq])
        have ht1 : p.take (k + 1) = p.take k ++ [p[k]] := List.take_succ_eq_append_getElem hkp
        have ht2 : q.take (k + 1) = q.take k ++ [q[k]] := List.take_succ_eq_append_getElem hkq
        obtain ⟨x, hx⟩ : ∃ x, x = p[k] := ⟨_, rfl⟩
        obtain ⟨y, hy⟩ : ∃ y, y = q[k] := ⟨_, rfl⟩
        rw [← hx] at hc1 ht1
        rw [← hy] at hc2 ht2
        have H1 := Lib.hid ht1; clear ht1 hx
        have H2 := Lib.hid ht2; clear ht2 hy
        by_cases hxy : x = y
        · have hne : (x != y) = false := by rw [hxy]; simp
          have HXY := Lib.hid hxy; clear hxy
          go_wp2_with fail
          go_quiet (fail)
          go_wp2
          go_roundg (gk - 1)
          case rel =>
            have hk := HK.out
            exact ⟨k + 1, by omega, by go_num, by show _ = _; rw [H1.out, H2.out, HA.out, HXY.out], ⟨hbw.os, hbw.tape, hbw.output, hbw.size, hbw.block⟩⟩
          case measure => have := HK.out; omega
        · have hne : (x != y) = true := by rw [bne_iff_ne]; exact hxy
          have hpq : ¬ p = q := fun e => by
            have h1 := H1.out; have h2 := H2.out
            rw [e, h2] at h1
            have := List.append_inj_right' h1 rfl
            simp at this; exact hxy this.symm
          have HPQ := Lib.hid hpq; clear hpq hxy
          go_wp2_with fail
          go_quiet (fail)
          go_wp2
          go_ret
          exact ⟨ret_bool (by rw [decide_eq_false HPQ.out]), ⟨hbw.os, hbw.tape, hbw.output, hbw.size, hbw.block⟩⟩
      · obtain rfl : k = n := by have := HK.out; omega
        have hpq : p = q := by
          have h := HA.out
          rwa [List.take_of_length_le (by rw [HP.out]; exact Nat.le_refl _), List.take_of_length_le (by rw [HQ.out]; exact Nat.le_refl _)] at h
        have HPQ := Lib.hid hpq; clear hpq
        go_wp2
        go_ret
        exact ⟨ret_bool (by rw [decide_eq_true HPQ.out]), hbw⟩
  · have hne : ((n : Int) != (m : Int)) = true := by rw [bne_iff_ne]; omega
    have hpq : ¬ p = q := fun e => hnm (by rw [← hlp, ← hlq, e])
    have HPQ := Lib.hid hpq; clear hpq hnm hlp hlq
    go_enter Tryd.func13, Tryd.ntmps13
    go_wp2
    go_ret
    exact ⟨ret_bool (by rw [decide_eq_false HPQ.out]), Below.refl _ _⟩
end Go.Proofs.YtfhkjegmhnpgeaaDoor
