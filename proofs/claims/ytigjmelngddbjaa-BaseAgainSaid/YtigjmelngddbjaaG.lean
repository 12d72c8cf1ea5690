import Derived.Test.YtigjmelngddbjaaF
import Derived.Laws.DeepStrings4
namespace Go.Proofs.Ytigjmelngddbjaa
open Go.RowKit

theorem own_below {w w1 : World} {base e s n : Nat} {v : Value} {xs : List Value} (h : w.ownsRow base e s v n xs) (hb : Below w.heap.size w w1) : w1.ownsRow base e s v n xs :=
  h.kept (row := none) ⟨hb.os, hb.tape, hb.output, hb.size, fun i hi _ => hb.block i hi⟩ (by cases v.ownBlock <;> simp)

/-- append(l, bits...): a row of bits behind. -/
theorem wpList_append_bits {ops : Array Oper} {rest : List Oper} {o : Oper} {a : Act} {Q : Exit → Act → World → Prop} (hgd : o.guard = none) (s x : Operand)
    (ho : o.op = .call { callee := .builtin .append, args := #[s, x], argTypes := #[37, 37] }) (W w0 : World) (base : Nat) (v : Value) (n : Nat) (l m : List Bool) (g c : Nat)
    (hs : a.eval s = v) (hx : a.eval x = .slice (some ⟨g, 0, none⟩) m.length c) (hown : W.ownsRow base 4 1 v n (l.map Value.bool)) (hc : ∀ j u, (m.map Value.bool)[j]? = some u → W.cell? ⟨g, j, none⟩ = some u) (hb : Below base w0 W) (hB : base ≤ W.heap.size) (hn : n + m.length ≤ 1000000000000)
    (h : ∀ v' w', w'.ownsRow base 4 1 v' (n + m.length) ((l ++ m).map Value.bool) → Below base w0 w' → wpList Try.prog ops Q rest (a.put o.dst v') w') :
    wpList Try.prog ops Q (o :: rest) a W := by
  obtain ⟨i0, hi, hz0, hz1, hz2⟩ := info_parts bool_info
  refine wpList_append_own _ hgd s x 37 ho base 4 i0 (.bool false) 1 1 Try.underlying37 hi hz0 hz1 hz2 rfl (by decide) v n _ hs hown ⟨g, 0, none⟩ m.length c (m.map Value.bool) hx (by simp)
    (fun j u hj => by rw [add_at, Nat.zero_add]; exact hc j u hj) (fun u hu => by simp at hu; rcases hu with ⟨_, rfl⟩ | ⟨_, rfl⟩ <;> rfl) (by unfold maxLen; omega) (by omega) hB ?_
  intro v' w' h1 h2 _
  rw [← List.map_append] at h1
  exact h v' w' h1 (hb.grown h2 hB (fun q hq => (hown.lt q hq).1))

theorem sg_slice (d : Nat) (hd : d < 64) : (⟨Bs.signs.toArray⟩ : ByteArray).extract d (d + 1) = ⟨[Bs.sg d].toArray⟩ := by
  apply ByteArray.ext
  apply Array.toList_inj.1
  rw [Lib.extract_data, show d + 1 - d = 1 by omega]
  show (Bs.signs.drop d).take 1 = _
  have h' : d < Bs.signs.length := hd
  rw [List.drop_eq_getElem_cons h', List.take_succ_cons, List.take_zero, Bs.sg, List.getD_eq_getElem?_getD, List.getElem?_eq_getElem h']; rfl
theorem allbits_take (s : ByteArray) (k : Nat) (h : k < s.size) : allbits (s.data.toList.take (k + 1)) = allbits (s.data.toList.take k) ++ sfx s[k].toNat 8 := by
  rw [take_snoc s k h]; simp [allbits]
theorem allbits_take_len (s : ByteArray) (k : Nat) (h : k ≤ s.size) : (allbits (s.data.toList.take k)).length = 8 * k := by
  rw [allbits_length, List.length_take, size_len]; omega

set_option maxHeartbeats 2000000 in
theorem ref_enc_any (s : ByteArray) (w : World) (hs : s.size ≤ 1000000) : Calls Try.prog 11 #[.string s] w fun e w' => e = .returned (.string ⟨(Bs.enc s.data.toList).toArray⟩) ∧ Below w.heap.size w w' := by
  go_enter Try.func11, Try.ntmps11
  go_wp2
  go_loopg [3, 4] s.size (fun gk v i wr => ∃ k : Nat, k + gk = s.size ∧ i = .int .i64 k ∧ wr.ownsRow w.heap.size 4 1 v (8 * k) ((allbits (s.data.toList.take k)).map Value.bool) ∧ Below w.heap.size w wr)
  case atStart => exact ⟨0, by omega, rfl, World.ownsRow_nil _ _ _ _, Below.refl _ _⟩
  case round =>
    obtain ⟨k, hk, rfl, hown, hbw⟩ := hrel
    have hsz := hbw.size
    have HK := Lib.hid hk; clear hk
    by_cases hlt : k < s.size
    · have htk := allbits_take s k hlt
      have HT := Lib.hid htk; clear htk
      have hc := s[k].toNat_lt
      go_wp2_with fail
      refine (bits_any s[k].toNat 8 wr (by decide) (by omega)).mono ?_
      rintro e w1 ⟨rfl, hb1, hbw1⟩
      have hown1 := own_below hown hbw1
      have hcc : ∀ j u, ((sfx s[k].toNat 8).map Value.bool)[j]? = some u → w1.cell? ⟨wr.heap.size, j, none⟩ = some u := by
        intro j u hj
        rw [cell_of_row w1 wr.heap.size j _ 4 (0, 0) hb1]
        unfold bcells
        simpa using hj
      have HC := Lib.hid hcc; clear hcc hb1
      have hbw2 : Below w.heap.size w w1 := hbw.trans (hbw1.mono hsz)
      have hsz2 := hbw2.size
      go_wp2_with (at_builtin; refine wpList_append_bits rfl (.tmp 20) (.tmp 21) rfl w1 w w.heap.size _ (8 * k) _ (sfx s[k].toNat 8) wr.heap.size 8 rfl rfl hown1 HC.out hbw2 hsz2 (by rw [sfx_length]; omega) ?_)
      intro v' w2 hown2 hbw3
      go_wp2
      go_roundg (gk - 1)
      case rel =>
        have hk := HK.out
        refine ⟨k + 1, by omega, by go_num, ?_, hbw3⟩
        rw [HT.out, List.map_append, show 8 * (k + 1) = 8 * k + (sfx s[k].toNat 8).length by rw [sfx_length]; omega]
        exact hown2
      case measure => have := HK.out; omega
    · obtain rfl : k = s.size := by have := HK.out; omega
      rw [take_all] at hown
      clear HK
      obtain ⟨B, hB⟩ : ∃ B, B = allbits s.data.toList := ⟨_, rfl⟩
      have hBl : B.length = 8 * s.size := by rw [hB, allbits_length, size_len]
      rw [← hB] at hown
      have HB := Lib.hid hB; clear hB
      have HBL := Lib.hid hBl; clear hBl
      go_wp2
      go_loopg [3] ((6 - 8 * s.size % 6) % 6) (fun gj v wq => ∃ j : Nat, j + gj = (6 - 8 * s.size % 6) % 6 ∧ wq.ownsRow w.heap.size 4 1 v (8 * s.size + j) ((B ++ List.replicate j false).map Value.bool) ∧ Below w.heap.size w wq)
      case atStart => exact ⟨0, by omega, by simpa using hown, hbw⟩
      case round =>
        obtain ⟨j, hj, hown1, hbw1⟩ := hrel
        have hsz1 := hbw1.size
        obtain ⟨A, c, rfl, hc, _⟩ := own_form hown1
        by_cases hj0 : (8 * s.size + j) % 6 = 0
        · have e0 : ((((8 * s.size + j : Nat) : Int)) % 6 != 0) = false := by rw [bne_eq_false_iff_eq]; omega
          have hjj : j = (6 - 8 * s.size % 6) % 6 := by omega
          obtain ⟨n, hn⟩ : ∃ n, n = 8 * s.size + j := ⟨_, rfl⟩
          rw [← hn] at hown1 e0 hc ⊢
          obtain ⟨P, hP⟩ : ∃ P, P = B ++ List.replicate j false := ⟨_, rfl⟩
          rw [← hP] at hown1
          have hPl : P.length = n := by have := hown1.1; simpa using this
          have hpad : P = padb B := by rw [hP, padb, HBL.out, hjj]
          have hn6 : n % 6 = 0 := by omega
          have hnn : n ≤ 8000006 := by omega
          have HP := Lib.hid hpad
          have HPL := Lib.hid hPl
          clear hn hP hpad hPl hj hj0 hjj hown hbw hsz
          go_wp2
          go_loopg [6, 7] n (fun gi o i wx => ∃ (k : Nat) (acc : List UInt8), k + gi = n ∧ k % 6 = 0 ∧ i = .int .i64 k ∧ o = .string ⟨acc.toArray⟩ ∧ acc.length ≤ k ∧ Hid (acc ++ sx (P.drop k) = sx P) ∧ wr = wx)
          case atStart => exact ⟨0, [], by omega, rfl, rfl, rfl, by simp, by simp [Hid], rfl⟩
          case round =>
            obtain ⟨k, acc, hk, hk6, rfl, rfl, hal, HA, rfl⟩ := hrel
            have HK := Lib.hid hk; clear hk
            by_cases hkn : k < n
            · obtain ⟨g, rfl⟩ : ∃ g, A = some ⟨g, 0, none⟩ := by
                rcases hown1.2 with ⟨_, h0⟩ | ⟨g, cap, cur, hv, _⟩
                · omega
                · injection hv with hA; exact ⟨g, hA⟩
              have hpc := Row.piece (o := k) (m := k + 6) (k := 6) hown1 (by omega) (by omega)
              rw [← List.map_take, ← List.map_drop] at hpc
              have h6 : ((P.take (k + 6)).drop k).length = 6 := by rw [List.length_drop, List.length_take, HPL.out]; omega
              have hdr : P.drop k = (P.take (k + 6)).drop k ++ P.drop (k + 6) := by
                rw [List.drop_take, show k + 6 - k = 6 by omega, ← List.drop_drop]; exact (List.take_append_drop 6 _).symm
              obtain ⟨x, hx⟩ : ∃ x, x = (P.take (k + 6)).drop k := ⟨_, rfl⟩
              rw [← hx] at hpc h6 hdr
              have hnum := num_lt x
              rw [h6] at hnum
              have H6 := Lib.hid h6
              have HD := Lib.hid hdr
              clear hx h6 hdr
              obtain ⟨d, hd⟩ : ∃ d, d = num x := ⟨_, rfl⟩
              have hd64 : d < 64 := by rw [hd]; exact hnum
              have HN := Lib.hid hd; clear hd hnum
              have e1 : (⟨acc.toArray⟩ : ByteArray).size = acc.length := mk_size' acc
              have HSZ := Lib.hid e1; clear e1
              go_wp2_with fail
              refine (number_any _ 6 _ x wr hpc (by decide)).mono ?_
              rintro e w1 ⟨rfl, rfl⟩
              rw [← HN.out]
              go_wp2
              go_roundg (gk - 6)
              case rel =>
                have hk := HK.out
                refine ⟨k + 6, acc ++ [Bs.sg d], by omega, by omega, by go_num, ?_, by simp; omega, ?_, rfl⟩
                · show Value.string (⟨acc.toArray⟩ ++ (⟨Bs.signs.toArray⟩ : ByteArray).extract d (d + 1)) = _
                  rw [sg_slice d hd64, cat_str]
                show _ = _
                rw [← HA.out, HD.out, sx_six _ _ H6.out, ← HN.out, List.append_assoc]; rfl
              case measure => have := HK.out; omega
            · obtain rfl : k = n := by have := HK.out; omega
              have hnil : P.drop k = [] := List.drop_eq_nil_of_le (by rw [HPL.out]; exact Nat.le_refl _)
              have HNIL := Lib.hid hnil; clear hnil
              go_wp2
              go_loopg [6] ((4 - acc.length % 4) % 4) (fun gq o wx => ∃ q : Nat, q + gq = (4 - acc.length % 4) % 4 ∧ o = .string ⟨(acc ++ List.replicate q 61).toArray⟩ ∧ wr = wx)
              case atStart => exact ⟨0, by omega, by simp, rfl⟩
              case round =>
                obtain ⟨q, hq, rfl, rfl⟩ := hrel
                have hsz3 : (⟨(acc ++ List.replicate q 61).toArray⟩ : ByteArray).size = acc.length + q := by rw [mk_size']; simp
                obtain ⟨o, ho⟩ : ∃ o : ByteArray, o = ⟨(acc ++ List.replicate q 61).toArray⟩ := ⟨_, rfl⟩
                rw [← ho] at hsz3 ⊢
                have HO := Lib.hid ho; clear ho
                have HQ := Lib.hid hq
                by_cases hq0 : (acc.length + q) % 4 = 0
                · have e3 : ((o.size : Int) % 4 != 0) = false := by rw [bne_eq_false_iff_eq, hsz3]; omega
                  have hqq : q = (4 - acc.length % 4) % 4 := by omega
                  have HQQ := Lib.hid hqq
                  clear hsz3 hq hqq HQ
                  go_wp2
                  go_ret
                  refine ⟨ret_str ?_, hbw1⟩
                  have := HA.out
                  rw [HNIL.out, show sx [] = [] from rfl, List.append_nil] at this
                  rw [HO.out, HQQ.out, ← enc_bits, ← HB.out, ← HP.out, ← this, Bs.pad4]
                · have e3 : ((o.size : Int) % 4 != 0) = true := by rw [bne_iff_ne, hsz3]; omega
                  have hs4 : o.size ≤ 100000000 := by omega
                  clear hsz3 hq
                  go_wp2
                  go_roundg (gk - 1)
                  case rel =>
                    have hq := HQ.out
                    refine ⟨q + 1, by omega, ?_, rfl⟩
                    rw [HO.out, show (⟨#[61]⟩ : ByteArray) = ⟨[61].toArray⟩ from rfl, cat_str, List.append_assoc, ← List.replicate_succ']
                  case measure => have := HQ.out; omega
        · have e0 : ((((8 * s.size + j : Nat) : Int)) % 6 != 0) = true := by rw [bne_iff_ne]; omega
          have HJ := Lib.hid hj
          have hj64 : j ≤ 64 := by omega
          obtain ⟨n, hn⟩ : ∃ n, n = 8 * s.size + j := ⟨_, rfl⟩
          rw [← hn] at hown1 e0 hc ⊢
          obtain ⟨P, hP⟩ : ∃ P, P = B ++ List.replicate j false := ⟨_, rfl⟩
          rw [← hP] at hown1
          have HP := Lib.hid hP; clear hP
          have hnn : n ≤ 8000070 := by omega
          have HNN := Lib.hid hn
          have HJ0 := Lib.hid hj0
          clear hj hj0 hn hown hbw hsz
          have hcc : ∀ (i : Nat) u, (([false] : List Bool).map Value.bool)[i]? = some u → (wr.alloc (.cells #[.bool false] 4)).cell? ⟨wr.heap.size, i, none⟩ = some u := by
            intro i u hi
            have := cells_new wr #[.bool false] 4 i u hi
            rwa [add_at, Nat.zero_add] at this
          have HC := Lib.hid hcc; clear hcc
          have hown2 := hown1.alloc (.cells #[.bool false] 4)
          have hbw2 := hbw1.alloc hsz1 (.cells #[.bool false] 4)
          have hsz2 := hbw2.size
          have hn1 : n + ([false] : List Bool).length ≤ 1000000000000 := by simp; omega
          go_wp2_with (at_builtin; refine wpList_append_bits rfl (.tmp 27) (.tmp 28) rfl (wr.alloc (.cells #[.bool false] 4)) w w.heap.size _ n _ [false] wr.heap.size 1 rfl rfl hown2 HC.out hbw2 hsz2 hn1 ?_)
          intro v' w2 hown3 hbw3
          go_wp2
          go_roundg (gk - 1)
          case rel =>
            have hj := HJ.out
            have h0 := HJ0.out
            refine ⟨j + 1, by omega, ?_, hbw3⟩
            rw [List.replicate_succ', ← List.append_assoc, ← HP.out, List.map_append, show 8 * s.size + (j + 1) = n + 1 by rw [HNN.out]; omega]
            exact hown3
          case measure =>
            have := HJ.out
            have := HJ0.out
            have := HNN.out
            omega
end Go.Proofs.Ytigjmelngddbjaa
