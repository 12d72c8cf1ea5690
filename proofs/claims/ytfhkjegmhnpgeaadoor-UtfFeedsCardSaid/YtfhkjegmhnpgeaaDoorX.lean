import Derived.Test.YtfhkjegmhnpgeaaDoorV
namespace Go.Proofs.YtfhkjegmhnpgeaaDoor
open Go.RowKit

theorem sub_bytes {W : World} {A : Option Addr} {n c : Nat} {l : List UInt8} (hb : BytesIn W A n l) (a tt : Nat) (h1 : a ≤ tt) (h2 : tt ≤ n) (hc : n ≤ c) : BytesIn W (if c = a then A else A.map (·.add a)) (tt - a) ((l.take tt).drop a) := by
  refine ⟨by rw [List.length_drop, List.length_take, hb.1]; omega, fun hn => ?_⟩
  obtain ⟨b, off, rfl, hlt, hcell⟩ := hb.2 (by omega)
  rw [if_neg (by omega)]
  refine ⟨b, off + a, by simp [add_at], hlt, fun j u hj => ?_⟩
  rw [byteCells_drop, List.getElem?_drop, byteCells_take, List.getElem?_take] at hj
  split at hj
  · rw [Nat.add_assoc]; exact hcell _ u hj
  · cases hj
theorem sub_none {A : Option Addr} {n c a tt : Nat} (hz : A = none → c = 0) (h2 : tt ≤ n) (hc : n ≤ c) : (if c = a then A else A.map (·.add a)) = none → tt - a = 0 ∧ c - a = 0 := by
  intro e
  have hA : A = none := by
    split at e
    · exact e
    · cases A with
      | none => rfl
      | some x => cases e
  have := hz hA
  omega
theorem take_any {w : World} {A : Option Addr} {n k : Nat} {l : List UInt8} (h : BytesIn w A n l) (hk : k ≤ n) : BytesIn w A k (l.take k) :=
  ⟨by rw [List.length_take, h.1]; omega, fun hn => by
    obtain ⟨b, off, rfl, hlt, hc⟩ := h.2 (by omega)
    refine ⟨b, off, rfl, hlt, fun j u hj => ?_⟩
    rw [byteCells_take, List.getElem?_take] at hj
    split at hj
    · exact hc _ u hj
    · cases hj⟩
theorem rd_lt {w : World} {rb : Nat} {l : List UInt8} (h : Rd w rb l) : rb < w.heap.size := by
  obtain ⟨cs, h1, _⟩ := h
  exact (Array.getElem?_eq_some_iff.1 h1).1
theorem own_bar {w w' : World} {rb base n : Nat} {v : Value} {xs : List Value} (h : w.ownsRow base 5 1 v n xs) (hb : Bar rb w w') (hrb : rb < base) : w'.ownsRow base 5 1 v n xs := by
  refine ⟨h.1, ?_⟩
  rcases h.2 with h0 | ⟨g, cap, cur, hv, hbg, hg, rest⟩
  · exact .inl h0
  · exact .inr ⟨g, cap, cur, hv, hbg, (hb.block g (Array.getElem?_eq_some_iff.1 hg).1 (by omega)).trans hg, rest⟩
theorem below_bar {w a b : World} {rb : Nat} (h : Below w.heap.size w a) (k : Bar rb a b) (hrb : w.heap.size ≤ rb) : Below w.heap.size w b :=
  h.trans ⟨k.os, k.tape, k.output, k.size, fun i hi => by
    rcases Nat.lt_or_ge i a.heap.size with h1 | h1
    · exact k.block i h1 (by omega)
    · exact absurd (Nat.lt_of_lt_of_le hi h.size) (by omega)⟩
theorem own_block {w : World} {base n : Nat} {A : Option Addr} {c : Nat} {l : List UInt8} (h : w.ownsRow base 5 1 (.slice A n c) n (Lib.byteCells l)) (hn : 0 < n) : ∃ g, A = some ⟨g, 0, none⟩ ∧ base ≤ g ∧ g < w.heap.size := by
  rcases h.2 with ⟨_, h0⟩ | ⟨g, cap, cur, hv, hbg, hg, _⟩
  · omega
  · injection hv with hA
    exact ⟨g, hA, hbg, (Array.getElem?_eq_some_iff.1 hg).1⟩
theorem rd_grown {w w' : World} {rb : Nat} {l : List UInt8} {row : Option Nat} (h : Rd w rb l) (hg : w.grownBy w' row) (hne : some rb ≠ row) : Rd w' rb l := by
  have hlt := rd_lt h
  obtain ⟨cs, h1, h2⟩ := h
  exact ⟨cs, (hg.block rb hlt hne).trans h1, h2⟩
set_option maxRecDepth 100000 in
set_option maxHeartbeats 4000000 in
theorem law_feeds_any (A : Option Addr) (n c : Nat) (l : List UInt8) (B : Option Addr) (m d : Nat) (p : List Int) (w : World) (hT : T w) (hb : BytesIn w A n l) (hc : n ≤ c) (hz : A = none → c = 0) (hr : Row w B m (ic p)) :
    Calls Tryd.prog 9 #[.slice A n c, .slice B m d] w (True1 w) := by
  by_cases h : 5000 < n
  · go_enter Tryd.func9, Tryd.ntmps9
    go_wp2
    go_ret
    exact ⟨rfl, Below.refl _ _⟩
  by_cases h2 : 50 < m
  · go_enter Tryd.func9, Tryd.ntmps9
    go_wp2
    go_ret
    exact ⟨rfl, Below.refl _ _⟩
  have hlp : p.length = m := by have := hr.1; rwa [ic_length] at this
  have hl := hb.1
  have HT := Lib.hid hT; clear hT
  have HB := Lib.hid hb; clear hb
  have HR := Lib.hid hr; clear hr
  have HLP := Lib.hid hlp; clear hlp
  have HL := Lib.hid hl; clear hl
  have HZ := Lib.hid hz; clear hz
  have hT2 := T.two HT.out
  go_enter Tryd.func9, Tryd.ntmps9
  go_wp2_with fail
  refine (new_any w).mono ?_
  rintro e w1 ⟨rb, rfl, hrb, hrd, hb1⟩
  have HRD := Lib.hid hrd; clear hrd
  have HB1 := Lib.hid hb1; clear hb1
  go_wp2_with fail
  go_loopg [6] 2 (fun gk v wr => ∃ q : Nat, q + gk = 2 ∧ v = .int .i64 q ∧ Rd wr rb [] ∧ Below w.heap.size w wr)
  case atStart => exact ⟨0, rfl, rfl, HRD.out, HB1.out⟩
  case round =>
    obtain ⟨q, hq, rfl, hrdq, hbq⟩ := hrel
    obtain ⟨go, rfl⟩ : ∃ go, go = gk := ⟨_, rfl⟩
    obtain ⟨wq, rfl⟩ : ∃ wq, wq = wr := ⟨_, rfl⟩
    have HQ := Lib.hid hq; clear hq
    have HRDQ := Lib.hid hrdq; clear hrdq
    have HBQ := Lib.hid hbq; clear hbq
    by_cases hq2 : q < 2
    · have hq2i : (q : Int) < 2 := by omega
      go_wp2_with fail
      go_loopg [7, 8, 9] (m + 1) (fun gk sv av iv wr => ∃ (i a : Nat) (s : ByteArray) (r kept : List UInt8), i + gk = m + 1 ∧ iv = .int .i64 i ∧ av = .int .i64 a ∧ a ≤ n ∧ sv = .string s ∧ s.data.toList = Ut.dec r ∧ Ut.Inv (l.take a) r kept ∧ Rd wr rb kept ∧ Below w.heap.size w wr ∧ (i = m + 1 → a = n))
      case atStart => exact ⟨0, 0, ⟨#[]⟩, [], [], by omega, rfl, rfl, Nat.zero_le _, rfl, by rw [Ut.dec_nil], Ut.Inv.nil, HRDQ.out, HBQ.out, fun h => absurd h (by omega)⟩
      case round =>
        obtain ⟨i, a, s, r, kept, hi, rfl, rfl, han, rfl, hs, hinv, hrdr, hbr, hfin⟩ := hrel
        have HI := Lib.hid hi; clear hi
        have HS := Lib.hid hs; clear hs
        have HINV := Lib.hid hinv; clear hinv
        have HRDR := Lib.hid hrdr; clear hrdr
        have HBR := Lib.hid hbr; clear hbr
        have HFIN := Lib.hid hfin; clear hfin
        obtain ⟨gi, rfl⟩ : ∃ gi, gi = gk := ⟨_, rfl⟩
        by_cases him : i = m
        · have hii : (i : Int) ≤ (m : Int) := by omega
          have hni : ¬ (i : Int) < (m : Int) := by omega
          clear him
          have hat : a ≤ n := han
          have htn : n ≤ n := Nat.le_refl n
          have hri := HBR.out
          have hsz := hri.size
          have hsub := sub_bytes (HB.out.below hri) a n hat htn hc
          have hsn := sub_none (a := a) HZ.out htn hc
          have hani : (a : Int) ≤ (n : Int) := by omega
          have hnci : (n : Int) ≤ (c : Int) := by omega
          have hlenP : ((l.take n).drop a).length = n - a := by rw [List.length_drop, List.length_take, HL.out]; omega
          obtain ⟨P, hP⟩ : ∃ P, P = (l.take n).drop a := ⟨_, rfl⟩
          have hPa : l.take n = l.take a ++ P := by
            have h := (List.take_append_drop a (l.take n)).symm
            rw [List.take_take, Nat.min_eq_left hat] at h
            rw [hP]; exact h
          rw [← hP] at hsub hlenP
          have HPA := Lib.hid hPa
          have HLENP := Lib.hid hlenP
          have HRI := Lib.hid hri
          have hrbw : rb < wr.heap.size := rd_lt HRDR.out
          clear hP hPa hlenP hri hsz
          by_cases hca : c = a
          · rw [if_pos hca] at hsub hsn
            have hct : (c = a) = True := eq_true hca
            have HZ0 := Lib.hid (show n - a = 0 by omega)
            clear hca
            go_wp2_with (at_builtin; refine wpList_append_any_bytes rfl (.tmp 69) (.tmp 73) rfl _ wr wr.heap.size _ 0 [] _ _ (n - a) _ rfl rfl (World.ownsRow_nil _ _ _ _) hsub hsn (Below.refl _ _) (Nat.le_refl _) (by omega) ?_; intro v1 w2 hown2 hb2; rw [List.nil_append, Nat.zero_add] at hown2)
            obtain ⟨A1, c1, rfl, hc1, hz1⟩ := own_form hown2
            have hbi1 := BytesIn.of_own hown2
            have B2 := Lib.hid (HRI.out.trans (hb2.mono HRI.out.size))
            have hrd2 := rd_below HRDR.out hb2 hrbw
            have hkept := HINV.out.2.1
            have cF := feed_any rb kept A1 _ c1 P w2 (T.below HT.out B2.out) (by omega) hrd2 hbi1 (fun e => ⟨by have := hz1 e; omega, hz1 e⟩) (by omega)
            have CF := Lib.hid cF; clear cF
            have HOWN2 := Lib.hid hown2
            have HHB2 := Lib.hid hb2
            have HKEPT := Lib.hid hkept
            clear hown2 hb2 hrd2 hbi1 hsub hsn hkept
            go_wp2_with fail
            refine CF.out.mono ?_
            rintro e w3 ⟨kk, hcut, rfl, hrd3, hbar⟩
            obtain ⟨hinv3, hdec3⟩ := HINV.out.step hcut
            obtain ⟨R3, hR3⟩ : ∃ R3, R3 = r ++ (kept ++ P).take ((kept ++ P).length - kk) := ⟨_, rfl⟩
            obtain ⟨K3, hK3⟩ : ∃ K3, K3 = (kept ++ P).drop ((kept ++ P).length - kk) := ⟨_, rfl⟩
            obtain ⟨D3, hD3⟩ : ∃ D3 : ByteArray, D3 = ⟨(Ut.dec ((kept ++ P).take ((kept ++ P).length - kk))).toArray⟩ := ⟨_, rfl⟩
            have hD3d : D3.data.toList = Ut.dec ((kept ++ P).take ((kept ++ P).length - kk)) := by rw [hD3]
            rw [← hR3, ← hK3] at hinv3
            rw [← hR3, ← hD3d] at hdec3
            rw [← hK3] at hrd3
            rw [← hD3]
            rw [← HPA.out] at hinv3
            have hD3s : D3.size ≤ 30000 := by
              rw [← size_len, hD3d]
              obtain ⟨Z, hZ⟩ : ∃ Z, Z = (kept ++ P).take ((kept ++ P).length - kk) := ⟨_, rfl⟩
              rw [← hZ]
              have h1 := Ut.dec_length Z
              have h4 : Z.length ≤ kept.length + P.length := by rw [hZ, List.length_take, List.length_append]; omega
              have h2 := HLENP.out
              have h3 := HKEPT.out
              omega
            have hss : s.size ≤ 30000 := by
              rw [← size_len, HS.out]
              have h1 := Ut.dec_length r
              have h2 := congrArg List.length HINV.out.1
              rw [List.length_append, List.length_take] at h2
              have h3 := HL.out
              omega
            have hno : ¬ 9223372036854775807 < s.size + D3.size := by omega
            obtain ⟨S3, hS3⟩ : ∃ S3, s ++ D3 = S3 := ⟨_, rfl⟩
            have hS3d : S3.data.toList = Ut.dec R3 := by rw [← hS3, cat_data, HS.out, hdec3]
            have HS3D := Lib.hid hS3d
            have HINV3 := Lib.hid hinv3
            have hwz : wr.heap.size ≤ w2.heap.size := HHB2.out.size
            have hown3 : w3.ownsRow wr.heap.size 5 1 (.slice A1 (n - a) c1) (n - a) (Lib.byteCells P) := own_bar HOWN2.out hbar (Nat.lt_of_lt_of_le hrbw (Nat.le_refl _))
            have B3 := Lib.hid (below_bar B2.out hbar (show w.heap.size ≤ rb by omega))
            clear hinv3 hdec3 hR3 hK3 hD3 hD3d hS3d hcut hbar
            go_wp2_with fail
            go_loopg [14] (n - a) (fun gk v wx => ∃ (k : Nat) (q : List UInt8), k + gk = n - a ∧ v = .int .i64 k ∧ wx.ownsRow wr.heap.size 5 1 (.slice A1 (n - a) c1) (n - a) (Lib.byteCells q) ∧ Rd wx rb K3 ∧ Below w.heap.size w wx)
            case atStart => exact ⟨0, P, by omega, rfl, hown3, hrd3, B3.out⟩
            case round =>
              obtain ⟨k, q, hkg, rfl, hownx, hrdx, hbx⟩ := hrel
              have HKG := Lib.hid hkg; clear hkg
              have HOWNX := Lib.hid hownx
              have HRDX := Lib.hid hrdx; clear hrdx
              have HBX := Lib.hid hbx; clear hbx
              by_cases hkt : k < n - a
              · first
                | (exfalso; have := HZ0.out; omega)
                | (obtain ⟨g, rfl, hgw, hgl⟩ := own_block hownx (by omega)
                   have hqk : k < q.length := by rw [own_len hownx]; exact hkt
                   have hcell : (_ : World).cell? ⟨g, k, none⟩ = some (.int .u8 q[k].toNat) := (hownx.cellAt k (by omega)).trans (by simp [Lib.byteCells, List.getElem?_eq_getElem hqk])
                   have hfz := hownx.frozenAt k
                   have hst := hownx.stored k (.int .u8 120)
                   have HST := Lib.hid hst
                   have hki : (k : Int) < ((n - a : Nat) : Int) := by omega
                   clear hownx hst
                   obtain ⟨i5, hi5, _, hi51, _⟩ := info_parts byte_info
                   go_wp2
                   go_roundg (gk - 1)
                   case rel =>
                     have := HKG.out
                     obtain ⟨ho, hg⟩ := HST.out
                     refine ⟨k + 1, q.set k 120, by omega, by go_num, ?_, ?_, ?_⟩
                     · have he : (Lib.byteCells q).set k (.int .u8 120) = Lib.byteCells (q.set k 120) := by unfold Lib.byteCells; rw [List.map_set]; rfl
                       rw [← he]; exact ho
                     · exact rd_grown HRDX.out hg (by simp [Value.ownBlock]; omega)
                     · exact HBX.out.grown hg HBX.out.size (fun j hj => by simp [Value.ownBlock] at hj; omega)
                   case measure => have := HKG.out; omega)
              · have hkn : ¬ (k : Int) < ((n - a : Nat) : Int) := by omega
                obtain ⟨wx, rfl⟩ : ∃ wx, wx = wr := ⟨_, rfl⟩
                have hbt := take_any (HB.out.below HBX.out) htn
                have hcv := bytes_string (c := c) hbt
                have hcv2 := bytes_string (c := a) hbt
                have hneq : (0 : Int) ≤ (n : Int) := by omega
                have hlt : (l.take n).length ≤ 100000 := by rw [List.length_take]; omega
                have c12 := ref_dec_of (l.take n) wx hlt
                obtain ⟨DD, hDD⟩ : ∃ DD : ByteArray, DD = ⟨(Ut.dec (l.take n)).toArray⟩ := ⟨_, rfl⟩
                rw [← hDD] at c12
                have C12 := Lib.hid c12; clear c12
                have hrdw := rd_lt HRDX.out
                by_cases hq : S3 = DD
                · have hqi : (S3.toList == DD.toList) = true := by rw [hq]; simp
                  clear hq hDD
                  go_wp2_with fail
                  refine C12.out.mono ?_
                  rintro e wy ⟨rfl, hby⟩
                  go_wp2
                  go_roundg (gi - 1)
                  case rel =>
                    have := HI.out
                    exact ⟨i + 1, n, S3, R3, K3, by omega, by go_num, by go_num, htn, rfl, HS3D.out, HINV3.out, rd_below HRDX.out hby hrdw, HBX.out.trans (hby.mono HBX.out.size), fun _ => rfl⟩
                  case measure => have := HI.out; omega
                · have hqi : (S3.toList == DD.toList) = false := by
                    rw [beq_eq_false_iff_ne, Lib.toList_data, Lib.toList_data]
                    exact fun e => hq (ByteArray.ext (Array.toList_inj.1 e))
                  have hbeh : ∃ k, 1 ≤ k ∧ k ≤ 3 ∧ k ≤ (⟨(l.take n).toArray⟩ : ByteArray).size ∧ S3.data.toList = Ut.dec ((⟨(l.take n).toArray⟩ : ByteArray).data.toList.take ((⟨(l.take n).toArray⟩ : ByteArray).size - k)) := by
                    rcases HINV3.out.behind with hbe | ⟨k, k1, k3, kl, ke⟩
                    · exact absurd (ByteArray.ext (Array.toList_inj.1 (by rw [HS3D.out, hbe, hDD]))) hq
                    · exact ⟨k, k1, k3, by rw [mk_size']; exact kl, by rw [HS3D.out, ke, mk_size']⟩
                  obtain ⟨kb, kb1, kb3, kbl, kbe⟩ := hbeh
                  have C21 := Lib.hid (fun w' => behind_any S3 ⟨(l.take n).toArray⟩ w' (by rw [mk_size']; exact hlt) kb kb1 kb3 kbl kbe)
                  clear hq hDD kb1 kb3 kbl kbe
                  go_wp2_with fail
                  refine C12.out.mono ?_
                  rintro e wy ⟨rfl, hby⟩
                  have hby2 := HBX.out.trans (hby.mono HBX.out.size)
                  have hcv3 := bytes_string (c := c) (take_any (HB.out.below hby2) htn)
                  have hcv4 := bytes_string (c := a) (take_any (HB.out.below hby2) htn)
                  go_wp2_with fail
                  refine (C21.out _).mono ?_
                  rintro e wz ⟨rfl, hbz⟩
                  go_wp2
                  go_roundg (gi - 1)
                  case rel =>
                    have := HI.out
                    exact ⟨i + 1, n, S3, R3, K3, by omega, by go_num, by go_num, htn, rfl, HS3D.out, HINV3.out, rd_below (rd_below HRDX.out hby hrdw) hbz (Nat.lt_of_lt_of_le hrdw hby.size), hby2.trans (hbz.mono hby2.size), fun _ => rfl⟩
                  case measure => have := HI.out; omega
          · rw [if_neg hca] at hsub hsn
            have hct : (c = a) = False := eq_false hca
            have HZ0 := Lib.hid True.intro
            clear hca
            go_wp2_with (at_builtin; refine wpList_append_any_bytes rfl (.tmp 69) (.tmp 73) rfl _ wr wr.heap.size _ 0 [] _ _ (n - a) _ rfl rfl (World.ownsRow_nil _ _ _ _) hsub hsn (Below.refl _ _) (Nat.le_refl _) (by omega) ?_; intro v1 w2 hown2 hb2; rw [List.nil_append, Nat.zero_add] at hown2)
            obtain ⟨A1, c1, rfl, hc1, hz1⟩ := own_form hown2
            have hbi1 := BytesIn.of_own hown2
            have B2 := Lib.hid (HRI.out.trans (hb2.mono HRI.out.size))
            have hrd2 := rd_below HRDR.out hb2 hrbw
            have hkept := HINV.out.2.1
            have cF := feed_any rb kept A1 _ c1 P w2 (T.below HT.out B2.out) (by omega) hrd2 hbi1 (fun e => ⟨by have := hz1 e; omega, hz1 e⟩) (by omega)
            have CF := Lib.hid cF; clear cF
            have HOWN2 := Lib.hid hown2
            have HHB2 := Lib.hid hb2
            have HKEPT := Lib.hid hkept
            clear hown2 hb2 hrd2 hbi1 hsub hsn hkept
            go_wp2_with fail
            refine CF.out.mono ?_
            rintro e w3 ⟨kk, hcut, rfl, hrd3, hbar⟩
            obtain ⟨hinv3, hdec3⟩ := HINV.out.step hcut
            obtain ⟨R3, hR3⟩ : ∃ R3, R3 = r ++ (kept ++ P).take ((kept ++ P).length - kk) := ⟨_, rfl⟩
            obtain ⟨K3, hK3⟩ : ∃ K3, K3 = (kept ++ P).drop ((kept ++ P).length - kk) := ⟨_, rfl⟩
            obtain ⟨D3, hD3⟩ : ∃ D3 : ByteArray, D3 = ⟨(Ut.dec ((kept ++ P).take ((kept ++ P).length - kk))).toArray⟩ := ⟨_, rfl⟩
            have hD3d : D3.data.toList = Ut.dec ((kept ++ P).take ((kept ++ P).length - kk)) := by rw [hD3]
            rw [← hR3, ← hK3] at hinv3
            rw [← hR3, ← hD3d] at hdec3
            rw [← hK3] at hrd3
            rw [← hD3]
            rw [← HPA.out] at hinv3
            have hD3s : D3.size ≤ 30000 := by
              rw [← size_len, hD3d]
              obtain ⟨Z, hZ⟩ : ∃ Z, Z = (kept ++ P).take ((kept ++ P).length - kk) := ⟨_, rfl⟩
              rw [← hZ]
              have h1 := Ut.dec_length Z
              have h4 : Z.length ≤ kept.length + P.length := by rw [hZ, List.length_take, List.length_append]; omega
              have h2 := HLENP.out
              have h3 := HKEPT.out
              omega
            have hss : s.size ≤ 30000 := by
              rw [← size_len, HS.out]
              have h1 := Ut.dec_length r
              have h2 := congrArg List.length HINV.out.1
              rw [List.length_append, List.length_take] at h2
              have h3 := HL.out
              omega
            have hno : ¬ 9223372036854775807 < s.size + D3.size := by omega
            obtain ⟨S3, hS3⟩ : ∃ S3, s ++ D3 = S3 := ⟨_, rfl⟩
            have hS3d : S3.data.toList = Ut.dec R3 := by rw [← hS3, cat_data, HS.out, hdec3]
            have HS3D := Lib.hid hS3d
            have HINV3 := Lib.hid hinv3
            have hwz : wr.heap.size ≤ w2.heap.size := HHB2.out.size
            have hown3 : w3.ownsRow wr.heap.size 5 1 (.slice A1 (n - a) c1) (n - a) (Lib.byteCells P) := own_bar HOWN2.out hbar (Nat.lt_of_lt_of_le hrbw (Nat.le_refl _))
            have B3 := Lib.hid (below_bar B2.out hbar (show w.heap.size ≤ rb by omega))
            clear hinv3 hdec3 hR3 hK3 hD3 hD3d hS3d hcut hbar
            go_wp2_with fail
            go_loopg [14] (n - a) (fun gk v wx => ∃ (k : Nat) (q : List UInt8), k + gk = n - a ∧ v = .int .i64 k ∧ wx.ownsRow wr.heap.size 5 1 (.slice A1 (n - a) c1) (n - a) (Lib.byteCells q) ∧ Rd wx rb K3 ∧ Below w.heap.size w wx)
            case atStart => exact ⟨0, P, by omega, rfl, hown3, hrd3, B3.out⟩
            case round =>
              obtain ⟨k, q, hkg, rfl, hownx, hrdx, hbx⟩ := hrel
              have HKG := Lib.hid hkg; clear hkg
              have HOWNX := Lib.hid hownx
              have HRDX := Lib.hid hrdx; clear hrdx
              have HBX := Lib.hid hbx; clear hbx
              by_cases hkt : k < n - a
              · first
                | (exfalso; have := HZ0.out; omega)
                | (obtain ⟨g, rfl, hgw, hgl⟩ := own_block hownx (by omega)
                   have hqk : k < q.length := by rw [own_len hownx]; exact hkt
                   have hcell : (_ : World).cell? ⟨g, k, none⟩ = some (.int .u8 q[k].toNat) := (hownx.cellAt k (by omega)).trans (by simp [Lib.byteCells, List.getElem?_eq_getElem hqk])
                   have hfz := hownx.frozenAt k
                   have hst := hownx.stored k (.int .u8 120)
                   have HST := Lib.hid hst
                   have hki : (k : Int) < ((n - a : Nat) : Int) := by omega
                   clear hownx hst
                   obtain ⟨i5, hi5, _, hi51, _⟩ := info_parts byte_info
                   go_wp2
                   go_roundg (gk - 1)
                   case rel =>
                     have := HKG.out
                     obtain ⟨ho, hg⟩ := HST.out
                     refine ⟨k + 1, q.set k 120, by omega, by go_num, ?_, ?_, ?_⟩
                     · have he : (Lib.byteCells q).set k (.int .u8 120) = Lib.byteCells (q.set k 120) := by unfold Lib.byteCells; rw [List.map_set]; rfl
                       rw [← he]; exact ho
                     · exact rd_grown HRDX.out hg (by simp [Value.ownBlock]; omega)
                     · exact HBX.out.grown hg HBX.out.size (fun j hj => by simp [Value.ownBlock] at hj; omega)
                   case measure => have := HKG.out; omega)
              · have hkn : ¬ (k : Int) < ((n - a : Nat) : Int) := by omega
                obtain ⟨wx, rfl⟩ : ∃ wx, wx = wr := ⟨_, rfl⟩
                have hbt := take_any (HB.out.below HBX.out) htn
                have hcv := bytes_string (c := c) hbt
                have hcv2 := bytes_string (c := a) hbt
                have hneq : (0 : Int) ≤ (n : Int) := by omega
                have hlt : (l.take n).length ≤ 100000 := by rw [List.length_take]; omega
                have c12 := ref_dec_of (l.take n) wx hlt
                obtain ⟨DD, hDD⟩ : ∃ DD : ByteArray, DD = ⟨(Ut.dec (l.take n)).toArray⟩ := ⟨_, rfl⟩
                rw [← hDD] at c12
                have C12 := Lib.hid c12; clear c12
                have hrdw := rd_lt HRDX.out
                by_cases hq : S3 = DD
                · have hqi : (S3.toList == DD.toList) = true := by rw [hq]; simp
                  clear hq hDD
                  go_wp2_with fail
                  refine C12.out.mono ?_
                  rintro e wy ⟨rfl, hby⟩
                  go_wp2
                  go_roundg (gi - 1)
                  case rel =>
                    have := HI.out
                    exact ⟨i + 1, n, S3, R3, K3, by omega, by go_num, by go_num, htn, rfl, HS3D.out, HINV3.out, rd_below HRDX.out hby hrdw, HBX.out.trans (hby.mono HBX.out.size), fun _ => rfl⟩
                  case measure => have := HI.out; omega
                · have hqi : (S3.toList == DD.toList) = false := by
                    rw [beq_eq_false_iff_ne, Lib.toList_data, Lib.toList_data]
                    exact fun e => hq (ByteArray.ext (Array.toList_inj.1 e))
                  have hbeh : ∃ k, 1 ≤ k ∧ k ≤ 3 ∧ k ≤ (⟨(l.take n).toArray⟩ : ByteArray).size ∧ S3.data.toList = Ut.dec ((⟨(l.take n).toArray⟩ : ByteArray).data.toList.take ((⟨(l.take n).toArray⟩ : ByteArray).size - k)) := by
                    rcases HINV3.out.behind with hbe | ⟨k, k1, k3, kl, ke⟩
                    · exact absurd (ByteArray.ext (Array.toList_inj.1 (by rw [HS3D.out, hbe, hDD]))) hq
                    · exact ⟨k, k1, k3, by rw [mk_size']; exact kl, by rw [HS3D.out, ke, mk_size']⟩
                  obtain ⟨kb, kb1, kb3, kbl, kbe⟩ := hbeh
                  have C21 := Lib.hid (fun w' => behind_any S3 ⟨(l.take n).toArray⟩ w' (by rw [mk_size']; exact hlt) kb kb1 kb3 kbl kbe)
                  clear hq hDD kb1 kb3 kbl kbe
                  go_wp2_with fail
                  refine C12.out.mono ?_
                  rintro e wy ⟨rfl, hby⟩
                  have hby2 := HBX.out.trans (hby.mono HBX.out.size)
                  have hcv3 := bytes_string (c := c) (take_any (HB.out.below hby2) htn)
                  have hcv4 := bytes_string (c := a) (take_any (HB.out.below hby2) htn)
                  go_wp2_with fail
                  refine (C21.out _).mono ?_
                  rintro e wz ⟨rfl, hbz⟩
                  go_wp2
                  go_roundg (gi - 1)
                  case rel =>
                    have := HI.out
                    exact ⟨i + 1, n, S3, R3, K3, by omega, by go_num, by go_num, htn, rfl, HS3D.out, HINV3.out, rd_below (rd_below HRDX.out hby hrdw) hbz (Nat.lt_of_lt_of_le hrdw hby.size), hby2.trans (hbz.mono hby2.size), fun _ => rfl⟩
                  case measure => have := HI.out; omega
        by_cases him2 : i < m
        · have hii : (i : Int) ≤ (m : Int) := by omega
          have hni : (i : Int) < (m : Int) := by omega
          have hip : i < p.length := by rw [HLP.out]; exact him2
          obtain ⟨ad, rfl, hcx⟩ := HR.out.at_ HBR.out i (.int .i64 p[i]) (by simp [ic, List.getElem?_eq_getElem hip])
          obtain ⟨x, hx⟩ : ∃ x, x = p[i] := ⟨_, rfl⟩
          rw [← hx] at hcx
          clear hx hip him
          by_cases hxa : (a : Int) ≤ x
          · by_cases hxn : x ≤ (n : Int)
            · obtain ⟨xi, rfl⟩ : ∃ xi : Nat, x = xi := ⟨x.toNat, by omega⟩
              have hat : a ≤ xi := by omega
              have htn : xi ≤ n := by omega
              have hri := HBR.out
              have hsz := hri.size
              have hsub := sub_bytes (HB.out.below hri) a xi hat htn hc
              have hsn := sub_none (a := a) HZ.out htn hc
              have hani : (a : Int) ≤ (xi : Int) := by omega
              have hnci : (xi : Int) ≤ (c : Int) := by omega
              have hlenP : ((l.take xi).drop a).length = xi - a := by rw [List.length_drop, List.length_take, HL.out]; omega
              obtain ⟨P, hP⟩ : ∃ P, P = (l.take xi).drop a := ⟨_, rfl⟩
              have hPa : l.take xi = l.take a ++ P := by
                have h := (List.take_append_drop a (l.take xi)).symm
                rw [List.take_take, Nat.min_eq_left hat] at h
                rw [hP]; exact h
              rw [← hP] at hsub hlenP
              have HPA := Lib.hid hPa
              have HLENP := Lib.hid hlenP
              have HRI := Lib.hid hri
              have hrbw : rb < wr.heap.size := rd_lt HRDR.out
              clear hP hPa hlenP hri hsz
              by_cases hca : c = a
              · rw [if_pos hca] at hsub hsn
                have hct : (c = a) = True := eq_true hca
                have HZ0 := Lib.hid (show xi - a = 0 by omega)
                clear hca
                go_wp2_with (at_builtin; refine wpList_append_any_bytes rfl (.tmp 69) (.tmp 73) rfl _ wr wr.heap.size _ 0 [] _ _ (xi - a) _ rfl rfl (World.ownsRow_nil _ _ _ _) hsub hsn (Below.refl _ _) (Nat.le_refl _) (by omega) ?_; intro v1 w2 hown2 hb2; rw [List.nil_append, Nat.zero_add] at hown2)
                obtain ⟨A1, c1, rfl, hc1, hz1⟩ := own_form hown2
                have hbi1 := BytesIn.of_own hown2
                have B2 := Lib.hid (HRI.out.trans (hb2.mono HRI.out.size))
                have hrd2 := rd_below HRDR.out hb2 hrbw
                have hkept := HINV.out.2.1
                have cF := feed_any rb kept A1 _ c1 P w2 (T.below HT.out B2.out) (by omega) hrd2 hbi1 (fun e => ⟨by have := hz1 e; omega, hz1 e⟩) (by omega)
                have CF := Lib.hid cF; clear cF
                have HOWN2 := Lib.hid hown2
                have HHB2 := Lib.hid hb2
                have HKEPT := Lib.hid hkept
                clear hown2 hb2 hrd2 hbi1 hsub hsn hkept
                go_wp2_with fail
                refine CF.out.mono ?_
                rintro e w3 ⟨kk, hcut, rfl, hrd3, hbar⟩
                obtain ⟨hinv3, hdec3⟩ := HINV.out.step hcut
                obtain ⟨R3, hR3⟩ : ∃ R3, R3 = r ++ (kept ++ P).take ((kept ++ P).length - kk) := ⟨_, rfl⟩
                obtain ⟨K3, hK3⟩ : ∃ K3, K3 = (kept ++ P).drop ((kept ++ P).length - kk) := ⟨_, rfl⟩
                obtain ⟨D3, hD3⟩ : ∃ D3 : ByteArray, D3 = ⟨(Ut.dec ((kept ++ P).take ((kept ++ P).length - kk))).toArray⟩ := ⟨_, rfl⟩
                have hD3d : D3.data.toList = Ut.dec ((kept ++ P).take ((kept ++ P).length - kk)) := by rw [hD3]
                rw [← hR3, ← hK3] at hinv3
                rw [← hR3, ← hD3d] at hdec3
                rw [← hK3] at hrd3
                rw [← hD3]
                rw [← HPA.out] at hinv3
                have hD3s : D3.size ≤ 30000 := by
                  rw [← size_len, hD3d]
                  obtain ⟨Z, hZ⟩ : ∃ Z, Z = (kept ++ P).take ((kept ++ P).length - kk) := ⟨_, rfl⟩
                  rw [← hZ]
                  have h1 := Ut.dec_length Z
                  have h4 : Z.length ≤ kept.length + P.length := by rw [hZ, List.length_take, List.length_append]; omega
                  have h2 := HLENP.out
                  have h3 := HKEPT.out
                  omega
                have hss : s.size ≤ 30000 := by
                  rw [← size_len, HS.out]
                  have h1 := Ut.dec_length r
                  have h2 := congrArg List.length HINV.out.1
                  rw [List.length_append, List.length_take] at h2
                  have h3 := HL.out
                  omega
                have hno : ¬ 9223372036854775807 < s.size + D3.size := by omega
                obtain ⟨S3, hS3⟩ : ∃ S3, s ++ D3 = S3 := ⟨_, rfl⟩
                have hS3d : S3.data.toList = Ut.dec R3 := by rw [← hS3, cat_data, HS.out, hdec3]
                have HS3D := Lib.hid hS3d
                have HINV3 := Lib.hid hinv3
                have hwz : wr.heap.size ≤ w2.heap.size := HHB2.out.size
                have hown3 : w3.ownsRow wr.heap.size 5 1 (.slice A1 (xi - a) c1) (xi - a) (Lib.byteCells P) := own_bar HOWN2.out hbar (Nat.lt_of_lt_of_le hrbw (Nat.le_refl _))
                have B3 := Lib.hid (below_bar B2.out hbar (show w.heap.size ≤ rb by omega))
                clear hinv3 hdec3 hR3 hK3 hD3 hD3d hS3d hcut hbar
                go_wp2_with fail
                go_loopg [14] (xi - a) (fun gk v wx => ∃ (k : Nat) (q : List UInt8), k + gk = xi - a ∧ v = .int .i64 k ∧ wx.ownsRow wr.heap.size 5 1 (.slice A1 (xi - a) c1) (xi - a) (Lib.byteCells q) ∧ Rd wx rb K3 ∧ Below w.heap.size w wx)
                case atStart => exact ⟨0, P, by omega, rfl, hown3, hrd3, B3.out⟩
                case round =>
                  obtain ⟨k, q, hkg, rfl, hownx, hrdx, hbx⟩ := hrel
                  have HKG := Lib.hid hkg; clear hkg
                  have HOWNX := Lib.hid hownx
                  have HRDX := Lib.hid hrdx; clear hrdx
                  have HBX := Lib.hid hbx; clear hbx
                  by_cases hkt : k < xi - a
                  · first
                    | (exfalso; have := HZ0.out; omega)
                    | (obtain ⟨g, rfl, hgw, hgl⟩ := own_block hownx (by omega)
                       have hqk : k < q.length := by rw [own_len hownx]; exact hkt
                       have hcell : (_ : World).cell? ⟨g, k, none⟩ = some (.int .u8 q[k].toNat) := (hownx.cellAt k (by omega)).trans (by simp [Lib.byteCells, List.getElem?_eq_getElem hqk])
                       have hfz := hownx.frozenAt k
                       have hst := hownx.stored k (.int .u8 120)
                       have HST := Lib.hid hst
                       have hki : (k : Int) < ((xi - a : Nat) : Int) := by omega
                       clear hownx hst
                       obtain ⟨i5, hi5, _, hi51, _⟩ := info_parts byte_info
                       go_wp2
                       go_roundg (gk - 1)
                       case rel =>
                         have := HKG.out
                         obtain ⟨ho, hg⟩ := HST.out
                         refine ⟨k + 1, q.set k 120, by omega, by go_num, ?_, ?_, ?_⟩
                         · have he : (Lib.byteCells q).set k (.int .u8 120) = Lib.byteCells (q.set k 120) := by unfold Lib.byteCells; rw [List.map_set]; rfl
                           rw [← he]; exact ho
                         · exact rd_grown HRDX.out hg (by simp [Value.ownBlock]; omega)
                         · exact HBX.out.grown hg HBX.out.size (fun j hj => by simp [Value.ownBlock] at hj; omega)
                       case measure => have := HKG.out; omega)
                  · have hkn : ¬ (k : Int) < ((xi - a : Nat) : Int) := by omega
                    obtain ⟨wx, rfl⟩ : ∃ wx, wx = wr := ⟨_, rfl⟩
                    have hbt := take_any (HB.out.below HBX.out) htn
                    have hcv := bytes_string (c := c) hbt
                    have hcv2 := bytes_string (c := a) hbt
                    have hneq : (0 : Int) ≤ (xi : Int) := by omega
                    have hlt : (l.take xi).length ≤ 100000 := by rw [List.length_take]; omega
                    have c12 := ref_dec_of (l.take xi) wx hlt
                    obtain ⟨DD, hDD⟩ : ∃ DD : ByteArray, DD = ⟨(Ut.dec (l.take xi)).toArray⟩ := ⟨_, rfl⟩
                    rw [← hDD] at c12
                    have C12 := Lib.hid c12; clear c12
                    have hrdw := rd_lt HRDX.out
                    by_cases hq : S3 = DD
                    · have hqi : (S3.toList == DD.toList) = true := by rw [hq]; simp
                      clear hq hDD
                      go_wp2_with fail
                      refine C12.out.mono ?_
                      rintro e wy ⟨rfl, hby⟩
                      go_wp2
                      go_roundg (gi - 1)
                      case rel =>
                        have := HI.out
                        exact ⟨i + 1, xi, S3, R3, K3, by omega, by go_num, by go_num, htn, rfl, HS3D.out, HINV3.out, rd_below HRDX.out hby hrdw, HBX.out.trans (hby.mono HBX.out.size), (fun h => absurd h (by omega))⟩
                      case measure => have := HI.out; omega
                    · have hqi : (S3.toList == DD.toList) = false := by
                        rw [beq_eq_false_iff_ne, Lib.toList_data, Lib.toList_data]
                        exact fun e => hq (ByteArray.ext (Array.toList_inj.1 e))
                      have hbeh : ∃ k, 1 ≤ k ∧ k ≤ 3 ∧ k ≤ (⟨(l.take xi).toArray⟩ : ByteArray).size ∧ S3.data.toList = Ut.dec ((⟨(l.take xi).toArray⟩ : ByteArray).data.toList.take ((⟨(l.take xi).toArray⟩ : ByteArray).size - k)) := by
                        rcases HINV3.out.behind with hbe | ⟨k, k1, k3, kl, ke⟩
                        · exact absurd (ByteArray.ext (Array.toList_inj.1 (by rw [HS3D.out, hbe, hDD]))) hq
                        · exact ⟨k, k1, k3, by rw [mk_size']; exact kl, by rw [HS3D.out, ke, mk_size']⟩
                      obtain ⟨kb, kb1, kb3, kbl, kbe⟩ := hbeh
                      have C21 := Lib.hid (fun w' => behind_any S3 ⟨(l.take xi).toArray⟩ w' (by rw [mk_size']; exact hlt) kb kb1 kb3 kbl kbe)
                      clear hq hDD kb1 kb3 kbl kbe
                      go_wp2_with fail
                      refine C12.out.mono ?_
                      rintro e wy ⟨rfl, hby⟩
                      have hby2 := HBX.out.trans (hby.mono HBX.out.size)
                      have hcv3 := bytes_string (c := c) (take_any (HB.out.below hby2) htn)
                      have hcv4 := bytes_string (c := a) (take_any (HB.out.below hby2) htn)
                      go_wp2_with fail
                      refine (C21.out _).mono ?_
                      rintro e wz ⟨rfl, hbz⟩
                      go_wp2
                      go_roundg (gi - 1)
                      case rel =>
                        have := HI.out
                        exact ⟨i + 1, xi, S3, R3, K3, by omega, by go_num, by go_num, htn, rfl, HS3D.out, HINV3.out, rd_below (rd_below HRDX.out hby hrdw) hbz (Nat.lt_of_lt_of_le hrdw hby.size), hby2.trans (hbz.mono hby2.size), (fun h => absurd h (by omega))⟩
                      case measure => have := HI.out; omega
              · rw [if_neg hca] at hsub hsn
                have hct : (c = a) = False := eq_false hca
                have HZ0 := Lib.hid True.intro
                clear hca
                go_wp2_with (at_builtin; refine wpList_append_any_bytes rfl (.tmp 69) (.tmp 73) rfl _ wr wr.heap.size _ 0 [] _ _ (xi - a) _ rfl rfl (World.ownsRow_nil _ _ _ _) hsub hsn (Below.refl _ _) (Nat.le_refl _) (by omega) ?_; intro v1 w2 hown2 hb2; rw [List.nil_append, Nat.zero_add] at hown2)
                obtain ⟨A1, c1, rfl, hc1, hz1⟩ := own_form hown2
                have hbi1 := BytesIn.of_own hown2
                have B2 := Lib.hid (HRI.out.trans (hb2.mono HRI.out.size))
                have hrd2 := rd_below HRDR.out hb2 hrbw
                have hkept := HINV.out.2.1
                have cF := feed_any rb kept A1 _ c1 P w2 (T.below HT.out B2.out) (by omega) hrd2 hbi1 (fun e => ⟨by have := hz1 e; omega, hz1 e⟩) (by omega)
                have CF := Lib.hid cF; clear cF
                have HOWN2 := Lib.hid hown2
                have HHB2 := Lib.hid hb2
                have HKEPT := Lib.hid hkept
                clear hown2 hb2 hrd2 hbi1 hsub hsn hkept
                go_wp2_with fail
                refine CF.out.mono ?_
                rintro e w3 ⟨kk, hcut, rfl, hrd3, hbar⟩
                obtain ⟨hinv3, hdec3⟩ := HINV.out.step hcut
                obtain ⟨R3, hR3⟩ : ∃ R3, R3 = r ++ (kept ++ P).take ((kept ++ P).length - kk) := ⟨_, rfl⟩
                obtain ⟨K3, hK3⟩ : ∃ K3, K3 = (kept ++ P).drop ((kept ++ P).length - kk) := ⟨_, rfl⟩
                obtain ⟨D3, hD3⟩ : ∃ D3 : ByteArray, D3 = ⟨(Ut.dec ((kept ++ P).take ((kept ++ P).length - kk))).toArray⟩ := ⟨_, rfl⟩
                have hD3d : D3.data.toList = Ut.dec ((kept ++ P).take ((kept ++ P).length - kk)) := by rw [hD3]
                rw [← hR3, ← hK3] at hinv3
                rw [← hR3, ← hD3d] at hdec3
                rw [← hK3] at hrd3
                rw [← hD3]
                rw [← HPA.out] at hinv3
                have hD3s : D3.size ≤ 30000 := by
                  rw [← size_len, hD3d]
                  obtain ⟨Z, hZ⟩ : ∃ Z, Z = (kept ++ P).take ((kept ++ P).length - kk) := ⟨_, rfl⟩
                  rw [← hZ]
                  have h1 := Ut.dec_length Z
                  have h4 : Z.length ≤ kept.length + P.length := by rw [hZ, List.length_take, List.length_append]; omega
                  have h2 := HLENP.out
                  have h3 := HKEPT.out
                  omega
                have hss : s.size ≤ 30000 := by
                  rw [← size_len, HS.out]
                  have h1 := Ut.dec_length r
                  have h2 := congrArg List.length HINV.out.1
                  rw [List.length_append, List.length_take] at h2
                  have h3 := HL.out
                  omega
                have hno : ¬ 9223372036854775807 < s.size + D3.size := by omega
                obtain ⟨S3, hS3⟩ : ∃ S3, s ++ D3 = S3 := ⟨_, rfl⟩
                have hS3d : S3.data.toList = Ut.dec R3 := by rw [← hS3, cat_data, HS.out, hdec3]
                have HS3D := Lib.hid hS3d
                have HINV3 := Lib.hid hinv3
                have hwz : wr.heap.size ≤ w2.heap.size := HHB2.out.size
                have hown3 : w3.ownsRow wr.heap.size 5 1 (.slice A1 (xi - a) c1) (xi - a) (Lib.byteCells P) := own_bar HOWN2.out hbar (Nat.lt_of_lt_of_le hrbw (Nat.le_refl _))
                have B3 := Lib.hid (below_bar B2.out hbar (show w.heap.size ≤ rb by omega))
                clear hinv3 hdec3 hR3 hK3 hD3 hD3d hS3d hcut hbar
                go_wp2_with fail
                go_loopg [14] (xi - a) (fun gk v wx => ∃ (k : Nat) (q : List UInt8), k + gk = xi - a ∧ v = .int .i64 k ∧ wx.ownsRow wr.heap.size 5 1 (.slice A1 (xi - a) c1) (xi - a) (Lib.byteCells q) ∧ Rd wx rb K3 ∧ Below w.heap.size w wx)
                case atStart => exact ⟨0, P, by omega, rfl, hown3, hrd3, B3.out⟩
                case round =>
                  obtain ⟨k, q, hkg, rfl, hownx, hrdx, hbx⟩ := hrel
                  have HKG := Lib.hid hkg; clear hkg
                  have HOWNX := Lib.hid hownx
                  have HRDX := Lib.hid hrdx; clear hrdx
                  have HBX := Lib.hid hbx; clear hbx
                  by_cases hkt : k < xi - a
                  · first
                    | (exfalso; have := HZ0.out; omega)
                    | (obtain ⟨g, rfl, hgw, hgl⟩ := own_block hownx (by omega)
                       have hqk : k < q.length := by rw [own_len hownx]; exact hkt
                       have hcell : (_ : World).cell? ⟨g, k, none⟩ = some (.int .u8 q[k].toNat) := (hownx.cellAt k (by omega)).trans (by simp [Lib.byteCells, List.getElem?_eq_getElem hqk])
                       have hfz := hownx.frozenAt k
                       have hst := hownx.stored k (.int .u8 120)
                       have HST := Lib.hid hst
                       have hki : (k : Int) < ((xi - a : Nat) : Int) := by omega
                       clear hownx hst
                       obtain ⟨i5, hi5, _, hi51, _⟩ := info_parts byte_info
                       go_wp2
                       go_roundg (gk - 1)
                       case rel =>
                         have := HKG.out
                         obtain ⟨ho, hg⟩ := HST.out
                         refine ⟨k + 1, q.set k 120, by omega, by go_num, ?_, ?_, ?_⟩
                         · have he : (Lib.byteCells q).set k (.int .u8 120) = Lib.byteCells (q.set k 120) := by unfold Lib.byteCells; rw [List.map_set]; rfl
                           rw [← he]; exact ho
                         · exact rd_grown HRDX.out hg (by simp [Value.ownBlock]; omega)
                         · exact HBX.out.grown hg HBX.out.size (fun j hj => by simp [Value.ownBlock] at hj; omega)
                       case measure => have := HKG.out; omega)
                  · have hkn : ¬ (k : Int) < ((xi - a : Nat) : Int) := by omega
                    obtain ⟨wx, rfl⟩ : ∃ wx, wx = wr := ⟨_, rfl⟩
                    have hbt := take_any (HB.out.below HBX.out) htn
                    have hcv := bytes_string (c := c) hbt
                    have hcv2 := bytes_string (c := a) hbt
                    have hneq : (0 : Int) ≤ (xi : Int) := by omega
                    have hlt : (l.take xi).length ≤ 100000 := by rw [List.length_take]; omega
                    have c12 := ref_dec_of (l.take xi) wx hlt
                    obtain ⟨DD, hDD⟩ : ∃ DD : ByteArray, DD = ⟨(Ut.dec (l.take xi)).toArray⟩ := ⟨_, rfl⟩
                    rw [← hDD] at c12
                    have C12 := Lib.hid c12; clear c12
                    have hrdw := rd_lt HRDX.out
                    by_cases hq : S3 = DD
                    · have hqi : (S3.toList == DD.toList) = true := by rw [hq]; simp
                      clear hq hDD
                      go_wp2_with fail
                      refine C12.out.mono ?_
                      rintro e wy ⟨rfl, hby⟩
                      go_wp2
                      go_roundg (gi - 1)
                      case rel =>
                        have := HI.out
                        exact ⟨i + 1, xi, S3, R3, K3, by omega, by go_num, by go_num, htn, rfl, HS3D.out, HINV3.out, rd_below HRDX.out hby hrdw, HBX.out.trans (hby.mono HBX.out.size), (fun h => absurd h (by omega))⟩
                      case measure => have := HI.out; omega
                    · have hqi : (S3.toList == DD.toList) = false := by
                        rw [beq_eq_false_iff_ne, Lib.toList_data, Lib.toList_data]
                        exact fun e => hq (ByteArray.ext (Array.toList_inj.1 e))
                      have hbeh : ∃ k, 1 ≤ k ∧ k ≤ 3 ∧ k ≤ (⟨(l.take xi).toArray⟩ : ByteArray).size ∧ S3.data.toList = Ut.dec ((⟨(l.take xi).toArray⟩ : ByteArray).data.toList.take ((⟨(l.take xi).toArray⟩ : ByteArray).size - k)) := by
                        rcases HINV3.out.behind with hbe | ⟨k, k1, k3, kl, ke⟩
                        · exact absurd (ByteArray.ext (Array.toList_inj.1 (by rw [HS3D.out, hbe, hDD]))) hq
                        · exact ⟨k, k1, k3, by rw [mk_size']; exact kl, by rw [HS3D.out, ke, mk_size']⟩
                      obtain ⟨kb, kb1, kb3, kbl, kbe⟩ := hbeh
                      have C21 := Lib.hid (fun w' => behind_any S3 ⟨(l.take xi).toArray⟩ w' (by rw [mk_size']; exact hlt) kb kb1 kb3 kbl kbe)
                      clear hq hDD kb1 kb3 kbl kbe
                      go_wp2_with fail
                      refine C12.out.mono ?_
                      rintro e wy ⟨rfl, hby⟩
                      have hby2 := HBX.out.trans (hby.mono HBX.out.size)
                      have hcv3 := bytes_string (c := c) (take_any (HB.out.below hby2) htn)
                      have hcv4 := bytes_string (c := a) (take_any (HB.out.below hby2) htn)
                      go_wp2_with fail
                      refine (C21.out _).mono ?_
                      rintro e wz ⟨rfl, hbz⟩
                      go_wp2
                      go_roundg (gi - 1)
                      case rel =>
                        have := HI.out
                        exact ⟨i + 1, xi, S3, R3, K3, by omega, by go_num, by go_num, htn, rfl, HS3D.out, HINV3.out, rd_below (rd_below HRDX.out hby hrdw) hbz (Nat.lt_of_lt_of_le hrdw hby.size), hby2.trans (hbz.mono hby2.size), (fun h => absurd h (by omega))⟩
                      case measure => have := HI.out; omega
            · go_wp2
              go_roundg (gi - 1)
              case rel =>
                have := HI.out
                exact ⟨i + 1, a, s, r, kept, by omega, by go_num, rfl, han, rfl, HS.out, HINV.out, HRDR.out, HBR.out, fun h => absurd h (by omega)⟩
              case measure => have := HI.out; omega
          · go_wp2
            go_roundg (gi - 1)
            case rel =>
              have := HI.out
              exact ⟨i + 1, a, s, r, kept, by omega, by go_num, rfl, han, rfl, HS.out, HINV.out, HRDR.out, HBR.out, fun h => absurd h (by omega)⟩
            case measure => have := HI.out; omega
        · have hi1 : i = m + 1 := by have := HI.out; omega
          have hii : ¬ (i : Int) ≤ (m : Int) := by omega
          have hae : a = n := HFIN.out hi1
          have hall := HINV.out.all
          have hlt : l.take a = l := List.take_of_length_le (by rw [hae, HL.out]; exact Nat.le_refl _)
          rw [hlt] at hall
          have cE := end_any rb kept wr (T.below HT.out HBR.out) (by omega) HRDR.out
          have hss : s.size ≤ 30000 := by
            rw [← size_len, HS.out]
            have h1 := Ut.dec_length r
            have h2 := congrArg List.length HINV.out.1
            rw [List.length_append, List.length_take] at h2
            have h3 := HL.out
            omega
          obtain ⟨D4, hD4⟩ : ∃ D4 : ByteArray, D4 = ⟨(Ut.dec kept).toArray⟩ := ⟨_, rfl⟩
          have hD4d : D4.data.toList = Ut.dec kept := by rw [hD4]
          have hD4s : D4.size ≤ 12 := by
            rw [← size_len, hD4d]
            have h1 := Ut.dec_length kept
            have h2 := HINV.out.2.1
            omega
          rw [← hD4] at cE
          have hno : ¬ 9223372036854775807 < s.size + D4.size := by omega
          obtain ⟨DD, hDD⟩ : ∃ DD : ByteArray, DD = ⟨(Ut.dec l).toArray⟩ := ⟨_, rfl⟩
          have hSD : s ++ D4 = DD := by
            apply ByteArray.ext
            apply Array.toList_inj.1
            rw [cat_data, HS.out, hD4d, hall, hDD]
          have hqi : (DD.toList == DD.toList) = true := beq_self_eq_true _
          have c12 := fun w' => ref_dec_of l w' (by rw [HL.out]; omega)
          rw [← hDD] at c12
          have C12 := Lib.hid c12
          have CE := Lib.hid cE
          have hrbw : rb < wr.heap.size := rd_lt HRDR.out
          clear c12 cE hDD hD4 hD4d hall hlt hae hi1 him
          go_wp2_with fail
          refine CE.out.mono ?_
          rintro e w5 ⟨rfl, hrd5, hbar5⟩
          have B5 := Lib.hid (below_bar HBR.out hbar5 (show w.heap.size ≤ rb by omega))
          have hcv := bytes_string (c := c) (HB.out.below B5.out)
          have HRD5 := Lib.hid hrd5
          clear hbar5 hrd5
          go_wp2_with fail
          refine (C12.out _).mono ?_
          rintro e w6 ⟨rfl, hb6⟩
          go_wp2
          go_roundg (go - 1)
          case rel =>
            have := HQ.out
            exact ⟨q + 1, by omega, by go_num, rd_below HRD5.out hb6 (rd_lt HRD5.out), B5.out.trans (hb6.mono B5.out.size)⟩
          case measure => have := HQ.out; omega
    · obtain rfl : q = 2 := by have := HQ.out; omega
      go_wp2_with fail
      refine (decodes_any _ (T.below HT.out HBQ.out)).mono ?_
      rintro e w7 ⟨rfl, hb7⟩
      go_wp2
      go_ret
      exact ⟨rfl, nx HBQ.out hb7⟩
end Go.Proofs.YtfhkjegmhnpgeaaDoor
