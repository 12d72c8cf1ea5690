import Derived.Test.YtigjmelngddbjaaM
import Derived.Test.YtigjmelngddbjaaJ
namespace Go.Proofs.Ytigjmelngddbjaa
open Go.RowKit

theorem ref_dec_any (s : ByteArray) (w : World) (hsz : s.size ≤ 1000000) : Calls Try.prog 13 #[.string s] w (DecOut (Bs.dec s.data.toList) w) := by
  have h : ∀ l : List UInt8, l.length ≤ 1000000 → Calls Try.prog 13 #[.string ⟨l.toArray⟩] w (DecOut (Bs.dec l) w) := by
    intro l hl
    by_cases h0 : l = []
    · subst h0; exact ref_dec_empty w
    cases hf : Bs.form l with
    | false => exact ref_dec_no_form l w hl h0 hf
    | true => exact ref_dec_main l ⟨(Bs.hd l).toArray⟩ rfl w hl h0 hf
  have h := h s.data.toList (by rw [size_len]; exact hsz)
  rwa [mk_data'] at h

set_option maxHeartbeats 1000000 in
theorem law_decodes_any (s : ByteArray) (w : World) (b : s.size ≤ 9223372036854775807) : Calls Try.prog 4 #[.string s] w (True1 w) := by
  by_cases h : 2000 < s.size
  · go_enter Try.func4, Try.ntmps4
    go_wp2
    go_ret
    exact ⟨rfl, Below.refl _ _⟩
  obtain ⟨t, ht⟩ : ∃ t : ByteArray, t = ⟨((Bs.dec s.data.toList).getD []).toArray⟩ := ⟨_, rfl⟩
  obtain ⟨o, ho⟩ : ∃ o, o = (Bs.dec s.data.toList).isSome := ⟨_, rfl⟩
  have c1 : ∀ w, Calls Try.prog 12 #[.string s] w fun e w' => e = .returned (.tuple #[.string t, .bool o]) ∧ Below w.heap.size w w' := by
    intro w; rw [ht, ho]; exact dec_any s w (by omega)
  have c2 : ∀ w, Calls Try.prog 13 #[.string s] w fun e w' => e = .returned (.tuple #[.string t, .bool o]) ∧ Below w.heap.size w w' := by
    intro w; rw [ht, ho]; exact ref_dec_any s w (by omega)
  have C1 := Lib.hid c1; clear c1
  have C2 := Lib.hid c2; clear c2 ht ho
  go_enter Try.func4, Try.ntmps4
  go_wp2_with fail
  refine (C1.out _).mono ?_
  rintro e w1 ⟨rfl, hb1⟩
  go_wp2_with fail
  refine (C2.out _).mono ?_
  rintro e w2 ⟨rfl, hb2⟩
  go_wp2_with fail
  refine (codes_any _).mono ?_
  rintro e w3 ⟨rfl, hb3⟩
  go_wp2_with fail
  refine (form_any s _ (by omega)).mono ?_
  rintro e w4 ⟨rfl, rfl⟩
  go_wp2_with fail
  refine (ref_form_any s _ (by omega)).mono ?_
  rintro e w5 ⟨rfl, rfl⟩
  go_wp2
  go_ret
  exact ⟨rfl, nx (nx hb1 hb2) hb3⟩

set_option maxHeartbeats 2000000 in
theorem law_again_any (s : ByteArray) (w : World) (b : s.size ≤ 9223372036854775807) : Calls Try.prog 6 #[.string s] w (True1 w) := by
  by_cases h : 2000 < s.size
  · go_enter Try.func6, Try.ntmps6
    go_wp2
    go_ret
    exact ⟨rfl, Below.refl _ _⟩
  cases hd : Bs.dec s.data.toList with
  | none =>
    have c := dec_no s hd (by omega)
    have C := Lib.hid c; clear c hd
    go_enter Try.func6, Try.ntmps6
    go_wp2_with fail
    refine (C.out _).mono ?_
    rintro e w1 ⟨rfl, hb1⟩
    go_wp2_with fail
    refine (codes_any _).mono ?_
    rintro e w2 ⟨rfl, hb2⟩
    go_wp2
    go_ret
    exact ⟨rfl, nx hb1 hb2⟩
  | some u =>
    have he := Bs.enc_dec _ _ hd
    have hul : u.length ≤ 10000 := by
      have h1 := congrArg List.length he
      rw [Bs.enc_length, Bs.pad4, List.length_append, List.length_map, List.length_replicate, size_len] at h1
      omega
    obtain ⟨uu, huu⟩ : ∃ uu : ByteArray, uu.data.toList = u := ⟨⟨u.toArray⟩, by simp⟩
    have huz : uu.size ≤ 10000 := by rw [← size_len, huu]; exact hul
    have c1 := dec_at s uu (by rw [hd, huu]) (by omega)
    have c2 : ∀ w, Calls Try.prog 10 #[.string uu] w fun e w' => e = .returned (.string ⟨(Bs.pad4 (s.data.toList.map Bs.plain)).toArray⟩) ∧ Below w.heap.size w w' := enc_at uu _ (by rw [huu, he]) (by omega)
    have C1 := Lib.hid c1; clear c1
    have C2 := Lib.hid c2; clear c2 hd he hul huu
    go_enter Try.func6, Try.ntmps6
    go_wp2_with fail
    refine (C1.out _).mono ?_
    rintro e w1 ⟨rfl, hb1⟩
    go_wp2_with fail
    refine (plain_any s _ (by omega)).mono ?_
    rintro e w2 ⟨rfl, hb2⟩
    obtain ⟨p, hp⟩ : ∃ p, p = s.data.toList.map Bs.plain := ⟨_, rfl⟩
    have hpl : p.length ≤ 2000 := by rw [hp, List.length_map, size_len]; omega
    rw [← hp]
    rw [← hp] at C2
    clear hp
    go_wp2
    go_loopg [5] ((4 - p.length % 4) % 4) (fun gk o wx => ∃ q : Nat, q + gk = (4 - p.length % 4) % 4 ∧ o = .string ⟨(p ++ List.replicate q 61).toArray⟩ ∧ w2 = wx)
    case atStart => exact ⟨0, by omega, by simp, rfl⟩
    case round =>
      obtain ⟨q, hq, rfl, rfl⟩ := hrel
      have hsz3 : (⟨(p ++ List.replicate q 61).toArray⟩ : ByteArray).size = p.length + q := by rw [mk_size']; simp
      obtain ⟨o, ho⟩ : ∃ o : ByteArray, o = ⟨(p ++ List.replicate q 61).toArray⟩ := ⟨_, rfl⟩
      rw [← ho] at hsz3 ⊢
      have HO := Lib.hid ho; clear ho
      have HQ := Lib.hid hq
      by_cases hq0 : (p.length + q) % 4 = 0
      · have e3 : ((o.size : Int) % 4 != 0) = false := by rw [bne_eq_false_iff_eq, hsz3]; omega
        have hqq : q = (4 - p.length % 4) % 4 := by omega
        have heq : (⟨(Bs.pad4 p).toArray⟩ : ByteArray) = o := by rw [HO.out, hqq, Bs.pad4]
        rw [heq] at C2
        clear hsz3 hq hqq HQ heq
        go_wp2_with fail
        refine (codes_any _).mono ?_
        rintro e w3 ⟨rfl, hb3⟩
        go_wp2_with fail
        refine (C2.out _).mono ?_
        rintro e w4 ⟨rfl, hb4⟩
        go_wp2
        go_ret
        exact ⟨rfl, nx (nx (nx hb1 hb2) hb3) hb4⟩
      · have e3 : ((o.size : Int) % 4 != 0) = true := by rw [bne_iff_ne, hsz3]; omega
        have hs4 : o.size ≤ 100000000 := by omega
        clear hsz3 hq
        go_wp2
        go_roundg (gk - 1)
        case rel =>
          have hq := HQ.out
          refine ⟨q + 1, by omega, ?_, rfl⟩
          rw [HO.out, show (⟨#[61]⟩ : ByteArray) = ⟨[61].toArray⟩ from rfl, cat_str, List.append_assoc, ← List.replicate_succ']
        case measure => have := HQ.out; omega
end Go.Proofs.Ytigjmelngddbjaa
