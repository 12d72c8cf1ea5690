import Derived.Test.YtajokmcdhhiahaaGreatDoorFoldE
namespace Go.Proofs.YtajokmcdhhiahaaGreatDoor
open Go.RowKit

theorem own_below {w w1 : World} {base e s n : Nat} {v : Value} {xs : List Value} (h : w.ownsRow base e s v n xs) (hb : Below w.heap.size w w1) : w1.ownsRow base e s v n xs :=
  h.kept (row := none) ⟨hb.os, hb.tape, hb.output, hb.size, fun i hi _ => hb.block i hi⟩ (by cases v.ownBlock <;> simp)
/-- A result that is a row of texts of the call's own. -/
def OutOwn (ss : List ByteArray) (w : World) (e : Ending) (w' : World) : Prop := ∃ v, e = .returned v ∧ w'.ownsRow w.heap.size 9 1 v ss.length (ss.map Value.string) ∧ Below w.heap.size w w'
theorem index_at (t : ByteArray) (sep : UInt8) (w : World) : Calls Tryz.prog 54 #[.string t, .int .u8 sep.toNat] w fun e w' => e = .returned (.int .i64 (Lib.indexByte t.data.toList sep)) ∧ w' = w := by
  have := Tryz.strings_IndexByte t sep.toNat w
  rwa [show ((sep.toNat : Int)).toNat.toUInt8 = sep from UInt8.ofNat_toNat] at this
set_option maxHeartbeats 2000000 in
/-- Parts. -/
theorem parts_own (s : ByteArray) (sep : UInt8) (w : World) (hs : s.size ≤ 10000000) : Calls Tryz.prog 32 #[.string s, .int .u8 sep.toNat] w (OutOwn (bs (Fo.parts sep s.data.toList)) w) := by
  go_enter Tryz.func32, Tryz.ntmps32
  go_wp2
  go_loopg [0, 5] s.size (fun gk sv v wr => ∃ (t : ByteArray) (acc : List (List UInt8)), sv = .string t ∧ t.size ≤ gk ∧ acc.length + t.size ≤ s.size ∧
    Hid (acc ++ Fo.parts sep t.data.toList = Fo.parts sep s.data.toList) ∧ wr.ownsRow w.heap.size 9 1 v acc.length ((bs acc).map Value.string) ∧ Below w.heap.size w wr)
  case atStart => exact ⟨s, [], rfl, Nat.le_refl _, by simp, rfl, World.ownsRow_nil _ _ _ _, Below.refl _ _⟩
  case round =>
    obtain ⟨t, acc, rfl, htg, hal, HA, hown, hbw⟩ := hrel
    have hsz := hbw.size
    by_cases hm : sep ∈ t.data.toList
    · obtain ⟨a, r, hl, ha⟩ := List.eq_append_cons_of_mem hm
      have hI := index_some a r sep ha
      rw [← hl] at hI
      have hlen : t.size = a.length + (r.length + 1) := by rw [← size_len, hl]; simp
      have C24 := index_at t sep
      rw [hI] at C24
      have hx1 : (t.extract 0 a.length).data.toList = a := by rw [slice_data, hl, List.take_left]; rfl
      have hx2 : (t.extract (a.length + 1) t.size).data.toList = r := by
        rw [slice_data, hl, List.take_of_length_le (by rw [← hl, size_len]; exact Nat.le_refl _)]
        simp
      have c10 := fun w' => trim_any (t.extract 0 a.length) w' (by rw [← size_len, hx1]; omega)
      rw [hx1] at c10
      obtain ⟨T, hT⟩ : ∃ T : ByteArray, T = ⟨(Fo.trim a).toArray⟩ := ⟨_, rfl⟩
      rw [← hT] at c10
      have hTd : T.data.toList = Fo.trim a := by rw [hT]
      have hpa : Fo.parts sep t.data.toList = Fo.trim a :: Fo.parts sep r := by unfold Fo.parts; rw [hl, Fo.split_one sep a r ha]; rfl
      have hr2 : (t.extract (a.length + 1) t.size).size = r.length := by rw [← size_len, hx2]
      have HPA := Lib.hid hpa
      have HTD := Lib.hid hTd
      have C10 := Lib.hid c10
      have CC24 := Lib.hid C24
      have HX2 := Lib.hid hx2
      have HR2 := Lib.hid hr2
      clear hpa hTd c10 C24 hx2 hx1 hT hI hl ha hm hr2
      obtain ⟨m, hmm⟩ : ∃ m, m = a.length := ⟨_, rfl⟩
      rw [← hmm] at CC24 C10 HX2 HR2 hlen
      clear hmm
      have hm1 : (m : Int) + 1 ≤ (t.size : Int) := by omega
      have hm0 : ¬ (m : Int) < 0 := by omega
      have HLEN := Lib.hid hlen; clear hlen
      go_wp2_with fail
      refine (CC24.out _).mono ?_
      rintro e w1 ⟨rfl, rfl⟩
      go_wp2_with fail
      refine (C10.out _).mono ?_
      rintro e w2 ⟨rfl, hb2⟩
      have hown2 := own_below (w1 := w2) hown hb2
      have hbw2 := hbw.trans (hb2.mono hsz)
      have hsz2 := hbw2.size
      go_wp2_with (at_builtin; refine wpList_append_text rfl (.tmp 17) (.tmp 22) rfl w2 w w.heap.size _ acc.length (bs acc) T rfl rfl hown2 hbw2 hsz2 (by omega) ?_; intro v' w3 hown3 hbw3)
      go_roundg (gk - 1)
      case rel =>
        have hr := HR2.out
        have hlen := HLEN.out
        refine ⟨_, acc ++ [Fo.trim a], rfl, by omega, by simp; omega, ?_, by rw [List.length_append, bs_snoc _ _ _ HTD.out]; exact hown3, hbw3⟩
        show _ = _
        rw [HX2.out, ← HA.out, HPA.out, List.append_assoc]; rfl
      case measure => have hlen := HLEN.out; omega
    · have hI := index_none _ _ hm
      have C24 := index_at t sep
      rw [hI] at C24
      have c10 := fun w' => trim_any t w' (by omega)
      obtain ⟨T, hT⟩ : ∃ T : ByteArray, T = ⟨(Fo.trim t.data.toList).toArray⟩ := ⟨_, rfl⟩
      rw [← hT] at c10
      have hTd : T.data.toList = Fo.trim t.data.toList := by rw [hT]
      have hpa : Fo.parts sep t.data.toList = [Fo.trim t.data.toList] := by unfold Fo.parts; rw [Fo.split_none sep _ hm]; rfl
      have hfin : acc ++ [Fo.trim t.data.toList] = Fo.parts sep s.data.toList := by rw [← HA.out, hpa]
      have HF := Lib.hid hfin
      have HTD := Lib.hid hTd
      have C10 := Lib.hid c10
      have CC24 := Lib.hid C24
      clear hfin hpa hTd c10 C24 hT hI hm
      go_wp2_with fail
      refine (CC24.out _).mono ?_
      rintro e w1 ⟨rfl, rfl⟩
      go_wp2_with fail
      refine (C10.out _).mono ?_
      rintro e w2 ⟨rfl, hb2⟩
      have hown2 := own_below (w1 := w2) hown hb2
      have hbw2 := hbw.trans (hb2.mono hsz)
      have hsz2 := hbw2.size
      go_wp2_with (at_builtin; refine wpList_append_text rfl (.tmp 12) (.tmp 15) rfl w2 w w.heap.size _ acc.length (bs acc) T rfl rfl hown2 hbw2 hsz2 (by omega) ?_; intro v' w3 hown3 hbw3)
      go_ret
      rw [← HF.out]
      rw [← bs_snoc _ _ _ HTD.out] at hown3
      have hl3 := hown3.1
      rw [List.length_map, Nat.mul_one] at hl3
      rw [← hl3] at hown3
      exact ⟨_, rfl, hown3, hbw3⟩
theorem parts_any (s : ByteArray) (sep : UInt8) (w : World) (hs : s.size ≤ 10000000) : Calls Tryz.prog 32 #[.string s, .int .u8 sep.toNat] w (OutTexts (bs (Fo.parts sep s.data.toList)) w) :=
  (parts_own s sep w hs).mono fun e w' ⟨v, he, hown, hb⟩ => by subst he; exact OutTexts.of_own hown hb
end Go.Proofs.YtajokmcdhhiahaaGreatDoor
