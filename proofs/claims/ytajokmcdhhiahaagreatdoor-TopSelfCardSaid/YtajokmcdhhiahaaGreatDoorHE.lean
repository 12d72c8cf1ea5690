/- DeleteFunc at words that are none; the function that yields a policy's directives. -/
import Derived.Test.YtajokmcdhhiahaaGreatDoorHD
namespace Go.Proofs.YtajokmcdhhiahaaGreatDoor
open Go.RowKit Go.Shelf Go.Lib Go.Sort

/-- A text that is not great. -/
abbrev Sm := { s : ByteArray // s.size ≤ 10000000 }
instance : Inhabited Sm := ⟨⟨⟨#[]⟩, by decide⟩⟩
def encS (x : Sm) : Value := .string x.1
def noWord (x : Sm) : Bool := !Hd.word x.1.data.toList
theorem noword_any (x : Sm) (W : World) : FnGives Tryz.prog 59 #[] #[encS x] (.bool (noWord x)) W := by
  show Calls Tryz.prog 59 #[.string x.1] W _
  have c39 := word_any x.1
  go_enter Tryz.func59, Tryz.ntmps59
  go_wp2_with (go_at_call 60; refine (c39 _ x.2).mono ?_; rintro e w' ⟨rfl, rfl⟩)
  go_ret
  exact ⟨rfl, 0, rfl⟩
theorem del_any (blk off cap : Nat) (d : Array Sm) (w : World) (hH : Holds encS w blk off d) (hsz : d.size ≤ 10000000) (hcap : d.size ≤ cap) :
    Calls Tryz.prog 58 #[.slice (some ⟨blk, off, none⟩) d.size cap, .func (.func 59) #[] #[]] w fun e w' => e = .returned (.slice (some ⟨blk, off, none⟩) (d.toList.filter fun x => !noWord x).length cap) ∧
      ∃ q, w' = putRow encS (Sort.ahead w q) blk off ((d.toList.filter fun x => !noWord x) ++ List.replicate (d.size - (d.toList.filter fun x => !noWord x).length) default).toArray := by
  have eg : ∀ args w, (callFunc 59 args).run Tryz.prog w = .ok (.enter 59 args) w := enters_of Tryz.func59 (by kernel_rfl) rfl
  exact AnyE.slices_DeleteFunc Tryz.laysSlH10_f58 encS (fun _ => rfl) noWord 59 #[] eg default Tryz.zeroValue9 blk off cap d w (fun W x _ => noword_any x W) (fun n os dk x _ => noword_any x _) hH (by omega) hcap
theorem frozen_row {w : World} {A : Nat} {vs : Array Value} {T : TypeId} (h : w.heap[A]? = some (.cells vs T (0, 0))) (j : Nat) : w.frozen? ⟨A, j, none⟩ = false := by
  simp [World.frozen?, h]
theorem cell_row {w : World} {A : Nat} {vs : Array Value} {T : TypeId} {fr : Nat × Nat} (h : w.heap[A]? = some (.cells vs T fr)) (j : Nat) : w.cell? ⟨A, j, none⟩ = vs[j]? := by
  simp [World.cell?, h]
theorem rowT_putRow {α : Type} [Inhabited α] (enc : α → Value) {w : World} {A T : Nat} (q off : Nat) (d : Array α) (h : RowT T w A) : RowT T (putRow enc (Sort.ahead w q) A off d) A := by
  obtain ⟨vs, fr, e⟩ := h
  refine ⟨putCells enc off d vs, fr, ?_⟩
  show ((Sort.ahead w q).heap.modify A (onCells (putCells enc off d)))[A]? = _
  rw [Array.getElem?_modify]
  rw [show (Sort.ahead w q).heap[A]? = w.heap[A]? from rfl, e]
  simp [onCells]
theorem grownBy_putRow {α : Type} [Inhabited α] (enc : α → Value) (w : World) (A q off : Nat) (d : Array α) : w.grownBy (putRow enc (Sort.ahead w q) A off d) (some A) := by
  refine ⟨rfl, rfl, rfl, by rw [size_putRow]; exact Nat.le_refl _, fun k _ hne => ?_⟩
  show ((Sort.ahead w q).heap.modify A (onCells (putCells enc off d)))[k]? = _
  rw [Array.getElem?_modify, if_neg (fun e => hne (by rw [e]))]
  rfl
def restOf (ss : List ByteArray) : List ByteArray := (ss.tail.take 200).filter fun s => Hd.word s.data.toList
theorem del_own (A : Nat) (ss : List ByteArray) (w : World) (hrow : w.heap[A]? = some (.cells (ss.map Value.string).toArray 9 (0, 0))) (hss : ∀ s ∈ ss, s.size ≤ 10000000) (hn : 1 ≤ ss.length) :
    Calls Tryz.prog 58 #[.slice (some ⟨A, 1, none⟩) (min ss.length 201 - 1) (ss.length - 1), .func (.func 59) #[] #[]] w fun e w' => ∃ v, e = .returned v ∧ TextsR w' v (restOf ss) ∧ w.grownBy w' (some A) := by
  have hm : ∀ s ∈ ss.tail.take 200, s.size ≤ 10000000 := fun s hs => hss s (List.mem_of_mem_tail (List.mem_of_mem_take hs))
  obtain ⟨dl, hdl⟩ : ∃ dl : List Sm, dl.map (·.1) = ss.tail.take 200 := ⟨(ss.tail.take 200).pmap (fun s h => ⟨s, h⟩) hm, by rw [List.map_pmap]; simp⟩
  have hdn : dl.length = min ss.length 201 - 1 := by
    have := congrArg List.length hdl
    simp at this
    omega
  have hget : ∀ j (h : j < dl.length), ∃ h' : 1 + j < ss.length, (dl[j]).1 = ss[1 + j] := fun j h => by
    refine ⟨by omega, ?_⟩
    have h1 : (dl.map (·.1))[j]? = some (dl[j]).1 := by simp [List.getElem?_eq_getElem h]
    rw [hdl, List.getElem?_take, if_pos (by omega), List.getElem?_tail, List.getElem?_eq_getElem (by omega)] at h1
    injection h1 with h1
    rw [← h1]
    congr 1
    omega
  have hH : Holds encS w A 1 dl.toArray := fun j hj => by
    have hj' : j < dl.length := by simpa using hj
    obtain ⟨h', e⟩ := hget j hj'
    refine ⟨?_, frozen_row hrow _⟩
    rw [cell_row hrow, getElem!_pos _ j hj]
    simp only [List.getElem?_toArray, List.getElem?_map, List.getElem?_eq_getElem h', Option.map_some, encS, List.getElem_toArray, e]
  have hc := del_any A 1 (ss.length - 1) dl.toArray w hH (by simp; omega) (by simp; omega)
  rw [show dl.toArray.size = min ss.length 201 - 1 by simp [hdn]] at hc
  refine hc.mono ?_
  rintro e w' ⟨rfl, q, rfl⟩
  obtain ⟨fl, hfl⟩ : ∃ fl, fl = dl.filter fun x => !noWord x := ⟨_, rfl⟩
  have hr : fl.map (·.1) = restOf ss := by
    unfold restOf
    rw [← hdl, hfl, List.filter_map]
    congr 1
    exact List.filter_congr fun x _ => by simp [noWord]
  have hrl : (restOf ss).length = fl.length := by rw [← hr, List.length_map]
  have hfd : fl.length ≤ dl.length := by rw [hfl]; exact List.length_filter_le _ _
  rw [show dl.toArray.toList = dl from rfl, ← hfl]
  refine ⟨_, rfl, ⟨some ⟨A, 1, none⟩, ss.length - 1, by rw [hrl], by omega, (fun h => by cases h), fun h0 => ⟨A, 1, rfl, rowT_putRow _ _ _ _ ⟨_, _, hrow⟩, fun j hj => ?_⟩⟩, grownBy_putRow _ _ _ _ _ _⟩
  have hj' : j < fl.length := by omega
  rw [cell?_putRow encS (Sort.ahead w q) A 1 dl.toArray _ hH (by simp; omega) j (by simp; omega), getElem!_pos _ j (by simp; omega)]
  simp only [List.getElem_toArray, List.getElem_append_left hj', encS]
  congr 2
  have h1 : (fl.map (·.1))[j]? = some (fl[j]).1 := by simp [List.getElem?_eq_getElem hj']
  rw [hr, List.getElem?_eq_getElem hj] at h1
  injection h1 with h1
  exact h1.symm
end Go.Proofs.YtajokmcdhhiahaaGreatDoor
