/- How long the texts of parsed policies are. No program in sight. -/
import Derived.Test.YteghldoglffabaaDoorHR
import Derived.Test.YteghldoglffabaaDoorHPure
namespace Go.Proofs.YteghldoglffabaaDoor
open Go

theorem sum_two (l : List (List UInt8)) (h : ∀ w ∈ l, w ≠ []) : (l.map fun w => w.length + 1).sum ≤ 2 * (l.map List.length).sum := by
  induction l with
  | nil => simp
  | cons x r ih =>
    have h1 := ih (fun w hw => h w (List.mem_cons_of_mem _ hw))
    have h2 : 0 < x.length := List.length_pos_iff.2 (h x (List.mem_cons_self ..))
    simp only [List.map_cons, List.sum_cons]
    omega
theorem joinTail_len1 (c : UInt8) (r : List (List UInt8)) : (Lib.joinTail [c] r).length = (r.map fun w => w.length + 1).sum := by
  induction r with
  | nil => rfl
  | cons y r ih => rw [joinTail_cons, List.length_append, List.length_append, ih]; simp; omega
theorem sum_sub {α : Type} (f : α → Nat) {a b : List α} (h : a.Sublist b) : (a.map f).sum ≤ (b.map f).sum := by
  induction h with
  | slnil => simp
  | cons x _ ih => simp only [List.map_cons, List.sum_cons]; omega
  | cons_cons x _ ih => simp only [List.map_cons, List.sum_cons]; omega
theorem restOf_sub (ss : List ByteArray) : (restOf ss).Sublist ss.tail := (List.filter_sublist).trans (List.take_sublist _ _)
/-- A directive's text is no longer than twice its part. -/
theorem dirB_len (p : List UInt8) (d : DB) (h : dirB p = some d) : (dirTextB d).length ≤ 2 * p.length ∧ ∀ s ∈ d.2, s.size ≤ p.length := by
  have hok := dirB_ok p d h
  unfold dirB at h
  split at h
  · cases h
  · rename_i x r hw
    split at h
    · injection h with h
      subst h
      have htot := Fo.wgo_total [] p
      have hall := Fo.words_all p
      have hle := words_le p
      rw [show Fo.wgo [] p = Fo.words p from rfl, hw] at htot
      rw [hw] at hall hle
      have h2 := sum_two (x :: r) (fun w hw => (hall w hw).1)
      have hs := restOf_sub (bs (x :: r))
      rw [show (bs (x :: r)).tail = bs r from rfl] at hs
      refine ⟨?_, fun s hs' => ?_⟩
      · rw [dirText_cons, List.length_append, joinTail_len1]
        have h3 : ((restOf (bs (x :: r))).map fun s => s.data.toList.length + 1).sum ≤ ((bs r).map fun s => s.data.toList.length + 1).sum := sum_sub _ hs
        have h4 : ((bs r).map fun s => s.data.toList.length + 1).sum = (r.map fun w => w.length + 1).sum := by unfold bs; rw [List.map_map]; rfl
        rw [List.map_map]
        have h5 : ((⟨(Fo.lower x).toArray⟩ : ByteArray)).data.toList.length = x.length := by show (Fo.lower x).length = _; exact Fo.lower_length x
        show ((⟨(Fo.lower x).toArray⟩ : ByteArray)).data.toList.length + ((restOf (bs (x :: r))).map fun s => s.data.toList.length + 1).sum ≤ _
        rw [h5]
        simp only [List.map_cons, List.sum_cons, List.length_nil, Nat.zero_add] at h2 htot
        omega
      · have := hs.mem hs'
        unfold bs at this
        obtain ⟨y, hy, rfl⟩ := List.mem_map.1 this
        rw [mk_size']
        exact hle y (List.mem_cons_of_mem _ hy)
    · cases h
theorem addAll_sum (f : DB → Nat) : ∀ (l acc : List DB), ((l.foldl addB acc).map f).sum ≤ (acc.map f).sum + (l.map f).sum
  | [], acc => by simp
  | d :: r, acc => by
    have h := addAll_sum f r (addB acc d)
    have h2 : ((addB acc d).map f).sum ≤ (acc.map f).sum + f d := by
      unfold addB
      split
      · omega
      · simp
    simp only [List.foldl_cons, List.map_cons, List.sum_cons]
    omega
theorem filterMap_sum {α β : Type} (g : α → Option β) (f : β → Nat) (b : α → Nat) (h : ∀ a d, g a = some d → f d ≤ b a) : ∀ l : List α, ((l.filterMap g).map f).sum ≤ (l.map b).sum
  | [] => by simp
  | a :: r => by
    have ih := filterMap_sum g f b h r
    rw [List.filterMap_cons]
    cases hg : g a with
    | none => simp only [List.map_cons, List.sum_cons]; omega
    | some d => have := h a d hg; simp only [List.map_cons, List.sum_cons]; omega
theorem sum_affine (l : List (List UInt8)) (m k : Nat) : (l.map fun w => m * w.length + k).sum = m * (l.map List.length).sum + k * l.length := by
  induction l with
  | nil => simp
  | cons x r ih => simp only [List.map_cons, List.sum_cons, List.length_cons, ih]; rw [Nat.mul_add, Nat.mul_add]; omega
theorem parts_total (sep : UInt8) (l : List UInt8) : ((Fo.parts sep l).map List.length).sum ≤ l.length := by
  have h1 := Fo.sgo_total sep [] l
  have h2 : ∀ q : List (List UInt8), ((q.map Fo.trim).map List.length).sum ≤ (q.map List.length).sum := by
    intro q
    induction q with
    | nil => simp
    | cons a q ih => have := Fo.trim_length a; simp only [List.map_cons, List.sum_cons]; omega
  have h3 := h2 (Fo.split sep l)
  unfold Fo.split at h3
  unfold Fo.parts Fo.split
  simp at h1
  omega
theorem parts_count (sep : UInt8) (l : List UInt8) : (Fo.parts sep l).length ≤ l.length + 1 := by
  rw [Fo.parts_length]
  have := List.count_le_length (a := sep) (l := l)
  omega
theorem join_len2 (xs : List (List UInt8)) (sep : List UInt8) : (Lib.join xs sep).length ≤ (xs.map fun x => x.length + sep.length).sum := by
  cases xs with
  | nil => simp [Lib.join_nil]
  | cons x r =>
    rw [Lib.join_cons, List.length_append]
    have : ∀ r : List (List UInt8), (Lib.joinTail sep r).length = (r.map fun x => x.length + sep.length).sum := by
      intro r
      induction r with
      | nil => rfl
      | cons y r ih => rw [joinTail_cons, List.length_append, List.length_append, ih]; simp only [List.map_cons, List.sum_cons]; omega
    rw [this]
    simp only [List.map_cons, List.sum_cons]
    omega
theorem printPol_len (p : List UInt8) : (printB (polB p)).length ≤ 4 * p.length + 2 := by
  have h1 := join_len2 ((polB p).map dirTextB) [59, 32]
  rw [List.map_map] at h1
  have h2 : ((polB p).map fun d => (dirTextB d).length + 2).sum ≤ ((dirsB p).map fun d => (dirTextB d).length + 2).sum := by
    have := addAll_sum (fun d => (dirTextB d).length + 2) (dirsB p) []
    simp only [List.map_nil, List.sum_nil, Nat.zero_add] at this
    exact this
  have h3 : ((dirsB p).map fun d => (dirTextB d).length + 2).sum ≤ ((Fo.parts 59 p).map fun q => 2 * q.length + 2).sum := filterMap_sum dirB (fun d => (dirTextB d).length + 2) (fun q => 2 * q.length + 2) (fun q d h => by have := (dirB_len q d h).1; show _ + 2 ≤ _; omega) (Fo.parts 59 p)
  rw [sum_affine] at h3
  have h4 := parts_total 59 p
  have h5 := parts_count 59 p
  have h6 : (printB (polB p)).length ≤ ((polB p).map fun d => (dirTextB d).length + 2).sum := h1
  omega
theorem texts_len (l : List (List DB)) : (texts l).length = (l.map fun ds => (printB ds).length + 1).sum := by
  induction l with
  | nil => rfl
  | cons d r ih =>
    have : texts (d :: r) = (printB d ++ [44]) ++ texts r := by simp [texts]
    rw [this, List.length_append, List.length_append, ih]
    simp
theorem parse_sub (s : List UInt8) : (parseB s).Sublist ((Fo.parts 44 s).map polB) := (List.take_sublist _ _).trans List.filter_sublist
theorem texts_bound (s : List UInt8) (k : Nat) : (texts ((parseB s).take k)).length ≤ 7 * s.length + 3 := by
  rw [texts_len]
  have h1 := sum_sub (fun ds => (printB ds).length + 1) ((List.take_sublist k (parseB s)).trans (parse_sub s))
  rw [List.map_map] at h1
  have h2 : (((Fo.parts 44 s).map ((fun ds => (printB ds).length + 1) ∘ polB))).sum ≤ ((Fo.parts 44 s).map fun q => 4 * q.length + 3).sum := by
    generalize Fo.parts 44 s = P
    induction P with
    | nil => simp
    | cons a r ih => have := printPol_len a; simp only [List.map_cons, List.sum_cons, Function.comp_apply] at ih ⊢; omega
  rw [sum_affine] at h2
  have h4 := parts_total 44 s
  have h5 := parts_count 44 s
  omega
theorem parse_mild (s : List UInt8) (hs : s.length ≤ 6000) (ds : List DB) (h : ds ∈ parseB s) : Mild ds ∧ ds.length ≤ 10000 := by
  have h0 := parseB_right s ds h
  have h1 := (parse_sub s).mem h
  obtain ⟨p, hp, rfl⟩ := List.mem_map.1 h1
  have h2 := parts_le 44 s p hp
  have h3 := addAll_length (dirsB p) []
  have h4 := dirsB_length p
  have hlen : (polB p).length ≤ 6001 := by unfold polB; simp at h3; omega
  refine ⟨⟨by omega, fun d hd => ?_⟩, by omega⟩
  have hm : d ∈ dirsB p := by
    rcases addAll_mem _ [] d hd with h | h
    · cases h
    · exact h
  obtain ⟨h5, h6⟩ := dirsB_mem p d hm
  obtain ⟨q, hq, hdq⟩ := List.mem_filterMap.1 hm
  have h7 := parts_le 59 p q hq
  exact ⟨by omega, by omega, fun s hs => by have := (dirB_len q d hdq).2 s hs; omega⟩
end Go.Proofs.YteghldoglffabaaDoor
