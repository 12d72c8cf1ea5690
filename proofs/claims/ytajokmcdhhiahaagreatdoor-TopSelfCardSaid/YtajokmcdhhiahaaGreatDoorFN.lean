/- firm. -/
import Derived.Test.YtajokmcdhhiahaaGreatDoorFM
import Derived.Lib.QuietBelow
namespace Go.Proofs.YtajokmcdhhiahaaGreatDoor
open Go.RowKit Go.Shelf Go.Sort Go.BigFrame
set_option maxRecDepth 100000

theorem wpList_of_quiet {P : Program} {ops : Array Oper} {C : World → Prop} {Q : Exit → Act → World → Prop} : ∀ (l : List Oper) (a : Act) (w : World), C w → wpQuiet P ops C (fun a' => ∀ w', C w' → Q .normal a' w') l a → wpList P ops Q l a w
  | [], _, _, hw, h => h _ hw
  | o :: rest, a, w, hw, h => by
    unfold wpQuiet at h
    unfold wpList
    split
    · rename_i hx
      rw [if_pos hx] at h
      exact .inl (Oper.wp_of_quiet hw (fun a' w' hw' hk => wpList_of_quiet rest a' w' hw' hk) h)
    · rename_i hx
      rw [if_neg hx] at h
      exact wpList_of_quiet rest _ w hw h
theorem wp_region_text_below {P : Program} {id : Nat} {Q : Exit → Act → World → Prop} {a : Act} {w : World} {l : List Oper}
    (h : wpQuiet P l.toArray (fun w' => ∃ p : Regrown, w' = grow (redrawn w p.d) p.os) (fun a' => ∀ w', (∃ p : Regrown, w' = grow (redrawn w p.d) p.os) → Q .normal a' w') l a) : (Code.region id l.toArray false).wp P Q a w :=
  wp_region_lit (wpList_of_quiet l a w ⟨⟨w.drawn, #[]⟩, by rw [grow_empty]; rfl⟩ h)

theorem quiet_load_row {P : Program} {C : World → Prop} {a : Act} {o : Oper} {K : Act → Prop} (ty : TypeId) (x : Operand) (ho : o.op = .load ty x) (g : Nat) (hx : a.eval x = .pointer (some ⟨g, 0, none⟩)) (cs : Array Value) (hg : Hid (∀ w, C w → ∃ t fr, w.heap[g]? = some (.cells cs t fr)))
    (d : TypeDesc) (hd : (match d with | .struct _ | .array _ _ => true | _ => false) = true) (hu : P.underlying ty = some d) (hi : (P.info? ty).map (·.size) = some cs.size) (h : K (a.put o.dst (.agg cs))) : o.quiet P a C K :=
  ⟨.agg cs, fun w hw => by
    obtain ⟨t, fr, hgw⟩ := hg.out w hw
    unfold Oper.quietAt execOp
    simp only [ho, hx, Instr.loadAt, Instr.sureAddr, Sem.run_bind, Sem.run_pure, Result.andThen_ok, run_loadVar_row w g t ty cs fr d hgw hu (by cases d <;> first | rfl | (exact hd)) hi]
    exact ⟨rfl, rfl⟩, h⟩
theorem ty30 : ∃ d, Tryz.prog.underlying 30 = some d ∧ (match d with | .struct _ | .array _ _ => true | _ => false) = true ∧ (Tryz.prog.info? 30).map (·.size) = some 17 := ⟨_, rfl, rfl, rfl⟩
set_option maxHeartbeats 2000000 in
theorem firm_any (w : World) (hg : Gl w) : Calls Tryz.prog 6 #[] w (Ret true w) := by
  have c0 := fun w' (hg' : Gl w') => sn0 w' hg'
  have c1 := fun w' (hg' : Gl w') => sn1 w' hg'
  have c2 := fun w' (hg' : Gl w') => sn2 w' hg'
  unfold inlineV at c0 c1 c2
  obtain ⟨r, hr⟩ : ∃ r : Array Value, r = #[.int .i64 1, .string ⟨#[102, 40, 41]⟩, .bool false, .string ⟨#[]⟩, .string ⟨#[]⟩, .int .i64 0, .string ⟨#[]⟩, .string ⟨#[]⟩, .bool false, .string ⟨#[]⟩, .bool false, .bool false, .string ⟨#[]⟩, .string ⟨#[]⟩, .int .i64 0, .string ⟨#[]⟩, .string ⟨#[]⟩] := ⟨_, rfl⟩
  obtain ⟨v0, v1, v2, v3, v4, v5, v6, v7, v8, v9, v10, v11, v12, v13, v14, v15, v16, hv⟩ : ∃ v0 v1 v2 v3 v4 v5 v6 v7 v8 v9 v10 v11 v12 v13 v14 v15 v16 : Value, r = #[v0, v1, v2, v3, v4, v5, v6, v7, v8, v9, v10, v11, v12, v13, v14, v15, v16] := ⟨.int .i64 1, .string ⟨#[102, 40, 41]⟩, .bool false, .string ⟨#[]⟩, .string ⟨#[]⟩, .int .i64 0, .string ⟨#[]⟩, .string ⟨#[]⟩, .bool false, .string ⟨#[]⟩, .bool false, .bool false, .string ⟨#[]⟩, .string ⟨#[]⟩, .int .i64 0, .string ⟨#[]⟩, .string ⟨#[]⟩, hr⟩
  have hbA := below_alloc' w (.cells #[.int .i64 1, .string ⟨#[102, 40, 41]⟩, .bool false, .string ⟨#[]⟩, .string ⟨#[]⟩, .int .i64 0, .string ⟨#[]⟩, .string ⟨#[]⟩, .bool false, .string ⟨#[]⟩, .bool false, .bool false, .string ⟨#[]⟩, .string ⟨#[]⟩, .int .i64 0, .string ⟨#[]⟩, .string ⟨#[]⟩] 30)
  have hrow := heap_alloc_new w (.cells #[.int .i64 1, .string ⟨#[102, 40, 41]⟩, .bool false, .string ⟨#[]⟩, .string ⟨#[]⟩, .int .i64 0, .string ⟨#[]⟩, .string ⟨#[]⟩, .bool false, .string ⟨#[]⟩, .bool false, .bool false, .string ⟨#[]⟩, .string ⟨#[]⟩, .int .i64 0, .string ⟨#[]⟩, .string ⟨#[]⟩] 30)
  obtain ⟨W, hW⟩ : ∃ W, W = w.alloc (.cells #[.int .i64 1, .string ⟨#[102, 40, 41]⟩, .bool false, .string ⟨#[]⟩, .string ⟨#[]⟩, .int .i64 0, .string ⟨#[]⟩, .string ⟨#[]⟩, .bool false, .string ⟨#[]⟩, .bool false, .bool false, .string ⟨#[]⟩, .string ⟨#[]⟩, .int .i64 0, .string ⟨#[]⟩, .string ⟨#[]⟩] 30) := ⟨_, rfl⟩
  rw [← hW] at hbA hrow
  rw [← hr, hv] at c0 c1 c2 hrow
  have C0 := Lib.hid c0
  have C1 := Lib.hid c1
  have C2 := Lib.hid c2
  have HW := Lib.hid hW
  have HB := Lib.hid hbA
  have HG := Lib.hid (hg.below hbA)
  have HROW := Lib.hid hrow
  clear c0 c1 c2 hW hbA hg hrow hr hv
  go_enter Tryz.func6, Tryz.ntmps6
  go_upto_region 2 with fail
  rw [← HW.out]
  have HC : Hid (∀ w', (∃ p : Regrown, w' = grow (redrawn W p.d) p.os) → ∃ t fr, w'.heap[w.heap.size]? = some (.cells #[v0, v1, v2, v3, v4, v5, v6, v7, v8, v9, v10, v11, v12, v13, v14, v15, v16] t fr)) := Lib.hid (by rintro w' ⟨p, rfl⟩; exact ⟨_, _, ((below_regrown W p.d p.os).block w.heap.size (Array.getElem?_eq_some_iff.1 HROW.out).1).trans HROW.out⟩)
  have q0 := fun d os => Calls.regrown_of (C0.out (grow (redrawn W d) os) (HG.out.below (below_regrown W d os)))
  have q1 := fun d os => Calls.regrown_of (C1.out (grow (redrawn W d) os) (HG.out.below (below_regrown W d os)))
  have q2 := fun d os => Calls.regrown_of (C2.out (grow (redrawn W d) os) (HG.out.below (below_regrown W d os)))
  obtain ⟨ud, t1, t2, t3⟩ := ty30
  have T1 := Lib.hid t1
  have T2 := Lib.hid t2
  have T3 := Lib.hid t3
  clear t1 t2 t3
  refine wp_region_text_below ?_
  repeat (first | (go_big_quiet_want; refine quiet_load_row 30 _ rfl _ rfl _ HC _ T2.out T1.out T3.out ?_; go_simp; go_big_quiet_on) | go_big_quiet_step ((first | (go_at_call 7; exact q0 _ _) | (go_at_call 7; exact q1 _ _) | (go_at_call 7; exact q2 _ _))))
  refine wpQuiet_nil ?_
  intro w5 hw'
  obtain ⟨⟨dq, osq⟩, hw''⟩ := hw'
  have hb2 : Below W.heap.size W w5 := by rw [hw'']; exact below_regrown W dq osq
  clear hw'' q0 q1 q2
  go_wp2_with fail
  go_ret
  exact ⟨rfl, nx HB.out hb2⟩
end Go.Proofs.YtajokmcdhhiahaaGreatDoor
