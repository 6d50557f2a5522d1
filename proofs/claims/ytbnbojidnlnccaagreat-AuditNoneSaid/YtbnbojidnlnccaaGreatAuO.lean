/- Live, Slots, Least, Clean of a store without anything, and of none. -/
import Derived.Test.YtbnbojidnlnccaaGreatAuN
import Derived.Maps.RangeRun
namespace Go.Proofs.YtbnbojidnlnccaaGreat
open Go.RowKit Go.Lig

theorem live_emp (w : World) (s : Nat) (h : Emp w s) : Calls Tryz.prog 18 #[.pointer (some ⟨s, 0, none⟩)] w fun e w' => e = .returned (.int .i64 0) ∧ Fr No w w' := by
  obtain ⟨c, o, i, m, T, B, ρ, B', ρ', h1, h2, -⟩ := h.ex
  obtain ⟨g, hr, -⟩ := h2.row
  have HC := hid (count_any w c g ⟨[], 0⟩ hr (by simp))
  have hx0 := cellOf h1 0
  simp at hx0
  clear h h1 h2 hr
  go_enter Tryz.func18, Tryz.ntmps18
  go_wp2_with (go_at_call 51; refine HC.out.mono ?_; rintro e w1 ⟨rfl, f1⟩; have H1 := hid f1; clear f1)
  go_ret
  exact ⟨rfl, H1.out⟩
theorem run_range_made {P : Program} (w : World) (t k e : TypeId) (ht : P.underlying t = some (.map k e)) (m : Nat) (hm : w.heap[m]? = some (.map #[] 0)) :
    (Instr.range t (.map (some m))).run P w = .ok (.pointer (some ⟨w.heap.size, 0, none⟩)) (w.alloc (.mapIter (some m) 0 #[] 0)) := by
  simp [Instr.range, run_underlying ht, getObj, Sem.run, hm]
theorem run_next_none {P : Program} (w : World) (ty : TypeId) (r m : Nat) (hr : w.heap[r]? = some (.mapIter (some m) 0 #[] 0)) (hm : w.heap[m]? = some (.map #[] 0)) :
    (Instr.next (.pointer (some ⟨r, 0, none⟩)) false ty).run P w = .ok (.tuple #[.bool false]) w := by
  simp [Instr.next, getObj, Sem.run, hr, hm, choose, Question.forced]
theorem wpList_rangeNone {P : Program} {ops : Array Oper} {rest : List Oper} {o : Oper} {a : Act} {w : World} {Q : Exit → Act → World → Prop} (hgd : o.guard = none) (t k e : TypeId) (x : Operand) (ho : o.op = .range t x) (ht : P.underlying t = some (.map k e))
    (m : Nat) (hx : a.eval x = .map (some m)) (hm : w.heap[m]? = some (.map #[] 0)) (hQ : ∀ w' r, w'.heap[r]? = some (.mapIter (some m) 0 #[] 0) → w'.heap[m]? = some (.map #[] 0) → Fr No w w' → wpList P ops Q rest (a.put o.dst (.pointer (some ⟨r, 0, none⟩))) w') : wpList P ops Q (o :: rest) a w :=
  wpList_run hgd (by simp [execOp, ho, hx, run_range_made w t k e ht m hm, Result.andThen]) (hQ _ _ (heap1 w _) (hold' hm) ((Fr.refl No w).alloc _))
theorem wpList_nextNone {P : Program} {ops : Array Oper} {rest : List Oper} {o : Oper} {a : Act} {w : World} {Q : Exit → Act → World → Prop} (hgd : o.guard = none) (x : Operand) (ho : o.op = .next x false)
    (r m : Nat) (hx : a.eval x = .pointer (some ⟨r, 0, none⟩)) (hr : w.heap[r]? = some (.mapIter (some m) 0 #[] 0)) (hm : w.heap[m]? = some (.map #[] 0)) (hQ : wpList P ops Q rest (a.put o.dst (.tuple #[.bool false])) w) : wpList P ops Q (o :: rest) a w :=
  wpList_run hgd (by simp [execOp, ho, hx, run_next_none w o.type r m hr hm, Result.andThen]) hQ
set_option maxHeartbeats 1000000 in
theorem slots_emp (w : World) (s : Nat) (h : Emp w s) : Calls Tryz.prog 19 #[.pointer (some ⟨s, 0, none⟩)] w fun e w' => e = .returned (.int .i64 0) ∧ Fr No w w' := by
  obtain ⟨c, o, i, m, T, B, ρ, B', ρ', h1, h2, h3, h4, h5⟩ := h.ex
  have hb := cellOf h1
  have hx1 := hb 1
  have hx2 := hb 2
  have hx4 := hb 4
  have hx5 := hb 5
  have hx6 := hb 6
  have H3 := hid (⟨h3, h4, h5⟩ : _ ∧ _ ∧ _)
  simp at hx1 hx2 hx4 hx5 hx6
  clear h hb h1 h2 h3 h4 h5
  go_enter Tryz.func19, Tryz.ntmps19
  go_wp2_with fail
  refine wp_region_sched (by kernel_rfl) 12 [4, 9] [0, 1, 2, 3, 5, 6, 7, 8, 4, 9, 10, 11] (AgC [s] w.drew) (by kernel_rfl) (AgC.refl _ _) ?_
  simp only [List.map_cons, List.map_nil, List.contains_cons, List.contains_nil, nth_zero, nth_succ, Nat.reduceBEq, Bool.false_or, Bool.or_false, Bool.or_true, Bool.true_or]
  repeat (refine sched_quiet (fun K hK => ?_); go_simp; refine hK _ ?_; clear hK K)
  refine sched_call (by first | rfl | go_simp) 52 #[.pointer (some ⟨o, 0, none⟩)] (by first | kernel_rfl | go_simp) (len_any _ _ _ _ _ _ (H3.out.1.frame (Fr.refl No w).drew (fun _ _ e => e))) ?_
  rintro e w2 ⟨rfl, rfl⟩
  refine ⟨_, rfl, AgC.refl _ _, ?_⟩
  refine sched_call (by first | rfl | go_simp) 52 #[.pointer (some ⟨i, 0, none⟩)] (by first | kernel_rfl | go_simp) (len_any _ _ _ _ _ _ (H3.out.2.1.frame (Fr.refl No w).drew (fun _ _ e => e))) ?_
  rintro e w2 ⟨rfl, rfl⟩
  refine ⟨_, rfl, AgC.refl _ _, ?_⟩
  repeat (refine sched_quiet (fun K hK => ?_); go_simp; refine hK _ ?_; clear hK K)
  refine sched_nil ?_
  go_wp2_with fail
  go_loopw [3, 28] (fun v3 vi wr => v3 = .int .i64 0 ∧ vi = .int .i64 0 ∧ wr = w.drew) (fun _ _ _ => 0)
  case atStart => exact ⟨rfl, rfl, rfl⟩
  case round =>
    obtain ⟨rfl, rfl, rfl⟩ := hrel
    go_wp2_with fail
    go_loopw [3, 42] (fun v3 vi wr => v3 = .int .i64 0 ∧ vi = .int .i64 0 ∧ wr = w.drew) (fun _ _ _ => 0)
    case atStart => exact ⟨rfl, rfl, rfl⟩
    case round =>
      obtain ⟨rfl, rfl, rfl⟩ := hrel
      go_wp2_with (first | (refine wpList_rangeNone rfl 56 _ _ (.tmp 54) rfl Tryz.underlying56 m rfl H3.out.2.2 ?_; intro w3 r k1 k2 f3; have H4 := hid (⟨k1, k2, f3⟩ : _ ∧ _ ∧ _); clear k1 k2 f3))
      simp only [Act.put, Option.bind, List.setIfInBounds_toArray, List.set_cons_zero, List.set_cons_succ]
      go_loopw [3] (fun v3 wr => v3 = .int .i64 0 ∧ wr = w3) (fun _ _ => 0)
      case atStart => exact ⟨rfl, rfl⟩
      case round =>
        obtain ⟨rfl, rfl⟩ := hrel
        have hfr : Hid (Fr No w wr) := hid ((Fr.refl No w).drew.thenNo H4.out.2.2)
        go_wp2_with (first | (refine wpList_nextNone rfl (.tmp 55) rfl r m rfl H4.out.1 H4.out.2.1 ?_))
        go_ret
        exact ⟨rfl, hfr.out⟩
set_option maxHeartbeats 1000000 in
theorem least_nil (w : World) : Calls Tryz.prog 6 #[.pointer none] w fun e w' => e = .returned (.int .i64 0) ∧ Fr No w w' := by
  go_enter Tryz.func6, Tryz.ntmps6
  go_wp2_with (go_at_call 17; refine (image_nil _).mono ?_; rintro e w1 ⟨rfl, f1⟩; have H1 := hid f1; clear f1)
  go_loopw [6, 19] (fun v6 vi wr => v6 = .int .i64 0 ∧ vi = .int .i64 0 ∧ wr = w1) (fun _ _ _ => 0)
  case atStart => exact ⟨rfl, rfl, rfl⟩
  case round =>
    obtain ⟨rfl, rfl, rfl⟩ := hrel
    go_wp2
    go_ret
    exact ⟨rfl, H1.out⟩
set_option maxHeartbeats 1000000 in
theorem least_emp (w : World) (s : Nat) (h : Emp w s) : Calls Tryz.prog 6 #[.pointer (some ⟨s, 0, none⟩)] w fun e w' => e = .returned (.int .i64 0) ∧ Fr No w w' := by
  have HI := hid (image_emp w s h)
  clear h
  go_enter Tryz.func6, Tryz.ntmps6
  go_wp2_with (go_at_call 17; refine HI.out.mono ?_; rintro e w1 ⟨rfl, f1⟩; have H1 := hid f1; clear f1)
  go_loopw [6, 19] (fun v6 vi wr => v6 = .int .i64 0 ∧ vi = .int .i64 0 ∧ wr = w1) (fun _ _ _ => 0)
  case atStart => exact ⟨rfl, rfl, rfl⟩
  case round =>
    obtain ⟨rfl, rfl, rfl⟩ := hrel
    go_wp2
    go_ret
    exact ⟨rfl, H1.out⟩
theorem clean_nil (w : World) : Calls Tryz.prog 7 #[.pointer none] w fun e w' => e = .returned (.bool false) ∧ Fr No w w' := by
  go_enter Tryz.func7, Tryz.ntmps7
  go_wp2
  go_ret
  exact ⟨rfl, Fr.refl _ _⟩
set_option maxHeartbeats 1000000 in
theorem clean_emp (w : World) (s : Nat) (h : Emp w s) : Calls Tryz.prog 7 #[.pointer (some ⟨s, 0, none⟩)] w fun e w' => e = .returned (.bool true) ∧ Fr No w w' := by
  have HE := hid h
  clear h
  go_enter Tryz.func7, Tryz.ntmps7
  go_wp2_with fail
  refine (live_emp _ s HE.out).mono ?_
  rintro e w1 ⟨rfl, f1⟩
  have H1 := hid f1
  clear f1
  go_wp2_with fail
  refine (slots_emp _ s (HE.out.frame H1.out)).mono ?_
  rintro e w2 ⟨rfl, f2⟩
  have H2 := hid (H1.out.thenNo f2)
  clear f2
  go_wp2_with fail
  refine (least_emp _ s (HE.out.frame H2.out)).mono ?_
  rintro e w3 ⟨rfl, f3⟩
  have H3 := hid (H2.out.thenNo f3)
  clear f3
  go_wp2
  go_ret
  exact ⟨rfl, H3.out⟩
end Go.Proofs.YtbnbojidnlnccaaGreat
