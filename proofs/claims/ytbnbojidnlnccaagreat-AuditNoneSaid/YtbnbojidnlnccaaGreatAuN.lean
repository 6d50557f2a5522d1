/- A store without anything, and what audit says of it and of none. -/
import Derived.Test.YtbnbojidnlnccaaGreatChM0
import Derived.Test.YtbnbojidnlnccaaGreatClk6
namespace Go.Proofs.YtbnbojidnlnccaaGreat
open Go.RowKit Go.Lig

/-- the store at s has nothing in it -/
structure Emp (w : World) (s : Nat) : Prop where
  ex : ∃ c o i m T B ρ B' ρ', w.heap[s]? = some (.cells #[.pointer (some ⟨c, 0, none⟩), .slice none 0 0, .slice none 0 0, .slice none 0 0, .pointer (some ⟨o, 0, none⟩), .pointer (some ⟨i, 0, none⟩), .map (some m), .slice none 0 0] 59 (0, 0))
    ∧ ClockAt w T c ⟨[], 0⟩ ∧ ChAt w o [] B ρ 0 ∧ ChAt w i [] B' ρ' 0 ∧ w.heap[m]? = some (.map #[] 0)
theorem Emp.frame {w w' : World} {s : Nat} (h : Emp w s) (hf : Fr No w w') : Emp w' s := by
  obtain ⟨c, o, i, m, T, B, ρ, B', ρ', h1, h2, h3, h4, h5⟩ := h.ex
  exact ⟨c, o, i, m, T, B, ρ, B', ρ', hf.keep h1 id, h2.frame hf (fun _ _ e => e), h3.frame hf (fun _ _ e => e), h4.frame hf (fun _ _ e => e), hf.keep h5 id⟩
theorem wpList_mraw {P : Program} {ops : Array Oper} {rest : List Oper} {o : Oper} {a : Act} {w : World} {Q : Exit → Act → World → Prop} (hgd : o.guard = none) (t : TypeId) (ho : o.op = .makeMap t none)
    (hQ : wpList P ops Q rest (a.put o.dst (.map (some w.heap.size))) (w.alloc (.map #[] 0))) : wpList P ops Q (o :: rest) a w :=
  wpList_run hgd (v := .map (some w.heap.size)) (w' := w.alloc (.map #[] 0)) (by
    have hr : (Instr.makeMap t none).run P w = .ok (.map (some w.heap.size)) (w.alloc (.map #[] 0)) := rfl
    simp [execOp, ho, hr, Result.andThen]) hQ
theorem emp_new (w : World) : Calls Tryz.prog 20 #[] w fun e w' => ∃ s, e = .returned (.pointer (some ⟨s, 0, none⟩)) ∧ Emp w' s ∧ Fr No w w' := by
  go_enter Tryz.func20, Tryz.ntmps20
  go_wp2_with fail
  refine (clknew_any _).mono ?_
  rintro e w1 ⟨c, rfl, k1, f1, n1⟩
  have H1 := hid (⟨k1, f1⟩ : _ ∧ _)
  clear k1 f1 n1
  go_wp2_with fail
  refine (chnew_any _).mono ?_
  rintro e w2 ⟨o, B, ρ, rfl, k2, f2, n2⟩
  have H2 := hid (⟨k2, f2⟩ : _ ∧ _)
  clear k2 f2 n2
  go_wp2_with fail
  refine (chnew_any _).mono ?_
  rintro e w3 ⟨i, B', ρ', rfl, k3, f3, n3⟩
  have H3 := hid (⟨k3, f3⟩ : _ ∧ _)
  clear k3 f3 n3
  go_wp2_with (refine wpList_mraw rfl 56 rfl ?_)
  go_ret
  have hfa : Fr No w3 (w3.alloc (.map #[] 0)) := (Fr.refl No w3).alloc _
  refine ⟨_, rfl, ⟨c, o, i, w3.heap.size, fun b => b = c, B, ρ, B', ρ', (heap2 w3 _ _).2, ?_, ?_, ?_, ?_⟩, ((H1.out.2.thenNo H2.out.2).thenNo H3.out.2).thenNo (hfa.alloc _)⟩
  · exact H1.out.1.frame (((H2.out.2).thenNo H3.out.2).thenNo (hfa.alloc _)) (fun _ _ e => e)
  · exact H2.out.1.frame ((H3.out.2).thenNo (hfa.alloc _)) (fun _ _ e => e)
  · exact H3.out.1.frame (hfa.alloc _) (fun _ _ e => e)
  · exact (heap2 w3 _ _).1
theorem edged_none (w : World) : Calls Tryz.prog 50 #[.slice none 0 0] w fun e w' => e = .returned (.slice none 0 0) ∧ w' = w := by
  go_enter Tryz.func50, Tryz.ntmps50
  go_wp2
  go_loopw [6] (fun vi wr => vi = .int .i64 0 ∧ wr = w) (fun _ _ => 0)
  case atStart => exact ⟨rfl, rfl⟩
  case round =>
    obtain ⟨rfl, rfl⟩ := hrel
    go_wp2
    go_ret
    exact ⟨rfl, rfl⟩
theorem writesN_none (w : World) (a b c : Value) : Calls Tryz.prog 44 #[.slice none 0 0, a, b, c] w fun e w' => e = .returned (.slice none 0 0) ∧ w' = w := by
  go_enter Tryz.func44, Tryz.ntmps44
  go_wp2
  go_loopw [9, 17] (fun v9 vi wr => v9 = .slice none 0 0 ∧ vi = .int .i64 0 ∧ wr = w) (fun _ _ _ => 0)
  case atStart => exact ⟨rfl, rfl, rfl⟩
  case round =>
    obtain ⟨rfl, rfl, rfl⟩ := hrel
    go_wp2
    go_ret
    exact ⟨rfl, rfl⟩
theorem writesE_none (w : World) (a b c : Value) : Calls Tryz.prog 47 #[.slice none 0 0, a, b, c] w fun e w' => e = .returned (.slice none 0 0) ∧ w' = w := by
  go_enter Tryz.func47, Tryz.ntmps47
  go_wp2
  go_loopw [9, 17] (fun v9 vi wr => v9 = .slice none 0 0 ∧ vi = .int .i64 0 ∧ wr = w) (fun _ _ _ => 0)
  case atStart => exact ⟨rfl, rfl, rfl⟩
  case round =>
    obtain ⟨rfl, rfl, rfl⟩ := hrel
    go_wp2
    go_ret
    exact ⟨rfl, rfl⟩
theorem image_nil (w : World) : Calls Tryz.prog 17 #[.pointer none] w fun e w' => e = .returned (.tuple #[.int .i64 0, .int .i64 0, .slice none 0 0]) ∧ Fr No w w' := by
  go_enter Tryz.func17, Tryz.ntmps17
  go_wp2
  go_ret3
  exact ⟨rfl, (Fr.refl No w).alloc _⟩
theorem append_none (P : Program) (t e ty : TypeId) (i : TypeInfo) (hu : P.underlying t = some (.slice e)) (hi : P.info? e = some i) (w : World) :
    (Builtin.append_ #[t, t] ty #[.slice none 0 0, .slice none 0 0]).run P w = .ok (.slice none 0 0) w := by
  simp [Builtin.append_, run_underlying hu, sizeOf, typeInfo, hi, Builtin.lenOf, Builtin.firstCells]
theorem infoWr : ∃ i, Tryz.prog.info? 48 = some i := by
  have h : (Tryz.prog.info? 48).isSome = true := by kernel_rfl
  exact Option.isSome_iff_exists.1 h
set_option maxHeartbeats 1000000 in
theorem image_emp (w : World) (s : Nat) (h : Emp w s) : Calls Tryz.prog 17 #[.pointer (some ⟨s, 0, none⟩)] w fun e w' => e = .returned (.tuple #[.int .i64 0, .int .i64 0, .slice none 0 0]) ∧ Fr No w w' := by
  obtain ⟨c, o, i, m, T, B, ρ, B', ρ', h1, -⟩ := h.ex
  have hb := cellOf h1
  have hx1 := hb 1
  have hx2 := hb 2
  have hlt := lt_of_block h1
  simp at hx1 hx2
  clear h hb h1
  go_enter Tryz.func17, Tryz.ntmps17
  go_wp2_with (first | (go_at_call 44; refine (writesN_none _ _ _ _).mono ?_; rintro e w' ⟨rfl, rfl⟩) | (go_at_call 47; refine (writesE_none _ _ _ _).mono ?_; rintro e w' ⟨rfl, rfl⟩))
  have q1 : (w.alloc (.cells #[.pointer (some ⟨s, 0, none⟩)] 22)).cell? ⟨s, 1, none⟩ = some (.slice none 0 0) := (World.cell?_of_block (hold hlt)).trans hx1
  have q2 : (w.alloc (.cells #[.pointer (some ⟨s, 0, none⟩)] 22)).cell? ⟨s, 2, none⟩ = some (.slice none 0 0) := (World.cell?_of_block (hold hlt)).trans hx2
  have q0 : (w.alloc (.cells #[.pointer (some ⟨s, 0, none⟩)] 22)).cell? ⟨w.heap.size, 0, none⟩ = some (.pointer (some ⟨s, 0, none⟩)) := cells1 (heap1 _ _)
  have HF : Hid (Fr No w (w.alloc (.cells #[.pointer (some ⟨s, 0, none⟩)] 22))) := hid ((Fr.refl No w).alloc _)
  generalize w.alloc (.cells #[.pointer (some ⟨s, 0, none⟩)] 22) = w1 at *
  generalize w.heap.size = nb at *
  clear hx1 hx2 hlt
  refine wp_region_sched (by kernel_rfl) 17 [12, 13] [0, 1, 2, 3, 4, 5, 6, 7, 8, 9, 10, 11, 12, 13, 14, 15, 16] (AgC [nb, s] w1.drew) (by kernel_rfl) (AgC.refl _ _) ?_
  simp only [List.map_cons, List.map_nil, List.contains_cons, List.contains_nil, nth_zero, nth_succ, Nat.reduceBEq, Bool.false_or, Bool.or_false, Bool.or_true, Bool.true_or]
  repeat (refine sched_quiet (fun K hK => ?_); go_simp; refine hK _ ?_; clear hK K)
  refine sched_call (by first | rfl | go_simp) 50 #[.slice none 0 0] (by first | kernel_rfl | go_simp) (edged_none _) ?_
  rintro e w2 ⟨rfl, rfl⟩
  refine ⟨_, rfl, AgC.refl _ _, ?_⟩
  obtain ⟨iw, hiw⟩ := infoWr
  refine sched_loud ?_
  refine wpList_run rfl (v := .slice none 0 0) (w' := w1.drew) (by simp [go_sem, append_none Tryz.prog 44 48 _ iw Tryz.underlying44 hiw, Result.andThen]) ?_
  refine sched_on (AgC.refl _ _) ?_
  repeat (refine sched_quiet (fun K hK => ?_); go_simp; refine hK _ ?_; clear hK K)
  refine sched_nil ?_
  go_wp2_with fail
  go_ret3
  exact ⟨rfl, HF.out.drew⟩
end Go.Proofs.YtbnbojidnlnccaaGreat
