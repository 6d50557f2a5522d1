/- The clock: Clashes. -/
import Derived.Test.YtofjbigojbnmfaaGreatDoorClk4
namespace Go.Proofs.YtofjbigojbnmfaaGreatDoor
open Go.RowKit Go.Lig

theorem neq_same (w0 : World) (g o : Nat) : ∀ a : Agr [g] w0, (binOp .neq 137 (.pointer (some ⟨g, o, none⟩)) (.pointer (some ⟨g, o, none⟩))).run Tryz.prog a.val = .ok (.bool false) a.val := fun a => by
  obtain ⟨j, hj, _⟩ := infoTx
  have h : ∀ d : Nat, (Op.equalIn (d + 1) 137 (.pointer (some ⟨g, o, none⟩)) (.pointer (some ⟨g, o, none⟩))).run Tryz.prog a.val = .ok true a.val := fun d => by
    simp [Op.equalIn, run_underlying Tryz.underlying137, sizeOf, typeInfo, hj, run_sameAddr_same]
  simp only [binOp]
  simp [Op.equal, Op.maxDepth, h 9999]
theorem neq_other (w0 : World) (g o1 o2 : Nat) (hne : o1 ≠ o2) {cur : Array Value} {ty : TypeId} (hg : w0.heap[g]? = some (.cells cur ty (0, 0))) : ∀ a : Agr [g] w0, (binOp .neq 137 (.pointer (some ⟨g, o1, none⟩)) (.pointer (some ⟨g, o2, none⟩))).run Tryz.prog a.val = .ok (.bool true) a.val := fun a => by
  obtain ⟨j, hj, hs⟩ := infoTx
  have hb := heap_agr a hg (by simp)
  have hsz : j.size ≠ 0 := by omega
  have hn : (⟨g, o1, none⟩ : Addr) ≠ ⟨g, o2, none⟩ := fun e => hne (by injection e)
  have h : ∀ d : Nat, (Op.equalIn (d + 1) 137 (.pointer (some ⟨g, o1, none⟩)) (.pointer (some ⟨g, o2, none⟩))).run Tryz.prog a.val = .ok false a.val := fun d => by
    simp [Op.equalIn, run_underlying Tryz.underlying137, sizeOf, typeInfo, hj, hsz, run_sameAddr_other a.val hn hb hb]
  simp only [binOp]
  simp [Op.equal, Op.maxDepth, h 9999]
set_option maxHeartbeats 1000000 in
theorem clashes_none (w : World) (c g : Nat) (K : Ck) (h : ClkRow w c g K) (hs : K.l.length ≤ 1000000) (t b : Int) (hn : K.tx t = none ∨ K.tx b = none) :
    Calls Tryz.prog 161 #[.pointer (some ⟨c, 0, none⟩), .int .i64 t, .int .i64 b] w fun e w' => e = .returned (.bool false) ∧ Fr No w w' := by
  have HX := hid (clkat_any w c g K h hs t)
  have HY := hid (clkat_any w c g K h hs b)
  cases hx : K.tx t with
  | none =>
    rw [atV_none hx] at HX
    cases hy : K.tx b with
    | none =>
      rw [atV_none hy] at HY
      clear h hx hy hn
      go_enter Tryz.func161, Tryz.ntmps161
      go_wp2_with fail
      refine (HX.out).mono ?_
      rintro e w' ⟨rfl, rfl⟩
      go_wp2_with fail
      refine (HY.out).mono ?_
      rintro e w' ⟨rfl, rfl⟩
      go_wp2_with fail
      refine wp_region_sched (by kernel_rfl) 37 [] [0, 1, 2, 3, 4, 5, 6, 7, 8, 9, 10, 11, 12, 13, 14, 15, 16, 17, 18, 19, 20, 21, 22, 23, 24, 25, 26, 27, 28, 29, 30, 31, 32, 33, 34, 35, 36] (AgC [g] w.drew) (by kernel_rfl) (AgC.refl _ _) ?_
      simp only [List.map_cons, List.map_nil, List.contains_nil, nth_zero, nth_succ]
      repeat (refine sched_quiet (fun K hK => ?_); go_simp; refine hK _ ?_; clear hK K)
      refine sched_nil ?_
      go_wp2_with fail
      go_ret
      exact ⟨rfl, (Fr.refl No w).drew⟩
    | some y =>
      rw [atV_some hy] at HY
      generalize (b - 1).toNat * 3 = o2 at *
      clear h hx hy hn
      go_enter Tryz.func161, Tryz.ntmps161
      go_wp2_with fail
      refine (HX.out).mono ?_
      rintro e w' ⟨rfl, rfl⟩
      go_wp2_with fail
      refine (HY.out).mono ?_
      rintro e w' ⟨rfl, rfl⟩
      go_wp2_with fail
      refine wp_region_sched (by kernel_rfl) 37 [] [0, 1, 2, 3, 4, 5, 6, 7, 8, 9, 10, 11, 12, 13, 14, 15, 16, 17, 18, 19, 20, 21, 22, 23, 24, 25, 26, 27, 28, 29, 30, 31, 32, 33, 34, 35, 36] (AgC [g] w.drew) (by kernel_rfl) (AgC.refl _ _) ?_
      simp only [List.map_cons, List.map_nil, List.contains_nil, nth_zero, nth_succ]
      repeat (refine sched_quiet (fun K hK => ?_); go_simp; refine hK _ ?_; clear hK K)
      refine sched_nil ?_
      go_wp2_with fail
      go_ret
      exact ⟨rfl, (Fr.refl No w).drew⟩
  | some x =>
    rw [atV_some hx] at HX
    cases hy : K.tx b with
    | none =>
      rw [atV_none hy] at HY
      generalize (t - 1).toNat * 3 = o1 at *
      clear h hx hy hn
      go_enter Tryz.func161, Tryz.ntmps161
      go_wp2_with fail
      refine (HX.out).mono ?_
      rintro e w' ⟨rfl, rfl⟩
      go_wp2_with fail
      refine (HY.out).mono ?_
      rintro e w' ⟨rfl, rfl⟩
      go_wp2_with fail
      refine wp_region_sched (by kernel_rfl) 37 [] [0, 1, 2, 3, 4, 5, 6, 7, 8, 9, 10, 11, 12, 13, 14, 15, 16, 17, 18, 19, 20, 21, 22, 23, 24, 25, 26, 27, 28, 29, 30, 31, 32, 33, 34, 35, 36] (AgC [g] w.drew) (by kernel_rfl) (AgC.refl _ _) ?_
      simp only [List.map_cons, List.map_nil, List.contains_nil, nth_zero, nth_succ]
      repeat (refine sched_quiet (fun K hK => ?_); go_simp; refine hK _ ?_; clear hK K)
      refine sched_nil ?_
      go_wp2_with fail
      go_ret
      exact ⟨rfl, (Fr.refl No w).drew⟩
    | some y => rw [hx, hy] at hn; rcases hn with h0 | h0 <;> cases h0
set_option maxHeartbeats 1000000 in
theorem clashes_self (w : World) (c g : Nat) (K : Ck) (h : ClkRow w c g K) (hs : K.l.length ≤ 1000000) (t : Int) (x : Tx) (hx : K.tx t = some x) :
    Calls Tryz.prog 161 #[.pointer (some ⟨c, 0, none⟩), .int .i64 t, .int .i64 t] w fun e w' => e = .returned (.bool false) ∧ Fr No w w' := by
  have HX := hid (clkat_any w c g K h hs t)
  have HY := hid (clkat_any w c g K h hs t)
  rw [atV_some hx] at HX HY
  generalize (t - 1).toNat * 3 = o1 at *
  have hq := neq_same w.drew g o1
  clear h hx
  go_enter Tryz.func161, Tryz.ntmps161
  go_wp2_with fail
  refine (HX.out).mono ?_
  rintro e w' ⟨rfl, rfl⟩
  go_wp2_with fail
  refine (HY.out).mono ?_
  rintro e w' ⟨rfl, rfl⟩
  go_wp2_with fail
  refine wp_region_sched (by kernel_rfl) 37 [] [0, 1, 2, 3, 4, 5, 6, 7, 8, 9, 10, 11, 12, 13, 14, 15, 16, 17, 18, 19, 20, 21, 22, 23, 24, 25, 26, 27, 28, 29, 30, 31, 32, 33, 34, 35, 36] (AgC [g] w.drew) (by kernel_rfl) (AgC.refl _ _) ?_
  simp only [List.map_cons, List.map_nil, List.contains_nil, nth_zero, nth_succ]
  repeat (refine sched_quiet (fun K hK => ?_); go_simp; refine hK _ ?_; clear hK K)
  refine sched_nil ?_
  go_wp2_with fail
  go_ret
  exact ⟨rfl, (Fr.refl No w).drew⟩
set_option maxHeartbeats 1000000 in
theorem clashes_other (w : World) (c g : Nat) (K : Ck) (h : ClkRow w c g K) (hs : K.l.length ≤ 1000000) (t b : Int) (x y : Tx) (hx : K.tx t = some x) (hy : K.tx b = some y) (hne : t ≠ b) (r : Bool) (hr : (y.state == 0 || (y.state == 1 && decide (x.mark < y.commit))) = r) :
    Calls Tryz.prog 161 #[.pointer (some ⟨c, 0, none⟩), .int .i64 t, .int .i64 b] w fun e w' => e = .returned (.bool r) ∧ Fr No w w' := by
  have HX := hid (clkat_any w c g K h hs t)
  have HY := hid (clkat_any w c g K h hs b)
  rw [atV_some hx] at HX
  rw [atV_some hy] at HY
  obtain ⟨cur, hg⟩ := h.blk (by have := (Ck.tx_some hx).2.1; omega)
  have hq := neq_other w.drew g _ _ (off_ne hx hy hne) hg
  obtain ⟨x0, x1, x2⟩ := h.cell hx
  obtain ⟨y0, y1, y2⟩ := h.cell hy
  generalize (t - 1).toNat * 3 = o1 at *
  generalize (b - 1).toNat * 3 = o2 at *
  clear h hx hy hne hg x0 x2 y1
  by_cases h0 : y.state = 0
  · have n0 : ((y.state : Int) == 0) = true := by rw [beq_iff_eq]; exact h0
    have hr' : r = true := by rw [← hr, n0]; rfl
    subst hr'
    clear hr h0
    go_enter Tryz.func161, Tryz.ntmps161
    go_wp2_with fail
    refine (HX.out).mono ?_
    rintro e w' ⟨rfl, rfl⟩
    go_wp2_with fail
    refine (HY.out).mono ?_
    rintro e w' ⟨rfl, rfl⟩
    go_wp2_with fail
    refine wp_region_sched (by kernel_rfl) 37 [] [0, 1, 2, 3, 4, 5, 6, 7, 8, 9, 10, 11, 12, 13, 14, 15, 16, 17, 18, 19, 20, 21, 22, 23, 24, 25, 26, 27, 28, 29, 30, 31, 32, 33, 34, 35, 36] (AgC [g] w.drew) (by kernel_rfl) (AgC.refl _ _) ?_
    simp only [List.map_cons, List.map_nil, List.contains_nil, nth_zero, nth_succ]
    repeat (refine sched_quiet (fun K hK => ?_); go_simp; refine hK _ ?_; clear hK K)
    refine sched_nil ?_
    go_wp2_with fail
    go_ret
    exact ⟨rfl, (Fr.refl No w).drew⟩
  · have n0 : ((y.state : Int) == 0) = false := by rw [beq_eq_false_iff_ne]; exact h0
    by_cases h1 : y.state = 1
    · have n1 : ((y.state : Int) == 1) = true := by rw [beq_iff_eq]; exact h1
      by_cases h2 : x.mark < y.commit
      · have hr' : r = true := by rw [← hr, n0, n1, decide_eq_true h2]; rfl
        subst hr'
        clear hr h1 h0
        go_enter Tryz.func161, Tryz.ntmps161
        go_wp2_with fail
        refine (HX.out).mono ?_
        rintro e w' ⟨rfl, rfl⟩
        go_wp2_with fail
        refine (HY.out).mono ?_
        rintro e w' ⟨rfl, rfl⟩
        go_wp2_with fail
        refine wp_region_sched (by kernel_rfl) 37 [] [0, 1, 2, 3, 4, 5, 6, 7, 8, 9, 10, 11, 12, 13, 14, 15, 16, 17, 18, 19, 20, 21, 22, 23, 24, 25, 26, 27, 28, 29, 30, 31, 32, 33, 34, 35, 36] (AgC [g] w.drew) (by kernel_rfl) (AgC.refl _ _) ?_
        simp only [List.map_cons, List.map_nil, List.contains_nil, nth_zero, nth_succ]
        repeat (refine sched_quiet (fun K hK => ?_); go_simp; refine hK _ ?_; clear hK K)
        refine sched_nil ?_
        go_wp2_with fail
        go_ret
        exact ⟨rfl, (Fr.refl No w).drew⟩
      · have h2f : decide (x.mark < y.commit) = false := decide_eq_false h2
        have hr' : r = false := by rw [← hr, n0, n1, h2f]; rfl
        subst hr'
        clear hr h1 h0
        go_enter Tryz.func161, Tryz.ntmps161
        go_wp2_with fail
        refine (HX.out).mono ?_
        rintro e w' ⟨rfl, rfl⟩
        go_wp2_with fail
        refine (HY.out).mono ?_
        rintro e w' ⟨rfl, rfl⟩
        go_wp2_with fail
        refine wp_region_sched (by kernel_rfl) 37 [] [0, 1, 2, 3, 4, 5, 6, 7, 8, 9, 10, 11, 12, 13, 14, 15, 16, 17, 18, 19, 20, 21, 22, 23, 24, 25, 26, 27, 28, 29, 30, 31, 32, 33, 34, 35, 36] (AgC [g] w.drew) (by kernel_rfl) (AgC.refl _ _) ?_
        simp only [List.map_cons, List.map_nil, List.contains_nil, nth_zero, nth_succ]
        repeat (refine sched_quiet (fun K hK => ?_); go_simp; refine hK _ ?_; clear hK K)
        refine sched_nil ?_
        go_wp2_with fail
        go_ret
        exact ⟨rfl, (Fr.refl No w).drew⟩
    · have n1 : ((y.state : Int) == 1) = false := by rw [beq_eq_false_iff_ne]; exact h1
      have hr' : r = false := by rw [← hr, n0, n1]; rfl
      subst hr'
      clear hr h1 h0
      go_enter Tryz.func161, Tryz.ntmps161
      go_wp2_with fail
      refine (HX.out).mono ?_
      rintro e w' ⟨rfl, rfl⟩
      go_wp2_with fail
      refine (HY.out).mono ?_
      rintro e w' ⟨rfl, rfl⟩
      go_wp2_with fail
      refine wp_region_sched (by kernel_rfl) 37 [] [0, 1, 2, 3, 4, 5, 6, 7, 8, 9, 10, 11, 12, 13, 14, 15, 16, 17, 18, 19, 20, 21, 22, 23, 24, 25, 26, 27, 28, 29, 30, 31, 32, 33, 34, 35, 36] (AgC [g] w.drew) (by kernel_rfl) (AgC.refl _ _) ?_
      simp only [List.map_cons, List.map_nil, List.contains_nil, nth_zero, nth_succ]
      repeat (refine sched_quiet (fun K hK => ?_); go_simp; refine hK _ ?_; clear hK K)
      refine sched_nil ?_
      go_wp2_with fail
      go_ret
      exact ⟨rfl, (Fr.refl No w).drew⟩
theorem clashes_any (w : World) (c g : Nat) (K : Ck) (h : ClkRow w c g K) (hs : K.l.length ≤ 1000000) (t b : Int) :
    Calls Tryz.prog 161 #[.pointer (some ⟨c, 0, none⟩), .int .i64 t, .int .i64 b] w fun e w' => e = .returned (.bool (K.clashes t b)) ∧ Fr No w w' := by
  cases hx : K.tx t with
  | none =>
    have e : K.clashes t b = false := by unfold Ck.clashes; rw [hx]
    rw [e]
    exact clashes_none w c g K h hs t b (.inl hx)
  | some x =>
    cases hy : K.tx b with
    | none =>
      have e : K.clashes t b = false := by unfold Ck.clashes; rw [hx, hy]
      rw [e]
      exact clashes_none w c g K h hs t b (.inr hy)
    | some y =>
      by_cases hne : t = b
      · subst hne
        have e : K.clashes t t = false := by unfold Ck.clashes; rw [hx]; simp
        rw [e]
        exact clashes_self w c g K h hs t x hx
      · refine clashes_other w c g K h hs t b x y hx hy hne _ ?_
        unfold Ck.clashes
        rw [hx, hy]
        have : (t == b) = false := beq_eq_false_iff_ne.2 hne
        simp [this]
end Go.Proofs.YtofjbigojbnmfaaGreatDoor
