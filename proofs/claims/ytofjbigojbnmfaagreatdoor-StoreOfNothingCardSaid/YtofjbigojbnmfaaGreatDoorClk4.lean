/- The clock: Sees, whichever two. -/
import Derived.Test.YtofjbigojbnmfaaGreatDoorClk3
namespace Go.Proofs.YtofjbigojbnmfaaGreatDoor
open Go.RowKit Go.Lig

theorem ClkRow.blk {w : World} {c g : Nat} {K : Ck} (h : ClkRow w c g K) (hl : 0 < K.l.length) : ∃ cur, w.heap[g]? = some (.cells cur 130 (0, 0)) := by
  obtain ⟨a, n, h1, h2, h3, _⟩ := h.ex
  obtain rfl := h3 hl
  obtain ⟨g', cur, e, -, hg, -⟩ := owns_at h2 hl
  obtain rfl : g = g' := by simpa using e
  exact ⟨cur, hg⟩
set_option maxHeartbeats 1000000 in
theorem sees_other (w : World) (c g : Nat) (K : Ck) (h : ClkRow w c g K) (hs : K.l.length ≤ 1000000) (t b : Int) (x y : Tx) (hx : K.tx t = some x) (hy : K.tx b = some y) (hne : t ≠ b) (r : Bool) (hr : (y.state == 1 && decide (y.commit ≤ x.mark)) = r) :
    Calls Tryz.prog 117 #[.pointer (some ⟨c, 0, none⟩), .int .i64 t, .int .i64 b] w fun e w' => e = .returned (.bool r) ∧ Fr No w w' := by
  have HX := hid (clkat_any w c g K h hs t)
  have HY := hid (clkat_any w c g K h hs b)
  rw [atV_some hx] at HX
  rw [atV_some hy] at HY
  obtain ⟨cur, hg⟩ := h.blk (by have := (Ck.tx_some hx).2.1; omega)
  have hq := eql_other w.drew g _ _ (off_ne hx hy hne) hg
  obtain ⟨x0, x1, x2⟩ := h.cell hx
  obtain ⟨y0, y1, y2⟩ := h.cell hy
  generalize (t - 1).toNat * 3 = o1 at *
  generalize (b - 1).toNat * 3 = o2 at *
  clear h hx hy hne hg x0 x2 y1
  by_cases h1 : y.state = 1
  · have n1 : ((y.state : Int) == 1) = true := by rw [beq_iff_eq]; exact h1
    by_cases h2 : y.commit ≤ x.mark
    · have hr' : r = true := by rw [← hr, n1, decide_eq_true h2]; rfl
      subst hr'
      clear hr h1
      go_enter Tryz.func117, Tryz.ntmps117
      go_wp2_with fail
      refine (HX.out).mono ?_
      rintro e w' ⟨rfl, rfl⟩
      go_wp2_with fail
      refine (HY.out).mono ?_
      rintro e w' ⟨rfl, rfl⟩
      go_wp2_with fail
      refine wp_region_sched (by kernel_rfl) 30 [] [0, 1, 2, 3, 4, 5, 6, 7, 8, 9, 10, 11, 12, 13, 14, 15, 16, 17, 18, 19, 20, 21, 22, 23, 24, 25, 26, 27, 28, 29] (AgC [g] w.drew) (by kernel_rfl) (AgC.refl _ _) ?_
      simp only [List.map_cons, List.map_nil, List.contains_nil, nth_zero, nth_succ]
      repeat (refine sched_quiet (fun K hK => ?_); go_simp; refine hK _ ?_; clear hK K)
      refine sched_nil ?_
      go_wp2_with fail
      go_ret
      exact ⟨rfl, (Fr.refl No w).drew⟩
    · have h2f : decide (y.commit ≤ x.mark) = false := decide_eq_false h2
      have hr' : r = false := by rw [← hr, n1, h2f]; rfl
      subst hr'
      clear hr h1
      go_enter Tryz.func117, Tryz.ntmps117
      go_wp2_with fail
      refine (HX.out).mono ?_
      rintro e w' ⟨rfl, rfl⟩
      go_wp2_with fail
      refine (HY.out).mono ?_
      rintro e w' ⟨rfl, rfl⟩
      go_wp2_with fail
      refine wp_region_sched (by kernel_rfl) 30 [] [0, 1, 2, 3, 4, 5, 6, 7, 8, 9, 10, 11, 12, 13, 14, 15, 16, 17, 18, 19, 20, 21, 22, 23, 24, 25, 26, 27, 28, 29] (AgC [g] w.drew) (by kernel_rfl) (AgC.refl _ _) ?_
      simp only [List.map_cons, List.map_nil, List.contains_nil, nth_zero, nth_succ]
      repeat (refine sched_quiet (fun K hK => ?_); go_simp; refine hK _ ?_; clear hK K)
      refine sched_nil ?_
      go_wp2_with fail
      go_ret
      exact ⟨rfl, (Fr.refl No w).drew⟩
  · have n1 : ((y.state : Int) == 1) = false := by rw [beq_eq_false_iff_ne]; exact h1
    have hr' : r = false := by rw [← hr, n1]; rfl
    subst hr'
    clear hr h1
    go_enter Tryz.func117, Tryz.ntmps117
    go_wp2_with fail
    refine (HX.out).mono ?_
    rintro e w' ⟨rfl, rfl⟩
    go_wp2_with fail
    refine (HY.out).mono ?_
    rintro e w' ⟨rfl, rfl⟩
    go_wp2_with fail
    refine wp_region_sched (by kernel_rfl) 30 [] [0, 1, 2, 3, 4, 5, 6, 7, 8, 9, 10, 11, 12, 13, 14, 15, 16, 17, 18, 19, 20, 21, 22, 23, 24, 25, 26, 27, 28, 29] (AgC [g] w.drew) (by kernel_rfl) (AgC.refl _ _) ?_
    simp only [List.map_cons, List.map_nil, List.contains_nil, nth_zero, nth_succ]
    repeat (refine sched_quiet (fun K hK => ?_); go_simp; refine hK _ ?_; clear hK K)
    refine sched_nil ?_
    go_wp2_with fail
    go_ret
    exact ⟨rfl, (Fr.refl No w).drew⟩
theorem sees_any (w : World) (c g : Nat) (K : Ck) (h : ClkRow w c g K) (hs : K.l.length ≤ 1000000) (t b : Int) :
    Calls Tryz.prog 117 #[.pointer (some ⟨c, 0, none⟩), .int .i64 t, .int .i64 b] w fun e w' => e = .returned (.bool (K.sees t b)) ∧ Fr No w w' := by
  cases hx : K.tx t with
  | none =>
    have e : K.sees t b = false := by unfold Ck.sees; rw [hx]
    rw [e]
    exact sees_none w c g K h hs t b (.inl hx)
  | some x =>
    cases hy : K.tx b with
    | none =>
      have e : K.sees t b = false := by unfold Ck.sees; rw [hx, hy]
      rw [e]
      exact sees_none w c g K h hs t b (.inr hy)
    | some y =>
      by_cases hne : t = b
      · subst hne
        have e : K.sees t t = true := by unfold Ck.sees; rw [hx]; simp
        rw [e]
        exact sees_self w c g K h hs t x hx
      · refine sees_other w c g K h hs t b x y hx hy hne _ ?_
        unfold Ck.sees
        rw [hx, hy]
        have : (t == b) = false := beq_eq_false_iff_ne.2 hne
        simp [this]
end Go.Proofs.YtofjbigojbnmfaaGreatDoor
