/- The clock: Sees. -/
import Derived.Test.YtofjbigojbnmfaaGreatDoorClk2
import Derived.LaidEqlPtr
namespace Go.Proofs.YtofjbigojbnmfaaGreatDoor
open Go.RowKit Go.Lig

theorem off_ne {K : Ck} {t b : Int} {x y : Tx} (hx : K.tx t = some x) (hy : K.tx b = some y) (h : t ≠ b) : (t - 1).toNat * 3 ≠ (b - 1).toNat * 3 := by
  have h1 := (Ck.tx_some hx).1
  have h2 := (Ck.tx_some hy).1
  omega
set_option maxHeartbeats 1000000 in
theorem sees_none (w : World) (c g : Nat) (K : Ck) (h : ClkRow w c g K) (hs : K.l.length ≤ 1000000) (t b : Int) (hn : K.tx t = none ∨ K.tx b = none) :
    Calls Tryz.prog 117 #[.pointer (some ⟨c, 0, none⟩), .int .i64 t, .int .i64 b] w fun e w' => e = .returned (.bool false) ∧ Fr No w w' := by
  have HX := hid (clkat_any w c g K h hs t)
  have HY := hid (clkat_any w c g K h hs b)
  cases hx : K.tx t with
  | none =>
    rw [atV_none hx] at HX
    cases hy : K.tx b with
    | none =>
        rw [atV_none hy] at HY
        clear h hx hy hn
        go_enter Tryz.func117, Tryz.ntmps117
        go_wp2_with fail
        refine (HX.out).mono ?_
        rintro e w' ⟨rfl, rfl⟩
        go_wp2_with fail
        refine (HY.out).mono ?_
        rintro e w' ⟨rfl, rfl⟩
        go_wp2_with fail
        refine wp_region_sched (by kernel_rfl) 30 [] [0, 1, 2, 3, 4, 5, 6, 7, 8, 9, 10, 11, 12, 13, 14, 15, 16, 17, 18, 19, 20, 21, 22, 23, 24, 25, 26, 27, 28, 29] (AgC [g] w.drew) (by kernel_rfl) (AgC.refl _ _) ?_
        simp only [List.map_cons, List.map_nil, List.contains_nil, nth_zero, nth_succ]
        repeat (refine sched_quiet (fun K hK => ?_); go_simp; refine hK _ ?_; clear hK K)
        refine sched_nil ?_
        go_wp2_with fail
        go_ret
        exact ⟨rfl, (Fr.refl No w).drew⟩
    | some y =>
        rw [atV_some hy] at HY
        generalize (b - 1).toNat * 3 = o2 at *
        clear h hx hy hn
        go_enter Tryz.func117, Tryz.ntmps117
        go_wp2_with fail
        refine (HX.out).mono ?_
        rintro e w' ⟨rfl, rfl⟩
        go_wp2_with fail
        refine (HY.out).mono ?_
        rintro e w' ⟨rfl, rfl⟩
        go_wp2_with fail
        refine wp_region_sched (by kernel_rfl) 30 [] [0, 1, 2, 3, 4, 5, 6, 7, 8, 9, 10, 11, 12, 13, 14, 15, 16, 17, 18, 19, 20, 21, 22, 23, 24, 25, 26, 27, 28, 29] (AgC [g] w.drew) (by kernel_rfl) (AgC.refl _ _) ?_
        simp only [List.map_cons, List.map_nil, List.contains_nil, nth_zero, nth_succ]
        repeat (refine sched_quiet (fun K hK => ?_); go_simp; refine hK _ ?_; clear hK K)
        refine sched_nil ?_
        go_wp2_with fail
        go_ret
        exact ⟨rfl, (Fr.refl No w).drew⟩
  | some x =>
    rw [atV_some hx] at HX
    cases hy : K.tx b with
    | none =>
        rw [atV_none hy] at HY
        generalize (t - 1).toNat * 3 = o1 at *
        clear h hx hy hn
        go_enter Tryz.func117, Tryz.ntmps117
        go_wp2_with fail
        refine (HX.out).mono ?_
        rintro e w' ⟨rfl, rfl⟩
        go_wp2_with fail
        refine (HY.out).mono ?_
        rintro e w' ⟨rfl, rfl⟩
        go_wp2_with fail
        refine wp_region_sched (by kernel_rfl) 30 [] [0, 1, 2, 3, 4, 5, 6, 7, 8, 9, 10, 11, 12, 13, 14, 15, 16, 17, 18, 19, 20, 21, 22, 23, 24, 25, 26, 27, 28, 29] (AgC [g] w.drew) (by kernel_rfl) (AgC.refl _ _) ?_
        simp only [List.map_cons, List.map_nil, List.contains_nil, nth_zero, nth_succ]
        repeat (refine sched_quiet (fun K hK => ?_); go_simp; refine hK _ ?_; clear hK K)
        refine sched_nil ?_
        go_wp2_with fail
        go_ret
        exact ⟨rfl, (Fr.refl No w).drew⟩
    | some y => rw [hx, hy] at hn; rcases hn with h0 | h0 <;> cases h0
theorem infoTx : ∃ j, Tryz.prog.info? 130 = some j ∧ j.size = 3 := by
  have h : (Tryz.prog.info? 130).map (·.size) = some 3 := by kernel_rfl
  obtain ⟨j, h1, h2⟩ := Option.map_eq_some_iff.1 h
  exact ⟨j, h1, h2⟩
theorem eql_same (w0 : World) (g o : Nat) : ∀ a : Agr [g] w0, (binOp .eql 137 (.pointer (some ⟨g, o, none⟩)) (.pointer (some ⟨g, o, none⟩))).run Tryz.prog a.val = .ok (.bool true) a.val := fun a => by
  obtain ⟨j, hj, _⟩ := infoTx
  exact run_eql_ptr_same a.val _ Tryz.underlying137 hj
theorem eql_other (w0 : World) (g o1 o2 : Nat) (hne : o1 ≠ o2) {cur : Array Value} {ty : TypeId} (hg : w0.heap[g]? = some (.cells cur ty (0, 0))) : ∀ a : Agr [g] w0, (binOp .eql 137 (.pointer (some ⟨g, o1, none⟩)) (.pointer (some ⟨g, o2, none⟩))).run Tryz.prog a.val = .ok (.bool false) a.val := fun a => by
  obtain ⟨j, hj, hs⟩ := infoTx
  have hb := heap_agr a hg (by simp)
  exact run_eql_ptr_other a.val Tryz.underlying137 hj (by omega) (fun e => hne (by injection e)) hb hb
set_option maxHeartbeats 1000000 in
theorem sees_self (w : World) (c g : Nat) (K : Ck) (h : ClkRow w c g K) (hs : K.l.length ≤ 1000000) (t : Int) (x : Tx) (hx : K.tx t = some x) :
    Calls Tryz.prog 117 #[.pointer (some ⟨c, 0, none⟩), .int .i64 t, .int .i64 t] w fun e w' => e = .returned (.bool true) ∧ Fr No w w' := by
  have HX := hid (clkat_any w c g K h hs t)
  have HY := hid (clkat_any w c g K h hs t)
  rw [atV_some hx] at HX HY
  generalize (t - 1).toNat * 3 = o1 at *
  have hq := eql_same w.drew g o1
  clear h hx
  go_enter Tryz.func117, Tryz.ntmps117
  go_wp2_with fail
  refine (HX.out).mono ?_
  rintro e w' ⟨rfl, rfl⟩
  go_wp2_with fail
  refine (HY.out).mono ?_
  rintro e w' ⟨rfl, rfl⟩
  go_wp2_with fail
  refine wp_region_sched (by kernel_rfl) 30 [] [0, 1, 2, 3, 4, 5, 6, 7, 8, 9, 10, 11, 12, 13, 14, 15, 16, 17, 18, 19, 20, 21, 22, 23, 24, 25, 26, 27, 28, 29] (AgC [g] w.drew) (by kernel_rfl) (AgC.refl _ _) ?_
  simp only [List.map_cons, List.map_nil, List.contains_nil, nth_zero, nth_succ]
  repeat (refine sched_quiet (fun K hK => ?_); go_simp; refine hK _ ?_; clear hK K)
  refine sched_nil ?_
  go_wp2_with fail
  go_ret
  exact ⟨rfl, (Fr.refl No w).drew⟩
end Go.Proofs.YtofjbigojbnmfaaGreatDoor
