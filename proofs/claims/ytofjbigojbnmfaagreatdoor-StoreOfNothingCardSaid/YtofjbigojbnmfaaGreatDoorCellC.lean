/- The cell: Check. -/
import Derived.Test.YtofjbigojbnmfaaGreatDoorCellN
namespace Go.Proofs.YtofjbigojbnmfaaGreatDoor
open Go.RowKit Go.Lig

/-- does the last version stand in the way of t? -/
def clashL (K : Ck) (t : Int) (L : List (Ver NodeV)) : Bool := match L.getLast? with
  | some y => K.clashes t y.by_
  | none => false
def errI (b : Bool) : Value := if b then .int .i64 6 else .int .i64 0
theorem last_at {α : Type} {L : List α} {y : α} (h : L.getLast? = some y) : 0 < L.length ∧ L[L.length - 1]? = some y := by
  have hne : L ≠ [] := by intro e; subst e; simp at h
  exact ⟨List.length_pos_iff.2 hne, by rw [← h, List.getLast?_eq_getElem?]⟩
theorem CelRow.lt {w : World} {x g : Nat} {L : List (Ver NodeV)} (h : CelRow w x g L) (hl : 0 < L.length) : g < w.heap.size := by
  obtain ⟨a, n, h1, h2, h3, _⟩ := h.ex
  obtain rfl := h3 hl
  obtain ⟨g', cur, e', -, hg, -⟩ := owns_at h2 hl
  obtain rfl : g = g' := by simpa using e'
  exact lt_of_block hg
set_option maxHeartbeats 1000000 in
theorem check_empty (w : World) (x g : Nat) (h : CelRow w x g []) (c t : Value) :
    Calls Tryz.prog 113 #[.pointer (some ⟨x, 0, none⟩), c, t] w fun e w' => e = .returned (.int .i64 0) ∧ Fr No w w' := by
  obtain ⟨a, cap, h1, -⟩ := h.ex
  have x0 := cells1 h1
  clear h h1
  go_enter Tryz.func113, Tryz.ntmps113
  go_wp2_with fail
  refine wp_region_sched (by kernel_rfl) 25 [22] [0, 1, 2, 3, 4, 5, 6, 7, 8, 9, 10, 11, 12, 13, 14, 15, 16, 17, 18, 19, 20, 21, 22, 23, 24] (AgC [x] w.drew) (by kernel_rfl) (AgC.refl _ _) ?_
  simp only [List.map_cons, List.map_nil, List.contains_cons, List.contains_nil, nth_zero, nth_succ, Nat.reduceBEq, Bool.false_or, Bool.or_false, Bool.or_true, Bool.true_or]
  repeat (refine sched_quiet (fun K hK => ?_); go_simp; refine hK _ ?_; clear hK K)
  refine sched_skip (by first | rfl | go_simp) (AgC.refl _ _) ?_
  repeat (refine sched_quiet (fun K hK => ?_); go_simp; refine hK _ ?_; clear hK K)
  refine sched_nil ?_
  go_wp2_with fail
  go_ret
  exact ⟨rfl, (Fr.refl No w).drew⟩
set_option maxHeartbeats 1000000 in
theorem check_last (w : World) (x g c gk : Nat) (K : Ck) (L : List (Ver NodeV)) (h : CelRow w x g L) (hs : L.length ≤ 1000000) (hk : ClkRow w c gk K) (hks : K.l.length ≤ 1000000) (t : Int) (y : Ver NodeV) (hy : L.getLast? = some y) (r : Bool) (hr : K.clashes t y.by_ = r) :
    Calls Tryz.prog 113 #[.pointer (some ⟨x, 0, none⟩), .pointer (some ⟨c, 0, none⟩), .int .i64 t] w fun e w' => e = .returned (errI r) ∧ Fr No w w' := by
  obtain ⟨hl, hly⟩ := last_at hy
  obtain ⟨a, cap, h1, -, h3, -⟩ := id h.ex
  obtain rfl := h3 hl
  have x0 := cells1 h1
  obtain ⟨y0, -⟩ := h.cell hly
  obtain ⟨m, hm⟩ : ∃ m, L.length = m + 1 := ⟨L.length - 1, by omega⟩
  rw [hm, Nat.add_sub_cancel] at y0
  have n2 : IntKind.i64.wrap ((L.length : Int) - 1) = (m : Int) := by rw [hm, show (((m + 1 : Nat) : Int) - 1) = (m : Int) by omega]; exact IntWalk.i64_in _ (by omega)
  have hmn : m < L.length := by omega
  have HB := hid (⟨lt_of_block h1, h.lt hl⟩ : x < w.heap.size ∧ g < w.heap.size)
  have HS := hid (clashes_any w.drew c gk K (hk.frame (Fr.refl No w).drew) hks t y.by_)
  rw [hr] at HS
  generalize L.length = n at *
  clear h h1 h3 hk hks hly hy hr hm
  go_enter Tryz.func113, Tryz.ntmps113
  go_wp2_with fail
  refine wp_region_sched (by kernel_rfl) 25 [22] [0, 1, 2, 3, 4, 5, 6, 7, 8, 9, 10, 11, 12, 13, 14, 15, 16, 17, 18, 19, 20, 21, 22, 23, 24] (AgC [x, g] w.drew) (by kernel_rfl) (AgC.refl _ _) ?_
  simp only [List.map_cons, List.map_nil, List.contains_cons, List.contains_nil, nth_zero, nth_succ, Nat.reduceBEq, Bool.false_or, Bool.or_false, Bool.or_true, Bool.true_or]
  repeat (refine sched_quiet (fun K hK => ?_); go_simp; refine hK _ ?_; clear hK K)
  refine sched_call (by first | rfl | go_simp) 161 #[.pointer (some ⟨c, 0, none⟩), .int .i64 t, .int .i64 y.by_] (by first | kernel_rfl | go_simp) HS.out ?_
  rintro e w2 ⟨rfl, f2⟩
  refine ⟨_, rfl, (AgC.refl _ _).fr f2 (fun j hj => ⟨by rcases List.mem_cons.1 hj with rfl | hj; exact HB.out.1; rw [List.mem_singleton.1 hj]; exact HB.out.2, id⟩), ?_⟩
  have H2 := hid f2
  clear f2
  cases r with
  | false =>
    repeat (refine sched_quiet (fun K hK => ?_); go_simp; refine hK _ ?_; clear hK K)
    refine sched_nil ?_
    go_wp2_with fail
    go_ret
    exact ⟨rfl, (Fr.refl No w).drew.thenNo H2.out⟩
  | true =>
    repeat (refine sched_quiet (fun K hK => ?_); go_simp; refine hK _ ?_; clear hK K)
    refine sched_nil ?_
    go_wp2_with fail
    go_ret
    exact ⟨rfl, (Fr.refl No w).drew.thenNo H2.out⟩
theorem check_any (w : World) (x g c gk : Nat) (K : Ck) (L : List (Ver NodeV)) (h : CelRow w x g L) (hs : L.length ≤ 1000000) (hk : ClkRow w c gk K) (hks : K.l.length ≤ 1000000) (t : Int) :
    Calls Tryz.prog 113 #[.pointer (some ⟨x, 0, none⟩), .pointer (some ⟨c, 0, none⟩), .int .i64 t] w fun e w' => e = .returned (errI (clashL K t L)) ∧ Fr No w w' := by
  cases hl : L.getLast? with
  | none =>
    obtain rfl : L = [] := List.getLast?_eq_none_iff.1 hl
    exact check_empty w x g h _ _
  | some y =>
    have e : clashL K t L = K.clashes t y.by_ := by unfold clashL; rw [hl]
    rw [e]
    exact check_last w x g c gk K L h hs hk hks t y hl _ rfl
end Go.Proofs.YtofjbigojbnmfaaGreatDoor
