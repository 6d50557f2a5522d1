/- The plain store: New, isLive, node, reads. -/
import Derived.Test.YtofjbigojbnmfaaGreatDoorStM
namespace Go.Proofs.YtofjbigojbnmfaaGreatDoor
open Go.RowKit Go.Lig

section
variable {w : World} {ρ : Nat → Option Pt} {s : Nat} {A : Ad} {M : PSt}
theorem StAt.cells (h : StAt w ρ s A M) : w.cell? ⟨s, 0, none⟩ = some (.pointer (some ⟨A.c, 0, none⟩)) ∧ w.cell? ⟨s, 1, none⟩ = some A.nv ∧ w.cell? ⟨s, 2, none⟩ = some (.slice none 0 0) ∧ w.cell? ⟨s, 4, none⟩ = some (.pointer (some ⟨A.o, 0, none⟩)) ∧ w.cell? ⟨s, 5, none⟩ = some (.pointer (some ⟨A.i, 0, none⟩)) ∧ w.cell? ⟨s, 7, none⟩ = some A.ev := by
  have := cellOf h.heap
  exact ⟨this 0, this 1, this 2, this 4, this 5, this 7⟩
theorem StAt.lt (h : StAt w ρ s A M) : s < w.heap.size := lt_of_block h.heap
end
theorem islive_any (w : World) (ρ : Nat → Option Pt) (s : Nat) (A : Ad) (M : PSt) (h : StAt w ρ s A M) (t : Int) :
    Calls Tryz.prog 33 #[.pointer (some ⟨s, 0, none⟩), .int .i64 t] w fun e w' => e = .returned (.bool (M.K.live t)) ∧ w = w' := by
  obtain ⟨g, hr, -⟩ := h.clock.row
  have HL := hid (live_any w A.c g M.K hr h.clock.small.1 t)
  obtain ⟨x0, -⟩ := h.cells
  generalize M.K.live t = b at *
  clear h hr
  go_enter Tryz.func33, Tryz.ntmps33
  go_wp2_with (go_at_call 89; refine HL.out.mono ?_; rintro e w1 ⟨rfl, rfl⟩)
  go_ret
  exact ⟨rfl, rfl⟩
/-- the cell of a number -/
def ndP (A : Ad) (M : PSt) (id : Int) : Option Addr := if 1 ≤ id ∧ id ≤ (M.N.length : Int) then some ⟨A.x (id - 1).toNat, 0, none⟩ else none
theorem node_any (w : World) (ρ : Nat → Option Pt) (s : Nat) (A : Ad) (M : PSt) (h : StAt w ρ s A M) (id : Int) :
    Calls Tryz.prog 48 #[.pointer (some ⟨s, 0, none⟩), .int .i64 id] w fun e w' => e = .returned (.pointer (ndP A M id)) ∧ w = w' := by
  obtain ⟨-, x1, -⟩ := h.cells
  obtain ⟨a, cap, hnv⟩ := ownsRow_slice h.nrow
  rw [hnv] at x1
  by_cases hv : 1 ≤ id ∧ id ≤ (M.N.length : Int)
  · have hp : ndP A M id = some ⟨A.x (id - 1).toNat, 0, none⟩ := if_pos hv
    rw [hp]
    obtain ⟨k, hk⟩ : ∃ k : Nat, id = (k : Int) + 1 := ⟨(id - 1).toNat, by omega⟩
    subst hk
    have hkt : ((k : Int) + 1 - 1).toNat = k := by omega
    rw [hkt]
    have hkl : k < M.N.length := by omega
    have hr := h.nrow
    rw [hnv] at hr
    obtain ⟨g, cur, rfl, -, -⟩ := owns_at hr (by omega)
    have hc := owns_cell hr rfl (ptrs_get A.x M.N.length k hkl)
    have n1 : ¬ (k : Int) + 1 < 1 := by omega
    have n2 : ¬ (M.N.length : Int) < (k : Int) + 1 := by omega
    have hsm := h.small
    generalize A.x k = xb at *
    generalize M.N.length = n at *
    clear h hr hp hv hnv
    go_enter Tryz.func48, Tryz.ntmps48
    go_wp2
    go_ret
    exact ⟨rfl, rfl⟩
  · have hp : ndP A M id = none := if_neg hv
    rw [hp]
    have hsm := h.small
    generalize M.N.length = n at *
    clear h hp hnv
    by_cases h1 : id < 1
    · clear hv
      go_enter Tryz.func48, Tryz.ntmps48
      go_wp2
      go_ret
      exact ⟨rfl, rfl⟩
    · have h2 : (n : Int) < id := by omega
      clear hv
      go_enter Tryz.func48, Tryz.ntmps48
      go_wp2
      go_ret
      exact ⟨rfl, rfl⟩
theorem infoN : (Tryz.prog.info? 32).map (fun i => (i.zero, i.size, i.bytes)) = some (some (.agg #[.slice none 0 0, .slice none 0 0]), 2, 48) := by kernel_rfl
set_option maxRecDepth 100000 in
set_option maxHeartbeats 4000000 in
theorem reads_of (w : World) (s c : Nat) (t id : Int) (nx : Option Addr) (r : Option NodeV) (x0 : w.cell? ⟨s, 0, none⟩ = some (.pointer (some ⟨c, 0, none⟩)))
    (hn : ∀ u, Fr No w u → Calls Tryz.prog 48 #[.pointer (some ⟨s, 0, none⟩), .int .i64 id] u fun e w' => e = .returned (.pointer nx) ∧ u = w')
    (hr : ∀ u, Fr No w u → Calls Tryz.prog 49 #[.pointer nx, .pointer (some ⟨c, 0, none⟩), .int .i64 t] u fun e w' => e = .returned (.tuple #[optN r, .bool r.isSome]) ∧ Fr No u w') :
    Calls Tryz.prog 43 #[.pointer (some ⟨s, 0, none⟩), .int .i64 t, .int .i64 id] w fun e w' => e = .returned (.bool r.isSome) ∧ Fr No w w' := by
  have HN := hid hn
  have HR := hid hr
  have HS : Hid (s < w.heap.size) := hid (World.block_lt_of_cell? w _ x0)
  clear hn hr
  go_enter Tryz.func43, Tryz.ntmps43
  go_wp2_with fail
  cases r with
  | none =>
    refine wp_region_tree (by kernel_rfl) (.quiet 0 (.quiet 1 (.quiet 3 (.quiet 4 (.quiet 5 (.quiet 6 (.quiet 7 (.two 2 (.two 8 (.quiet 9 (.quiet 10 (.quiet 11 (.one 12 (.one 13 (.quiet 14 .done)))))) 12 (.one 8 (.quiet 9 (.quiet 10 (.quiet 11 (.one 13 (.quiet 14 .done))))))) 12 (.one 2 (.one 8 (.quiet 9 (.quiet 10 (.quiet 11 (.one 13 (.quiet 14 .done))))))))))))))) (AgC [s] w.drew) (by kernel_rfl) (AgC.refl _ _) ?_
    simp only [fill, nth_zero, nth_succ]
    repeat (refine tree_quiet (fun K hK => ?_); go_simp; refine hK _ ?_; clear hK K)
    refine tree_two ?_ ?_
    · refine tree_call (by first | rfl | go_simp) 48 #[.pointer (some ⟨s, 0, none⟩), .int .i64 id] (by first | kernel_rfl | go_simp) (HN.out _ (Fr.refl No w).drew) ?_
      rintro e wn ⟨rfl, rfl⟩
      refine ⟨_, rfl, AgC.refl _ _, ?_⟩
      refine tree_two ?_ ?_
      · refine tree_call (by first | rfl | go_simp) 49 #[.pointer nx, .pointer (some ⟨c, 0, none⟩), .int .i64 t] (by first | kernel_rfl | go_simp) (HR.out _ (Fr.refl No w).drew) ?_
        rintro e w8 ⟨rfl, f8⟩
        have a8 := (AgC.refl _ _).fr f8 (fun j hj => by rw [List.mem_singleton.1 hj]; exact ⟨HS.out, fun e => e⟩)
        have F8 := hid ((Fr.refl No w).drew.thenNo f8)
        refine ⟨_, rfl, a8, ?_⟩
        dsimp only [optN, Option.isSome]
        clear f8
        repeat (refine tree_quiet (fun K hK => ?_); go_simp; refine hK _ ?_; clear hK K)
        refine tree_one (wpList_allocO rfl 32 rfl _ 2 48 infoN ?_)
        intro w3 p3
        have a3 := a8.fr p3.fr (fun j hj => by rw [List.mem_singleton.1 hj]; exact ⟨HS.out, fun e => e⟩)
        have F3 := hid (F8.out.thenNo p3.fr)
        have B3 := hid (show w3.heap[w8.heap.size]? = some (.cells #[.slice none 0 0, .slice none 0 0] 32 (0, 0)) from p3.at_)
        have Z3 := hid (show w.heap.size ≤ w8.heap.size from F8.out.size)
        refine tree_on a3 ?_
        generalize w8.heap.size = b3 at *
        clear p3
        repeat (refine tree_quiet (fun K hK => ?_); go_simp; refine hK _ ?_; clear hK K)
        refine tree_one (wpList_storeO rfl 32 (.tmp 7) (.tmp 19) rfl b3 0 rfl [.slice none 0 0, .slice none 0 0] 32 [.slice none 0 0, .slice none 0 0] rfl (by kernel_rfl) B3.out (by simp) (by simp [Value.oneCell']) ?_)
        intro w5 p5
        have F5 := hid (F3.out.fresh p5.fr (fun k e => by subst e; exact Z3.out))
        refine tree_on (a3.fr p5.fr (fun j hj => by rw [List.mem_singleton.1 hj]; exact ⟨HS.out, fun e => by have h1 := Z3.out; have h2 := HS.out; omega⟩)) ?_
        clear p5
        repeat (refine tree_quiet (fun K hK => ?_); go_simp; refine hK _ ?_; clear hK K)
        refine tree_nil ?_
        go_wp2_with fail
        go_ret
        exact ⟨rfl, F5.out⟩
      · refine tree_one (wpList_allocO rfl 32 rfl _ 2 48 infoN ?_)
        intro w3 p3
        have a3 := (AgC.refl _ _).fr p3.fr (fun j hj => by rw [List.mem_singleton.1 hj]; exact ⟨HS.out, fun e => e⟩)
        have F3 := hid ((Fr.refl No w).drew.thenNo p3.fr)
        have B3 := hid (show w3.heap[w.drew.heap.size]? = some (.cells #[.slice none 0 0, .slice none 0 0] 32 (0, 0)) from p3.at_)
        have Z3 := hid (show w.heap.size ≤ w.drew.heap.size from (Fr.refl No w).drew.size)
        refine tree_on a3 ?_
        generalize w.drew.heap.size = b3 at *
        clear p3
        refine tree_call (by first | rfl | go_simp) 49 #[.pointer nx, .pointer (some ⟨c, 0, none⟩), .int .i64 t] (by first | kernel_rfl | go_simp) (HR.out _ F3.out) ?_
        rintro e w8 ⟨rfl, f8⟩
        have a8 := a3.fr f8 (fun j hj => by rw [List.mem_singleton.1 hj]; exact ⟨HS.out, fun e => e⟩)
        have F8 := hid (F3.out.thenNo f8)
        have B8 := hid (f8.keep B3.out (fun e => e))
        refine ⟨_, rfl, a8, ?_⟩
        dsimp only [optN, Option.isSome]
        clear f8
        repeat (refine tree_quiet (fun K hK => ?_); go_simp; refine hK _ ?_; clear hK K)
        refine tree_one (wpList_storeO rfl 32 (.tmp 7) (.tmp 19) rfl b3 0 rfl [.slice none 0 0, .slice none 0 0] 32 [.slice none 0 0, .slice none 0 0] rfl (by kernel_rfl) B8.out (by simp) (by simp [Value.oneCell']) ?_)
        intro w5 p5
        have F5 := hid (F8.out.fresh p5.fr (fun k e => by subst e; exact Z3.out))
        refine tree_on (a8.fr p5.fr (fun j hj => by rw [List.mem_singleton.1 hj]; exact ⟨HS.out, fun e => by have h1 := Z3.out; have h2 := HS.out; omega⟩)) ?_
        clear p5
        repeat (refine tree_quiet (fun K hK => ?_); go_simp; refine hK _ ?_; clear hK K)
        refine tree_nil ?_
        go_wp2_with fail
        go_ret
        exact ⟨rfl, F5.out⟩
    · refine tree_one (wpList_allocO rfl 32 rfl _ 2 48 infoN ?_)
      intro w3 p3
      have a3 := (AgC.refl _ _).fr p3.fr (fun j hj => by rw [List.mem_singleton.1 hj]; exact ⟨HS.out, fun e => e⟩)
      have F3 := hid ((Fr.refl No w).drew.thenNo p3.fr)
      have B3 := hid (show w3.heap[w.drew.heap.size]? = some (.cells #[.slice none 0 0, .slice none 0 0] 32 (0, 0)) from p3.at_)
      have Z3 := hid (show w.heap.size ≤ w.drew.heap.size from (Fr.refl No w).drew.size)
      refine tree_on a3 ?_
      generalize w.drew.heap.size = b3 at *
      clear p3
      refine tree_call (by first | rfl | go_simp) 48 #[.pointer (some ⟨s, 0, none⟩), .int .i64 id] (by first | kernel_rfl | go_simp) (HN.out _ F3.out) ?_
      rintro e wn ⟨rfl, rfl⟩
      refine ⟨_, rfl, a3, ?_⟩
      refine tree_call (by first | rfl | go_simp) 49 #[.pointer nx, .pointer (some ⟨c, 0, none⟩), .int .i64 t] (by first | kernel_rfl | go_simp) (HR.out _ F3.out) ?_
      rintro e w8 ⟨rfl, f8⟩
      have a8 := a3.fr f8 (fun j hj => by rw [List.mem_singleton.1 hj]; exact ⟨HS.out, fun e => e⟩)
      have F8 := hid (F3.out.thenNo f8)
      have B8 := hid (f8.keep B3.out (fun e => e))
      refine ⟨_, rfl, a8, ?_⟩
      dsimp only [optN, Option.isSome]
      clear f8
      repeat (refine tree_quiet (fun K hK => ?_); go_simp; refine hK _ ?_; clear hK K)
      refine tree_one (wpList_storeO rfl 32 (.tmp 7) (.tmp 19) rfl b3 0 rfl [.slice none 0 0, .slice none 0 0] 32 [.slice none 0 0, .slice none 0 0] rfl (by kernel_rfl) B8.out (by simp) (by simp [Value.oneCell']) ?_)
      intro w5 p5
      have F5 := hid (F8.out.fresh p5.fr (fun k e => by subst e; exact Z3.out))
      refine tree_on (a8.fr p5.fr (fun j hj => by rw [List.mem_singleton.1 hj]; exact ⟨HS.out, fun e => by have h1 := Z3.out; have h2 := HS.out; omega⟩)) ?_
      clear p5
      repeat (refine tree_quiet (fun K hK => ?_); go_simp; refine hK _ ?_; clear hK K)
      refine tree_nil ?_
      go_wp2_with fail
      go_ret
      exact ⟨rfl, F5.out⟩
  | some v =>
    refine wp_region_tree (by kernel_rfl) (.quiet 0 (.quiet 1 (.quiet 3 (.quiet 4 (.quiet 5 (.quiet 6 (.quiet 7 (.two 2 (.two 8 (.quiet 9 (.quiet 10 (.quiet 11 (.one 12 (.one 13 (.quiet 14 .done)))))) 12 (.one 8 (.quiet 9 (.quiet 10 (.quiet 11 (.one 13 (.quiet 14 .done))))))) 12 (.one 2 (.one 8 (.quiet 9 (.quiet 10 (.quiet 11 (.one 13 (.quiet 14 .done))))))))))))))) (AgC [s] w.drew) (by kernel_rfl) (AgC.refl _ _) ?_
    simp only [fill, nth_zero, nth_succ]
    repeat (refine tree_quiet (fun K hK => ?_); go_simp; refine hK _ ?_; clear hK K)
    refine tree_two ?_ ?_
    · refine tree_call (by first | rfl | go_simp) 48 #[.pointer (some ⟨s, 0, none⟩), .int .i64 id] (by first | kernel_rfl | go_simp) (HN.out _ (Fr.refl No w).drew) ?_
      rintro e wn ⟨rfl, rfl⟩
      refine ⟨_, rfl, AgC.refl _ _, ?_⟩
      refine tree_two ?_ ?_
      · refine tree_call (by first | rfl | go_simp) 49 #[.pointer nx, .pointer (some ⟨c, 0, none⟩), .int .i64 t] (by first | kernel_rfl | go_simp) (HR.out _ (Fr.refl No w).drew) ?_
        rintro e w8 ⟨rfl, f8⟩
        have a8 := (AgC.refl _ _).fr f8 (fun j hj => by rw [List.mem_singleton.1 hj]; exact ⟨HS.out, fun e => e⟩)
        have F8 := hid ((Fr.refl No w).drew.thenNo f8)
        refine ⟨_, rfl, a8, ?_⟩
        dsimp only [optN, Option.isSome]
        clear f8
        repeat (refine tree_quiet (fun K hK => ?_); go_simp; refine hK _ ?_; clear hK K)
        refine tree_one (wpList_allocO rfl 32 rfl _ 2 48 infoN ?_)
        intro w3 p3
        have a3 := a8.fr p3.fr (fun j hj => by rw [List.mem_singleton.1 hj]; exact ⟨HS.out, fun e => e⟩)
        have F3 := hid (F8.out.thenNo p3.fr)
        have B3 := hid (show w3.heap[w8.heap.size]? = some (.cells #[.slice none 0 0, .slice none 0 0] 32 (0, 0)) from p3.at_)
        have Z3 := hid (show w.heap.size ≤ w8.heap.size from F8.out.size)
        refine tree_on a3 ?_
        generalize w8.heap.size = b3 at *
        clear p3
        repeat (refine tree_quiet (fun K hK => ?_); go_simp; refine hK _ ?_; clear hK K)
        refine tree_one (wpList_storeO rfl 32 (.tmp 7) (.tmp 19) rfl b3 0 rfl [.slice none 0 0, .slice none 0 0] 32 [.slice v.l.a v.l.n v.l.c, .slice v.p.a v.p.n v.p.c] rfl (by kernel_rfl) B3.out (by simp) (by simp [Value.oneCell']) ?_)
        intro w5 p5
        have F5 := hid (F3.out.fresh p5.fr (fun k e => by subst e; exact Z3.out))
        refine tree_on (a3.fr p5.fr (fun j hj => by rw [List.mem_singleton.1 hj]; exact ⟨HS.out, fun e => by have h1 := Z3.out; have h2 := HS.out; omega⟩)) ?_
        clear p5
        repeat (refine tree_quiet (fun K hK => ?_); go_simp; refine hK _ ?_; clear hK K)
        refine tree_nil ?_
        go_wp2_with fail
        go_ret
        exact ⟨rfl, F5.out⟩
      · refine tree_one (wpList_allocO rfl 32 rfl _ 2 48 infoN ?_)
        intro w3 p3
        have a3 := (AgC.refl _ _).fr p3.fr (fun j hj => by rw [List.mem_singleton.1 hj]; exact ⟨HS.out, fun e => e⟩)
        have F3 := hid ((Fr.refl No w).drew.thenNo p3.fr)
        have B3 := hid (show w3.heap[w.drew.heap.size]? = some (.cells #[.slice none 0 0, .slice none 0 0] 32 (0, 0)) from p3.at_)
        have Z3 := hid (show w.heap.size ≤ w.drew.heap.size from (Fr.refl No w).drew.size)
        refine tree_on a3 ?_
        generalize w.drew.heap.size = b3 at *
        clear p3
        refine tree_call (by first | rfl | go_simp) 49 #[.pointer nx, .pointer (some ⟨c, 0, none⟩), .int .i64 t] (by first | kernel_rfl | go_simp) (HR.out _ F3.out) ?_
        rintro e w8 ⟨rfl, f8⟩
        have a8 := a3.fr f8 (fun j hj => by rw [List.mem_singleton.1 hj]; exact ⟨HS.out, fun e => e⟩)
        have F8 := hid (F3.out.thenNo f8)
        have B8 := hid (f8.keep B3.out (fun e => e))
        refine ⟨_, rfl, a8, ?_⟩
        dsimp only [optN, Option.isSome]
        clear f8
        repeat (refine tree_quiet (fun K hK => ?_); go_simp; refine hK _ ?_; clear hK K)
        refine tree_one (wpList_storeO rfl 32 (.tmp 7) (.tmp 19) rfl b3 0 rfl [.slice none 0 0, .slice none 0 0] 32 [.slice v.l.a v.l.n v.l.c, .slice v.p.a v.p.n v.p.c] rfl (by kernel_rfl) B8.out (by simp) (by simp [Value.oneCell']) ?_)
        intro w5 p5
        have F5 := hid (F8.out.fresh p5.fr (fun k e => by subst e; exact Z3.out))
        refine tree_on (a8.fr p5.fr (fun j hj => by rw [List.mem_singleton.1 hj]; exact ⟨HS.out, fun e => by have h1 := Z3.out; have h2 := HS.out; omega⟩)) ?_
        clear p5
        repeat (refine tree_quiet (fun K hK => ?_); go_simp; refine hK _ ?_; clear hK K)
        refine tree_nil ?_
        go_wp2_with fail
        go_ret
        exact ⟨rfl, F5.out⟩
    · refine tree_one (wpList_allocO rfl 32 rfl _ 2 48 infoN ?_)
      intro w3 p3
      have a3 := (AgC.refl _ _).fr p3.fr (fun j hj => by rw [List.mem_singleton.1 hj]; exact ⟨HS.out, fun e => e⟩)
      have F3 := hid ((Fr.refl No w).drew.thenNo p3.fr)
      have B3 := hid (show w3.heap[w.drew.heap.size]? = some (.cells #[.slice none 0 0, .slice none 0 0] 32 (0, 0)) from p3.at_)
      have Z3 := hid (show w.heap.size ≤ w.drew.heap.size from (Fr.refl No w).drew.size)
      refine tree_on a3 ?_
      generalize w.drew.heap.size = b3 at *
      clear p3
      refine tree_call (by first | rfl | go_simp) 48 #[.pointer (some ⟨s, 0, none⟩), .int .i64 id] (by first | kernel_rfl | go_simp) (HN.out _ F3.out) ?_
      rintro e wn ⟨rfl, rfl⟩
      refine ⟨_, rfl, a3, ?_⟩
      refine tree_call (by first | rfl | go_simp) 49 #[.pointer nx, .pointer (some ⟨c, 0, none⟩), .int .i64 t] (by first | kernel_rfl | go_simp) (HR.out _ F3.out) ?_
      rintro e w8 ⟨rfl, f8⟩
      have a8 := a3.fr f8 (fun j hj => by rw [List.mem_singleton.1 hj]; exact ⟨HS.out, fun e => e⟩)
      have F8 := hid (F3.out.thenNo f8)
      have B8 := hid (f8.keep B3.out (fun e => e))
      refine ⟨_, rfl, a8, ?_⟩
      dsimp only [optN, Option.isSome]
      clear f8
      repeat (refine tree_quiet (fun K hK => ?_); go_simp; refine hK _ ?_; clear hK K)
      refine tree_one (wpList_storeO rfl 32 (.tmp 7) (.tmp 19) rfl b3 0 rfl [.slice none 0 0, .slice none 0 0] 32 [.slice v.l.a v.l.n v.l.c, .slice v.p.a v.p.n v.p.c] rfl (by kernel_rfl) B8.out (by simp) (by simp [Value.oneCell']) ?_)
      intro w5 p5
      have F5 := hid (F8.out.fresh p5.fr (fun k e => by subst e; exact Z3.out))
      refine tree_on (a8.fr p5.fr (fun j hj => by rw [List.mem_singleton.1 hj]; exact ⟨HS.out, fun e => by have h1 := Z3.out; have h2 := HS.out; omega⟩)) ?_
      clear p5
      repeat (refine tree_quiet (fun K hK => ?_); go_simp; refine hK _ ?_; clear hK K)
      refine tree_nil ?_
      go_wp2_with fail
      go_ret
      exact ⟨rfl, F5.out⟩
end Go.Proofs.YtofjbigojbnmfaaGreatDoor
