/- The plain store: AddNode. -/
import Derived.Test.YtofjbigojbnmfaaGreatDoorStE
namespace Go.Proofs.YtofjbigojbnmfaaGreatDoor
open Go.RowKit Go.Lig

set_option maxRecDepth 100000 in
set_option maxHeartbeats 4000000 in
theorem addnode_full (w : World) (ρ : Nat → Option Pt) (s : Nat) (A : Ad) (M : PSt) (h : StAt w ρ s A M) (t : Int) (hl : M.K.live t = true) (hf : 24 ≤ M.N.length) :
    Calls Tryz.prog 7 #[.pointer (some ⟨s, 0, none⟩), .int .i64 t, .agg #[.slice none 0 0, .slice none 0 0]] w fun e w' => e = .returned (.tuple #[.int .i64 0, .int .i64 3]) ∧ Fr No w w' := by
  have hb := heap1 w (.cells #[.slice none 0 0, .slice none 0 0] 32)
  have hfr : Fr No w (w.alloc (.cells #[.slice none 0 0, .slice none 0 0] 32)) := (Fr.refl No w).alloc _
  have HI := hid (islive_any _ ρ s A M (h.frame hfr) t)
  rw [hl] at HI
  have HH := hid (⟨h, hfr, hb⟩ : _ ∧ _ ∧ _)
  obtain ⟨a1, c1, hnv⟩ := ownsRow_slice h.nrow
  have HV := hid hnv
  have hn : (24 : Int) ≤ (M.N.length : Int) := by omega
  generalize hNe : M.N.length = n at hn
  have HNe := hid hNe
  clear h hl hf hb hfr hnv hNe
  go_enter Tryz.func7, Tryz.ntmps7
  go_wp2_with (first | (go_at_call 33; refine HI.out.mono ?_; rintro e w1 ⟨rfl, rfl⟩; obtain ⟨c0, c1'⟩ := cells2 HH.out.2.2) | (go_at_call 34; refine (isnode_nil _).mono ?_; rintro e w2 ⟨rfl, f2⟩; have F2 := hid (HH.out.2.1.thenNo f2); clear f2; have x1 := (HH.out.1.frame F2.out).cells.2.1; rw [HV.out, HNe.out] at x1))
  go_ret2
  exact ⟨rfl, F2.out⟩
set_option maxRecDepth 100000 in
set_option maxHeartbeats 4000000 in
theorem addnode_ok (w : World) (ρ : Nat → Option Pt) (s : Nat) (A : Ad) (M : PSt) (h : StAt w ρ s A M) (t : Int) (hl : M.K.live t = true) (hf : M.N.length < 24) :
    Calls Tryz.prog 7 #[.pointer (some ⟨s, 0, none⟩), .int .i64 t, .agg #[.slice none 0 0, .slice none 0 0]] w fun e w' => e = .returned (.tuple #[.int .i64 ((M.N.length : Int) + 1), .int .i64 0]) ∧ ∃ ρ' A', StAt w' ρ' s A' (putM (growM M) t M.N.length false) ∧ Gone (Go.Lig.Own ρ) w (Go.Lig.Own ρ') w' := by
  have hb := heap1 w (.cells #[.slice none 0 0, .slice none 0 0] 32)
  have hfr : Fr No w (w.alloc (.cells #[.slice none 0 0, .slice none 0 0] 32)) := (Fr.refl No w).alloc _
  have HI := hid (islive_any _ ρ s A M (h.frame hfr) t)
  rw [hl] at HI
  have HH := hid (⟨h, hfr, hb⟩ : _ ∧ _ ∧ _)
  have HB := hid (lt_of_block hb)
  obtain ⟨a1, c1, hnv⟩ := ownsRow_slice h.nrow
  have HV := hid hnv
  have hn : ¬ (24 : Int) ≤ (M.N.length : Int) := by omega
  have hlen : (growM M).N.length = M.N.length + 1 := by simp [growM]
  have HLen := hid hlen
  have HLt := hid hf
  generalize hNe : M.N.length = n at hn ⊢
  have HNe := hid hNe
  have HU : Hid (¬ Go.Lig.Own ρ w.heap.size) := hid (fun e => by have := HH.out.1.bound _ e; omega)
  clear h hl hf hb hfr hnv hNe hlen
  go_enter Tryz.func7, Tryz.ntmps7
  go_wp2_with (first | (go_at_call 33; refine HI.out.mono ?_; rintro e w1 ⟨rfl, rfl⟩; obtain ⟨c0, c1'⟩ := cells2 HH.out.2.2) | (go_at_call 34; refine (isnode_nil _).mono ?_; rintro e w2 ⟨rfl, f2⟩; have F2 := hid (HH.out.2.1.thenNo f2); have B2 := hid (f2.keep HH.out.2.2 (fun e => e)); clear f2 c0 c1'; have x1 := (HH.out.1.frame F2.out).cells.2.1; rw [HV.out, HNe.out] at x1) | (go_at_call 35; rw [← HNe.out]; refine (grows_any _ ρ s A M (HH.out.1.frame F2.out) (by have := HLt.out; omega)).mono ?_; rintro e w3 ⟨rfl, ρ3, A3, h3, g3⟩; obtain ⟨B3, U3⟩ := g3.keep B2.out HU.out; have G3 := hid (⟨h3, (Gone.no F2.out).trans g3, B3, U3⟩ : _ ∧ _ ∧ _ ∧ _); clear h3 g3 B3 U3))
  obtain ⟨y0, y1, -⟩ := G3.out.1.cells
  obtain ⟨a3, c3, hnv3⟩ := ownsRow_slice G3.out.1.nrow
  rw [hnv3, HLen.out, HNe.out] at y1
  obtain ⟨d0, d1⟩ := cells2 G3.out.2.2.1
  have HS3 := hid (⟨G3.out.1.lt, lt_of_block G3.out.2.2.1⟩ : s < w3.heap.size ∧ w.heap.size < w3.heap.size)
  clear hnv3 x1
  refine wp_region_sched (by kernel_rfl) 8 [8] [0, 1, 2, 3, 4, 5, 6, 7, 8] (AgC [s, w.heap.size] w3.drew) (by kernel_rfl) (AgC.refl _ _) ?_
  simp only [List.map_cons, List.map_nil, List.contains_cons, List.contains_nil, nth_zero, nth_succ, Nat.reduceBEq, Bool.false_or, Bool.or_false, Bool.or_true, Bool.true_or]
  repeat (refine sched_quiet (fun K hK => ?_); go_simp; refine hK _ ?_; clear hK K)
  refine sched_callL (by first | rfl | go_simp) 36 #[.pointer (some ⟨s, 0, none⟩), .int .i64 t, .int .i64 ((n : Int) + 1), .agg #[.slice none 0 0, .slice none 0 0], .bool false] (by first | kernel_rfl | go_simp) (puts_any _ ρ3 s A3 (growM M) (G3.out.1.frame (Fr.refl No w3).drew) t n (by rw [HLen.out, HNe.out]; omega) false (by simp [growM, ← HNe.out])) ?_
  rintro e w4 ⟨rfl, ρ4, h4, g4⟩
  refine ⟨_, rfl, ?_⟩
  have G4 := hid (⟨h4, (G3.out.2.1.nextNo (Fr.refl No w3).drew).trans g4⟩ : _ ∧ _)
  obtain ⟨z0, z1, -⟩ := h4.cells
  obtain ⟨a4, c4, hnv4⟩ := ownsRow_slice h4.nrow
  have hl4 : (putM (growM M) t n false).N.length = n + 1 := by simp [putM, HLen.out, HNe.out]
  rw [hnv4, hl4] at z1
  clear h4 g4 hnv4 hl4 y0 y1 d0 d1
  refine sched_nil ?_
  go_wp2_with fail
  go_ret2
  exact ⟨by simp, ρ4, A3, G4.out⟩
end Go.Proofs.YtofjbigojbnmfaaGreatDoor
