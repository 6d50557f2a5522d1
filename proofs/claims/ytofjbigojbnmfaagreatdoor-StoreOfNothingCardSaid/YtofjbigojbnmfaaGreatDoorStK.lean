/- The plain store: Out, In where there are no edges. -/
import Derived.Test.YtofjbigojbnmfaaGreatDoorStJ
namespace Go.Proofs.YtofjbigojbnmfaaGreatDoor
open Go.RowKit Go.Lig

set_option maxRecDepth 100000 in
theorem blen64_zero (w : World) : Calls Tryz.prog 212 #[.int .u64 0] w fun e w' => e = .returned (.int .i64 0) ∧ w = w' := by
  go_enter Tryz.func212, Tryz.ntmps212
  go_wp2
  go_ret
  exact ⟨by kernel_rfl, rfl⟩
theorem blen_zero (w : World) : Calls Tryz.prog 179 #[.int .u64 0] w fun e w' => e = .returned (.int .i64 0) ∧ w = w' := by
  go_enter Tryz.func179, Tryz.ntmps179
  go_wp2_with (go_at_call 212; refine (blen64_zero _).mono ?_; rintro e w' ⟨rfl, rfl⟩)
  go_ret
  exact ⟨rfl, rfl⟩
theorem insort_nil (w : World) : Calls Tryz.prog 202 #[.slice none 0 0, .int .i64 0, .int .i64 0] w fun e w' => e = .returned (.tuple #[]) ∧ w = w' := by
  go_enter Tryz.func202, Tryz.ntmps202
  go_wp2
  go_loopw [6] (fun vi wr => vi = .int .i64 1 ∧ w = wr) (fun _ _ => 0)
  case atStart => exact ⟨rfl, rfl⟩
  case round =>
    obtain ⟨rfl, rfl⟩ := hrel
    go_wp2
    go_end0
    exact ⟨rfl, rfl⟩
theorem pdq_nil (w : World) : Calls Tryz.prog 178 #[.slice none 0 0, .int .i64 0, .int .i64 0, .int .i64 0] w fun e w' => e = .returned (.tuple #[]) ∧ w = w' := by
  go_enter Tryz.func178, Tryz.ntmps178
  go_wp2
  go_loopw [1, 2, 3, 8, 9] (fun v1 v2 v3 v8 v9 wr => v1 = .int .i64 0 ∧ v2 = .int .i64 0 ∧ v3 = .int .i64 0 ∧ v8 = .bool true ∧ v9 = .bool true ∧ w = wr) (fun _ _ _ _ _ _ => 0)
  case atStart => exact ⟨rfl, rfl, rfl, rfl, rfl, rfl⟩
  case round =>
    obtain ⟨rfl, rfl, rfl, rfl, rfl, rfl⟩ := hrel
    go_wp2_with (go_at_call 202; refine (insort_nil _).mono ?_; rintro e w' ⟨rfl, rfl⟩)
    (try simp only [Exit.inBlock, Exit.then])
    refine bodyPost_ret (results_none rfl _ _ _) rfl ?_
    exact ⟨rfl, rfl⟩
theorem sort_nil (w : World) : Calls Tryz.prog 144 #[.slice none 0 0] w fun e w' => e = .returned (.tuple #[]) ∧ Fr No w w' := by
  go_enter Tryz.func144, Tryz.ntmps144
  go_wp2_with (first | (go_at_call 179; refine (blen_zero _).mono ?_; rintro e w' ⟨rfl, rfl⟩) | (go_at_call 178; refine (pdq_nil _).mono ?_; rintro e w2 ⟨rfl, rfl⟩))
  go_end0
  exact ⟨rfl, Fr.refl _ _⟩
theorem chained_nil (w : World) (s t : Value) (hs : s.oneCell' = true) (ht : t.oneCell' = true) : Calls Tryz.prog 77 #[s, t, .slice none 0 0] w fun e w' => e = .returned (.slice none 0 0) ∧ Fr No w w' := by
  go_enter Tryz.func77, Tryz.ntmps77
  go_wp2_with (first | (go_at_call 142; refine (delint_nil _ _).mono ?_; rintro e w' ⟨rfl, rfl⟩) | (go_at_call 144; refine (sort_nil _).mono ?_; rintro e w' ⟨rfl, f2⟩; have F2 := hid f2; clear f2))
  go_ret
  exact ⟨rfl, (((Fr.refl No w).alloc _).alloc _).thenNo F2.out⟩
section
variable (w : World) (ρ : Nat → Option Pt) (s : Nat) (A : Ad) (M : PSt)
theorem out_none (h : StAt w ρ s A M) (t id : Int) (hk : keyOk id) (hl : M.K.live t = true) :
    Calls Tryz.prog 24 #[.pointer (some ⟨s, 0, none⟩), .int .i64 t, .int .i64 id] w fun e w' => e = .returned (.slice none 0 0) ∧ Fr No w w' := by
  have HI := hid (islive_any w ρ s A M h t)
  rw [hl] at HI
  obtain ⟨-, -, -, x4, -⟩ := h.cells
  have HW := hid (walk_none w A.o A.B A.r 0 h.out id hk)
  clear h hl
  go_enter Tryz.func24, Tryz.ntmps24
  go_wp2_with (first | (go_at_call 33; refine HI.out.mono ?_; rintro e w1 ⟨rfl, rfl⟩) | (go_at_call 78; refine HW.out.mono ?_; rintro e w1 ⟨rfl, rfl⟩) | (go_at_call 77; refine (chained_nil _ _ _ rfl rfl).mono ?_; rintro e w2 ⟨rfl, f2⟩; have F2 := hid f2; clear f2))
  go_ret
  exact ⟨rfl, F2.out⟩
theorem in_none (h : StAt w ρ s A M) (t id : Int) (hk : keyOk id) (hl : M.K.live t = true) :
    Calls Tryz.prog 25 #[.pointer (some ⟨s, 0, none⟩), .int .i64 t, .int .i64 id] w fun e w' => e = .returned (.slice none 0 0) ∧ Fr No w w' := by
  have HI := hid (islive_any w ρ s A M h t)
  rw [hl] at HI
  obtain ⟨-, -, -, -, x5, -⟩ := h.cells
  have HW := hid (walk_none w A.i A.B' A.r' 0 h.inn id hk)
  clear h hl
  go_enter Tryz.func25, Tryz.ntmps25
  go_wp2_with (first | (go_at_call 33; refine HI.out.mono ?_; rintro e w1 ⟨rfl, rfl⟩) | (go_at_call 78; refine HW.out.mono ?_; rintro e w1 ⟨rfl, rfl⟩) | (go_at_call 77; refine (chained_nil _ _ _ rfl rfl).mono ?_; rintro e w2 ⟨rfl, f2⟩; have F2 := hid f2; clear f2))
  go_ret
  exact ⟨rfl, F2.out⟩
end
end Go.Proofs.YtofjbigojbnmfaaGreatDoor
