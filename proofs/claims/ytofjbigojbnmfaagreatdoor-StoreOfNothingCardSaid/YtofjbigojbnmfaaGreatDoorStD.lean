/- The plain store: puts. -/
import Derived.Test.YtofjbigojbnmfaaGreatDoorStC
namespace Go.Proofs.YtofjbigojbnmfaaGreatDoor
open Go.RowKit Go.Lig

theorem writeL_plain {K : Ck} {t : Int} {g : Bool} {L : List (Ver NodeV)} (h : ∀ y ∈ L, y.v = NodeV.none) : ∀ y ∈ writeL K t NodeV.none g L, y.v = NodeV.none := by
  intro y hy
  unfold writeL at hy
  split at hy
  · exact h y hy
  · split at hy
    · split at hy
      · rcases List.mem_append.1 hy with h1 | h1
        · exact h y ((List.dropLast_sublist L).subset h1)
        · rw [List.mem_singleton.1 h1]
      · rcases List.mem_append.1 hy with h1 | h1
        · exact h y h1
        · rw [List.mem_singleton.1 h1]
    · rcases List.mem_append.1 hy with h1 | h1
      · exact h y h1
      · rw [List.mem_singleton.1 h1]
/-- behind a write of a node without anything -/
def putM (M : PSt) (t : Int) (k : Nat) (g : Bool) : PSt := { M with N := M.N.set k (writeL M.K t NodeV.none g (M.N[k]?.getD [])) }
set_option maxRecDepth 100000 in
set_option maxHeartbeats 4000000 in
theorem puts_any (w : World) (ρ : Nat → Option Pt) (s : Nat) (A : Ad) (M : PSt) (h : StAt w ρ s A M) (t : Int) (k : Nat) (hk : k < M.N.length) (gone : Bool) (hL1 : (M.N[k]?.getD []).length < 1000000) :
    Calls Tryz.prog 36 #[.pointer (some ⟨s, 0, none⟩), .int .i64 t, .int .i64 ((k : Int) + 1), .agg #[.slice none 0 0, .slice none 0 0], .bool gone] w fun e w' => e = .returned (.tuple #[]) ∧ ∃ ρ', StAt w' ρ' s A (putM M t k gone) ∧ Gone (Go.Lig.Own ρ) w (Go.Lig.Own ρ') w' := by
  have hb := heap1 w (.cells #[.slice none 0 0, .slice none 0 0] 32)
  have hf : Fr No w (w.alloc (.cells #[.slice none 0 0, .slice none 0 0] 32)) := (Fr.refl No w).alloc _
  obtain ⟨L, hL⟩ : ∃ L, M.N[k]? = some L := ⟨_, List.getElem?_eq_getElem hk⟩
  have hsl := h.lt
  go_enter Tryz.func36, Tryz.ntmps36
  go_wp2_with fail
  generalize w.alloc (.cells #[.slice none 0 0, .slice none 0 0] 32) = w1 at *
  have h1 := h.frame hf
  obtain ⟨x0, -⟩ := h1.cells
  obtain ⟨c0, c1⟩ := cells2 hb
  obtain ⟨gk, hck, -⟩ := h1.clock.row
  rw [hL] at hL1
  have HH := hid (⟨h1, hf, hL, hck, hL1, hk⟩ : _ ∧ _ ∧ _ ∧ _ ∧ _ ∧ _)
  have HB := hid (⟨lt_of_block hb, h1.lt⟩ : w.heap.size < w1.heap.size ∧ s < w1.heap.size)
  clear h h1 hf hb hL hck hL1 hk
  refine wp_region_sched (by kernel_rfl) 11 [2, 9, 11] [0, 1, 3, 4, 5, 6, 7, 8, 10, 2, 9, 11] (AgC [w.heap.size, s] w1.drew) (by kernel_rfl) (AgC.refl _ _) ?_
  simp only [List.map_cons, List.map_nil, List.contains_cons, List.contains_nil, nth_zero, nth_succ, Nat.reduceBEq, Bool.false_or, Bool.or_false, Bool.or_true, Bool.true_or]
  repeat (refine sched_quiet (fun K hK => ?_); go_simp; refine hK _ ?_; clear hK K)
  refine sched_call (by first | rfl | go_simp) 48 #[.pointer (some ⟨s, 0, none⟩), .int .i64 ((k : Int) + 1)] (by first | kernel_rfl | go_simp) (node_any _ ρ s A M (HH.out.1.frame (Fr.refl No w1).drew) _) ?_
  rintro e w2 ⟨rfl, rfl⟩
  refine ⟨_, rfl, AgC.refl _ _, ?_⟩
  rw [ndP_some A M k HH.out.2.2.2.2.2]
  repeat (refine sched_quiet (fun K hK => ?_); go_simp; refine hK _ ?_; clear hK K)
  refine sched_call (by first | rfl | go_simp) 50 #[.agg #[.slice none 0 0, .slice none 0 0]] (by first | kernel_rfl | go_simp) (copied_nil _) ?_
  rintro e w3 ⟨rfl, f3⟩
  refine ⟨_, rfl, (AgC.refl _ _).fr f3 (fun j hj => ⟨by rcases List.mem_cons.1 hj with rfl | hj; exact HB.out.1; rw [List.mem_singleton.1 hj]; exact HB.out.2, fun e => e⟩), ?_⟩
  have F3 := hid ((Fr.refl No w1).drew.thenNo f3)
  clear f3
  repeat (refine sched_quiet (fun K hK => ?_); go_simp; refine hK _ ?_; clear hK K)
  refine sched_callL (by first | rfl | go_simp) 93 #[.pointer (some ⟨A.x k, 0, none⟩), .pointer (some ⟨A.c, 0, none⟩), .int .i64 t, .agg #[.slice none 0 0, .slice none 0 0], .bool gone] (by first | kernel_rfl | go_simp) (write_any w3 (At ρ (.node k)) (A.x k) A.c gk M.K L ((HH.out.1.cell k L HH.out.2.2.1).frame F3.out (fun _ _ e => e)) (HH.out.2.2.2.1.frame F3.out) HH.out.1.clock.small.1 HH.out.2.2.2.2.1 t NodeV.none gone) ?_
  rintro e w4 ⟨rfl, T', k4, f4, g4⟩
  refine ⟨_, rfl, ?_⟩
  obtain ⟨h1, hf, hL, hck, hL1, hk⟩ := HH.out
  have tr : Trn w3 w4 ρ (.node k) T' := ⟨f4, g4, k4.bound⟩
  have h4 := (h1.frame F3.out).node_ tr hk k4 (writeL_plain (h1.plain L (List.mem_of_getElem? hL)))
  have hM : putM M t k gone = { M with N := M.N.set k (writeL M.K t NodeV.none gone L) } := by unfold putM; rw [hL]; rfl
  have HG : Hid (Gone (Go.Lig.Own ρ) w (Go.Lig.Own (turn ρ (.node k) T')) w4) := hid ((Gone.no (hf.thenNo F3.out)).trans (gone_turn tr))
  rw [← hM] at h4
  have HM : Hid ((putM M t k gone).N.length = M.N.length) := hid (by rw [hM]; simp)
  have H4 := hid h4
  have HK := hid hk
  clear h1 hf hL hck hL1 hk tr h4 k4 f4 g4 hM
  refine sched_nil ?_
  go_wp2_with (go_at_call 40; refine (finds_any w4 _ s A (putM M t k gone) H4.out k (by rw [HM.out]; exact HK.out)).mono ?_; rintro e w5 ⟨rfl, h5, f5⟩; have H5 := hid (⟨h5, f5⟩ : _ ∧ _); clear h5 f5)
  go_end0
  exact ⟨rfl, _, H5.out.1, HG.out.trans ⟨H5.out.2, Grown.refl _ _⟩⟩
end Go.Proofs.YtofjbigojbnmfaaGreatDoor
