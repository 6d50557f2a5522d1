/- The clock: Begin, where there is room. -/
import Derived.Test.YtofjbigojbnmfaaGreatDoorClk6b
namespace Go.Proofs.YtofjbigojbnmfaaGreatDoor
open Go.RowKit Go.Lig

theorem built_tx (n : Int) : Tryz.prog.built 130 [(1, .int .i64 n)] = some #[.int .i64 0, .int .i64 n, .int .i64 0] := by kernel_rfl
theorem tflat_len (l : List Tx) : (l.flatMap tcell).length = l.length * 3 := flat_len (f := tcell) (m := 3) (fun _ => rfl) l
set_option maxHeartbeats 1000000 in
theorem begin_ok (w : World) (T : Nat → Prop) (c : Nat) (K : Ck) (h : ClockAt w T c K) (hc : K.count < 4) (hs : K.l.length < 1000000) :
    Calls Tryz.prog 32 #[.pointer (some ⟨c, 0, none⟩)] w fun e w' => e = .returned (.tuple #[.int .i64 ((K.l.length + 1 : Nat) : Int), .int .i64 0]) ∧ ∃ T', ClockAt w' T' c K.begins ∧ Fr T w w' ∧ Grown w T T' := by
  obtain ⟨g, hr, -⟩ := h.row
  have HC := hid (count_any w c g K hr h.small.1)
  have h4 : ¬ (4 : Int) ≤ (K.count : Int) := by omega
  have H := hid h
  clear h hr hc
  go_enter Tryz.func32, Tryz.ntmps32
  go_wp2_with (go_at_call 71; refine HC.out.mono ?_; rintro e w1 ⟨rfl, f1⟩; have H1 := hid f1; clear f1)
  obtain ⟨v, g0, g1, g2⟩ := (H.out.frame (H1.out.thenNo (Fr.refl No w1).drew) (fun _ _ e => e)).ex
  obtain ⟨a, n, rfl⟩ := ownsRow_slice g1
  obtain ⟨c0, c1⟩ := cells2 g0
  have hcb := lt_of_block g0
  have HG := hid (⟨g0, g1, g2, hcb⟩ : _ ∧ _ ∧ _ ∧ _)
  clear g0 g1 g2 hcb
  refine wp_region_sched (by kernel_rfl) 14 [10, 11, 14] [0, 1, 2, 3, 4, 5, 6, 7, 8, 9, 10, 11, 12, 13, 14] (AgC [c] w1.drew) (by kernel_rfl) (AgC.refl _ _) ?_
  simp only [List.map_cons, List.map_nil, List.contains_cons, List.contains_nil, Nat.reduceBEq, Bool.or_false, Bool.or_true, nth_zero, nth_succ]
  repeat (first | (refine sched_build rfl 130 [(1, .tmp 19)] rfl [(1, .int .i64 K.commits)] rfl _ (built_tx _) ?_) | (refine sched_quiet (fun K hK => ?_); go_simp; refine hK _ ?_; clear hK K))
  refine sched_loud (wpList_buildSlice1 rfl 123 130 (.tmp 20) rfl _ 3 24 Tryz.underlying123 infoTx3 (by decide) (by decide) (.agg (tcell ⟨0, K.commits, 0⟩).toArray) rfl rfl ?_)
  intro w2 p2
  have p2' : New (tcell ⟨0, K.commits, 0⟩).toArray 130 w1.drew w2 := p2
  have hL : ∀ (U : Nat → Prop), ¬ U c → ∀ j ∈ [c], j < w1.drew.heap.size ∧ ¬ U j := fun U hU j hj => by rw [List.mem_singleton.1 hj]; exact ⟨HG.out.2.2.2, hU⟩
  have a2 := (AgC.refl [c] w1.drew).fr p2.fr (hL No id)
  refine sched_on a2 ?_
  refine sched_loud (wpList_app rfl (.tmp 15) (.tmp 21) 123 rfl 130 _ 3 24 Tryz.underlying123 infoTx3 rfl (by decide) (.slice a K.l.length n) K.l.length (K.l.flatMap tcell) rfl (fd_owns HG.out.2.1 p2.fr) (.slice (some ⟨w1.drew.heap.size, 0, none⟩) 1 1) 1 (tcell ⟨0, K.commits, 0⟩) rfl (Rd.block p2'.at_ 1 3 1 rfl (by simp [tcell, Value.oneCell']) (Nat.le_refl _) (by simp [maxLen])) (by unfold maxLen; omega) (by omega) ?_)
  intro v3 w3 o3 f3 b3 _
  have hcv : ¬ (Value.slice a K.l.length n).ownBlock = some c := fun e => (HG.out.2.2.1 c e).2 rfl
  refine sched_on (a2.fr f3 (hL _ hcv)) ?_
  have hg3 := f3.keep (p2.keep HG.out.1) hcv
  obtain ⟨a3, n3, rfl⟩ := ownsRow_slice o3
  have O3 := hid (⟨o3, f3, b3, hg3, p2.fr⟩ : _ ∧ _ ∧ _ ∧ _ ∧ _)
  clear o3 f3 b3 hg3 p2 p2' a2 hcv hL
  repeat (refine sched_quiet (fun K hK => ?_); go_simp; refine hK _ ?_; clear hK K)
  refine sched_loud (wpList_store1 rfl 123 (.tmp 24) (.tmp 22) rfl c 0 rfl _ _ (.slice a3 (K.l.length + 1) n3) rfl (by kernel_rfl) O3.out.2.2.2.1 (by simp) rfl ?_)
  intro w4 p4
  have p4' : Put c #[.slice a3 (K.l.length + 1) n3, .int .i64 K.commits] 125 w3 w4 := p4
  obtain ⟨d0, d1⟩ := cells2 p4'.at_
  have P4 := hid p4'
  clear p4 p4' d1
  refine sched_last ?_
  refine sched_nil ?_
  go_wp2
  go_ret2
  obtain ⟨o3, f3, b3, hg3, f2⟩ := O3.out
  have hfw : Fr No w w2 := (H1.out.thenNo (Fr.refl No w1).drew).thenNo f2
  have hown : ∀ k, (Value.slice a K.l.length n).ownBlock = some k → T k ∧ k ≠ c := HG.out.2.2.1
  have hnew : ∀ k, (Value.slice a3 (K.l.length + 1) n3).ownBlock = some k → (T k ∧ k ≠ c) ∨ w.heap.size ≤ k := fun k hk => by
    rcases b3 k hk with e | e
    · exact .inl (hown k e)
    · exact .inr (Nat.le_trans hfw.size e)
  have hcl : c < w.heap.size := H.out.bound c H.out.root
  have hne : ∀ k, (Value.slice a3 (K.l.length + 1) n3).ownBlock = some k → k ≠ c := fun k hk => by
    rcases hnew k hk with e | e
    · exact e.2
    · omega
  refine ⟨by simp, fun k => k = c ∨ (Value.slice a3 (K.l.length + 1) n3).ownBlock = some k, ⟨⟨_, P4.out.at_, P4.out.fr.owns (by simpa [Ck.begins] using o3) hne, fun k hk => ⟨.inr hk, hne k hk⟩⟩, .inl rfl, fun k hk => ?_, ?_⟩, ?_, fun k hk => ?_⟩
  · have hz := P4.out.fr.size
    rcases hk with rfl | hk
    · have := hfw.size; have := f3.size; omega
    · have := (o3.lt k hk).2; omega
  · have := H.out.small
    simp [Ck.begins]
    omega
  · exact (hfw.mono (fun _ _ e => e.elim)).trans ((f3.mono (S' := fun k => (T k ∧ k ≠ c) ∨ k = c) (fun k _ e => .inl (hown k e))).trans P4.out.fr (fun _ _ e => .inr e)) (fun k _ e => by rcases e with e | rfl; exact e.1; exact H.out.root)
  · rcases hk with rfl | hk
    · exact .inl H.out.root
    · exact (hnew k hk).imp (fun e => e.1) id
end Go.Proofs.YtofjbigojbnmfaaGreatDoor
