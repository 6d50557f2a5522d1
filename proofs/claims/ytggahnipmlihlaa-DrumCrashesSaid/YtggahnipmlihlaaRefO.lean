/- The reference's drum: New. -/
import Derived.Test.YtggahnipmlihlaaRefN
namespace Go.Proofs.Ytggahnipmlihlaa
open Go.RowKit Go.Lig

structure NewMid (w wr : World) (vs : Value) (k : Nat) : Prop where
  at_ : wr.heap[w.heap.size]? = some (.cells #[.slice none 0 0, vs, .slice none 0 0, .int .i64 (-1), .bool false] 42 (0, 0))
  row : wr.ownsRow 0 9 1 vs k ((List.replicate k (padL [])).map strv)
  blk : ∀ j, vs.ownBlock = some j → w.heap.size < j
  fr : Fr No w wr
theorem rep_next (k : Nat) (x : List UInt8) : (List.replicate k x).map strv ++ [strv x] = (List.replicate (k + 1) x).map strv := by
  rw [List.replicate_succ', List.map_append]
  rfl
set_option maxRecDepth 100000 in
set_option maxHeartbeats 1000000 in
theorem rnew_any (w : World) (n : Int) (hn : n ≤ 200) : Calls Try.prog 12 #[.int .i64 n] w fun e w' => ∃ b, e = .returned (.pointer (some ⟨b, 0, none⟩)) ∧ RefAt w' (Gr No w w') b (RDr.new n.toNat) ∧ Fr No w w' := by
  have hst : ∀ w0 : World, w0 = w.alloc (.cells #[.slice none 0 0, .slice none 0 0, .slice none 0 0, .int .i64 (-1), .bool false] 42) → NewMid w w0 (.slice none 0 0) 0 := fun w0 e => e ▸ ⟨heap1 w _, World.ownsRow_nil _ _ _ _, fun j hj => by (cases hj), (Fr.refl No w).alloc _⟩
  have HST := hid hst
  clear hst
  go_enter Try.func12, Try.ntmps12
  go_wp2
  go_loopw [4] (fun v wr => ∃ k : Nat, k ≤ n.toNat ∧ v = .int .i64 (k : Int) ∧ Hid (∃ vs, NewMid w wr vs k)) (fun v _ => n.toNat - (intOf v).toNat)
  case atStart => exact ⟨0, Nat.zero_le _, rfl, _, HST.out _ rfl⟩
  case round =>
    obtain ⟨k, hkl, rfl, hm⟩ := hrel
    obtain ⟨vs, hmid⟩ := hm.out
    obtain ⟨ax, cx, rfl⟩ := ownsRow_slice hmid.row
    have HM := hid hmid
    clear hm
    by_cases hlt : (k : Int) < n
    · have h200 : (k : Int) < 200 := by omega
      obtain ⟨c0, c1, c2, c3, c4⟩ := cells5 hmid.at_
      have hbl : w.heap.size < wr.heap.size := lt_of_block hmid.at_
      clear hmid c0 c2 c3 c4
      go_wp2_with fail
      refine wp_region_sched (by kernel_rfl) 10 [5, 6, 7, 10] [0, 1, 2, 3, 4, 5, 6, 7, 8, 9, 10] (AgC [w.heap.size] wr.drew) (by kernel_rfl) (AgC.refl _ _) ?_
      simp only [List.map_cons, List.map_nil, List.contains_cons, List.contains_nil, Nat.reduceBEq, Bool.or_false, Bool.or_true, nth_zero, nth_succ]
      repeat (refine sched_quiet (fun K hK => ?_); go_simp; refine hK _ ?_; clear hK K)
      refine sched_call (by first | rfl | go_simp) 26 #[.slice none 0 0] (by first | kernel_rfl | go_simp) (padded_any _ (.slice none 0 0) [] (Rd.nil _ _) (by decide)) ?_
      rintro e w5 ⟨rfl, f5⟩
      have hL : ∀ j ∈ [w.heap.size], j < wr.drew.heap.size ∧ ¬ No j := fun j hj => by rw [List.mem_singleton.1 hj]; exact ⟨hbl, id⟩
      have ha5 : AgC [w.heap.size] wr.drew w5 := (AgC.refl _ _).fr f5 hL
      have f05 : Fr No wr w5 := (Fr.refl No wr).drew.thenNo f5
      refine ⟨_, rfl, ha5, ?_⟩
      refine sched_hide (fun K hK => ?_); go_simp; refine hK _ ?_; clear hK K
      refine sched_loud (wpList_buildSlice1 rfl 39 9 (.tmp 21) rfl _ 1 16 Try.underlying39 infoStr (by decide) (by decide) (strv (padL [])) rfl rfl ?_)
      intro w6 p6
      refine sched_on (ha5.fr p6.fr hL) ?_
      have f06 : Fr No wr w6 := f05.thenNo p6.fr
      have hrow6 := f06.owns HM.out.row (fun _ _ e => e)
      have hr6 : Rd w6 (.slice (some ⟨w5.heap.size, 0, none⟩) 1 1) 1 1 [strv (padL [])] := Rd.block (cs := [strv (padL [])]) p6.at_ 1 1 1 rfl (by simp [strv, Value.oneCell']) (Nat.le_refl _) (by simp [maxLen])
      refine sched_hide (fun K hK => ?_); go_simp; refine hK _ ?_; clear hK K
      refine sched_loud (wpList_app rfl (.tmp 20) (.tmp 22) 39 rfl 9 _ 1 16 Try.underlying39 infoStr rfl (by decide) (.slice ax k cx) k ((List.replicate k (padL [])).map strv) rfl hrow6 (.slice (some ⟨w5.heap.size, 0, none⟩) 1 1) 1 [strv (padL [])] rfl hr6 (by unfold maxLen; omega) (by omega) ?_)
      intro v7 w7 o7 f7 b7 _
      obtain ⟨a7, c7, rfl⟩ := ownsRow_slice o7
      have hnb : ¬ (Value.slice ax k cx).ownBlock = some w.heap.size := fun e => by have := HM.out.blk _ e; omega
      refine sched_on ((ha5.fr p6.fr hL).fr f7 (fun j hj => by rw [List.mem_singleton.1 hj]; exact ⟨hbl, hnb⟩)) ?_
      have r7 : w7.heap[w.heap.size]? = _ := f7.keep (f06.keep HM.out.at_ id) hnb
      have f07 : Fr No w w7 := (HM.out.fr.thenNo f06).trans f7 (fun j hj e => by have := HM.out.blk j e; omega)
      have hz5 := f05.size
      have hz6 := p6.fr.size
      have H7 := hid (⟨o7, b7, r7, f07⟩ : _ ∧ _ ∧ _ ∧ _)
      clear o7 b7 r7 f07 f7 hrow6 hr6 p6 f06
      repeat (refine sched_quiet (fun K hK => ?_); go_simp; refine hK _ ?_; clear hK K)
      refine sched_loud (wpList_store1 rfl 39 (.tmp 25) (.tmp 23) rfl w.heap.size 1 rfl _ _ (.slice a7 (k + 1) c7) rfl (by kernel_rfl) H7.out.2.2.1 (by simp) rfl ?_)
      intro w8 p8
      refine sched_last ?_
      refine sched_nil ?_
      have h8 : NewMid w w8 (.slice a7 (k + 1) c7) (k + 1) := by
        have ob : ∀ j, (Value.slice a7 (k + 1) c7).ownBlock = some j → w.heap.size < j := fun j hj => by
          rcases H7.out.2.1 j hj with e | e
          · exact HM.out.blk j e
          · omega
        exact ⟨by simpa using p8.at_, by rw [← rep_next]; exact p8.fr.owns H7.out.1 (fun j hj e => by have := ob j hj; omega), ob, H7.out.2.2.2.trans p8.fr (fun j hj e => by omega)⟩
      have H8 := hid h8
      clear h8 p8
      go_wp2
      go_roundw
      case rel => exact ⟨k + 1, by omega, by go_num, _, H8.out⟩
      case measure => simp [intOf]; omega
    · have HK : Hid (k = n.toNat) := hid (by omega)
      obtain ⟨c0, c1, c2, c3, c4⟩ := cells5 hmid.at_
      have ca := (cells5 (hold' (o := .cells #[] 9) hmid.at_)).2.1
      clear hmid c0 c2 c3 c4
      go_wp2_with (at_builtin; go_must (refine wpList_app rfl (.tmp 27) (.tmp 31) 39 rfl 9 (.string ByteArray.empty) 1 16 Try.underlying39 infoStr rfl (by decide) _ 0 [] rfl (World.ownsRow_made wr #[] 0 (Nat.zero_le _) (Nat.zero_le _) rfl) (.slice ax k cx) k ((List.replicate k (padL [])).map strv) rfl ((Rd.of_owns HM.out.row (strv_one _)).frame ((Fr.refl No wr).alloc _) (fun _ _ e => e)) (by unfold maxLen; omega) (by omega) ?_; rintro vn w2 o2 f2 b2 -; simp only [Nat.zero_add, List.nil_append] at o2; obtain ⟨an, cn, rfl⟩ := ownsRow_slice o2; have hf : Fr No wr w2 := ((Fr.refl No wr).alloc _).trans f2 (fun j hj e => by have := Option.some.inj (show some wr.heap.size = some j from e); omega); have k0 := hf.keep HM.out.at_ (fun e => e); obtain ⟨d0, d1, d2, d3, d4⟩ := cells5 k0; have hz := freeAll k0; have N2 := hid (⟨o2, hf, b2, k0⟩ : _ ∧ _ ∧ _ ∧ _); clear o2 f2 b2 hf k0 d1 d2 d3 d4))
      go_ret
      obtain ⟨o2, hf, b2, k0⟩ := N2.out
      generalize hw3 : w2.setCell ⟨w.heap.size, 0, none⟩ (.slice an k cn) = w3
      have fb : Fr (fun j => j = w.heap.size) w2 w3 := hw3 ▸ (Fr.refl (fun j => j = w.heap.size) w2).setCell (p := ⟨w.heap.size, 0, none⟩) _ (fun _ => rfl)
      have t0 : w3.heap[w.heap.size]? = _ := hw3 ▸ hset (k := 0) (v := .slice an k cn) k0
      have hn : ∀ j, (Value.slice an k cn).ownBlock = some j → wr.heap.size ≤ j := fun j hj => by
        rcases b2 j hj with e | e
        · have := Option.some.inj (show some wr.heap.size = some j from e); omega
        · simp at e; omega
      have hb := lt_of_block HM.out.at_
      have fr : Fr No w w3 := (HM.out.fr.thenNo hf).trans fb (fun j hj e => by omega)
      have hlen : (List.replicate k (padL [])).length = k := List.length_replicate
      have hk := HK.out
      subst hk
      refine ⟨_, rfl, ?_, fr⟩
      have hz2 := hf.size
      have hz3 := fb.size
      have o2' := fb.owns o2 (fun j hj e => by have := hn j hj; omega)
      have o3' := fb.owns (hf.owns HM.out.row (fun _ _ e => e)) (fun j hj e => by have := HM.out.blk j hj; omega)
      exact ⟨by simp [RDr.new], by simp [RDr.new], fun j hj => by rcases hj with hj | hj; exact hj.elim; exact hj.2, .inr ⟨Nat.le_refl _, by omega⟩, .slice an _ cn, .slice ax _ cx, .slice none 0 0, by simpa [RDr.new] using t0, by simpa [RDr.new] using o2', by simpa [RDr.new] using o3', World.ownsRow_nil _ _ _ _,
        fun j hj => ⟨.inr ⟨by have := hn j hj; omega, (o2'.lt j hj).2⟩, by have := hn j hj; omega⟩, fun j hj => ⟨.inr ⟨by have := HM.out.blk j hj; omega, (o3'.lt j hj).2⟩, by have := HM.out.blk j hj; omega, fun e => by have := hn j e; have := (HM.out.row.lt j hj).2; omega⟩, fun j hj => (by cases hj)⟩
end Go.Proofs.Ytggahnipmlihlaa
