/- The clock: Commit of one that is live. -/
import Derived.Test.YtofjbigojbnmfaaGreatDoorClk9
namespace Go.Proofs.YtofjbigojbnmfaaGreatDoor
open Go.RowKit Go.Lig
set_option maxHeartbeats 1000000 in
theorem commit_ok (w : World) (T : Nat → Prop) (c : Nat) (K : Ck) (h : ClockAt w T c K) (t : Int) (hn : K.live t = true) (hm : K.commits < 1000000) :
    Calls Tryz.prog 37 #[.pointer (some ⟨c, 0, none⟩), .int .i64 t] w fun e w' => e = .returned (.int .i64 0) ∧ ClockAt w' T c (K.commit t) ∧ Fr T w w' := by
  obtain ⟨g, hr, hgT⟩ := h.row
  obtain ⟨x, hx, hx0⟩ := Ck.live_some hn
  have HL := hid (live_any w c g K hr h.small.1 t)
  rw [hn] at HL
  obtain ⟨a, n, h1, h2, h3, h4⟩ := id hr.ex
  obtain ⟨t1, t2, t3, t4⟩ := Ck.tx_some hx
  obtain rfl := h3 (by omega)
  obtain ⟨g', cur, e', hb, hg, hnc, hcs, ht⟩ := owns_at h2 (by omega)
  obtain rfl : g = g' := by simpa using e'
  have hko : (t - 1).toNat * 3 + 2 < cur.size := by rw [hcs]; omega
  have hset1 := flat_set (f := tcell) (m := 3) (fun _ => rfl) K.l (t - 1).toNat x { x with state := 1 } t3 0 (by decide) (.int .i64 1) rfl
  have hset2 := flat_set (f := tcell) (m := 3) (fun _ => rfl) (K.l.set (t - 1).toNat { x with state := 1 }) (t - 1).toNat { x with state := 1 } { x with state := 1, commit := K.commits + 1 } (List.getElem?_set_self t2) 2 (by decide) (.int .i64 (K.commits + 1)) rfl
  rw [Nat.add_zero] at hset1
  rw [List.set_set] at hset2
  have hsm := h.small
  have hi64 := IntWalk.i64_in (K.commits + 1) (by omega)
  -- the clock behind 'commits++'
  have HA := hid (show ∀ w1, Put c #[.slice (some ⟨g, 0, none⟩) K.l.length n, .int .i64 (K.commits + 1)] 125 w w1 → Calls Tryz.prog 94 #[.pointer (some ⟨c, 0, none⟩), .int .i64 t] w1 fun e w' => e = .returned (.pointer (some ⟨g, (t - 1).toNat * 3, none⟩)) ∧ w1 = w' from fun w1 p => by
    have hr1 : ClkRow w1 c g { K with commits := K.commits + 1 } := ⟨⟨_, n, p.at_, p.fr.owns h2 (fun k hk e => by obtain rfl : g = k := Option.some.inj hk; exact h4 e), fun _ => rfl, h4⟩⟩
    have := clkat_any w1 c g { K with commits := K.commits + 1 } hr1 hsm.1 t
    rwa [atV_some (show Ck.tx { K with commits := K.commits + 1 } t = some x from hx)] at this)
  have HK : Hid (K.commit t = ⟨K.l.set (t - 1).toNat { x with state := 1, commit := K.commits + 1 }, K.commits + 1⟩) := hid (by unfold Ck.commit Ck.put; rw [hx])
  obtain ⟨c0, c1⟩ := cells2 h1
  have HH := hid (⟨h, h1, h2, hgT (by omega), h4, hg, hko, hset1, hset2⟩ : _ ∧ _ ∧ _ ∧ _ ∧ _ ∧ _ ∧ _ ∧ _ ∧ _)
  generalize hoo : (t - 1).toNat * 3 = o at *
  have HS := hid hsm
  clear h hr hn hx hx0 h1 h2 h3 h4 hgT t1 t2 t3 t4 hb hg hnc hcs ht hko hset1 hset2 e' hsm c0
  go_enter Tryz.func37, Tryz.ntmps37
  have hk1 : Hid (o < cur.size ∧ o + 2 < (cur.setIfInBounds o (.int .i64 1)).size) := hid (by have := HH.out.2.2.2.2.2.2.1; rw [Array.size_setIfInBounds]; omega)
  go_wp2_with (first | (go_at_call 89; refine HL.out.mono ?_; rintro e w1 ⟨rfl, rfl⟩) | (refine wpList_store1 rfl 3 (.tmp 16) (.tmp 14) rfl c 1 rfl _ 125 (.int .i64 (K.commits + 1)) rfl (by kernel_rfl) HH.out.2.1 (by simp) rfl ?_; intro w2 p2; have P2 := hid (show Put c #[.slice (some ⟨g, 0, none⟩) K.l.length n, .int .i64 (K.commits + 1)] 125 _ w2 from p2); clear p2; obtain ⟨d0, d1⟩ := cells2 P2.out.at_; clear d0) | (go_at_call 94; refine (HA.out _ P2.out).mono ?_; rintro e w3 ⟨rfl, rfl⟩) | (refine wpList_store1 rfl 3 (.tmp 27) (.const (.int .i64 1)) rfl g o rfl cur 130 (.int .i64 1) rfl (by kernel_rfl) (P2.out.keep HH.out.2.2.2.2.2.1 HH.out.2.2.2.2.1) hk1.out.1 rfl ?_; intro w4 p4; have P4 := hid p4; clear p4) | (refine wpList_store1 rfl 3 (.tmp 29) (.tmp 25) rfl g (o + 2) rfl _ 130 (.int .i64 (K.commits + 1)) rfl (by kernel_rfl) P4.out.at_ hk1.out.2 rfl ?_; intro w5 p5; have P5 := hid p5; clear p5))
  go_ret
  obtain ⟨h, h1, h2, hgT, h4, hg, hko, hset1, hset2⟩ := HH.out
  have o2 := P2.out.fr.owns h2 (fun k hk e => by obtain rfl : g = k := Option.some.inj hk; exact h4 e)
  have hg2 := P2.out.keep hg h4
  have o4 := owns_setN o2 hg2 P4.out
  have o5 := owns_setN o4 P4.out.at_ P5.out
  rw [hset1, hset2] at o5
  have hF : Fr T w w5 := ((P2.out.fr.mono (fun k _ e => by subst e; exact h.root)).thenS (P4.out.fr.mono (fun k _ e => by subst e; exact hgT))).thenS (P5.out.fr.mono (fun k _ e => by subst e; exact hgT))
  refine ⟨rfl, ?_, hF⟩
  rw [HK.out]
  refine ⟨⟨_, P5.out.keep (P4.out.keep P2.out.at_ (fun e => h4 e.symm)) (fun e => h4 e.symm), by simpa using o5, fun k hk => ?_⟩, h.root, fun k hk => Nat.lt_of_lt_of_le (h.bound k hk) hF.size, ?_⟩
  · obtain rfl : g = k := Option.some.inj hk
    exact ⟨hgT, h4⟩
  · have := h.small
    simp
    omega
end Go.Proofs.YtofjbigojbnmfaaGreatDoor
