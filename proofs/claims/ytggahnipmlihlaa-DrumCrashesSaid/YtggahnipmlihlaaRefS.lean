/- alike: all that the two drums tell. -/
import Derived.Test.YtggahnipmlihlaaRefR
namespace Go.Proofs.Ytggahnipmlihlaa
open Go.RowKit Go.Lig

structure RW (W w : World) (T : Nat → Prop) (b : Nat) (R : RDr) : Prop where
  at_ : RefAt w T b R
  fr : Fr No W w
  new : ∀ k, T k → W.heap.size ≤ k
theorem RW.next {W w w' : World} {T U : Nat → Prop} {b : Nat} {R : RDr} (h : RW W w T b R) (hf : Fr U w w') (hd : ∀ k, T k → ¬ U k) (hU : ∀ k, U k → W.heap.size ≤ k) : RW W w' T b R :=
  ⟨h.at_.frame hf hd, h.fr.trans hf (fun k hk e => by have := hU k e; omega), h.new⟩
theorem RW.nextNo {W w w' : World} {T : Nat → Prop} {b : Nat} {R : RDr} (h : RW W w T b R) (hf : Fr No w w') : RW W w' T b R := h.next hf (fun _ _ e => e) (fun _ e => e.elim)
theorem RW.grow {W w w' : World} {T : Nat → Prop} {b : Nat} {R R' : RDr} (h : RW W w T b R) (h' : RefAt w' (Gr T w w') b R') (hf : Fr T w w') : RW W w' (Gr T w w') b R' :=
  ⟨h', h.fr.trans hf (fun k hk e => by have := h.new k e; omega), fun k hk => by rcases hk with hk | hk; exact h.new k hk; have := h.fr.size; omega⟩
theorem RW.same {W w w' : World} {T : Nat → Prop} {b : Nat} {R R' : RDr} (h : RW W w T b R) (h' : RefAt w' T b R') (hf : Fr T w w') : RW W w' T b R' :=
  ⟨h', h.fr.trans hf (fun k hk e => by have := h.new k e; omega), h.new⟩

/-- what is read at whatever number -/
def secI (D : Dr) (i : Int) : List UInt8 := if 0 ≤ i ∧ i < (D.n : Int) then secL D.now i.toNat else []
theorem read_all (w : World) (S : Nat → Prop) (b : Nat) (D : Dr) (h : DrumAt w S b D) (i : Int) (X : List UInt8) (hX : X = secI D i) :
    Calls Try.prog 19 #[.pointer (some ⟨b, 0, none⟩), .int .i64 i] w fun e w' => ∃ a c, e = .returned (.slice a X.length c) ∧ Rd w' (.slice a X.length c) X.length 1 (X.map u8v) ∧ Fr No w w' := by
  subst hX
  by_cases hi : 0 ≤ i ∧ i < (D.n : Int)
  · obtain ⟨k, rfl⟩ := Int.eq_ofNat_of_zero_le hi.1
    have e : secI D (k : Int) = secL D.now k := by rw [secI, if_pos hi, Int.toNat_natCast]
    rw [e]
    refine (read_in w S b D h k (by omega)).mono ?_
    rintro e w' ⟨v, rfl, o, n, b', f⟩
    obtain ⟨a, c, rfl⟩ := ownsRow_slice o
    refine ⟨a, c, by rw [secL_len], ?_, f⟩
    rw [secL_len, ← sec_secL]
    exact Rd.of_owns o (bs_one _ _)
  · have e : secI D i = [] := by rw [secI, if_neg hi]
    rw [e]
    refine (read_out w S b D h i (by omega)).mono ?_
    rintro e w' ⟨rfl, rfl⟩
    exact ⟨none, 0, rfl, Rd.nil _ _, Fr.refl _ _⟩
theorem rread_all (w : World) (T : Nat → Prop) (b : Nat) (D : Dr) (R : RDr) (h : RefAt w T b R) (sim : Sim D R) (i : Int) (X : List UInt8) (hX : X = secI D i) :
    Calls Try.prog 31 #[.pointer (some ⟨b, 0, none⟩), .int .i64 i] w fun e w' => ∃ a c, e = .returned (.slice a X.length c) ∧ Rd w' (.slice a X.length c) X.length 1 (X.map u8v) ∧ Fr No w w' := by
  subst hX
  have hl := sim.len
  by_cases hi : 0 ≤ i ∧ i < (D.n : Int)
  · obtain ⟨k, rfl⟩ := Int.eq_ofNat_of_zero_le hi.1
    have e : secI D (k : Int) = secL D.now k := by rw [secI, if_pos hi, Int.toNat_natCast]
    rw [e]
    exact rread_in w T b R h k (secL D.now k) (sim.now k (by omega)) (by rw [secL_len]; decide)
  · have e : secI D i = [] := by rw [secI, if_neg hi]
    rw [e]
    refine (rread_out w T b R h i (by omega)).mono ?_
    rintro e w' ⟨rfl, rfl⟩
    exact ⟨none, 0, rfl, Rd.nil _ _, Fr.refl _ _⟩

set_option maxRecDepth 100000 in
set_option maxHeartbeats 1000000 in
theorem alike_any (w : World) (S : Nat → Prop) (b : Nat) (D : Dr) (hD : DrumAt w S b D) (T : Nat → Prop) (b2 : Nat) (R : RDr) (hR : RefAt w T b2 R) (sim : Sim D R) :
    Calls Try.prog 20 #[.pointer (some ⟨b, 0, none⟩), .pointer (some ⟨b2, 0, none⟩)] w fun e w' => e = .returned (.bool true) ∧ Fr No w w' := by
  have hn := hD.n_le
  have hwl : R.wait.length = D.wait.length := by rw [sim.wait, List.length_map]
  obtain ⟨vo, vs, vw, g0, g1, g2, g3, s1, s2, s3⟩ := hR.body
  obtain ⟨ax, cs, rfl⟩ := ownsRow_slice g2
  rw [sim.len] at g0 g2
  obtain ⟨c0, c1, c2, c3, c4⟩ := cells5 g0
  have hb2 : b2 < w.heap.size := lt_of_block g0
  have hDd : DrumAt w.drew S b D := hD.frame ((Fr.refl No w).drew) (fun _ _ e => e)
  have hRd : RefAt w.drew T b2 R := hR.frame ((Fr.refl No w).drew) (fun _ _ e => e)
  have HW := hid (rwaiting_any w.drew T b2 R hRd)
  rw [hwl] at HW
  have H := hid (⟨hDd, hRd, sim, g0⟩ : _ ∧ _ ∧ _ ∧ _)
  clear hD hR hDd hRd sim g0 g1 g2 g3 s1 s2 s3 c0 c2 c3 c4 hwl
  go_enter Try.func20, Try.ntmps20
  go_wp2_with fail
  refine wp_region_sched (by kernel_rfl) 15 [1, 10, 12] [0, 2, 3, 4, 5, 6, 1, 7, 8, 9, 11, 10, 12, 13, 14] (AgC [b2] w.drew) (by kernel_rfl) (AgC.refl _ _) ?_
  simp only [List.map_cons, List.map_nil, List.contains_cons, List.contains_nil, Nat.reduceBEq, Bool.or_false, Bool.or_true, nth_zero, nth_succ]
  repeat (refine sched_quiet (fun K hK => ?_); go_simp; refine hK _ ?_; clear hK K)
  refine sched_call (by first | rfl | go_simp) 23 #[.pointer (some ⟨b, 0, none⟩)] (by first | kernel_rfl | go_simp) (len_any _ _ _ _ H.out.1) ?_
  rintro e w' ⟨rfl, rfl⟩
  refine ⟨_, rfl, AgC.refl _ _, ?_⟩
  repeat (refine sched_quiet (fun K hK => ?_); go_simp; refine hK _ ?_; clear hK K)
  refine sched_call (by first | rfl | go_simp) 18 #[.pointer (some ⟨b, 0, none⟩)] (by first | kernel_rfl | go_simp) (waiting_any _ _ _ _ H.out.1) ?_
  rintro e w' ⟨rfl, rfl⟩
  refine ⟨_, rfl, AgC.refl _ _, ?_⟩
  refine sched_hide (fun K hK => ?_); go_simp; refine hK _ ?_; clear hK K
  refine sched_call (by first | rfl | go_simp) 30 #[.pointer (some ⟨b2, 0, none⟩)] (by first | kernel_rfl | go_simp) HW.out ?_
  rintro e w' ⟨rfl, rfl⟩
  refine ⟨_, rfl, AgC.refl _ _, ?_⟩
  repeat (refine sched_quiet (fun K hK => ?_); go_simp; refine hK _ ?_; clear hK K)
  refine sched_nil ?_
  go_wp2_with fail
  go_loopw [5] (fun v wr => ∃ k : Nat, k ≤ D.n + 2 ∧ v = .int .i64 ((k : Int) - 1) ∧ Hid (Fr No w.drew wr)) (fun v _ => D.n + 2 - (intOf v + 1).toNat)
  case atStart => exact ⟨0, Nat.zero_le _, rfl, Fr.refl _ _⟩
  case round =>
    obtain ⟨k, hkl, rfl, hf⟩ := hrel
    have m0 := hf.out.keep (w := w.drew) H.out.2.2.2 id
    obtain ⟨d0, d1, d2, d3, d4⟩ := cells5 m0
    clear m0 d0 d2 d3 d4
    by_cases hlt : (k : Int) - 1 ≤ (D.n : Int)
    · go_wp2_with fail
      obtain ⟨X, hX⟩ : ∃ X, X = secI D ((k : Int) - 1) := ⟨_, rfl⟩
      have hfd := hf.out.drew
      have HX := hid (⟨hX, H.out.1.frame hfd (fun _ _ e => e), hfd⟩ : _ ∧ _ ∧ _)
      clear hX hfd
      refine wp_region_sched (by kernel_rfl) 9 [2, 6] [0, 1, 4, 5, 2, 3, 6, 7, 8] (FrC wr.drew) (by kernel_rfl) (FrC.refl _) ?_
      simp only [List.map_cons, List.map_nil, List.contains_cons, List.contains_nil, Nat.reduceBEq, Bool.or_false, Bool.or_true, nth_zero, nth_succ]
      repeat (refine sched_quiet (fun K hK => ?_); go_simp; refine hK _ ?_; clear hK K)
      refine sched_call2 (by first | rfl | go_simp) 19 #[.pointer (some ⟨b, 0, none⟩), .int .i64 ((k : Int) - 1)] (by first | kernel_rfl | go_simp) (read_all _ _ _ D HX.out.2.1 _ X HX.out.1) ?_
      rintro e wa ⟨aa, ca, rfl, ra, fa⟩
      refine ⟨_, rfl, FrC wa, FrC.sub fa, FrC.refl _, ?_⟩
      have HA := hid (⟨ra, H.out.2.1.frame (HX.out.2.2.thenNo fa) (fun _ _ e => e), HX.out.2.2.thenNo fa⟩ : _ ∧ _ ∧ _)
      clear ra fa
      refine sched_hide (fun K hK => ?_); go_simp; refine hK _ ?_; clear hK K
      refine sched_conv (by first | rfl | go_simp) 29 9 (.tmp 32) rfl (.slice aa X.length ca) rfl (strv X) (fun w' hw' => run_strOf Try.underlying29 Try.underlying5 Try.underlying9 (HA.out.1.frame hw'.fr (fun _ _ e => e))) ?_
      refine sched_hide (fun K hK => ?_); go_simp; refine hK _ ?_; clear hK K
      refine sched_call2 (by first | rfl | go_simp) 31 #[.pointer (some ⟨b2, 0, none⟩), .int .i64 ((k : Int) - 1)] (by first | kernel_rfl | go_simp) (rread_all _ _ _ D R HA.out.2.1 H.out.2.2.1 _ X HX.out.1) ?_
      rintro e wb ⟨ab, cb, rfl, rb, fb⟩
      refine ⟨_, rfl, FrC wb, FrC.sub fb, FrC.refl _, ?_⟩
      have HB := hid (⟨rb, HA.out.2.2.thenNo fb⟩ : _ ∧ _)
      clear rb fb
      refine sched_hide (fun K hK => ?_); go_simp; refine hK _ ?_; clear hK K
      refine sched_conv (by first | rfl | go_simp) 29 9 (.tmp 36) rfl (.slice ab X.length cb) rfl (strv X) (fun w' hw' => run_strOf Try.underlying29 Try.underlying5 Try.underlying9 (HB.out.1.frame hw'.fr (fun _ _ e => e))) ?_
      refine sched_hide (fun K hK => ?_); simp only [strv]; refine hK _ ?_; clear hK K
      repeat (refine sched_quiet (fun K hK => ?_); go_simp; refine hK _ ?_; clear hK K)
      refine sched_nil ?_
      go_wp2_with fail
      go_roundw
      case rel => exact ⟨k + 1, by omega, by congr 1; omega, HB.out.2⟩
      case measure => simp [intOf]; omega
    · go_wp2_with fail
      go_ret
      exact ⟨rfl, (Fr.refl No w).drew.thenNo hf.out⟩
end Go.Proofs.Ytggahnipmlihlaa
