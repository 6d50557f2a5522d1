/- The walks of package drum, third part: slices.Clone, Read, Sync. -/
import Derived.Test.YtggahnipmlihlaaDrumB
namespace Go.Proofs.Ytggahnipmlihlaa
open Go.RowKit Go.Lig

theorem info5 : (Try.prog.info? 5).map (fun i => (i.zero, i.size, i.bytes)) = some (some (.int .u8 0), 1, 1) := by kernel_rfl

set_option maxHeartbeats 400000 in
theorem clone_some (w : World) (ad : Addr) (n c : Nat) (xs : List Value) (h : Rd w (.slice (some ad) n c) n 1 xs) (hn : n ≤ 140737488355328) :
    Calls Try.prog 29 #[.slice (some ad) n c] w fun e w' => ∃ v, e = .returned v ∧ w'.ownsRow 0 5 1 v n xs ∧ v ≠ .slice none 0 0 ∧ (∀ k, v.ownBlock = some k → w.heap.size ≤ k) ∧ Fr No w w' := by
  have hq : ∀ w, (binOp .eql 29 (.slice (some ad) n c) (.slice none 0 0)).run Try.prog w = .ok (.bool false) w := fun w => by
    simpa using Lib.run_eql_slice_nil (P := Try.prog) w 29 _ (some ad) n c 0 0 Try.underlying29
  have H := hid h
  clear h
  go_enter Try.func29, Try.ntmps29
  go_wp2_with (at_builtin; refine wpList_app rfl (.tmp 5) (.tmp 6) 29 rfl 5 (.int .u8 0) 1 1 Try.underlying29 info5 rfl (by decide) _ 0 [] rfl (World.ownsRow_made w #[] 0 (Nat.zero_le _) (Nat.zero_le _) rfl) _ n xs rfl (H.out.frame (S := No) ((Fr.refl No w).alloc _) (fun _ _ e => e)) (by unfold maxLen; omega) (by omega) ?_)
  intro v' w' h1 h2 h3 h4
  go_wp2
  go_ret
  refine ⟨v', rfl, by simpa using h1, h4, fun k hk => ?_, ?_⟩
  · rcases h3 k hk with e | e
    · simp [Value.ownBlock] at e; omega
    · omega
  · exact ((Fr.refl No w).alloc _).trans h2 (fun k hk e => by simp [Value.ownBlock] at e; omega)

/-- sector i. -/
def sec (f : Nat → UInt8) (i : Nat) : List Value := bs (fun k => f (64 * i + k)) 64
theorem sec_get (f : Nat → UInt8) (n i : Nat) (h : i < n) (j : Nat) (v : Value) (hj : (sec f i)[j]? = some v) : (bs f (64 * n))[64 * i + j]? = some v := by
  have hlt : j < 64 := by
    have := (List.getElem?_eq_some_iff.1 hj).1
    simpa [sec, bs_length] using this
  rw [sec, bs_get _ _ _ hlt] at hj
  rw [bs_get _ _ _ (by omega)]
  exact hj

theorem read_out (w : World) (S : Nat → Prop) (b : Nat) (D : Dr) (h : DrumAt w S b D) (i : Int) (hi : i < 0 ∨ (D.n : Int) ≤ i) :
    Calls Try.prog 19 #[.pointer (some ⟨b, 0, none⟩), .int .i64 i] w fun e w' => e = .returned (.slice none 0 0) ∧ w = w' := by
  have H := hid h
  rcases hi with hi | hi
  · clear h
    go_enter Try.func19, Try.ntmps19
    go_wp2
    go_ret
    exact ⟨rfl, rfl⟩
  · have h0 : ¬ i < 0 := by omega
    clear h
    go_enter Try.func19, Try.ntmps19
    go_wp2_with (go_at_call 23; refine (len_any _ _ _ _ H.out).mono ?_; rintro e w' ⟨rfl, rfl⟩)
    go_ret
    exact ⟨rfl, rfl⟩
theorem read_nil (w : World) (i : Int) :
    Calls Try.prog 19 #[.pointer none, .int .i64 i] w fun e w' => e = .returned (.slice none 0 0) ∧ w = w' := by
  rcases Int.lt_or_le i 0 with hi | hi
  · go_enter Try.func19, Try.ntmps19
    go_wp2
    go_ret
    exact ⟨rfl, rfl⟩
  · have h0 : ¬ i < 0 := by omega
    go_enter Try.func19, Try.ntmps19
    go_wp2_with (go_at_call 23; refine (len_nil _).mono ?_; rintro e w' ⟨rfl, rfl⟩)
    go_ret
    exact ⟨rfl, rfl⟩
set_option maxHeartbeats 400000 in
theorem read_in (w : World) (S : Nat → Prop) (b : Nat) (D : Dr) (h : DrumAt w S b D) (i : Nat) (hi : i < D.n) :
    Calls Try.prog 19 #[.pointer (some ⟨b, 0, none⟩), .int .i64 (i : Int)] w fun e w' => ∃ v, e = .returned v ∧ w'.ownsRow 0 5 1 v 64 (sec D.now i) ∧
      v ≠ .slice none 0 0 ∧ (∀ k, v.ownBlock = some k → w.heap.size ≤ k) ∧ Fr No w w' := by
  obtain ⟨bg, bn, vw, h0, h1, h2, h3, s1, s2, s3, e1, e2, e3⟩ := h.body
  obtain ⟨c0, c1, c2, c3, c4⟩ := cells5 h0
  have H := hid h
  have hle := h.n_le
  have H2 := hid h2
  clear h h0 h1 h2 h3 s1 s2 s3 e1 e2 e3 c0 c2 c3 c4
  go_enter Try.func19, Try.ntmps19
  go_wp2_with (go_at_call 23; refine (len_any _ _ _ _ H.out).mono ?_; rintro e w' ⟨rfl, rfl⟩)
  refine (clone_some w ⟨bn, i * 64, none⟩ 64 64 (sec D.now i) ⟨_, _, rfl, by simp [sec, bs_length], fun e => (by cases e), fun ad e => ?_, bs_one _ _, Nat.le_refl _, by simp [maxLen]⟩ (by omega)).mono ?_
  · obtain rfl := Option.some.inj e
    intro j u hu
    rw [Addr.add_mid, cellOf H2.out, Nat.mul_comm i 64]
    simpa using sec_get D.now D.n i hi j u hu
  · rintro e w' ⟨v, rfl, hv⟩
    go_wp2
    go_ret
    exact ⟨v, rfl, hv⟩

/-! ### Sync -/
def Dr.sync (D : Dr) : Dr := { D with good := D.now, wait := [] }
def Dr.doSync (D : Dr) : Int × Dr := if D.alive then (0, D.tick.sync) else (9, D.tick)
theorem sync_nil (w : World) : Calls Try.prog 15 #[.pointer none] w fun e w' => e = .returned (.int .i64 9) ∧ w = w' := by
  go_enter Try.func15, Try.ntmps15
  go_wp2_with (go_at_call 27; refine (lives_nil _).mono ?_; rintro e w' ⟨rfl, rfl⟩)
  go_ret
  exact ⟨rfl, rfl⟩
theorem sync_dead (w : World) (S : Nat → Prop) (b : Nat) (D : Dr) (h : DrumAt w S b D) (ha : D.alive = false) :
    Calls Try.prog 15 #[.pointer (some ⟨b, 0, none⟩)] w fun e w' => e = .returned (.int .i64 9) ∧ DrumAt w' S b D.tick ∧ Fr S w w' := by
  have HL := hid (ha ▸ lives_any w S b D h)
  clear ha h
  go_enter Try.func15, Try.ntmps15
  go_wp2_with (go_at_call 27; refine HL.out.mono ?_; rintro e w1 ⟨rfl, h1, h2⟩)
  go_ret
  exact ⟨rfl, h1, h2⟩
set_option maxHeartbeats 400000 in
theorem sync_live (w : World) (S : Nat → Prop) (b : Nat) (D : Dr) (h : DrumAt w S b D) (ha : D.alive = true) :
    Calls Try.prog 15 #[.pointer (some ⟨b, 0, none⟩)] w fun e w' => e = .returned (.int .i64 0) ∧ DrumAt w' S b D.tick.sync ∧ Fr S w w' := by
  have HL := hid (ha ▸ lives_any w S b D h)
  clear ha h
  generalize D.tick = D1 at *
  go_enter Try.func15, Try.ntmps15
  go_wp2_with (go_at_call 27; refine HL.out.mono ?_; rintro e w1 ⟨rfl, h1, h2⟩)
  obtain ⟨bg, bn, vw, g0, g1, g2, g3, s1, s2, s3, e1, e2, e3⟩ := h1.body
  obtain ⟨c0, c1, c2, c3, c4⟩ := cells5 g0
  have hz := freeAll g0
  have H := hid (⟨h1, h2, g0, g1, g2, g3, s1, s2, s3, e1, e2, e3⟩ : _ ∧ _ ∧ _ ∧ _ ∧ _ ∧ _ ∧ _ ∧ _ ∧ _ ∧ _ ∧ _ ∧ _)
  clear h1 h2 g0 g1 g2 g3 s1 s2 s3 e1 e2 e3
  go_still_tail 8, (by kernel_rfl)
  obtain ⟨i0, hi, hz0, hz1, hz2⟩ := info_parts info57
  refine wpList_copy_rows rfl (.tmp 9) (.tmp 13) 52 52 rfl 57 i0 64 Try.underlying52 hi hz1 bg 0 D1.n D1.n ⟨bn, 0, none⟩ D1.n D1.n rfl rfl (bs D1.good (64 * D1.n)).toArray 57 (bs D1.now (64 * D1.n)) ?_ ?_ ?_ ?_ (bs_one _ _) ?_
  · exact H.out.2.2.2.1
  · simp [bs_length, Nat.mul_comm]
  · intro j v hj
    rw [Addr.add_mid]
    refine (cell_of_row _ bn (0 + j) _ _ _ H.out.2.2.2.2.1).trans ?_
    simpa using hj
  · simp [bs_length]
  · have hrow : ((bs D1.good (64 * D1.n)).toArray.toList.take 0 ++ bs D1.now (64 * D1.n) ++ (bs D1.good (64 * D1.n)).toArray.toList.drop (0 + (bs D1.now (64 * D1.n)).length)).toArray = (bs D1.now (64 * D1.n)).toArray := by
      simp [bs_length]
    rw [hrow]
    clear hi hz0 hz1 hz2 hrow
    obtain ⟨h1, h2, g0, g1, g2, g3, s1, s2, s3, e1, e2, e3⟩ := H.out
    have hfr : Fr (fun k => k = bg) w1 (World.setRow { w1 with drawn := w1.drawn + 1 } bg (bs D1.now (64 * D1.n)).toArray) := (Fr.drew (Fr.refl _ w1)).setRow _ (fun _ => rfl)
    have k1 := hrow (w := { w1 with drawn := w1.drawn + 1 }) (cs' := (bs D1.now (64 * D1.n)).toArray) g1
    generalize World.setRow { w1 with drawn := w1.drawn + 1 } bg (bs D1.now (64 * D1.n)).toArray = w2 at *
    have k0 := hfr.keep g0 e1
    have k2 := hfr.keep g2 (Ne.symm e3)
    obtain ⟨c0, c1, c2, c3, c4⟩ := cells5 k0
    have hz := freeAll k0
    have H2 := hid (⟨hfr, k0, k1, k2⟩ : _ ∧ _ ∧ _ ∧ _)
    clear hfr k0 k1 k2 h1 h2 g0 g1 g2 g3 s1 s2 s3 e1 e2 e3 c0 c1 c3 c4
    go_wp2
    go_ret
    obtain ⟨h1, h2, g0, g1, g2, g3, s1, s2, s3, e1, e2, e3⟩ := H.out
    obtain ⟨hfr, k0, k1, k2⟩ := H2.out
    have hf3 : Fr (fun k => k = b) w2 (w2.setCell ⟨b, 2, none⟩ (.slice none 0 0)) := (Fr.refl (fun k => k = b) w2).setCell (p := ⟨b, 2, none⟩) _ (fun _ => rfl)
    refine ⟨rfl, ⟨h1.n_le, h1.fuse_lo, h1.fuse_hi, by simp [Dr.sync], fun k hk => ?_, h1.own, bg, bn, .slice none 0 0, ?_, hf3.keep k1 (Ne.symm e1), hf3.keep k2 (Ne.symm e2), World.ownsRow_nil _ _ _ _, s1, s2, fun k hk => by simp [Value.ownBlock] at hk, e1, e2, e3⟩, ?_⟩
    · exact Nat.lt_of_lt_of_le (h1.bound k hk) (Nat.le_trans hfr.size hf3.size)
    · simpa [Dr.sync] using hset (k := 2) (v := .slice none 0 0) k0
    · exact (h2.trans (hfr.mono (S' := S) (fun k _ e => e ▸ s1)) (fun _ _ e => e)).trans (hf3.mono (S' := S) (fun k _ e => e ▸ h1.own)) (fun _ _ e => e)
end Go.Proofs.Ytggahnipmlihlaa
