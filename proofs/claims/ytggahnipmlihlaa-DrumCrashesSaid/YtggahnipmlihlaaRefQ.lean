/- The reference's drum: Write. -/
import Derived.Test.YtggahnipmlihlaaRefP
namespace Go.Proofs.Ytggahnipmlihlaa
open Go.RowKit Go.Lig

theorem rwrite_dead (w : World) (T : Nat → Prop) (b : Nat) (R : RDr) (h : RefAt w T b R) (i : Int) (pv : Value) (hd : R.tick.dead = true) :
    Calls Try.prog 14 #[.pointer (some ⟨b, 0, none⟩), .int .i64 i, pv] w fun e w' => e = .returned (.int .i64 9) ∧ RefAt w' T b R.tick ∧ Fr T w w' := by
  have HA := hid (ralive_any w T b R h)
  rw [hd] at HA
  clear h hd
  generalize R.tick = R1 at *
  go_enter Try.func14, Try.ntmps14
  go_wp2_with (go_at_call 28; refine HA.out.mono ?_; rintro e w1 ⟨rfl, h1, f1⟩; have H := hid (⟨h1, f1⟩ : _ ∧ _); clear h1 f1)
  go_ret
  exact ⟨rfl, H.out.1, H.out.2⟩
theorem rwrite_bad (w : World) (T : Nat → Prop) (b : Nat) (R : RDr) (h : RefAt w T b R) (i : Int) (ao : Option Addr) (m c : Nat) (hd : R.tick.dead = false) (hi : i < 0 ∨ (R.S.length : Int) ≤ i ∨ 64 < m) :
    Calls Try.prog 14 #[.pointer (some ⟨b, 0, none⟩), .int .i64 i, .slice ao m c] w fun e w' => e = .returned (.int .i64 1) ∧ RefAt w' T b R.tick ∧ Fr T w w' := by
  have HA := hid (ralive_any w T b R h)
  rw [hd] at HA
  have hi' : i < 0 ∨ (R.tick.S.length : Int) ≤ i ∨ 64 < m := hi
  clear h hd hi
  generalize R.tick = R1 at *
  by_cases h0 : i < 0
  · clear hi'
    go_enter Try.func14, Try.ntmps14
    go_wp2_with (go_at_call 28; refine HA.out.mono ?_; rintro e w1 ⟨rfl, h1, f1⟩; have H := hid (⟨h1, f1⟩ : _ ∧ _); clear h1 f1)
    go_ret
    exact ⟨rfl, H.out.1, H.out.2⟩
  · by_cases h1 : (R1.S.length : Int) ≤ i
    · clear hi'
      go_enter Try.func14, Try.ntmps14
      go_wp2_with (go_at_call 28; refine HA.out.mono ?_; rintro e w1 ⟨rfl, h1, f1⟩; obtain ⟨vo, vs, vw, g0, g1, g2, g3, s1, s2, s3⟩ := h1.body; obtain ⟨ax, cs, rfl⟩ := ownsRow_slice g2; obtain ⟨c0, c1, c2, c3, c4⟩ := cells5 g0; have H := hid (⟨h1, f1⟩ : _ ∧ _); clear h1 f1 g0 g1 g2 g3 s1 s2 s3 c0 c2 c3 c4)
      go_ret
      exact ⟨rfl, H.out.1, H.out.2⟩
    · have h2 : (64 : Int) < (m : Int) := by omega
      clear hi'
      go_enter Try.func14, Try.ntmps14
      go_wp2_with (go_at_call 28; refine HA.out.mono ?_; rintro e w1 ⟨rfl, h1, f1⟩; obtain ⟨vo, vs, vw, g0, g1, g2, g3, s1, s2, s3⟩ := h1.body; obtain ⟨ax, cs, rfl⟩ := ownsRow_slice g2; obtain ⟨c0, c1, c2, c3, c4⟩ := cells5 g0; have H := hid (⟨h1, f1⟩ : _ ∧ _); clear h1 f1 g0 g1 g2 g3 s1 s2 s3 c0 c2 c3 c4)
      go_ret
      exact ⟨rfl, H.out.1, H.out.2⟩
theorem infoW : (Try.prog.info? 61).map (fun i => (i.zero, i.size, i.bytes)) = some (some (.agg #[.int .i64 0, .string ByteArray.empty]), 2, 24) := by kernel_rfl
theorem builtW (i : Int) (l : List UInt8) : Try.prog.built 61 [(0, .int .i64 i), (1, strv l)] = some #[.int .i64 i, strv l] := by kernel_rfl
section
variable {P : Program} {ops : Array Oper} {o : Oper} {a : Act} {w : World} {i last : Nat} {S : World → Prop} {Q : Exit → Act → World → Prop}
theorem sched_build {rest : List (Bool × Nat × Oper)} (hgd : o.guard = none) (t : TypeId) (parts : List (Nat × Operand)) (ho : o.op = .build t parts.toArray) (vs : List (Nat × Value))
    (hev : parts.map (fun (i, x) => (i, a.eval x)) = vs) (cells : Array Value) (hb : P.built t vs = some cells) (h : wpSched P ops Q S last rest (a.put o.dst (.agg cells)) w) : wpSched P ops Q S last ((false, i, o) :: rest) a w := by
  subst hev
  refine sched_run hgd (v := .agg cells) (fun w' _ => ?_) h
  have e : (parts.toArray.map fun (i, x) => (i, a.eval x)).toList = parts.map (fun (i, x) => (i, a.eval x)) := by simp
  unfold execOp
  simp only [ho, Sem.run_bind, run_build w' t _ cells (by rw [e]; exact hb), Result.andThen_ok]
  rfl
end
set_option maxRecDepth 100000 in
set_option maxHeartbeats 1000000 in
theorem rwrite_live (w : World) (T : Nat → Prop) (b : Nat) (R : RDr) (h : RefAt w T b R) (i : Nat) (pv : Value) (l : List UInt8) (hrd : Rd w pv l.length 1 (l.map u8v)) (hS : ∀ k, slBlock pv = some k → l.map u8v ≠ [] → ¬ T k)
    (hd : R.tick.dead = false) (hi : i < R.S.length) (h64 : l.length ≤ 64) (hw : R.wait.length ≤ 1000000) :
    Calls Try.prog 14 #[.pointer (some ⟨b, 0, none⟩), .int .i64 (i : Int), pv] w fun e w' => e = .returned (.int .i64 0) ∧ RefAt w' (Gr T w w') b (R.tick.put i l) ∧ Fr T w w' := by
  have HA := hid (ralive_any w T b R h)
  rw [hd] at HA
  have hi0 : i < R.tick.S.length := hi
  have hw0 : R.tick.wait.length ≤ 1000000 := hw
  obtain ⟨ap, cp, rfl, hl63⟩ := rd_len hrd
  have H0 := hid (⟨hrd, hS⟩ : _ ∧ _)
  clear h hd hi hw hrd hS
  generalize R.tick = R1 at *
  have hi1 : ¬ (R1.S.length : Int) ≤ (i : Int) := by omega
  have h64' : ¬ (64 : Int) < (l.length : Int) := by omega
  go_enter Try.func14, Try.ntmps14
  go_wp2_with (go_at_call 28; refine HA.out.mono ?_; rintro e w1 ⟨rfl, h1, f1⟩; obtain ⟨vo, vs, vw, g0, g1, g2, g3, s1, s2, s3⟩ := h1.body; obtain ⟨ax, cs, rfl⟩ := ownsRow_slice g2; obtain ⟨aw, cw, rfl⟩ := ownsRow_slice g3; obtain ⟨gs, cur, rfl, -, hgs, hnc, hcs, -⟩ := owns_at g2 (by omega); have hkc : Hid (i < cur.size) := hid (by omega); obtain ⟨c0, c1, c2, c3, c4⟩ := cells5 g0; have H := hid (⟨h1, f1, g0, g1, g2, g3, s1, s2, s3, hgs⟩ : _ ∧ _ ∧ _ ∧ _ ∧ _ ∧ _ ∧ _ ∧ _ ∧ _ ∧ _); clear h1 f1 g0 g1 g2 g3 s1 s2 s3 c0 c2 c3 c4 hgs hnc hcs)
  obtain ⟨h1, f1, g0, g1, g2, g3, s1, s2, s3, hgs⟩ := H.out
  have hbl : b < w1.heap.size := lt_of_block g0
  have hp1 : Rd w1.drew (.slice ap l.length cp) l.length 1 (l.map u8v) := H0.out.1.frameE f1.drew H0.out.2
  have HP := hid hp1
  clear h1 f1 g0 g1 g2 g3 s1 s2 s3 hgs hp1
  refine wp_region_sched (by kernel_rfl) 8 [6, 8] [0, 1, 2, 3, 4, 5, 6, 7, 8] (AgC [b] w1.drew) (by kernel_rfl) (AgC.refl _ _) ?_
  simp only [List.map_cons, List.map_nil, List.contains_cons, List.contains_nil, Nat.reduceBEq, Bool.or_false, Bool.or_true, nth_zero, nth_succ]
  repeat (refine sched_quiet (fun K hK => ?_); go_simp; refine hK _ ?_; clear hK K)
  refine sched_call (by first | rfl | go_simp) 26 #[.slice ap l.length cp] (by first | kernel_rfl | go_simp) (padded_any _ _ l HP.out h64) ?_
  rintro e w5 ⟨rfl, f5⟩
  refine ⟨_, rfl, (AgC.refl _ _).fr f5 (fun j hj => by rw [List.mem_singleton.1 hj]; exact ⟨hbl, id⟩), ?_⟩
  have f15 : Fr No w1 w5 := (Fr.refl No w1).drew.thenNo f5
  have HG5 := hid (⟨f15, f15.keep H.out.2.2.2.2.2.2.2.2.2 id⟩ : _ ∧ _)
  clear f5 f15
  repeat (refine sched_quiet (fun K hK => ?_); go_simp; refine hK _ ?_; clear hK K)
  refine sched_loud (wpList_store1 rfl 9 (.tmp 35) (.tmp 34) rfl gs i rfl cur 9 (strv (padL l)) rfl (by kernel_rfl) HG5.out.2 hkc.out rfl ?_)
  intro w6 p6
  refine sched_last ?_
  refine sched_nil ?_
  obtain ⟨h1, f1, g0, g1, g2, g3, s1, s2, s3, hgs⟩ := H.out
  have hne : gs ≠ b := (s2 gs rfl).2.1
  have r0 : w6.heap[b]? = _ := p6.keep (HG5.out.1.keep g0 id) (Ne.symm hne)
  have ro : w6.ownsRow 0 9 1 vo R1.old.length (R1.old.map strv) := p6.fr.owns (fd_owns g1 HG5.out.1) (fun k hk e => (s2 gs rfl).2.2 (e ▸ hk))
  have rs : w6.ownsRow 0 9 1 (.slice (some ⟨gs, 0, none⟩) R1.S.length cs) R1.S.length ((R1.S.set i (padL l)).map strv) := by
    rw [List.map_set]
    exact owns_put (fd_owns g2 HG5.out.1) HG5.out.2 p6
  have rw6 : w6.ownsRow 0 61 2 (.slice aw R1.wait.length cw) R1.wait.length (R1.wait.flatMap rcell) := p6.fr.owns (fd_owns g3 HG5.out.1) (fun k hk e => (s3 k hk).2.2.2 (by rw [e]; rfl))
  have hcell : w6.cell? ⟨gs, i, none⟩ = some (strv (padL l)) := owns_cell rs rfl (by rw [List.getElem?_map, List.getElem?_set_self (by omega)]; rfl)
  have f16 : Fr (fun k => k = gs) w1 w6 := (HG5.out.1.mono (fun _ _ e => e.elim)).thenS p6.fr
  have hb6 : b < w6.heap.size := lt_of_block r0
  have hg6 : gs < w6.heap.size := lt_of_block p6.at_
  obtain ⟨c0, c1', c2', c3, c4⟩ := cells5 r0
  have H6 := hid (⟨r0, ro, rs, rw6, f16⟩ : _ ∧ _ ∧ _ ∧ _ ∧ _)
  clear h1 f1 g0 g1 g2 g3 s1 s2 s3 hgs hne r0 ro rs rw6 f16 c0 c3 c4 p6
  go_wp2_with fail
  refine wp_region_sched (by kernel_rfl) 18 [14, 15, 18] [0, 1, 2, 3, 4, 5, 6, 7, 8, 9, 10, 11, 12, 13, 14, 15, 16, 17, 18] (AgC [b, gs] w6.drew) (by kernel_rfl) (AgC.refl _ _) ?_
  simp only [List.map_cons, List.map_nil, List.contains_cons, List.contains_nil, Nat.reduceBEq, Bool.or_false, Bool.or_true, nth_zero, nth_succ]
  repeat (refine sched_quiet (fun K hK => ?_); go_simp; refine hK _ ?_; clear hK K)
  refine sched_build rfl 61 [(0, .tmp 41), (1, .tmp 48)] rfl [(0, .int .i64 (i : Int)), (1, strv (padL l))] rfl _ (builtW _ _) ?_
  refine sched_hide (fun K hK => ?_); go_simp; refine hK _ ?_; clear hK K
  have hL : ∀ j ∈ [b, gs], j < w6.drew.heap.size ∧ ¬ No j := by
    intro j hj
    rcases List.mem_cons.1 hj with rfl | hj
    · exact ⟨hb6, fun e => e⟩
    · rw [List.mem_singleton.1 hj]; exact ⟨hg6, fun e => e⟩
  refine sched_loud (wpList_buildSlice1 rfl 40 61 (.tmp 49) rfl _ 2 24 Try.underlying40 infoW (by decide) (by decide) (.agg #[.int .i64 (i : Int), strv (padL l)]) rfl rfl ?_)
  intro w7 p7
  have ha7 : AgC [b, gs] w6.drew w7 := (AgC.refl _ _).fr p7.fr hL
  refine sched_on ha7 ?_
  have f67 : Fr No w6 w7 := (Fr.refl No w6).drew.thenNo p7.fr
  have hrow7 := fd_owns H6.out.2.2.2.1 f67
  have hr7 : Rd w7 (.slice (some ⟨w6.heap.size, 0, none⟩) 1 1) 1 2 (rcell (i, padL l)) := Rd.block (cs := rcell (i, padL l)) p7.at_ 1 2 1 rfl (rcell_one [(i, padL l)]) (Nat.le_refl _) (by simp [maxLen])
  refine sched_hide (fun K hK => ?_); go_simp; refine hK _ ?_; clear hK K
  refine sched_loud (wpList_app rfl (.tmp 40) (.tmp 50) 40 rfl 61 _ 2 24 Try.underlying40 infoW rfl (by decide) (.slice aw R1.wait.length cw) R1.wait.length (R1.wait.flatMap rcell) rfl hrow7 (.slice (some ⟨w6.heap.size, 0, none⟩) 1 1) 1 (rcell (i, padL l)) rfl hr7 (by unfold maxLen; omega) (by omega) ?_)
  intro v8 w8 o8 f8 b8 _
  obtain ⟨a8, c8, rfl⟩ := ownsRow_slice o8
  obtain ⟨h1, f1, g0, g1, g2, g3, s1, s2, s3, hgs⟩ := H.out
  refine sched_on (ha7.fr f8 (fun j hj => by
    rcases List.mem_cons.1 hj with rfl | hj
    · exact ⟨hb6, fun e => (s3 _ e).2.1 rfl⟩
    · rw [List.mem_singleton.1 hj]; exact ⟨hg6, fun e => (s3 _ e).2.2.2 rfl⟩)) ?_
  have r8 : w8.heap[b]? = _ := f8.keep (f67.keep H6.out.1 id) (fun e => (s3 _ e).2.1 rfl)
  have H8 := hid (⟨o8, f8, b8, r8, f67⟩ : _ ∧ _ ∧ _ ∧ _ ∧ _)
  clear h1 f1 g0 g1 g2 g3 s1 s2 s3 hgs o8 f8 b8 r8 f67 hrow7 hr7 p7 ha7
  repeat (refine sched_quiet (fun K hK => ?_); go_simp; refine hK _ ?_; clear hK K)
  refine sched_loud (wpList_store1 rfl 40 (.tmp 53) (.tmp 51) rfl b 2 rfl _ _ (.slice a8 (R1.wait.length + 1) c8) rfl (by kernel_rfl) H8.out.2.2.2.1 (by simp) rfl ?_)
  intro w9 p9
  refine sched_last ?_
  refine sched_nil ?_
  have HP9 := hid p9
  clear p9
  go_wp2
  go_ret
  have p9 := HP9.out
  obtain ⟨o8, f8, b8, r8, f67⟩ := H8.out
  obtain ⟨r0, ro, rs, rw6, f16⟩ := H6.out
  obtain ⟨h1, f1, g0, g1, g2, g3, s1, s2, s3, hgs⟩ := H.out
  have z1 := f1.size
  have z6 := f16.size
  have z7 := f67.size
  have z8 := f8.size
  have z9 := p9.fr.size
  have hbT := h1.own
  have hgT := (s2 gs rfl).1
  have fr9 : Fr T w w9 := (((f1.trans f16 (fun k _ e => by rw [e]; exact hgT)).thenNo f67).trans f8 (fun k _ e => (s3 k e).1)).trans p9.fr (fun k _ e => by rw [e]; exact hbT)
  have hbd := h1.bound
  have n8 : ∀ k, (Value.slice a8 (R1.wait.length + 1) c8).ownBlock = some k → (T k ∨ w.heap.size ≤ k) ∧ k ≠ b ∧ vo.ownBlock ≠ some k ∧ k ≠ gs := by
    intro k hk
    rcases b8 k hk with e | e
    · have := s3 k e
      exact ⟨.inl this.1, this.2.1, this.2.2.1, fun e2 => this.2.2.2 (by rw [e2]; rfl)⟩
    · have hb1 := hbd b hbT
      have hg1 := hbd gs hgT
      exact ⟨.inr (by omega), by omega, fun e2 => by have := hbd k (s1 k e2).1; omega, by omega⟩
  have hlen : (R1.put i l).wait.length = R1.wait.length + 1 := by simp [RDr.put]
  have hwt : (R1.put i l).wait.flatMap rcell = R1.wait.flatMap rcell ++ rcell (i, padL l) := by simp [RDr.put]
  have hSl : (R1.put i l).S.length = R1.S.length := by simp [RDr.put]
  refine ⟨rfl, ref_close (vo := vo) (vs := .slice (some ⟨gs, 0, none⟩) R1.S.length cs) (vw := .slice a8 (R1.wait.length + 1) c8) h1.left_lo h1.left_hi fr9 (fun k hk => by have := hbd k hk; omega) hbT (by simpa [RDr.put] using p9.at_) ?_ ?_ ?_ ?_ ?_ ?_, fr9⟩
  · exact p9.fr.owns (f8.owns (fd_owns ro f67) (fun k hk e => (s3 k e).2.2.1 hk)) (fun k hk => (s1 k hk).2)
  · rw [hSl]
    exact p9.fr.owns (f8.owns (fd_owns rs f67) (fun k hk e => (s3 k e).2.2.2 hk)) (fun k hk => (s2 k hk).2.1)
  · rw [hlen, hwt]
    exact p9.fr.owns o8 (fun k hk => (n8 k hk).2.1)
  · exact fun k hk => ⟨.inl (s1 k hk).1, (s1 k hk).2⟩
  · exact fun k hk => ⟨.inl (s2 k hk).1, (s2 k hk).2⟩
  · intro k hk
    obtain ⟨q1, q2, q3, q4⟩ := n8 k hk
    exact ⟨q1, q2, q3, fun e => q4 (Option.some.inj e).symm⟩
theorem rwrite_any (w : World) (T : Nat → Prop) (b : Nat) (R : RDr) (h : RefAt w T b R) (i : Int) (pv : Value) (l : List UInt8) (hrd : Rd w pv l.length 1 (l.map u8v)) (hS : ∀ k, slBlock pv = some k → l.map u8v ≠ [] → ¬ T k) (hw : R.wait.length ≤ 1000000) :
    Calls Try.prog 14 #[.pointer (some ⟨b, 0, none⟩), .int .i64 i, pv] w fun e w' => e = .returned (.int .i64 (R.doWrite i l).1) ∧ RefAt w' (Gr T w w') b (R.doWrite i l).2 ∧ Fr T w w' := by
  unfold RDr.doWrite
  cases hd : R.tick.dead
  · simp only [Bool.false_eq_true, if_false]
    by_cases hc : i < 0 ∨ (R.S.length : Int) ≤ i ∨ 64 < l.length
    · rw [if_pos hc]
      obtain ⟨ap, cp, rfl, -⟩ := rd_len hrd
      exact (rwrite_bad w T b R h i ap l.length cp hd hc).mono fun e w' ⟨h1, h2, h3⟩ => ⟨h1, h2.up, h3⟩
    · rw [if_neg hc]
      obtain ⟨k, rfl⟩ := Int.eq_ofNat_of_zero_le (by omega : 0 ≤ i)
      rw [Int.toNat_natCast]
      exact rwrite_live w T b R h k pv l hrd hS hd (by omega) (by omega) hw
  · simp only [if_true]
    exact (rwrite_dead w T b R h i pv hd).mono fun e w' ⟨h1, h2, h3⟩ => ⟨h1, h2.up, h3⟩
end Go.Proofs.Ytggahnipmlihlaa
