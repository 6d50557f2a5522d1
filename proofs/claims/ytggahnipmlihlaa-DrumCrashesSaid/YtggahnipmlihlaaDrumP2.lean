/- DrumPlays: every script is answered as the reference answers it. -/
import Derived.Test.YtggahnipmlihlaaRefS
namespace Go.Proofs.Ytggahnipmlihlaa
open Go.RowKit Go.Lig

/-- Two drums side by side, both of the call's own. -/
structure Pair (W w : World) (S T : Nat → Prop) (b b2 : Nat) (D : Dr) (R : RDr) (m : Nat) : Prop where
  d : DW W w S b D
  r : RW W w T b2 R
  sim : Sim D R
  dis : ∀ k, S k → ¬ T k
  wait : D.wait.length ≤ m
theorem Pair.nextNo {W w w' : World} {S T : Nat → Prop} {b b2 : Nat} {D : Dr} {R : RDr} {m : Nat} (h : Pair W w S T b b2 D R m) (f : Fr No w w') : Pair W w' S T b b2 D R m := ⟨h.d.nextNo f, h.r.nextNo f, h.sim, h.dis, h.wait⟩
theorem Pair.mid {W w w1 : World} {S T : Nat → Prop} {b b2 : Nat} {D : Dr} {R : RDr} {m : Nat} (h : Pair W w S T b b2 D R m) (f1 : Fr S w w1) : RW W w1 T b2 R := h.r.next f1 (fun k ht hs => h.dis k hs ht) (fun k hs => h.d.new k hs)
theorem Pair.step {W w w1 w2 : World} {S T : Nat → Prop} {b b2 : Nat} {D D' : Dr} {R R' : RDr} {m m' : Nat} (h : Pair W w S T b b2 D R m) (h1 : DrumAt w1 (Gr S w w1) b D') (f1 : Fr S w w1) (h2 : RefAt w2 (Gr T w1 w2) b2 R') (f2 : Fr T w1 w2)
    (sim : Sim D' R') (hw : D'.wait.length ≤ m') : Pair W w2 (Gr S w w1) (Gr T w1 w2) b b2 D' R' m' := by
  have r1 := h.mid f1
  have d1 := h.d.grow h1 f1
  have hs : ∀ k, Gr S w w1 k → k < w1.heap.size := h1.bound
  have ht : ∀ k, T k → k < w.heap.size := h.r.at_.bound
  refine ⟨d1.next f2 (fun k hk e => ?_) (fun k e => h.r.new k e), r1.grow h2 f2, sim, fun k hk e => ?_, hw⟩
  · rcases hk with hk | hk
    · exact h.dis k hk e
    · have := ht k e; omega
  · rcases e with e | e
    · rcases hk with hk | hk
      · exact h.dis k hk e
      · have := ht k e; omega
    · have := hs k hk; omega
theorem DrumAt.up {w w' : World} {S : Nat → Prop} {b : Nat} {D : Dr} (h : DrumAt w' S b D) : DrumAt w' (Gr S w w') b D := h.mono (fun k hk => .inl hk) (fun k hk => by rcases hk with hk | hk; exact h.bound k hk; exact hk.2)
theorem Pair.rwait {W w : World} {S T : Nat → Prop} {b b2 : Nat} {D : Dr} {R : RDr} {m : Nat} (h : Pair W w S T b b2 D R m) : R.wait.length ≤ m := by rw [h.sim.wait, List.length_map]; exact h.wait
theorem Pair.rlen {W w : World} {S T : Nat → Prop} {b b2 : Nat} {D : Dr} {R : RDr} {m : Nat} (h : Pair W w S T b b2 D R m) : R.S.length ≤ 200 ∧ R.old.length ≤ 200 ∧ ∀ x ∈ R.wait, x.1 < R.old.length := by
  have hn := h.d.at_.n_le
  have h1 := h.sim.len
  have h2 := h.sim.olen
  refine ⟨by omega, by omega, fun x hx => ?_⟩
  rw [h.sim.wait] at hx
  obtain ⟨y, hy, rfl⟩ := List.mem_map.1 hx
  have := h.sim.lt y hy
  show y.i < _
  omega
/-- the reference's half of a step, with the drum's answer -/
theorem Pair.rwrite {W w w1 : World} {S T : Nat → Prop} {b b2 : Nat} {D : Dr} {R : RDr} {m : Nat} (h : Pair W w S T b b2 D R m) (hm : m ≤ 1000000) (f1 : Fr S w w1) (i : Int) (pv : Value) (l : List UInt8) (hrd : Rd w1 pv l.length 1 (l.map u8v)) (hS : ∀ k, slBlock pv = some k → l.map u8v ≠ [] → ¬ T k) :
    Calls Try.prog 14 #[.pointer (some ⟨b2, 0, none⟩), .int .i64 i, pv] w1 fun e w' => e = .returned (.int .i64 (D.doWrite i l).1) ∧ RefAt w' (Gr T w1 w') b2 (R.doWrite i l).2 ∧ Fr T w1 w' := by
  rw [(h.sim.write h.d.at_.fuse_lo i l).1]
  exact rwrite_any w1 T b2 R (h.mid f1).at_ i pv l hrd hS (by have := h.rwait; omega)
theorem Pair.rsync {W w w1 : World} {S T : Nat → Prop} {b b2 : Nat} {D : Dr} {R : RDr} {m : Nat} (h : Pair W w S T b b2 D R m) (f1 : Fr S w w1) :
    Calls Try.prog 16 #[.pointer (some ⟨b2, 0, none⟩)] w1 fun e w' => e = .returned (.int .i64 D.doSync.1) ∧ RefAt w' (Gr T w1 w') b2 R.doSync.2 ∧ Fr T w1 w' := by
  rw [(h.sim.sync h.d.at_.fuse_lo).1]
  exact rsync_any w1 T b2 R (h.mid f1).at_ (by have := h.rlen.1; omega)
theorem doWrite_wait (D : Dr) (i : Int) (l : List UInt8) : (D.doWrite i l).2.wait.length ≤ D.wait.length + 1 := by
  have t2 := (Dr.tick_now D).2.1
  unfold Dr.doWrite
  split
  · split
    · simp only [t2]; omega
    · simp [Dr.put, t2]
  · simp only [t2]; omega
theorem doSync_wait (D : Dr) : D.doSync.2.wait.length ≤ D.wait.length + 1 := by
  have t2 := (Dr.tick_now D).2.1
  unfold Dr.doSync
  split
  · simp [Dr.sync]
  · simp only [t2]; omega
theorem Pair.start {W w1 w2 w3 : World} {S T : Nat → Prop} {b b2 : Nat} {D : Dr} {R : RDr} (h1 : DrumAt w2 (Gr No w1 w2) b D) (f1 : Fr No w1 w2) (h2 : RefAt w3 (Gr No w2 w3) b2 R) (f2 : Fr No w2 w3) (hW : Fr No W w1) (sim : Sim D R) (m : Nat) (hw : D.wait.length ≤ m) :
    Pair W w3 (Gr No w1 w2) (Gr No w2 w3) b b2 D R m := by
  have z1 := hW.size
  have z2 := f1.size
  refine ⟨⟨h1.frame f2 (fun _ _ e => e), (hW.thenNo f1).thenNo f2, fun k hk => ?_⟩, ⟨h2, (hW.thenNo f1).thenNo f2, fun k hk => ?_⟩, sim, fun k hk e => ?_, hw⟩
  · rcases hk with hk | hk; exact hk.elim; omega
  · rcases hk with hk | hk; exact hk.elim; omega
  · rcases hk with hk | hk; exact hk.elim
    rcases e with e | e; exact e.elim; omega

theorem plays_out (W : World) (n : Int) (ao : Option Addr) (m c : Nat) (l : List ActR) (hl : Acts W (.slice ao m c) l) (h : 20 < n) : Calls Try.prog 7 #[.int .i64 n, .slice ao m c] W fun e w' => e = .returned (.bool true) ∧ Fr No W w' := by
  have HL := hid hl
  clear hl
  go_enter Try.func7, Try.ntmps7
  go_wp2_with fail
  refine (long_any _ _ l HL.out).mono ?_
  rintro e w1 ⟨⟨bb, rfl⟩, f1⟩
  have F1 := hid f1
  clear f1
  cases bb
  all_goals
    go_wp2_with fail
    go_ret
    exact ⟨rfl, F1.out⟩
set_option maxRecDepth 100000 in
set_option maxHeartbeats 4000000 in
theorem plays_in (W : World) (n : Int) (h20 : n ≤ 20) (lv : Value) (l : List ActR) (hl : Acts W lv l) : Calls Try.prog 7 #[.int .i64 n, lv] W fun e w' => e = .returned (.bool true) ∧ Fr No W w' := by
  obtain ⟨ao, c, rfl, -⟩ := rd_len hl.at_
  have HL := hid hl
  clear hl
  go_enter Try.func7, Try.ntmps7
  go_wp2_with fail
  refine (long_any _ _ l HL.out).mono ?_
  rintro e w1 ⟨⟨bb, rfl⟩, f1⟩
  have F1 := hid f1
  clear f1
  cases bb
  case true =>
    go_wp2_with fail
    go_ret
    exact ⟨rfl, F1.out⟩
  case false =>
    go_wp2_with (first | (go_at_call 11; refine (new_any _ _).mono ?_; rintro e w2 ⟨b, rfl, h2, f2⟩; have H2 := hid (⟨h2, f2⟩ : _ ∧ _); clear h2 f2) | (go_at_call 12; refine (rnew_any _ _ (by omega)).mono ?_; rintro e w3 ⟨b2, rfl, h3, f3⟩; have H3 : Hid (Pair W w3 (Gr No w1 w2) (Gr No w2 w3) b b2 (Dr.new (clampN n)) (RDr.new n.toNat) 0) := hid (Pair.start (S := No) (T := No) H2.out.1 H2.out.2 h3 f3 F1.out (Sim.new n (by omega)) 0 (Nat.le_refl _)); clear h3 f3))
    go_loopw [5, 6, 7] (fun vd vx vi wr => ∃ (i : Nat) (b b2 : Nat), i ≤ l.length ∧ i ≤ 60 ∧ vd = .pointer (some ⟨b, 0, none⟩) ∧ vx = .pointer (some ⟨b2, 0, none⟩) ∧ vi = .int .i64 (i : Int) ∧ Hid (∃ S T D R, Pair W wr S T b b2 D R i)) (fun _ _ v _ => l.length - (intOf v).toNat)
    case atStart => exact ⟨0, b, b2, Nat.zero_le _, Nat.zero_le _, rfl, rfl, rfl, _, _, _, _, H3.out⟩
    case round =>
      clear H2 H3
      obtain ⟨i, b, b2, hil, hi60, rfl, rfl, rfl, hp⟩ := hrel
      obtain ⟨S, T, D, R, hpair⟩ := hp.out
      have HP := hid hpair
      clear hp hpair
      by_cases hlt : i < l.length
      · by_cases h60 : i < 60
        · obtain ⟨a, ha⟩ : ∃ a, l[i]? = some a := ⟨_, List.getElem?_eq_getElem hlt⟩
          obtain ⟨lb, lo, c', hlv, hlc, hcm, hok, hat⟩ := HL.out.at1 ha
          obtain ⟨rfl, rfl⟩ : ao = some ⟨lb, lo, none⟩ ∧ c = c' := by simpa using hlv
          obtain ⟨hc0, hc1, hc2, hc3⟩ := hat wr HP.out.d.fr
          obtain ⟨ap, cp, hpv, hpl⟩ := rd_len hok.p
          obtain ⟨ak, ck, hkv, hkl⟩ := rd_len hok.keep
          have hlb : lb < W.heap.size := World.block_lt_of_cell? W _ (hat W (Fr.refl _ _)).1
          have hp := hok.p
          have hk0 := hok.keep
          rw [hpv] at hp hc2
          rw [hkv] at hk0 hc3
          have hile := hok.i_le
          have HA := hid (⟨hp, hk0, hlb, fun w' f => (hat w' f).2.1⟩ : _ ∧ _ ∧ _ ∧ ∀ w', Fr No W w' → w'.cell? ⟨lb, lo + i * 4 + 1, none⟩ = some (.int .i64 a.i))
          clear hp hk0 hlb hpv hkv hok hat hlv
          by_cases hk1 : a.kind = 1
          · rw [hk1] at hc0
            go_wp2_with fail
            have hpd := HP.out.nextNo ((Fr.refl No wr).drew)
            have hpr : Rd wr.drew (.slice ap a.p.length cp) a.p.length 1 (a.p.map u8v) := HA.out.1.frame hpd.d.fr (fun _ _ e => e)
            have hSp : ∀ k, slBlock (.slice ap a.p.length cp) = some k → a.p.map u8v ≠ [] → k < W.heap.size := fun k hk hne => rd_block HA.out.1 hk hne
            have HD := hid (⟨hpd, hpr, hSp⟩ : _ ∧ _ ∧ _)
            have hlbd : lb < wr.drew.heap.size := Nat.lt_of_lt_of_le HA.out.2.2.1 hpd.d.fr.size
            clear hpd hpr hSp
            refine wp_region_sched (by kernel_rfl) 25 [11, 23] [0, 1, 2, 3, 4, 5, 6, 7, 8, 9, 10, 12, 13, 14, 15, 16, 17, 18, 19, 20, 21, 22, 11, 23, 24] (AgC [lb] wr.drew) (by kernel_rfl) (AgC.refl _ _) ?_
            simp only [List.map_cons, List.map_nil, List.contains_cons, List.contains_nil, Nat.reduceBEq, Bool.or_false, Bool.or_true, nth_zero, nth_succ]
            repeat (refine sched_quiet (fun K hK => ?_); go_simp; refine hK _ ?_; clear hK K)
            refine sched_call (by first | rfl | go_simp) 13 #[.pointer (some ⟨b, 0, none⟩), .int .i64 a.i, .slice ap a.p.length cp] (by first | kernel_rfl | go_simp) (write_any wr.drew S b D HD.out.1.d.at_ a.i _ a.p HD.out.2.1 (fun k hk hne e => by have := HD.out.2.2 k hk hne; have := HD.out.1.d.new k e; omega) (by have := HP.out.wait; omega)) ?_
            rintro e w7 ⟨rfl, h7, f7⟩
            have ha7 : AgC [lb] wr.drew w7 := (AgC.refl _ _).fr f7 (fun j hj => by rw [List.mem_singleton.1 hj]; exact ⟨hlbd, fun e => by have := HD.out.1.d.new _ e; have := HA.out.2.2.1; omega⟩)
            refine ⟨_, rfl, ha7, ?_⟩
            have hpr7 : Rd w7 (.slice ap a.p.length cp) a.p.length 1 (a.p.map u8v) := HD.out.2.1.frameE f7 (fun k hk hne e => by have := HD.out.2.2 k hk hne; have := HD.out.1.d.new k e; omega)
            have H7 := hid (⟨h7, f7, hpr7⟩ : _ ∧ _ ∧ _)
            clear h7 f7 hpr7
            refine sched_hide (fun K hK => ?_); go_simp; refine hK _ ?_; clear hK K
            refine sched_call (by first | rfl | go_simp) 14 #[.pointer (some ⟨b2, 0, none⟩), .int .i64 a.i, .slice ap a.p.length cp] (by first | kernel_rfl | go_simp) (HD.out.1.rwrite (by omega) H7.out.2.1 a.i _ a.p H7.out.2.2 (fun k hk hne e => by have := HD.out.2.2 k hk hne; have := HD.out.1.r.new k e; omega)) ?_
            rintro e w9 ⟨rfl, h8, f8⟩
            refine ⟨_, rfl, ha7.fr f8 (fun j hj => by rw [List.mem_singleton.1 hj]; exact ⟨hlbd, fun e => by have := HD.out.1.r.new _ e; have := HA.out.2.2.1; omega⟩), ?_⟩
            have HQ : Hid (∃ S T D R, Pair W w9 S T b b2 D R (i + 1)) := hid ⟨_, _, _, _, HD.out.1.step H7.out.1 H7.out.2.1 h8 f8 (HD.out.1.sim.write HD.out.1.d.at_.fuse_lo a.i a.p).2 (by have := doWrite_wait D a.i a.p; have := HP.out.wait; omega)⟩
            clear h8 f8 ha7
            generalize (D.doWrite a.i a.p).1 = cc
            repeat (refine sched_quiet (fun K hK => ?_); go_simp; refine hK _ ?_; clear hK K)
            refine sched_nil ?_
            go_wp2_with (go_at_call 20; obtain ⟨S9, T9, D9, R9, hp9⟩ := HQ.out; refine (alike_any w9 S9 b D9 hp9.d.at_ T9 b2 R9 hp9.r.at_ hp9.sim).mono ?_; rintro e w10 ⟨rfl, f10⟩; have HQ2 : Hid (∃ S T D R, Pair W w10 S T b b2 D R (i + 1)) := hid ⟨_, _, _, _, hp9.nextNo f10⟩; clear hp9 f10)
            go_roundw
            case rel => exact ⟨i + 1, _, _, by omega, by omega, rfl, rfl, by go_num, HQ2.out⟩
            case measure => simp [intOf]; omega
          · by_cases hk2 : a.kind = 2
            · rw [hk2] at hc0
              go_wp2_with (first | (go_at_call 15; refine (sync_any wr S b D HP.out.d.at_).mono ?_; rintro e w7 ⟨rfl, h7, f7⟩; have H7 := hid (⟨h7, f7⟩ : _ ∧ _); clear h7 f7) | (go_at_call 16; refine (HP.out.rsync H7.out.2).mono ?_; rintro e w9 ⟨rfl, h8, f8⟩; have HQ : Hid (∃ S T D R, Pair W w9 S T b b2 D R (i + 1)) := hid ⟨_, _, _, _, HP.out.step H7.out.1.up H7.out.2 h8 f8 (HP.out.sim.sync HP.out.d.at_.fuse_lo).2 (by have := doSync_wait D; have := HP.out.wait; omega)⟩; clear h8 f8; generalize D.doSync.1 = cc))
              go_wp2_with (go_at_call 20; obtain ⟨S9, T9, D9, R9, hp9⟩ := HQ.out; refine (alike_any w9 S9 b D9 hp9.d.at_ T9 b2 R9 hp9.r.at_ hp9.sim).mono ?_; rintro e w10 ⟨rfl, f10⟩; have HQ2 : Hid (∃ S T D R, Pair W w10 S T b b2 D R (i + 1)) := hid ⟨_, _, _, _, hp9.nextNo f10⟩; clear hp9 f10)
              go_roundw
              case rel => exact ⟨i + 1, _, _, by omega, by omega, rfl, rfl, by go_num, HQ2.out⟩
              case measure => simp [intOf]; omega
            · by_cases hk3 : a.kind = 3
              · rw [hk3] at hc0
                go_wp2_with (first | (go_at_call 24; refine (fuse_any wr S b D a.i hile HP.out.d.at_).mono ?_; rintro e w7 ⟨rfl, h7, f7⟩; have hc7 := HA.out.2.2.2 w7 (HP.out.d.same h7 f7).fr; have H7 := hid (⟨h7, f7⟩ : _ ∧ _); clear h7 f7) | (go_at_call 25; refine (rfuse_any w7 T b2 R a.i hile (HP.out.mid H7.out.2).at_).mono ?_; rintro e w9 ⟨rfl, h8, f8⟩; have HQ : Hid (∃ S T D R, Pair W w9 S T b b2 D R (i + 1)) := hid ⟨_, _, _, _, HP.out.step H7.out.1.up H7.out.2 h8.up f8 (HP.out.sim.fuse a.i) (by have := HP.out.wait; show D.wait.length ≤ i + 1; omega)⟩; clear h8 f8))
                go_wp2_with (go_at_call 20; obtain ⟨S9, T9, D9, R9, hp9⟩ := HQ.out; refine (alike_any w9 S9 b D9 hp9.d.at_ T9 b2 R9 hp9.r.at_ hp9.sim).mono ?_; rintro e w10 ⟨rfl, f10⟩; have HQ2 : Hid (∃ S T D R, Pair W w10 S T b b2 D R (i + 1)) := hid ⟨_, _, _, _, hp9.nextNo f10⟩; clear hp9 f10)
                go_roundw
                case rel => exact ⟨i + 1, _, _, by omega, by omega, rfl, rfl, by go_num, HQ2.out⟩
                case measure => simp [intOf]; omega
              · go_wp2_with fail
                have hpd := HP.out.nextNo ((Fr.refl No wr).drew)
                have hkr : Rd wr.drew (.slice ak a.keep.length ck) a.keep.length 1 (a.keep.map Value.bool) := HA.out.2.1.frame hpd.d.fr (fun _ _ e => e)
                have HD := hid (⟨hpd, hkr⟩ : _ ∧ _)
                have hlbd : lb < wr.drew.heap.size := Nat.lt_of_lt_of_le HA.out.2.2.1 hpd.d.fr.size
                clear hpd hkr
                refine wp_region_sched (by kernel_rfl) 16 [6, 13] [0, 1, 2, 3, 4, 5, 7, 8, 9, 10, 11, 12, 6, 13, 14, 15] (AgC [lb] wr.drew) (by kernel_rfl) (AgC.refl _ _) ?_
                simp only [List.map_cons, List.map_nil, List.contains_cons, List.contains_nil, Nat.reduceBEq, Bool.or_false, Bool.or_true, nth_zero, nth_succ]
                repeat (refine sched_quiet (fun K hK => ?_); go_simp; refine hK _ ?_; clear hK K)
                refine sched_call (by first | rfl | go_simp) 17 #[.pointer (some ⟨b, 0, none⟩), .slice ak a.keep.length ck] (by first | kernel_rfl | go_simp) (crash_any wr.drew S b D HD.out.1.d.at_ _ a.keep HD.out.2 (by have := HP.out.wait; omega)) ?_
                rintro e w7 ⟨bn, rfl, h7, f7⟩
                have hL : ∀ j ∈ [lb], j < wr.drew.heap.size ∧ ¬ No j := fun j hj => by rw [List.mem_singleton.1 hj]; exact ⟨hlbd, id⟩
                have ha7 : AgC [lb] wr.drew w7 := (AgC.refl _ _).fr f7 hL
                refine ⟨_, rfl, ha7, ?_⟩
                have H7 := hid (⟨h7, f7⟩ : _ ∧ _)
                clear h7 f7
                refine sched_hide (fun K hK => ?_); go_simp; refine hK _ ?_; clear hK K
                refine sched_call (by first | rfl | go_simp) 21 #[.pointer (some ⟨b2, 0, none⟩), .slice ak a.keep.length ck] (by first | kernel_rfl | go_simp) (rcrash_any w7 T b2 R (HD.out.1.nextNo H7.out.2).r.at_ _ a.keep (HD.out.2.frame H7.out.2 (fun _ _ e => e)) (by have := HP.out.rlen.2.1; omega) HP.out.rlen.2.2) ?_
                rintro e w9 ⟨bm, rfl, h8, f8⟩
                refine ⟨_, rfl, ha7.fr f8 hL, ?_⟩
                have HQ : Hid (∃ S T D R, Pair W w9 S T bn bm D R (i + 1)) := hid ⟨_, _, _, _, Pair.start (S := No) (T := No) H7.out.1 H7.out.2 h8 f8 HD.out.1.d.fr (HP.out.sim.crash a.keep) (i + 1) (Nat.zero_le _)⟩
                clear h8 f8 ha7 hL
                repeat (refine sched_quiet (fun K hK => ?_); go_simp; refine hK _ ?_; clear hK K)
                refine sched_nil ?_
                go_wp2_with (go_at_call 20; obtain ⟨S9, T9, D9, R9, hp9⟩ := HQ.out; refine (alike_any w9 S9 bn D9 hp9.d.at_ T9 bm R9 hp9.r.at_ hp9.sim).mono ?_; rintro e w10 ⟨rfl, f10⟩; have HQ2 : Hid (∃ S T D R, Pair W w10 S T bn bm D R (i + 1)) := hid ⟨_, _, _, _, hp9.nextNo f10⟩; clear hp9 f10)
                go_roundw
                case rel => exact ⟨i + 1, _, _, by omega, by omega, rfl, rfl, by go_num, HQ2.out⟩
                case measure => simp [intOf]; omega
        · go_wp2_with (go_at_call 22; refine (known_keeps HP.out.d.fr).mono ?_; rintro e w6 ⟨rfl, h6⟩; have H6 := hid h6; clear h6)
          go_ret
          exact ⟨rfl, H6.out⟩
      · go_wp2_with (go_at_call 22; refine (known_keeps HP.out.d.fr).mono ?_; rintro e w6 ⟨rfl, h6⟩; have H6 := hid h6; clear h6)
        go_ret
        exact ⟨rfl, H6.out⟩
theorem plays_any (W : World) (n : Int) (lv : Value) (l : List ActR) (hl : Acts W lv l) : Calls Try.prog 7 #[.int .i64 n, lv] W fun e w' => e = .returned (.bool true) ∧ Fr No W w' := by
  by_cases h : 20 < n
  · obtain ⟨ao, c, rfl, -⟩ := rd_len hl.at_
    exact plays_out W n ao _ c l hl h
  · exact plays_in W n (by omega) lv l hl
end Go.Proofs.Ytggahnipmlihlaa
