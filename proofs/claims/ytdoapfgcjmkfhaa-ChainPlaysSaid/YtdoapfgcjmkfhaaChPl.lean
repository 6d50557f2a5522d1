/- ChainPlays: the walk. -/
import Derived.Test.YtdoapfgcjmkfhaaChPa
namespace Go.Proofs.Ytdoapfgcjmkfhaa
open Go.RowKit Go.Lig

theorem CW.more {W w : World} {S : Nat → Prop} {c : Nat} {I : List (Int × Int)} {m : Nat} (h : CW W w S c I m) : CW W w S c I (m + 1) := by
  obtain ⟨B, ρ, ha, hs⟩ := h.at_.ex
  exact ⟨⟨⟨B, ρ, ⟨ha.nodup, ha.root, ha.rho, ha.bound, ha.croot, ha.cmap.more (by omega), ha.clist, fun k hk => (ha.clmap k hk).more (by omega), ha.clink⟩, hs⟩, h.at_.bound⟩, h.fr, h.new, Nat.le_succ_of_le h.len⟩
theorem acell_src {w : World} {a : ActR} {b o : Nat} (h : w.cell? ⟨b, o, none⟩ = some (.int .i64 a.kind) ∧ w.cell? ⟨b, o + 1, none⟩ = some (.int .i64 a.k) ∧ w.cell? ⟨b, o + 2, none⟩ = some (.int .i64 a.x)) :
    ∀ j u, (acell a)[j]? = some u → w.cell? ((⟨b, o, none⟩ : Addr).add j) = some u := fun j u hj => by
  have hjl : j < 3 := (List.getElem?_eq_some_iff.1 hj).1
  rw [Addr.add_mid]
  match j, hjl with
  | 0, _ => exact h.1.trans hj
  | 1, _ => exact h.2.1.trans hj
  | 2, _ => exact h.2.2.trans hj
theorem radd_b (w : World) (T : Nat → Prop) (b : Nat) (I : List (Int × Int)) (h : RL w T b I) (k x : Int) (hl : I.length ≤ 1000000) (bb : Bool) (hb : decide ((k, x) ∉ I) = bb) :
    Calls Try.prog 17 #[.pointer (some ⟨b, 0, none⟩), .int .i64 k, .int .i64 x] w fun e w' => e = .returned (.bool bb) ∧ ∃ T', RL w' T' b (addI I k x) ∧ Fr T w w' ∧ ∀ q, T' q → T q ∨ w.heap.size ≤ q := hb ▸ radd_any w T b I h k x hl
theorem rcut_b (w : World) (T : Nat → Prop) (b : Nat) (I : List (Int × Int)) (h : RL w T b I) (hnd : I.Nodup) (k x : Int) (hl : I.length ≤ 1000000) (bb : Bool) (hb : decide ((k, x) ∈ I) = bb) :
    Calls Try.prog 18 #[.pointer (some ⟨b, 0, none⟩), .int .i64 k, .int .i64 x] w fun e w' => e = .returned (.bool bb) ∧ ∃ T', RL w' T' b (cutI I k x) ∧ Fr T w w' ∧ ∀ q, T' q → T q ∨ w.heap.size ≤ q := hb ▸ rcut_any w T b I h hnd k x hl
theorem agc_no {L : List Nat} {w0 w w' : World} (h : AgC L w0 w) (f : Fr No w w') (hL : ∀ j ∈ L, j < w0.heap.size) : AgC L w0 w' := h.fr f (fun j hj => ⟨hL j hj, fun e => e⟩)
theorem underAct : Try.prog.underlying 36 = some (Try.prog.underlying 36).get! := by kernel_rfl
theorem sizeAct : (Try.prog.info? 36).map (·.size) = some 3 := by kernel_rfl
theorem infoAct : (Try.prog.info? 36).map (fun i => (i.zero, i.size, i.bytes)) = some (some (.agg #[.int .i64 0, .int .i64 0, .int .i64 0]), 3, 24) := by kernel_rfl
set_option maxRecDepth 100000 in
set_option maxHeartbeats 4000000 in
theorem plays_in (W : World) (lv : Value) (l : List ActR) (hl : Acts W lv l) (hlen : l.length ≤ 10000) :
    Calls Try.prog 4 #[lv] W fun e w' => e = .returned (.bool true) ∧ Fr No W w' := by
  obtain ⟨ao, co, rfl, -⟩ := rd_len hl.at_
  have HL := hid hl
  have t1 : ¬ (10000 : Int) < (l.length : Int) := by omega
  clear hl
  go_enter Try.func4, Try.ntmps4
  go_wp2_with fail
  refine (new_cw (Fr.refl No _)).mono ?_
  rintro e w1 ⟨c, S1, rfl, c1, f1, n1⟩
  have H1 := hid c1
  clear c1 f1 n1 t1
  go_wp2_with fail
  obtain ⟨b, hb⟩ : ∃ b, b = w1.heap.size := ⟨_, rfl⟩
  have HP0 := hid (show PL W (w1.alloc (.cells #[.slice none 0 0] 34)) S1 (fun q => q = w1.heap.size) c w1.heap.size [] 0 from
    ⟨H1.out.nextNo ((Fr.refl No w1).alloc _), ⟨⟨_, heap1 w1 _, World.ownsRow_nil _ _ _ _, fun _ e => (by cases e)⟩, rfl, fun k hk => by subst hk; simp⟩, fun k hk => by subst hk; exact H1.out.fr.size, fun k hk e => by have := H1.out.at_.bound k hk; omega⟩)
  rw [← hb] at HP0
  rw [← hb]
  clear hb H1
  go_loopw [5] (fun vi wr => ∃ (i : Nat), i ≤ l.length ∧ i ≤ 100 ∧ vi = .int .i64 (i : Int) ∧ Hid (∃ S T I, PL W wr S T c b I i)) (fun vi _ => l.length - (intOf vi).toNat)
  case atStart => exact ⟨0, Nat.zero_le _, Nat.zero_le _, rfl, _, _, _, HP0.out⟩
  case round =>
    clear HP0
    obtain ⟨i, hil, hi100, rfl, hp⟩ := hrel
    obtain ⟨S, T, I, hpl⟩ := hp.out
    have HP := hid hpl
    clear hp hpl
    by_cases hlt : i < l.length
    · by_cases h100 : i < 100
      · obtain ⟨a, ha⟩ : ∃ a, l[i]? = some a := ⟨_, List.getElem?_eq_getElem hlt⟩
        obtain ⟨lb, lo, c', hlv, hlb, hat⟩ := HL.out.at1 ha
        obtain ⟨rfl, rfl⟩ : ao = some ⟨lb, lo, none⟩ ∧ co = c' := by simpa using hlv
        have HA := hid (HL.out.each a (List.mem_of_getElem? ha))
        have HC := hid (hat wr HP.out.cw.fr)
        clear ha hlv hlb hat
        by_cases hk1 : a.kind = 1
        · have HK := hid hk1
          obtain ⟨bb, hbb0⟩ : ∃ bb, decide ((a.k, a.x) ∉ I) = bb := ⟨_, rfl⟩
          have HBB := hid hbb0
          clear hk1 hbb0
          go_wp2_with (first | (refine wpList_load_seg rfl 36 (.tmp 32) rfl _ underAct (by kernel_rfl) (acell a) sizeAct ⟨lb, lo + i * 3, none⟩ rfl (acell_src HC.out) ?_) | (refine wpList_local rfl rfl 36 6 (.tmp 33) rfl rfl rfl _ 3 24 infoAct rfl (fun _ => rfl) (.agg (acell a).toArray) (fun _ => rfl) (acell a) rfl rfl (acell_one a) ?_; intro w2 hB f2 z2; obtain ⟨B0, B1, B2⟩ := cells3 hB; rw [HK.out] at B0; have H2 := hid (⟨hB, f2, z2⟩ : _ ∧ _ ∧ _); clear hB f2 z2))
          obtain ⟨hB, f2, z2⟩ := H2.out
          have HP2 := hid (HP.out.nextNo f2)
          have HB := hid hB
          have HS2 := hid (show ∀ q, S q ∨ T q → q ≠ wr.heap.size from fun q hq e => by
            rcases hq with hq | hq
            · have := HP.out.cw.at_.bound q hq; omega
            · have := HP.out.rl.bound q hq; omega)
          generalize hBg : wr.heap.size = bB at *
          have hlB : Hid (bB < w2.heap.size) := hid (by omega)
          clear hB f2 z2 hBg H2
          refine wp_region_sched (by kernel_rfl) 13 [5, 11] [0, 1, 2, 3, 4, 6, 7, 8, 9, 10, 5, 11, 12] (AgC [bB] w2.drew) (by kernel_rfl) (AgC.refl _ _) ?_
          simp only [List.map_cons, List.map_nil, List.contains_cons, List.contains_nil, Nat.reduceBEq, Bool.or_false, Bool.or_true, nth_zero, nth_succ]
          repeat (refine sched_quiet (fun K hK => ?_); go_simp; refine hK _ ?_; clear hK K)
          refine sched_call (by first | rfl | go_simp) 10 #[.pointer (some ⟨c, 0, none⟩), .int .i64 a.k, .int .i64 a.x] (by first | kernel_rfl | go_simp) (add_cw (HP2.out.nextNo (Fr.refl No w2).drew).cw a.k a.x HA.out.1 HA.out.2 (by omega) bb HBB.out) ?_
          rintro e w4 ⟨S4, rfl, h4, f4, n4⟩
          have a4 : AgC [bB] w2.drew w4 := (AgC.refl _ _).fr f4 (fun j hj => by rw [List.mem_singleton.1 hj]; exact ⟨hlB.out, fun e => HS2.out bB (.inl e) rfl⟩)
          refine ⟨_, rfl, a4, ?_⟩
          have H4 := hid (⟨h4, f4, n4⟩ : _ ∧ _ ∧ _)
          have hB4 := f4.keep (w := w2.drew) HB.out (fun e => HS2.out bB (.inl e) rfl)
          have HB4 := hid hB4
          clear h4 f4 n4 hB4
          refine sched_hide (fun K hK => ?_); go_simp; refine hK _ ?_; clear hK K
          have hIl := hid HP2.out.cw.len
          refine sched_call (by first | rfl | go_simp) 17 #[.pointer (some ⟨b, 0, none⟩), .int .i64 a.k, .int .i64 a.x] (by first | kernel_rfl | go_simp) (radd_b w4 T b I ((HP2.out.nextNo (Fr.refl No w2).drew).mid H4.out.2.1) a.k a.x (by have := hIl.out; omega) bb HBB.out) ?_
          rintro e w5 ⟨rfl, T5, h5, f5, n5⟩
          refine ⟨_, rfl, a4.fr f5 (fun j hj => by rw [List.mem_singleton.1 hj]; exact ⟨hlB.out, fun e => HS2.out bB (.inr e) rfl⟩), ?_⟩
          have HP5 := hid ((HP2.out.nextNo (Fr.refl No w2).drew).both H4.out.1 H4.out.2.1 H4.out.2.2 h5 f5 n5)
          have HB5 := hid (f5.keep HB4.out (fun e => HS2.out bB (.inr e) rfl))
          clear h5 f5 n5 a4
          have hbb : (bb != bb) = false := by simp
          have hbb2 : (bb == bb) = true := by simp
          generalize hI5 : addI I a.k a.x = I5 at HP5
          repeat (refine sched_quiet (fun K hK => ?_); go_simp; refine hK _ ?_; clear hK K)
          refine sched_nil ?_
          obtain ⟨B0', B1', B2'⟩ := cells3 HB5.out
          clear B0 B1 B2 B0' B2' hI5
          go_wp2_with fail
          have hpd := HP5.out.nodup
          have hlm := HP5.out.cw.len
          have hIl : Hid (I5.length ≤ 1000000) := hid (by omega)
          clear hpd
          refine (rwalk_any w5 T5 b I5 HP5.out.rl a.k hIl.out).mono ?_
          rintro e w6 ⟨v6, rfl, o6⟩
          have HP6 := hid (HP5.out.nextNo o6.fr)
          have hB6 := o6.fr.keep HB5.out (fun e => e)
          have O6 := hid o6
          obtain ⟨B0, B1, B2⟩ := cells3 hB6
          obtain ⟨vI, i1, i2, -⟩ := HP6.out.rl.ex
          obtain ⟨aI, cI, rfl⟩ := ownsRow_slice i2
          have i0 := cells1 i1
          have hbb := HP6.out.rl.bound b HP6.out.rl.root
          have hBB := lt_of_block hB6
          have HL6 : Hid (∀ j ∈ [bB, b], j < w6.drew.heap.size) := hid (fun j hj => by
            rcases List.mem_cons.1 hj with rfl | hj
            · exact hBB
            · rw [List.mem_singleton.1 hj]; exact hbb)
          have hIl5 := hid hlm
          clear o6 i1 i2 B0 B2 hbb hBB hB6 hlm
          go_wp2_with fail
          refine wp_region_sched (by kernel_rfl) 27 [3, 5, 11, 13, 14, 19] [0, 1, 2, 4, 3, 5, 6, 7, 8, 9, 10, 12, 11, 13, 14, 15, 16, 17, 18, 20, 21, 22, 23, 24, 19, 25, 26] (AgC [bB, b] w6.drew) (by kernel_rfl) (AgC.refl _ _) ?_
          simp only [List.map_cons, List.map_nil, List.contains_cons, List.contains_nil, Nat.reduceBEq, Bool.or_false, Bool.or_true, nth_zero, nth_succ]
          repeat (refine sched_quiet (fun K hK => ?_); go_simp; refine hK _ ?_; clear hK K)
          have HP6d := hid (HP6.out.nextNo (Fr.refl No w6).drew)
          refine sched_call (by first | rfl | go_simp) 13 #[.pointer (some ⟨c, 0, none⟩), .int .i64 a.k] (by first | kernel_rfl | go_simp) (walk_cw HP6d.out.cw a.k HA.out.1 (by omega)) ?_
          rintro e w7 ⟨v7, rfl, o7⟩
          have a7 := agc_no (AgC.refl [bB, b] w6.drew) o7.fr HL6.out
          refine ⟨_, rfl, a7, ?_⟩
          have O7 := hid o7
          clear o7
          repeat (refine sched_quiet (fun K hK => ?_); go_simp; refine hK _ ?_; clear hK K)
          refine sched_call (by first | rfl | go_simp) 12 #[v7, v6] (by first | kernel_rfl | go_simp) (same_cw O7.out.rd (O6.out.next ((Fr.refl No w6).drew.thenNo O7.out.fr)).rd true (decide_eq_true rfl)) ?_
          rintro e w8 ⟨rfl, f8⟩
          have a8 := agc_no a7 f8 HL6.out
          refine ⟨_, rfl, a8, ?_⟩
          have F8 := hid (((Fr.refl No w6).drew.thenNo O7.out.fr).thenNo f8)
          clear f8 a7
          repeat (refine sched_quiet (fun K hK => ?_); go_simp; refine hK _ ?_; clear hK K)
          refine sched_call (by first | rfl | go_simp) 14 #[.pointer (some ⟨c, 0, none⟩), .int .i64 a.k] (by first | kernel_rfl | go_simp) (back_cw (HP6.out.nextNo F8.out).cw a.k HA.out.1 (by omega)) ?_
          rintro e w9 ⟨v9, rfl, o9⟩
          have a9 := agc_no a8 o9.fr HL6.out
          refine ⟨_, rfl, a9, ?_⟩
          have O9 := hid o9
          clear o9 a8
          repeat (refine sched_quiet (fun K hK => ?_); go_simp; refine hK _ ?_; clear hK K)
          refine sched_call (by first | rfl | go_simp) 15 #[v6] (by first | kernel_rfl | go_simp) (turned_any w9 v6 (ids I5 a.k) (O6.out.next (F8.out.thenNo O9.out.fr)).rd (by have := ids_le I5 a.k; have := hIl.out; omega)) ?_
          rintro e w10 ⟨v10, rfl, o10⟩
          have a10 := agc_no a9 o10.fr HL6.out
          refine ⟨_, rfl, a10, ?_⟩
          have O10 := hid o10
          clear o10 a9
          repeat (refine sched_quiet (fun K hK => ?_); go_simp; refine hK _ ?_; clear hK K)
          refine sched_call (by first | rfl | go_simp) 12 #[v9, v10] (by first | kernel_rfl | go_simp) (same_cw (O9.out.next O10.out.fr).rd O10.out.rd true (decide_eq_true rfl)) ?_
          rintro e w11 ⟨rfl, f11⟩
          have a11 := agc_no a10 f11 HL6.out
          refine ⟨_, rfl, a11, ?_⟩
          have F11 := hid (((F8.out.thenNo O9.out.fr).thenNo O10.out.fr).thenNo f11)
          clear f11 a10
          repeat (refine sched_quiet (fun K hK => ?_); go_simp; refine hK _ ?_; clear hK K)
          refine sched_call (by first | rfl | go_simp) 20 #[.pointer (some ⟨c, 0, none⟩)] (by first | kernel_rfl | go_simp) (len_cw (HP6.out.nextNo F11.out).cw (I5.length : Int) rfl) ?_
          rintro e w12 ⟨rfl, rfl⟩
          refine ⟨_, rfl, a11, ?_⟩
          have HP12 := hid (HP6.out.nextNo F11.out)
          clear a11
          repeat (refine sched_quiet (fun K hK => ?_); go_simp; refine hK _ ?_; clear hK K)
          refine sched_nil ?_
          clear i0 B1
          go_wp2_with fail
          go_roundw
          case rel => exact ⟨i + 1, by omega, by omega, by go_num, _, _, _, HP12.out⟩
          case measure => simp [intOf]; omega
        · have hkf : ((a.kind : Int) == 1) = false := by rw [beq_eq_false_iff_ne]; exact hk1
          obtain ⟨bb, hbb0⟩ : ∃ bb, decide ((a.k, a.x) ∈ I) = bb := ⟨_, rfl⟩
          have HBB := hid hbb0
          clear hk1 hbb0
          go_wp2_with (first | (refine wpList_load_seg rfl 36 (.tmp 32) rfl _ underAct (by kernel_rfl) (acell a) sizeAct ⟨lb, lo + i * 3, none⟩ rfl (acell_src HC.out) ?_) | (refine wpList_local rfl rfl 36 6 (.tmp 33) rfl rfl rfl _ 3 24 infoAct rfl (fun _ => rfl) (.agg (acell a).toArray) (fun _ => rfl) (acell a) rfl rfl (acell_one a) ?_; intro w2 hB f2 z2; obtain ⟨B0, B1, B2⟩ := cells3 hB; skip; have H2 := hid (⟨hB, f2, z2⟩ : _ ∧ _ ∧ _); clear hB f2 z2))
          obtain ⟨hB, f2, z2⟩ := H2.out
          have HP2 := hid (HP.out.nextNo f2)
          have HB := hid hB
          have HS2 := hid (show ∀ q, S q ∨ T q → q ≠ wr.heap.size from fun q hq e => by
            rcases hq with hq | hq
            · have := HP.out.cw.at_.bound q hq; omega
            · have := HP.out.rl.bound q hq; omega)
          generalize hBg : wr.heap.size = bB at *
          have hlB : Hid (bB < w2.heap.size) := hid (by omega)
          clear hB f2 z2 hBg H2
          refine wp_region_sched (by kernel_rfl) 13 [5, 11] [0, 1, 2, 3, 4, 6, 7, 8, 9, 10, 5, 11, 12] (AgC [bB] w2.drew) (by kernel_rfl) (AgC.refl _ _) ?_
          simp only [List.map_cons, List.map_nil, List.contains_cons, List.contains_nil, Nat.reduceBEq, Bool.or_false, Bool.or_true, nth_zero, nth_succ]
          repeat (refine sched_quiet (fun K hK => ?_); go_simp; refine hK _ ?_; clear hK K)
          refine sched_call (by first | rfl | go_simp) 11 #[.pointer (some ⟨c, 0, none⟩), .int .i64 a.k, .int .i64 a.x] (by first | kernel_rfl | go_simp) (cut_cw (HP2.out.nextNo (Fr.refl No w2).drew).cw a.k a.x HA.out.1 HA.out.2 (by omega) bb HBB.out) ?_
          rintro e w4 ⟨rfl, h4, f4⟩
          have a4 : AgC [bB] w2.drew w4 := (AgC.refl _ _).fr f4 (fun j hj => by rw [List.mem_singleton.1 hj]; exact ⟨hlB.out, fun e => HS2.out bB (.inl e) rfl⟩)
          refine ⟨_, rfl, a4, ?_⟩
          have H4 := hid (⟨h4.more, f4⟩ : _ ∧ _)
          have hB4 := f4.keep (w := w2.drew) HB.out (fun e => HS2.out bB (.inl e) rfl)
          have HB4 := hid hB4
          clear h4 f4 hB4
          refine sched_hide (fun K hK => ?_); go_simp; refine hK _ ?_; clear hK K
          have hIl := hid HP2.out.cw.len
          refine sched_call (by first | rfl | go_simp) 18 #[.pointer (some ⟨b, 0, none⟩), .int .i64 a.k, .int .i64 a.x] (by first | kernel_rfl | go_simp) (rcut_b w4 T b I ((HP2.out.nextNo (Fr.refl No w2).drew).mid H4.out.2) HP2.out.nodup a.k a.x (by have := hIl.out; omega) bb HBB.out) ?_
          rintro e w5 ⟨rfl, T5, h5, f5, n5⟩
          refine ⟨_, rfl, a4.fr f5 (fun j hj => by rw [List.mem_singleton.1 hj]; exact ⟨hlB.out, fun e => HS2.out bB (.inr e) rfl⟩), ?_⟩
          have HP5 := hid ((HP2.out.nextNo (Fr.refl No w2).drew).both H4.out.1 H4.out.2 (fun _ h => .inl h) h5 f5 n5)
          have HB5 := hid (f5.keep HB4.out (fun e => HS2.out bB (.inr e) rfl))
          clear h5 f5 n5 a4
          have hbb : (bb != bb) = false := by simp
          have hbb2 : (bb == bb) = true := by simp
          generalize hI5 : cutI I a.k a.x = I5 at HP5
          repeat (refine sched_quiet (fun K hK => ?_); go_simp; refine hK _ ?_; clear hK K)
          refine sched_nil ?_
          obtain ⟨B0', B1', B2'⟩ := cells3 HB5.out
          clear B0 B1 B2 B0' B2' hI5
          go_wp2_with fail
          have hpd := HP5.out.nodup
          have hlm := HP5.out.cw.len
          have hIl : Hid (I5.length ≤ 1000000) := hid (by omega)
          clear hpd
          refine (rwalk_any w5 T5 b I5 HP5.out.rl a.k hIl.out).mono ?_
          rintro e w6 ⟨v6, rfl, o6⟩
          have HP6 := hid (HP5.out.nextNo o6.fr)
          have hB6 := o6.fr.keep HB5.out (fun e => e)
          have O6 := hid o6
          obtain ⟨B0, B1, B2⟩ := cells3 hB6
          obtain ⟨vI, i1, i2, -⟩ := HP6.out.rl.ex
          obtain ⟨aI, cI, rfl⟩ := ownsRow_slice i2
          have i0 := cells1 i1
          have hbb := HP6.out.rl.bound b HP6.out.rl.root
          have hBB := lt_of_block hB6
          have HL6 : Hid (∀ j ∈ [bB, b], j < w6.drew.heap.size) := hid (fun j hj => by
            rcases List.mem_cons.1 hj with rfl | hj
            · exact hBB
            · rw [List.mem_singleton.1 hj]; exact hbb)
          have hIl5 := hid hlm
          clear o6 i1 i2 B0 B2 hbb hBB hB6 hlm
          go_wp2_with fail
          refine wp_region_sched (by kernel_rfl) 27 [3, 5, 11, 13, 14, 19] [0, 1, 2, 4, 3, 5, 6, 7, 8, 9, 10, 12, 11, 13, 14, 15, 16, 17, 18, 20, 21, 22, 23, 24, 19, 25, 26] (AgC [bB, b] w6.drew) (by kernel_rfl) (AgC.refl _ _) ?_
          simp only [List.map_cons, List.map_nil, List.contains_cons, List.contains_nil, Nat.reduceBEq, Bool.or_false, Bool.or_true, nth_zero, nth_succ]
          repeat (refine sched_quiet (fun K hK => ?_); go_simp; refine hK _ ?_; clear hK K)
          have HP6d := hid (HP6.out.nextNo (Fr.refl No w6).drew)
          refine sched_call (by first | rfl | go_simp) 13 #[.pointer (some ⟨c, 0, none⟩), .int .i64 a.k] (by first | kernel_rfl | go_simp) (walk_cw HP6d.out.cw a.k HA.out.1 (by omega)) ?_
          rintro e w7 ⟨v7, rfl, o7⟩
          have a7 := agc_no (AgC.refl [bB, b] w6.drew) o7.fr HL6.out
          refine ⟨_, rfl, a7, ?_⟩
          have O7 := hid o7
          clear o7
          repeat (refine sched_quiet (fun K hK => ?_); go_simp; refine hK _ ?_; clear hK K)
          refine sched_call (by first | rfl | go_simp) 12 #[v7, v6] (by first | kernel_rfl | go_simp) (same_cw O7.out.rd (O6.out.next ((Fr.refl No w6).drew.thenNo O7.out.fr)).rd true (decide_eq_true rfl)) ?_
          rintro e w8 ⟨rfl, f8⟩
          have a8 := agc_no a7 f8 HL6.out
          refine ⟨_, rfl, a8, ?_⟩
          have F8 := hid (((Fr.refl No w6).drew.thenNo O7.out.fr).thenNo f8)
          clear f8 a7
          repeat (refine sched_quiet (fun K hK => ?_); go_simp; refine hK _ ?_; clear hK K)
          refine sched_call (by first | rfl | go_simp) 14 #[.pointer (some ⟨c, 0, none⟩), .int .i64 a.k] (by first | kernel_rfl | go_simp) (back_cw (HP6.out.nextNo F8.out).cw a.k HA.out.1 (by omega)) ?_
          rintro e w9 ⟨v9, rfl, o9⟩
          have a9 := agc_no a8 o9.fr HL6.out
          refine ⟨_, rfl, a9, ?_⟩
          have O9 := hid o9
          clear o9 a8
          repeat (refine sched_quiet (fun K hK => ?_); go_simp; refine hK _ ?_; clear hK K)
          refine sched_call (by first | rfl | go_simp) 15 #[v6] (by first | kernel_rfl | go_simp) (turned_any w9 v6 (ids I5 a.k) (O6.out.next (F8.out.thenNo O9.out.fr)).rd (by have := ids_le I5 a.k; have := hIl.out; omega)) ?_
          rintro e w10 ⟨v10, rfl, o10⟩
          have a10 := agc_no a9 o10.fr HL6.out
          refine ⟨_, rfl, a10, ?_⟩
          have O10 := hid o10
          clear o10 a9
          repeat (refine sched_quiet (fun K hK => ?_); go_simp; refine hK _ ?_; clear hK K)
          refine sched_call (by first | rfl | go_simp) 12 #[v9, v10] (by first | kernel_rfl | go_simp) (same_cw (O9.out.next O10.out.fr).rd O10.out.rd true (decide_eq_true rfl)) ?_
          rintro e w11 ⟨rfl, f11⟩
          have a11 := agc_no a10 f11 HL6.out
          refine ⟨_, rfl, a11, ?_⟩
          have F11 := hid (((F8.out.thenNo O9.out.fr).thenNo O10.out.fr).thenNo f11)
          clear f11 a10
          repeat (refine sched_quiet (fun K hK => ?_); go_simp; refine hK _ ?_; clear hK K)
          refine sched_call (by first | rfl | go_simp) 20 #[.pointer (some ⟨c, 0, none⟩)] (by first | kernel_rfl | go_simp) (len_cw (HP6.out.nextNo F11.out).cw (I5.length : Int) rfl) ?_
          rintro e w12 ⟨rfl, rfl⟩
          refine ⟨_, rfl, a11, ?_⟩
          have HP12 := hid (HP6.out.nextNo F11.out)
          clear a11
          repeat (refine sched_quiet (fun K hK => ?_); go_simp; refine hK _ ?_; clear hK K)
          refine sched_nil ?_
          clear i0 B1
          go_wp2_with fail
          go_roundw
          case rel => exact ⟨i + 1, by omega, by omega, by go_num, _, _, _, HP12.out⟩
          case measure => simp [intOf]; omega
      · obtain rfl : i = 100 := by omega
        obtain ⟨wo, rfl⟩ : ∃ wo : World, wo = wr := ⟨_, rfl⟩
        go_wp2_with fail
        go_loopw [8] (fun vi wr => ∃ (i2 : Nat), i2 ≤ l.length ∧ i2 ≤ 100 ∧ vi = .int .i64 (i2 : Int) ∧ Hid (PL W wr S T c b I 100)) (fun vi _ => l.length - (intOf vi).toNat)
        case atStart => exact ⟨0, Nat.zero_le _, Nat.zero_le _, rfl, HP.out⟩
        case round =>
          clear HP
          obtain ⟨i2, hil2, hi2, rfl, HP⟩ := hrel
          by_cases hlt2 : i2 < l.length
          · by_cases h100b : i2 < 100
            · obtain ⟨a, ha⟩ : ∃ a, l[i2]? = some a := ⟨_, List.getElem?_eq_getElem hlt2⟩
              obtain ⟨lb, lo, c', hlv, hlb, hat⟩ := HL.out.at1 ha
              obtain ⟨rfl, rfl⟩ : ao = some ⟨lb, lo, none⟩ ∧ co = c' := by simpa using hlv
              have HA := hid (HL.out.each a (List.mem_of_getElem? ha))
              have HC := hid (⟨fun w' hf => (hat w' hf).2, hlb⟩ : (∀ w', Fr No W w' → w'.cell? ⟨lb, lo + i2 * 3 + 1, none⟩ = some (.int .i64 a.k) ∧ w'.cell? ⟨lb, lo + i2 * 3 + 2, none⟩ = some (.int .i64 a.x)) ∧ lb < W.heap.size)
              obtain ⟨l1, l2⟩ := HC.out.1 wr HP.out.cw.fr
              have hIl : Hid (I.length ≤ 1000000) := hid (by have := HP.out.cw.len; omega)
              clear ha hlv hlb hat l2
              go_wp2_with fail
              refine (rwalk_any wr T b I HP.out.rl a.k hIl.out).mono ?_
              rintro e w6 ⟨v6, rfl, o6⟩
              have HP6 := hid (HP.out.nextNo o6.fr)
              obtain ⟨L, hL⟩ : ∃ L, L = ids I a.k := ⟨_, rfl⟩
              rw [← hL] at o6
              have HIL := hid hL
              have hLl : L.length ≤ 1000000 := by rw [hL]; have := ids_le I a.k; have := hIl.out; omega
              obtain ⟨a6, c6, rfl⟩ := ownsRow_slice o6.row
              have O6 := hid o6
              clear o6 hL l1
              go_wp2_with fail
              obtain ⟨wo9, hwo9⟩ : ∃ wo9 : World, wo9 = wr := ⟨_, rfl⟩
              clear hwo9
              go_loopw [9, 11] (fun vin vk wx => ∃ (k : Nat), k ≤ L.length ∧ vin = .bool (decide (a.x ∈ L.take k)) ∧ vk = .int .i64 (k : Int) ∧ Hid (Fr No w6 wx)) (fun _ vk _ => L.length - (intOf vk).toNat)
              case atStart => exact ⟨0, Nat.zero_le _, by simp, rfl, Fr.refl _ _⟩
              case round =>
                obtain ⟨k, hk, rfl, rfl, hF⟩ := hrel
                by_cases hlk : k < L.length
                · obtain ⟨y, hy⟩ : ∃ y, L[k]? = some y := ⟨_, List.getElem?_eq_getElem hlk⟩
                  have hro := fd_owns O6.out.row hF.out
                  obtain ⟨g, cur, rfl, -, hg, -⟩ := owns_at hro (by omega)
                  have y0 : wr.cell? ⟨g, k, none⟩ = some (.int .i64 y) := owns_cell hro rfl (by simp [hy, iv])
                  have l2 := (HC.out.1 wr (HP6.out.cw.fr.thenNo hF.out)).2
                  have hLB : Hid (∀ j ∈ [g, lb], j < wr.drew.heap.size) := hid (fun j hj => by
                    rcases List.mem_cons.1 hj with rfl | hj
                    · exact lt_of_block hg
                    · rw [List.mem_singleton.1 hj]; have := HC.out.2; have := (HP6.out.cw.fr.thenNo hF.out).size; exact Nat.lt_of_lt_of_le HC.out.2 this)
                  have htk := hid (take_snoc hy)
                  clear hro hg hy
                  by_cases hin : a.x ∈ L.take k
                  · rw [decide_eq_true hin]
                    have HN := hid (show decide (a.x ∈ L.take (k + 1)) = true from decide_eq_true (by rw [htk.out]; exact List.mem_append_left _ hin))
                    clear hin
                    go_wp2_with fail
                    refine wp_region_sched (by kernel_rfl) 14 [] [0, 1, 2, 3, 4, 5, 6, 7, 8, 9, 10, 11, 12, 13] (AgC [g, lb] wr.drew) (by kernel_rfl) (AgC.refl _ _) ?_
                    simp only [List.map_cons, List.map_nil, List.contains_nil, nth_zero, nth_succ]
                    repeat (refine sched_quiet (fun K hK => ?_); go_simp; refine hK _ ?_; clear hK K)
                    refine sched_nil ?_
                    go_wp2_with fail
                    go_roundw
                    case rel => exact ⟨k + 1, by omega, by rw [HN.out], by go_num, hF.out.drew⟩
                    case measure => simp [intOf]; omega
                  · rw [decide_eq_false hin]
                    by_cases hyx : y = a.x
                    · have HN := hid (show decide (a.x ∈ L.take (k + 1)) = true from decide_eq_true (by rw [htk.out, hyx]; simp))
                      have n1 : ((y : Int) == a.x) = true := by rw [beq_iff_eq]; exact hyx
                      clear hin hyx
                      go_wp2_with fail
                      refine wp_region_sched (by kernel_rfl) 14 [] [0, 1, 2, 3, 4, 5, 6, 7, 8, 9, 10, 11, 12, 13] (AgC [g, lb] wr.drew) (by kernel_rfl) (AgC.refl _ _) ?_
                      simp only [List.map_cons, List.map_nil, List.contains_nil, nth_zero, nth_succ]
                      repeat (refine sched_quiet (fun K hK => ?_); go_simp; refine hK _ ?_; clear hK K)
                      refine sched_nil ?_
                      go_wp2_with fail
                      go_roundw
                      case rel => exact ⟨k + 1, by omega, by rw [HN.out], by go_num, hF.out.drew⟩
                      case measure => simp [intOf]; omega
                    · have HN := hid (show decide (a.x ∈ L.take (k + 1)) = false from decide_eq_false (by rw [htk.out]; intro e; rcases List.mem_append.1 e with e | e; exact hin e; exact hyx (List.mem_singleton.1 e).symm))
                      have n1 : ((y : Int) == a.x) = false := by rw [beq_eq_false_iff_ne]; exact hyx
                      clear hin hyx
                      go_wp2_with fail
                      refine wp_region_sched (by kernel_rfl) 14 [] [0, 1, 2, 3, 4, 5, 6, 7, 8, 9, 10, 11, 12, 13] (AgC [g, lb] wr.drew) (by kernel_rfl) (AgC.refl _ _) ?_
                      simp only [List.map_cons, List.map_nil, List.contains_nil, nth_zero, nth_succ]
                      repeat (refine sched_quiet (fun K hK => ?_); go_simp; refine hK _ ?_; clear hK K)
                      refine sched_nil ?_
                      go_wp2_with fail
                      go_roundw
                      case rel => exact ⟨k + 1, by omega, by rw [HN.out], by go_num, hF.out.drew⟩
                      case measure => simp [intOf]; omega
                · obtain rfl : k = L.length := by omega
                  rw [List.take_length]
                  obtain ⟨bb, hbb0⟩ : ∃ bb, decide (a.x ∈ ids I a.k) = bb := ⟨_, rfl⟩
                  rw [show decide (a.x ∈ L) = bb by rw [HIL.out]; exact hbb0]
                  have HBB := hid hbb0
                  have hbb : (bb != bb) = false := by simp
                  have hbb2 : (bb == bb) = true := by simp
                  have HP7 := hid (HP6.out.nextNo (hF.out.drew))
                  have O7 := hid (O6.out.next hF.out.drew)
                  obtain ⟨l1, l2⟩ := HC.out.1 wr (HP6.out.cw.fr.thenNo hF.out)
                  have hLB : Hid (∀ j ∈ [lb], j < wr.drew.heap.size) := hid (fun j hj => by
                    rw [List.mem_singleton.1 hj]; have := HC.out.2; have := (HP6.out.cw.fr.thenNo hF.out).size; exact Nat.lt_of_lt_of_le HC.out.2 this)
                  clear hbb0 hlk
                  go_wp2_with fail
                  refine wp_region_sched (by kernel_rfl) 26 [11, 21, 23] [0, 1, 2, 3, 4, 5, 6, 7, 8, 9, 10, 12, 11, 13, 14, 15, 16, 17, 18, 19, 20, 22, 21, 23, 24, 25] (AgC [lb] wr.drew) (by kernel_rfl) (AgC.refl _ _) ?_
                  simp only [List.map_cons, List.map_nil, List.contains_cons, List.contains_nil, Nat.reduceBEq, Bool.or_false, Bool.or_true, nth_zero, nth_succ]
                  repeat (refine sched_quiet (fun K hK => ?_); go_simp; refine hK _ ?_; clear hK K)
                  refine sched_call (by first | rfl | go_simp) 21 #[.pointer (some ⟨c, 0, none⟩), .int .i64 a.k, .int .i64 a.x] (by first | kernel_rfl | go_simp) (has_cw HP7.out.cw a.k a.x HA.out.1 HA.out.2 bb HBB.out) ?_
                  rintro e w8 ⟨rfl, rfl⟩
                  refine ⟨_, rfl, AgC.refl _ _, ?_⟩
                  repeat (refine sched_quiet (fun K hK => ?_); go_simp; refine hK _ ?_; clear hK K)
                  refine sched_call (by first | rfl | go_simp) 13 #[.pointer (some ⟨c, 0, none⟩), .int .i64 a.k] (by first | kernel_rfl | go_simp) (walk_cw HP7.out.cw a.k HA.out.1 (by omega)) ?_
                  rintro e w9 ⟨v9, rfl, o9⟩
                  have a9 := agc_no (AgC.refl [lb] wr.drew) o9.fr hLB.out
                  refine ⟨_, rfl, a9, ?_⟩
                  have O9 := hid o9
                  clear o9
                  repeat (refine sched_quiet (fun K hK => ?_); go_simp; refine hK _ ?_; clear hK K)
                  refine sched_call (by first | rfl | go_simp) 12 #[v9, .slice a6 L.length c6] (by first | kernel_rfl | go_simp) (same_cw O9.out.rd (O7.out.next O9.out.fr).rd true (decide_eq_true HIL.out.symm)) ?_
                  rintro e w10 ⟨rfl, f10⟩
                  refine ⟨_, rfl, agc_no a9 f10 hLB.out, ?_⟩
                  have HP10 := hid (HP7.out.nextNo (O9.out.fr.thenNo f10))
                  clear f10 a9
                  repeat (refine sched_quiet (fun K hK => ?_); go_simp; refine hK _ ?_; clear hK K)
                  refine sched_nil ?_
                  clear l1 l2
                  go_wp2_with fail
                  go_roundw
                  case rel => exact ⟨i2 + 1, by omega, by omega, by go_num, HP10.out⟩
                  case measure => simp [intOf]; omega
            · obtain rfl : i2 = 100 := by omega
              go_wp2_with fail
              refine (known_any _).mono ?_
              rintro e w14 ⟨rfl, f14⟩
              have H14 := hid (HP.out.cw.fr.thenNo f14)
              clear f14
              go_wp2_with fail
              go_ret
              exact ⟨rfl, H14.out⟩
          · go_wp2_with fail
            refine (known_any _).mono ?_
            rintro e w14 ⟨rfl, f14⟩
            have H14 := hid (HP.out.cw.fr.thenNo f14)
            clear f14
            go_wp2_with fail
            go_ret
            exact ⟨rfl, H14.out⟩
    · have hx100 : i ≤ 100 := hi100
      obtain ⟨wo, rfl⟩ : ∃ wo : World, wo = wr := ⟨_, rfl⟩
      go_wp2_with fail
      go_loopw [8] (fun vi wr => ∃ (i2 : Nat), i2 ≤ l.length ∧ i2 ≤ 100 ∧ vi = .int .i64 (i2 : Int) ∧ Hid (PL W wr S T c b I i)) (fun vi _ => l.length - (intOf vi).toNat)
      case atStart => exact ⟨0, Nat.zero_le _, Nat.zero_le _, rfl, HP.out⟩
      case round =>
        clear HP
        obtain ⟨i2, hil2, hi2, rfl, HP⟩ := hrel
        by_cases hlt2 : i2 < l.length
        · by_cases h100b : i2 < 100
          · obtain ⟨a, ha⟩ : ∃ a, l[i2]? = some a := ⟨_, List.getElem?_eq_getElem hlt2⟩
            obtain ⟨lb, lo, c', hlv, hlb, hat⟩ := HL.out.at1 ha
            obtain ⟨rfl, rfl⟩ : ao = some ⟨lb, lo, none⟩ ∧ co = c' := by simpa using hlv
            have HA := hid (HL.out.each a (List.mem_of_getElem? ha))
            have HC := hid (⟨fun w' hf => (hat w' hf).2, hlb⟩ : (∀ w', Fr No W w' → w'.cell? ⟨lb, lo + i2 * 3 + 1, none⟩ = some (.int .i64 a.k) ∧ w'.cell? ⟨lb, lo + i2 * 3 + 2, none⟩ = some (.int .i64 a.x)) ∧ lb < W.heap.size)
            obtain ⟨l1, l2⟩ := HC.out.1 wr HP.out.cw.fr
            have hIl : Hid (I.length ≤ 1000000) := hid (by have := HP.out.cw.len; omega)
            clear ha hlv hlb hat l2
            go_wp2_with fail
            refine (rwalk_any wr T b I HP.out.rl a.k hIl.out).mono ?_
            rintro e w6 ⟨v6, rfl, o6⟩
            have HP6 := hid (HP.out.nextNo o6.fr)
            obtain ⟨L, hL⟩ : ∃ L, L = ids I a.k := ⟨_, rfl⟩
            rw [← hL] at o6
            have HIL := hid hL
            have hLl : L.length ≤ 1000000 := by rw [hL]; have := ids_le I a.k; have := hIl.out; omega
            obtain ⟨a6, c6, rfl⟩ := ownsRow_slice o6.row
            have O6 := hid o6
            clear o6 hL l1
            go_wp2_with fail
            obtain ⟨wo9, hwo9⟩ : ∃ wo9 : World, wo9 = wr := ⟨_, rfl⟩
            clear hwo9
            go_loopw [9, 11] (fun vin vk wx => ∃ (k : Nat), k ≤ L.length ∧ vin = .bool (decide (a.x ∈ L.take k)) ∧ vk = .int .i64 (k : Int) ∧ Hid (Fr No w6 wx)) (fun _ vk _ => L.length - (intOf vk).toNat)
            case atStart => exact ⟨0, Nat.zero_le _, by simp, rfl, Fr.refl _ _⟩
            case round =>
              obtain ⟨k, hk, rfl, rfl, hF⟩ := hrel
              by_cases hlk : k < L.length
              · obtain ⟨y, hy⟩ : ∃ y, L[k]? = some y := ⟨_, List.getElem?_eq_getElem hlk⟩
                have hro := fd_owns O6.out.row hF.out
                obtain ⟨g, cur, rfl, -, hg, -⟩ := owns_at hro (by omega)
                have y0 : wr.cell? ⟨g, k, none⟩ = some (.int .i64 y) := owns_cell hro rfl (by simp [hy, iv])
                have l2 := (HC.out.1 wr (HP6.out.cw.fr.thenNo hF.out)).2
                have hLB : Hid (∀ j ∈ [g, lb], j < wr.drew.heap.size) := hid (fun j hj => by
                  rcases List.mem_cons.1 hj with rfl | hj
                  · exact lt_of_block hg
                  · rw [List.mem_singleton.1 hj]; have := HC.out.2; have := (HP6.out.cw.fr.thenNo hF.out).size; exact Nat.lt_of_lt_of_le HC.out.2 this)
                have htk := hid (take_snoc hy)
                clear hro hg hy
                by_cases hin : a.x ∈ L.take k
                · rw [decide_eq_true hin]
                  have HN := hid (show decide (a.x ∈ L.take (k + 1)) = true from decide_eq_true (by rw [htk.out]; exact List.mem_append_left _ hin))
                  clear hin
                  go_wp2_with fail
                  refine wp_region_sched (by kernel_rfl) 14 [] [0, 1, 2, 3, 4, 5, 6, 7, 8, 9, 10, 11, 12, 13] (AgC [g, lb] wr.drew) (by kernel_rfl) (AgC.refl _ _) ?_
                  simp only [List.map_cons, List.map_nil, List.contains_nil, nth_zero, nth_succ]
                  repeat (refine sched_quiet (fun K hK => ?_); go_simp; refine hK _ ?_; clear hK K)
                  refine sched_nil ?_
                  go_wp2_with fail
                  go_roundw
                  case rel => exact ⟨k + 1, by omega, by rw [HN.out], by go_num, hF.out.drew⟩
                  case measure => simp [intOf]; omega
                · rw [decide_eq_false hin]
                  by_cases hyx : y = a.x
                  · have HN := hid (show decide (a.x ∈ L.take (k + 1)) = true from decide_eq_true (by rw [htk.out, hyx]; simp))
                    have n1 : ((y : Int) == a.x) = true := by rw [beq_iff_eq]; exact hyx
                    clear hin hyx
                    go_wp2_with fail
                    refine wp_region_sched (by kernel_rfl) 14 [] [0, 1, 2, 3, 4, 5, 6, 7, 8, 9, 10, 11, 12, 13] (AgC [g, lb] wr.drew) (by kernel_rfl) (AgC.refl _ _) ?_
                    simp only [List.map_cons, List.map_nil, List.contains_nil, nth_zero, nth_succ]
                    repeat (refine sched_quiet (fun K hK => ?_); go_simp; refine hK _ ?_; clear hK K)
                    refine sched_nil ?_
                    go_wp2_with fail
                    go_roundw
                    case rel => exact ⟨k + 1, by omega, by rw [HN.out], by go_num, hF.out.drew⟩
                    case measure => simp [intOf]; omega
                  · have HN := hid (show decide (a.x ∈ L.take (k + 1)) = false from decide_eq_false (by rw [htk.out]; intro e; rcases List.mem_append.1 e with e | e; exact hin e; exact hyx (List.mem_singleton.1 e).symm))
                    have n1 : ((y : Int) == a.x) = false := by rw [beq_eq_false_iff_ne]; exact hyx
                    clear hin hyx
                    go_wp2_with fail
                    refine wp_region_sched (by kernel_rfl) 14 [] [0, 1, 2, 3, 4, 5, 6, 7, 8, 9, 10, 11, 12, 13] (AgC [g, lb] wr.drew) (by kernel_rfl) (AgC.refl _ _) ?_
                    simp only [List.map_cons, List.map_nil, List.contains_nil, nth_zero, nth_succ]
                    repeat (refine sched_quiet (fun K hK => ?_); go_simp; refine hK _ ?_; clear hK K)
                    refine sched_nil ?_
                    go_wp2_with fail
                    go_roundw
                    case rel => exact ⟨k + 1, by omega, by rw [HN.out], by go_num, hF.out.drew⟩
                    case measure => simp [intOf]; omega
              · obtain rfl : k = L.length := by omega
                rw [List.take_length]
                obtain ⟨bb, hbb0⟩ : ∃ bb, decide (a.x ∈ ids I a.k) = bb := ⟨_, rfl⟩
                rw [show decide (a.x ∈ L) = bb by rw [HIL.out]; exact hbb0]
                have HBB := hid hbb0
                have hbb : (bb != bb) = false := by simp
                have hbb2 : (bb == bb) = true := by simp
                have HP7 := hid (HP6.out.nextNo (hF.out.drew))
                have O7 := hid (O6.out.next hF.out.drew)
                obtain ⟨l1, l2⟩ := HC.out.1 wr (HP6.out.cw.fr.thenNo hF.out)
                have hLB : Hid (∀ j ∈ [lb], j < wr.drew.heap.size) := hid (fun j hj => by
                  rw [List.mem_singleton.1 hj]; have := HC.out.2; have := (HP6.out.cw.fr.thenNo hF.out).size; exact Nat.lt_of_lt_of_le HC.out.2 this)
                clear hbb0 hlk
                go_wp2_with fail
                refine wp_region_sched (by kernel_rfl) 26 [11, 21, 23] [0, 1, 2, 3, 4, 5, 6, 7, 8, 9, 10, 12, 11, 13, 14, 15, 16, 17, 18, 19, 20, 22, 21, 23, 24, 25] (AgC [lb] wr.drew) (by kernel_rfl) (AgC.refl _ _) ?_
                simp only [List.map_cons, List.map_nil, List.contains_cons, List.contains_nil, Nat.reduceBEq, Bool.or_false, Bool.or_true, nth_zero, nth_succ]
                repeat (refine sched_quiet (fun K hK => ?_); go_simp; refine hK _ ?_; clear hK K)
                refine sched_call (by first | rfl | go_simp) 21 #[.pointer (some ⟨c, 0, none⟩), .int .i64 a.k, .int .i64 a.x] (by first | kernel_rfl | go_simp) (has_cw HP7.out.cw a.k a.x HA.out.1 HA.out.2 bb HBB.out) ?_
                rintro e w8 ⟨rfl, rfl⟩
                refine ⟨_, rfl, AgC.refl _ _, ?_⟩
                repeat (refine sched_quiet (fun K hK => ?_); go_simp; refine hK _ ?_; clear hK K)
                refine sched_call (by first | rfl | go_simp) 13 #[.pointer (some ⟨c, 0, none⟩), .int .i64 a.k] (by first | kernel_rfl | go_simp) (walk_cw HP7.out.cw a.k HA.out.1 (by omega)) ?_
                rintro e w9 ⟨v9, rfl, o9⟩
                have a9 := agc_no (AgC.refl [lb] wr.drew) o9.fr hLB.out
                refine ⟨_, rfl, a9, ?_⟩
                have O9 := hid o9
                clear o9
                repeat (refine sched_quiet (fun K hK => ?_); go_simp; refine hK _ ?_; clear hK K)
                refine sched_call (by first | rfl | go_simp) 12 #[v9, .slice a6 L.length c6] (by first | kernel_rfl | go_simp) (same_cw O9.out.rd (O7.out.next O9.out.fr).rd true (decide_eq_true HIL.out.symm)) ?_
                rintro e w10 ⟨rfl, f10⟩
                refine ⟨_, rfl, agc_no a9 f10 hLB.out, ?_⟩
                have HP10 := hid (HP7.out.nextNo (O9.out.fr.thenNo f10))
                clear f10 a9
                repeat (refine sched_quiet (fun K hK => ?_); go_simp; refine hK _ ?_; clear hK K)
                refine sched_nil ?_
                clear l1 l2
                go_wp2_with fail
                go_roundw
                case rel => exact ⟨i2 + 1, by omega, by omega, by go_num, HP10.out⟩
                case measure => simp [intOf]; omega
          · omega
        · go_wp2_with fail
          refine (known_any _).mono ?_
          rintro e w14 ⟨rfl, f14⟩
          have H14 := hid (HP.out.cw.fr.thenNo f14)
          clear f14
          go_wp2_with fail
          go_ret
          exact ⟨rfl, H14.out⟩
theorem plays_any (W : World) (lv : Value) (l : List ActR) (hl : Acts W lv l) :
    Calls Try.prog 4 #[lv] W fun e w' => e = .returned (.bool true) ∧ Fr No W w' := by
  by_cases h1 : (10000 : Int) < (l.length : Int)
  · obtain ⟨ao, co, rfl, -⟩ := rd_len hl.at_
    clear hl
    go_enter Try.func4, Try.ntmps4
    go_wp2
    go_ret
    exact ⟨rfl, Fr.refl _ _⟩
  exact plays_in W lv l hl (by omega)
end Go.Proofs.Ytdoapfgcjmkfhaa
