/- DrumFuses: so many acts are done, and then none. -/
import Derived.Test.YtggahnipmlihlaaDrumL
namespace Go.Proofs.Ytggahnipmlihlaa
open Go.RowKit Go.Lig

/-! ### Strings -/
theorem strv_list (l : List UInt8) : (⟨l.toArray⟩ : ByteArray).toList = l := by rw [ByteArray.toList_eq]
theorem strv_app (a b : List UInt8) : (⟨a.toArray⟩ ++ ⟨b.toArray⟩ : ByteArray) = ⟨(a ++ b).toArray⟩ := by
  apply ByteArray.ext
  rw [ByteArray.data_append]
  simp
theorem run_strAdd {P : Program} {w : World} (t : TypeId) (a b : List UInt8) (h : a.length + b.length ≤ 9223372036854775807) : (binOp .add t (strv a) (strv b)).run P w = .ok (strv (a ++ b)) w := by
  rw [strv, strv, binOp_string_add, run_string_add_sum w _ _ (by simpa [ByteArray.size] using h), strv_app]
  rfl
section
variable {P : Program} {ops : Array Oper} {o : Oper} {a : Act} {w : World} {i last : Nat} {S : World → Prop} {Q : Exit → Act → World → Prop}
/-- the frame written out anew, the rest out of reach -/
theorem sched_hide {rest : List (Bool × Nat × Oper)} (h : ∀ K : Act → Prop, (∀ a, wpSched P ops Q S last rest a w → K a) → K a) : wpSched P ops Q S last rest a w := h _ (fun _ h => h)
theorem wpList_strAdd {rest : List Oper} (hgd : o.guard = none) (t t' : TypeId) (x y : Operand) (ho : o.op = .binOp .add t x y t') (l m : List UInt8) (hx : a.eval x = strv l) (hy : a.eval y = strv m)
    (hlen : l.length + m.length ≤ 9223372036854775807) (h : wpList P ops Q rest (a.put o.dst (strv (l ++ m))) w) : wpList P ops Q (o :: rest) a w :=
  wpList_run hgd (v := strv (l ++ m)) (w' := w) (by simp [execOp, ho, hx, hy, run_strAdd t l m hlen, eqGuard, Result.andThen]) h
theorem sched_strAdd {rest : List (Bool × Nat × Oper)} (hgd : o.guard = none) (t t' : TypeId) (x y : Operand) (ho : o.op = .binOp .add t x y t') (l m : List UInt8) (hx : a.eval x = strv l) (hy : a.eval y = strv m)
    (hlen : l.length + m.length ≤ 9223372036854775807) (h : wpSched P ops Q S last rest (a.put o.dst (strv (l ++ m))) w) : wpSched P ops Q S last ((false, i, o) :: rest) a w :=
  sched_run hgd (v := strv (l ++ m)) (fun w' _ => by simp [execOp, ho, hx, hy, run_strAdd t l m hlen, eqGuard, Result.andThen]) h
end
/-- the bytes of a sector -/
def secL (f : Nat → UInt8) (i : Nat) : List UInt8 := (List.range 64).map fun k => f (64 * i + k)
theorem secL_len (f : Nat → UInt8) (i : Nat) : (secL f i).length = 64 := by simp [secL]
theorem sec_secL (f : Nat → UInt8) (i : Nat) : sec f i = (secL f i).map u8v := by simp [sec, secL, bs, List.map_map, Function.comp_def]
theorem read_rd {W w : World} {S : Nat → Prop} {b : Nat} {D : Dr} (h : DW W w S b D) (i : Nat) (hi : i < D.n) :
    Calls Try.prog 19 #[.pointer (some ⟨b, 0, none⟩), .int .i64 (i : Int)] w fun e w' => ∃ a c, e = .returned (.slice a 64 c) ∧ Rd w' (.slice a 64 c) 64 1 ((secL D.now i).map u8v) ∧ DW W w' S b D ∧ Fr No w w' := by
  refine (read_in w S b D h.at_ i hi).mono ?_
  rintro e w' ⟨v, rfl, o, n, b', f⟩
  obtain ⟨a, c, rfl⟩ := ownsRow_slice o
  exact ⟨a, c, rfl, by rw [← sec_secL]; exact Rd.of_owns o (bs_one _ _), h.nextNo f, f⟩

/-! ### The law, plain -/
structure FuD (D : Dr) (left : Nat) : Prop where
  n : D.n = 3
  st : (D.dead = false ∧ D.fuse = (left : Int)) ∨ (D.dead = true ∧ left = 0)
structure FuStep (D : Dr) (left : Nat) (c : Int) (D' : Dr) : Prop where
  zero : left = 0 → c = 9 ∧ D'.now = D.now
  more : left ≠ 0 → c ≠ 9
  next : FuD D' (left - 1)
  wait : D'.wait.length ≤ D.wait.length + 1
theorem FuD.start (n : Nat) : FuD ((Dr.new 3).setFuse n) n := ⟨rfl, .inl ⟨rfl, by simp only [Dr.setFuse]; omega⟩⟩
theorem FuD.alive {D : Dr} {left : Nat} (h : FuD D left) : D.alive = !(left == 0) := by
  rcases h.st with ⟨h1, h2⟩ | ⟨h1, h2⟩
  · simp only [Dr.alive, h1, h2, Bool.not_false, Bool.true_and]
    cases left with
    | zero => rfl
    | succ k =>
      have : ((k + 1 : Nat) : Int) ≠ 0 := by omega
      simp only [beq_eq_false_iff_ne.2 this]
      rfl
  · simp [Dr.alive, h1, h2]
theorem Dr.tick_now (D : Dr) : D.tick.now = D.now ∧ D.tick.wait = D.wait ∧ D.tick.n = D.n := by unfold Dr.tick; split <;> exact ⟨rfl, rfl, rfl⟩
theorem FuD.tick {D : Dr} {left : Nat} (h : FuD D left) : FuD D.tick (left - 1) := by
  refine ⟨(Dr.tick_now D).2.2.trans h.n, ?_⟩
  rcases h.st with ⟨h1, h2⟩ | ⟨h1, h2⟩
  · simp only [Dr.tick, h1, h2, Bool.false_eq_true, if_false]
    cases left with
    | zero => exact .inr ⟨rfl, rfl⟩
    | succ k =>
      refine .inl ⟨?_, ?_⟩
      · have : ((k + 1 : Nat) : Int) ≠ 0 := by omega
        exact beq_eq_false_iff_ne.2 this
      · show max (((k + 1 : Nat) : Int) - 1) (-1) = _
        omega
  · have : D.tick = D := by unfold Dr.tick; rw [if_pos h1]
    rw [this]
    exact .inr ⟨h1, by omega⟩
theorem FuD.write {D : Dr} {left : Nat} (h : FuD D left) (i : Int) (l : List UInt8) : FuStep D left (D.doWrite i l).1 (D.doWrite i l).2 := by
  have ha := h.alive
  obtain ⟨t1, t2, t3⟩ := Dr.tick_now D
  by_cases h0 : left = 0
  · subst h0
    have ha' : D.alive = false := by simpa using ha
    simp only [Dr.doWrite, ha', Bool.false_eq_true, if_false]
    exact ⟨fun _ => ⟨rfl, t1⟩, fun h => absurd rfl h, h.tick, by rw [t2]; omega⟩
  · have ha' : D.alive = true := by rw [ha, beq_eq_false_iff_ne.2 h0]; rfl
    simp only [Dr.doWrite, ha', if_true]
    split
    · exact ⟨fun h => absurd h h0, fun _ => (by decide : (1 : Int) ≠ 9), h.tick, by simp only [t2]; omega⟩
    · exact ⟨fun h => absurd h h0, fun _ => (by decide : (0 : Int) ≠ 9), ⟨h.tick.n, h.tick.st⟩, by simp [Dr.put, t2]⟩
theorem FuD.sync {D : Dr} {left : Nat} (h : FuD D left) : FuStep D left D.doSync.1 D.doSync.2 := by
  have ha := h.alive
  obtain ⟨t1, t2, t3⟩ := Dr.tick_now D
  by_cases h0 : left = 0
  · subst h0
    have ha' : D.alive = false := by simpa using ha
    simp only [Dr.doSync, ha', Bool.false_eq_true, if_false]
    exact ⟨fun _ => ⟨rfl, t1⟩, fun h => absurd rfl h, h.tick, by rw [t2]; omega⟩
  · have ha' : D.alive = true := by rw [ha, beq_eq_false_iff_ne.2 h0]; rfl
    simp only [Dr.doSync, ha', if_true]
    exact ⟨fun h => absurd h h0, fun _ => (by decide : (0 : Int) ≠ 9), ⟨h.tick.n, h.tick.st⟩, by simp [Dr.sync]⟩
theorem sync_any (w : World) (S : Nat → Prop) (b : Nat) (D : Dr) (h : DrumAt w S b D) :
    Calls Try.prog 15 #[.pointer (some ⟨b, 0, none⟩)] w fun e w' => e = .returned (.int .i64 D.doSync.1) ∧ DrumAt w' S b D.doSync.2 ∧ Fr S w w' := by
  cases ha : D.alive
  · simp only [Dr.doSync, ha, Bool.false_eq_true, if_false]
    exact sync_dead w S b D h ha
  · simp only [Dr.doSync, ha, if_true]
    exact sync_live w S b D h ha
def was3 (f : Nat → UInt8) : List UInt8 := secL f 0 ++ (secL f 1 ++ secL f 2)
theorem was3_len (f : Nat → UInt8) : (was3 f).length = 192 := by simp [was3, secL_len]
def wasTo (f : Nat → UInt8) : Nat → List UInt8
  | 0 => []
  | k + 1 => wasTo f k ++ secL f k
theorem wasTo_len (f : Nat → UInt8) : ∀ k, (wasTo f k).length = k * 64
  | 0 => rfl
  | k + 1 => by rw [wasTo, List.length_append, wasTo_len f k, secL_len, Nat.succ_mul]

theorem wasTo3 (f : Nat → UInt8) : strv (wasTo f 3) = strv (was3 f) := by simp [wasTo, was3]

theorem fuses_out (W : World) (n : Int) (ao : Option Addr) (m c : Nat) (h : n < 0 ∨ 20 < n) : Calls Try.prog 8 #[.int .i64 n, .slice ao m c] W fun e w' => e = .returned (.bool true) ∧ W = w' := by
  by_cases h0 : n < 0
  · clear h
    go_enter Try.func8, Try.ntmps8
    go_wp2
    go_ret
    exact ⟨rfl, rfl⟩
  · have h1 : 20 < n := by omega
    clear h
    go_enter Try.func8, Try.ntmps8
    go_wp2
    go_ret
    exact ⟨rfl, rfl⟩

set_option maxRecDepth 100000 in
set_option maxHeartbeats 400000 in
theorem fuses_in (W : World) (n : Nat) (h20 : n ≤ 20) (lv : Value) (l : List ActR) (hl : Acts W lv l) : Calls Try.prog 8 #[.int .i64 (n : Int), lv] W fun e w' => e = .returned (.bool true) ∧ Fr No W w' := by
  obtain ⟨ao, c, rfl, -⟩ := rd_len hl.at_
  have HL := hid hl
  have h0' : ¬ (n : Int) < 0 := by omega
  have h20' : ¬ (20 : Int) < (n : Int) := by omega
  clear hl
  go_enter Try.func8, Try.ntmps8
  go_wp2_with fail
  refine (long_any _ _ l HL.out).mono ?_
  rintro e w1 ⟨⟨bb, rfl⟩, f1⟩
  have F1 := hid f1
  clear f1
  cases bb
  case true =>
    go_wp2_with fail
    go_ret
    exact ⟨rfl, F1.out⟩
  case false =>
    go_wp2_with (first | (go_at_call 11; refine (new_as F1.out _ 3 rfl).mono ?_; rintro e w2 ⟨b, S, rfl, h2, f2⟩; have H2 := hid h2; clear h2 f2) | (go_at_call 24; refine (fuse_any _ S b (Dr.new 3) n (by omega) H2.out.at_).mono ?_; rintro e w3 ⟨rfl, h3, f3⟩; have H3 := hid (H2.out.same h3 f3); clear h3 f3))
    go_loopw [7, 8] (fun v vk wr => ∃ k : Nat, k ≤ 3 ∧ v = strv (wasTo ((Dr.new 3).setFuse n).now k) ∧ vk = .int .i64 (k : Int) ∧ Hid (DW W wr S b ((Dr.new 3).setFuse n))) (fun _ v _ => 3 - (intOf v).toNat)
    case atStart => exact ⟨0, Nat.zero_le _, rfl, rfl, H3.out⟩
    case round =>
      obtain ⟨k, hk3, rfl, rfl, hd⟩ := hrel
      by_cases hlt : k < 3
      · go_wp2_with (first | (go_at_call 19; refine (read_rd hd.out k hlt).mono ?_; rintro e w5 ⟨a5, c5, rfl, r5, h5, f5⟩; have H5 := hid (⟨r5, h5⟩ : _ ∧ _); clear r5 h5 f5) | (refine wpList_strOf rfl 29 5 9 (.tmp 36) rfl Try.underlying29 Try.underlying5 Try.underlying9 (.slice a5 64 c5) 64 (secL ((Dr.new 3).setFuse n).now k) rfl H5.out.1 ?_) | (refine wpList_strAdd rfl 9 9 (.tmp 33) (.tmp 37) rfl (wasTo ((Dr.new 3).setFuse n).now k) (secL ((Dr.new 3).setFuse n).now k) rfl rfl (by rw [wasTo_len, secL_len]; omega) ?_))
        go_roundw
        case rel => exact ⟨k + 1, by omega, rfl, by go_num, H5.out.2⟩
        case measure => simp [intOf]; omega
      · obtain rfl : k = 3 := by omega
        rw [show ((3 : Nat) : Int) = 3 from rfl]
        go_wp2_with fail
        go_loopw [6, 7, 9] (fun vl vw vi wr => ∃ (i left : Nat) (D : Dr) (S : Nat → Prop), i ≤ l.length ∧ i ≤ 60 ∧ vl = .int .i64 (left : Int) ∧ left ≤ 20 ∧ vw = strv (was3 D.now) ∧ vi = .int .i64 (i : Int) ∧ Hid (DW W wr S b D ∧ FuD D left ∧ D.wait.length ≤ i)) (fun _ _ v _ => l.length - (intOf v).toNat)
        case atStart => exact ⟨0, n, _, S, Nat.zero_le _, Nat.zero_le _, rfl, h20, wasTo3 _, rfl, hd.out, FuD.start n, Nat.le_refl _⟩
        case round =>
          obtain ⟨i, left, D, S2, hil, hi60, rfl, hlf, rfl, rfl, hd2⟩ := hrel
          clear hd
          by_cases hlt : i < l.length
          · by_cases h60 : i < 60
            · obtain ⟨a, ha⟩ : ∃ a, l[i]? = some a := ⟨_, List.getElem?_eq_getElem hlt⟩
              obtain ⟨lb, lo, c', hlv, hlc, hcm, hok, hat⟩ := HL.out.at1 ha
              obtain ⟨rfl, rfl⟩ : ao = some ⟨lb, lo, none⟩ ∧ c = c' := by simpa using hlv
              obtain ⟨hc0, hc1, hc2, -⟩ := hat wr hd2.out.1.fr
              obtain ⟨ap, cp, hpv, hpl⟩ := rd_len hok.p
              have hlb : lb < W.heap.size := World.block_lt_of_cell? W _ (hat W (Fr.refl _ _)).1
              have hp := hok.p
              rw [hpv] at hp hc2
              have HP := hid (⟨hp, hlb⟩ : _ ∧ _)
              clear hp hlb hpv hok hat hlv
              by_cases hk : a.kind = 1
              · rw [hk] at hc0
                go_wp2_with fail
                have hdr : DW W wr.drew S2 b D := hd2.out.1.nextNo ((Fr.refl No wr).drew)
                have hpr : Rd wr.drew (.slice ap a.p.length cp) a.p.length 1 (a.p.map u8v) := HP.out.1.frame hdr.fr (fun _ _ e => e)
                have hSp : ∀ k, slBlock (.slice ap a.p.length cp) = some k → a.p.map u8v ≠ [] → ¬ S2 k := fun k hk hne e => by have := hdr.new k e; have := rd_block HP.out.1 hk hne; omega
                have HDR := hid (⟨hdr, hpr, hSp⟩ : _ ∧ _ ∧ _)
                clear hdr hpr hSp
                refine wp_region_sched (by kernel_rfl) 13 [11] [0, 1, 2, 3, 4, 5, 6, 7, 8, 9, 10, 11, 12] (AgC [lb] wr.drew) (by kernel_rfl) (AgC.refl _ _) ?_
                simp only [List.map_cons, List.map_nil, List.contains_cons, List.contains_nil, Nat.reduceBEq, Bool.or_false, Bool.false_or, Bool.or_true, Bool.true_or, nth_zero, nth_succ]
                repeat (refine sched_quiet (fun K hK => ?_); go_simp; refine hK _ ?_; clear hK K)
                refine sched_call (by first | rfl | go_simp) 13 #[.pointer (some ⟨b, 0, none⟩), .int .i64 a.i, .slice ap a.p.length cp] (by first | kernel_rfl | go_simp) (write_any wr.drew S2 b D HDR.out.1.at_ a.i _ a.p HDR.out.2.1 (fun k hk hne => HDR.out.2.2 k hk hne) (by have := hd2.out.2.2; omega)) ?_
                rintro e w7 ⟨rfl, h7, f7⟩
                refine ⟨_, rfl, (AgC.refl _ _).fr f7 (by simp only [List.mem_cons, List.not_mem_nil, or_false]; intro k hk; subst hk; exact ⟨Nat.lt_of_lt_of_le HP.out.2 HDR.out.1.fr.size, fun e => by have := HDR.out.1.new _ e; have := HP.out.2; omega⟩), ?_⟩
                have H7 : Hid (∃ S3 D', DW W w7 S3 b D' ∧ FuStep D left (D.doWrite a.i a.p).1 D') := hid ⟨_, _, HDR.out.1.grow h7 f7, hd2.out.2.1.write _ _⟩
                clear h7 f7
                generalize (D.doWrite a.i a.p).1 = cc at H7 ⊢
                repeat (refine sched_quiet (fun K hK => ?_); go_simp; refine hK _ ?_; clear hK K)
                refine sched_nil ?_
                go_wp2_with fail
                obtain ⟨S3, D', hd7, hst⟩ := H7.out
                have HT := hid (⟨hd7, hst⟩ : _ ∧ _)
                clear H7 hd7 hst
                refine wp_region_sched (by kernel_rfl) 12 [1, 4, 8] [0, 3, 7, 1, 2, 4, 5, 6, 8, 9, 10, 11] (FrC w7.drew) (by kernel_rfl) (FrC.refl _) ?_
                simp only [List.map_cons, List.map_nil, List.contains_cons, List.contains_nil, Nat.reduceBEq, Bool.or_false, Bool.false_or, Bool.or_true, Bool.true_or, nth_zero, nth_succ]
                repeat (refine sched_quiet (fun K hK => ?_); go_simp; refine hK _ ?_; clear hK K)
                refine sched_call2 (by first | rfl | go_simp) 19 #[.pointer (some ⟨b, 0, none⟩), .int .i64 0] (by first | kernel_rfl | go_simp) (read_rd (HT.out.1.nextNo ((Fr.refl No w7).drew)) 0 (by rw [HT.out.2.next.n]; decide)) ?_
                rintro e wa ⟨aa, ca, rfl, r, h, f⟩
                refine ⟨_, rfl, FrC wa, FrC.sub f, FrC.refl _, ?_⟩
                have HA := hid (⟨r, h⟩ : _ ∧ _)
                clear r h f
                refine sched_hide (fun K hK => ?_); go_simp; refine hK _ ?_; clear hK K
                refine sched_conv (by first | rfl | go_simp) 29 9 (.tmp 70) rfl (.slice aa 64 ca) rfl (strv (secL D'.now 0)) (fun w' hw' => run_strOf Try.underlying29 Try.underlying5 Try.underlying9 (HA.out.1.frame hw'.fr (fun _ _ e => e))) ?_
                refine sched_hide (fun K hK => ?_); go_simp; refine hK _ ?_; clear hK K
                repeat (refine sched_quiet (fun K hK => ?_); go_simp; refine hK _ ?_; clear hK K)
                refine sched_call2 (by first | rfl | go_simp) 19 #[.pointer (some ⟨b, 0, none⟩), .int .i64 1] (by first | kernel_rfl | go_simp) (read_rd HA.out.2 1 (by rw [HT.out.2.next.n]; decide)) ?_
                rintro e wb ⟨ab, cb, rfl, r, h, f⟩
                refine ⟨_, rfl, FrC wb, FrC.sub f, FrC.refl _, ?_⟩
                have HB := hid (⟨r, h⟩ : _ ∧ _)
                clear r h f
                refine sched_hide (fun K hK => ?_); go_simp; refine hK _ ?_; clear hK K
                refine sched_conv (by first | rfl | go_simp) 29 9 (.tmp 73) rfl (.slice ab 64 cb) rfl (strv (secL D'.now 1)) (fun w' hw' => run_strOf Try.underlying29 Try.underlying5 Try.underlying9 (HB.out.1.frame hw'.fr (fun _ _ e => e))) ?_
                refine sched_hide (fun K hK => ?_); go_simp; refine hK _ ?_; clear hK K
                refine sched_strAdd rfl 9 9 (.tmp 71) (.tmp 74) rfl (secL D'.now 0) (secL D'.now 1) rfl rfl (by rw [secL_len, secL_len]; decide) ?_
                repeat (refine sched_quiet (fun K hK => ?_); go_simp; refine hK _ ?_; clear hK K)
                refine sched_call2 (by first | rfl | go_simp) 19 #[.pointer (some ⟨b, 0, none⟩), .int .i64 2] (by first | kernel_rfl | go_simp) (read_rd HB.out.2 2 (by rw [HT.out.2.next.n]; decide)) ?_
                rintro e wc ⟨ac, cc2, rfl, r, h, f⟩
                refine ⟨_, rfl, FrC wc, FrC.sub f, FrC.refl _, ?_⟩
                have HC := hid (⟨r, h⟩ : _ ∧ _)
                clear r h f
                refine sched_hide (fun K hK => ?_); go_simp; refine hK _ ?_; clear hK K
                refine sched_conv (by first | rfl | go_simp) 29 9 (.tmp 77) rfl (.slice ac 64 cc2) rfl (strv (secL D'.now 2)) (fun w' hw' => run_strOf Try.underlying29 Try.underlying5 Try.underlying9 (HC.out.1.frame hw'.fr (fun _ _ e => e))) ?_
                refine sched_hide (fun K hK => ?_); go_simp; refine hK _ ?_; clear hK K
                refine sched_strAdd rfl 9 9 (.tmp 75) (.tmp 78) rfl (secL D'.now 0 ++ secL D'.now 1) (secL D'.now 2) rfl rfl (by rw [List.length_append, secL_len, secL_len, secL_len]; decide) ?_
                repeat (refine sched_quiet (fun K hK => ?_); go_simp; refine hK _ ?_; clear hK K)
                refine sched_nil ?_
                by_cases hl0 : left = 0
                · subst hl0
                  obtain ⟨rfl, hnow⟩ := HT.out.2.zero rfl
                  simp only [hnow, strv, was3]
                  go_wp2_with fail
                  go_roundw
                  case rel => exact ⟨i + 1, 0, D', S3, by omega, by omega, rfl, by omega, by simp only [was3, hnow, strv], by go_num, HC.out.2, HT.out.2.next, by have := HT.out.2.wait; have := hd2.out.2.2; omega⟩
                  case measure => simp [intOf]; omega
                · have hc9 : ¬ cc = 9 := HT.out.2.more hl0
                  have hl0' : ((left : Int) == 0) = false := beq_eq_false_iff_ne.2 (by omega)
                  have hc9' : (cc == 9) = false := beq_eq_false_iff_ne.2 hc9
                  go_wp2_with fail
                  all_goals
                    go_roundw
                    case rel => exact ⟨i + 1, left - 1, D', S3, by omega, by omega, by congr 1; split <;> omega, by omega, rfl, by go_num, HC.out.2, HT.out.2.next, by have := HT.out.2.wait; have := hd2.out.2.2; omega⟩
                    case measure => simp [intOf]; omega
              · go_wp2_with (go_at_call 15; refine (sync_any wr S2 b D hd2.out.1.at_).mono ?_; rintro e w7 ⟨rfl, h7, f7⟩; have H7 : Hid (∃ S3 D', DW W w7 S3 b D' ∧ FuStep D left D.doSync.1 D') := hid ⟨S2, _, hd2.out.1.same h7 f7, hd2.out.2.1.sync⟩; clear h7 f7; generalize D.doSync.1 = cc at H7 ⊢)
                obtain ⟨S3, D', hd7, hst⟩ := H7.out
                have HT := hid (⟨hd7, hst⟩ : _ ∧ _)
                clear H7 hd7 hst
                refine wp_region_sched (by kernel_rfl) 12 [1, 4, 8] [0, 3, 7, 1, 2, 4, 5, 6, 8, 9, 10, 11] (FrC w7.drew) (by kernel_rfl) (FrC.refl _) ?_
                simp only [List.map_cons, List.map_nil, List.contains_cons, List.contains_nil, Nat.reduceBEq, Bool.or_false, Bool.false_or, Bool.or_true, Bool.true_or, nth_zero, nth_succ]
                repeat (refine sched_quiet (fun K hK => ?_); go_simp; refine hK _ ?_; clear hK K)
                refine sched_call2 (by first | rfl | go_simp) 19 #[.pointer (some ⟨b, 0, none⟩), .int .i64 0] (by first | kernel_rfl | go_simp) (read_rd (HT.out.1.nextNo ((Fr.refl No w7).drew)) 0 (by rw [HT.out.2.next.n]; decide)) ?_
                rintro e wa ⟨aa, ca, rfl, r, h, f⟩
                refine ⟨_, rfl, FrC wa, FrC.sub f, FrC.refl _, ?_⟩
                have HA := hid (⟨r, h⟩ : _ ∧ _)
                clear r h f
                refine sched_hide (fun K hK => ?_); go_simp; refine hK _ ?_; clear hK K
                refine sched_conv (by first | rfl | go_simp) 29 9 (.tmp 70) rfl (.slice aa 64 ca) rfl (strv (secL D'.now 0)) (fun w' hw' => run_strOf Try.underlying29 Try.underlying5 Try.underlying9 (HA.out.1.frame hw'.fr (fun _ _ e => e))) ?_
                refine sched_hide (fun K hK => ?_); go_simp; refine hK _ ?_; clear hK K
                repeat (refine sched_quiet (fun K hK => ?_); go_simp; refine hK _ ?_; clear hK K)
                refine sched_call2 (by first | rfl | go_simp) 19 #[.pointer (some ⟨b, 0, none⟩), .int .i64 1] (by first | kernel_rfl | go_simp) (read_rd HA.out.2 1 (by rw [HT.out.2.next.n]; decide)) ?_
                rintro e wb ⟨ab, cb, rfl, r, h, f⟩
                refine ⟨_, rfl, FrC wb, FrC.sub f, FrC.refl _, ?_⟩
                have HB := hid (⟨r, h⟩ : _ ∧ _)
                clear r h f
                refine sched_hide (fun K hK => ?_); go_simp; refine hK _ ?_; clear hK K
                refine sched_conv (by first | rfl | go_simp) 29 9 (.tmp 73) rfl (.slice ab 64 cb) rfl (strv (secL D'.now 1)) (fun w' hw' => run_strOf Try.underlying29 Try.underlying5 Try.underlying9 (HB.out.1.frame hw'.fr (fun _ _ e => e))) ?_
                refine sched_hide (fun K hK => ?_); go_simp; refine hK _ ?_; clear hK K
                refine sched_strAdd rfl 9 9 (.tmp 71) (.tmp 74) rfl (secL D'.now 0) (secL D'.now 1) rfl rfl (by rw [secL_len, secL_len]; decide) ?_
                repeat (refine sched_quiet (fun K hK => ?_); go_simp; refine hK _ ?_; clear hK K)
                refine sched_call2 (by first | rfl | go_simp) 19 #[.pointer (some ⟨b, 0, none⟩), .int .i64 2] (by first | kernel_rfl | go_simp) (read_rd HB.out.2 2 (by rw [HT.out.2.next.n]; decide)) ?_
                rintro e wc ⟨ac, cc2, rfl, r, h, f⟩
                refine ⟨_, rfl, FrC wc, FrC.sub f, FrC.refl _, ?_⟩
                have HC := hid (⟨r, h⟩ : _ ∧ _)
                clear r h f
                refine sched_hide (fun K hK => ?_); go_simp; refine hK _ ?_; clear hK K
                refine sched_conv (by first | rfl | go_simp) 29 9 (.tmp 77) rfl (.slice ac 64 cc2) rfl (strv (secL D'.now 2)) (fun w' hw' => run_strOf Try.underlying29 Try.underlying5 Try.underlying9 (HC.out.1.frame hw'.fr (fun _ _ e => e))) ?_
                refine sched_hide (fun K hK => ?_); go_simp; refine hK _ ?_; clear hK K
                refine sched_strAdd rfl 9 9 (.tmp 75) (.tmp 78) rfl (secL D'.now 0 ++ secL D'.now 1) (secL D'.now 2) rfl rfl (by rw [List.length_append, secL_len, secL_len, secL_len]; decide) ?_
                repeat (refine sched_quiet (fun K hK => ?_); go_simp; refine hK _ ?_; clear hK K)
                refine sched_nil ?_
                by_cases hl0 : left = 0
                · subst hl0
                  obtain ⟨rfl, hnow⟩ := HT.out.2.zero rfl
                  simp only [hnow, strv, was3]
                  go_wp2_with fail
                  go_roundw
                  case rel => exact ⟨i + 1, 0, D', S3, by omega, by omega, rfl, by omega, by simp only [was3, hnow, strv], by go_num, HC.out.2, HT.out.2.next, by have := HT.out.2.wait; have := hd2.out.2.2; omega⟩
                  case measure => simp [intOf]; omega
                · have hc9 : ¬ cc = 9 := HT.out.2.more hl0
                  have hl0' : ((left : Int) == 0) = false := beq_eq_false_iff_ne.2 (by omega)
                  have hc9' : (cc == 9) = false := beq_eq_false_iff_ne.2 hc9
                  go_wp2_with fail
                  all_goals
                    go_roundw
                    case rel => exact ⟨i + 1, left - 1, D', S3, by omega, by omega, by congr 1; split <;> omega, by omega, rfl, by go_num, HC.out.2, HT.out.2.next, by have := HT.out.2.wait; have := hd2.out.2.2; omega⟩
                    case measure => simp [intOf]; omega
            · go_wp2_with (go_at_call 22; refine (known_keeps hd2.out.1.fr).mono ?_; rintro e w6 ⟨rfl, h6⟩; have H6 := hid h6; clear h6)
              go_ret
              exact ⟨rfl, H6.out⟩
          · go_wp2_with (go_at_call 22; refine (known_keeps hd2.out.1.fr).mono ?_; rintro e w6 ⟨rfl, h6⟩; have H6 := hid h6; clear h6)
            go_ret
            exact ⟨rfl, H6.out⟩
theorem fuses_any (W : World) (n : Int) (lv : Value) (l : List ActR) (hl : Acts W lv l) : Calls Try.prog 8 #[.int .i64 n, lv] W fun e w' => e = .returned (.bool true) ∧ Fr No W w' := by
  by_cases h : n < 0 ∨ 20 < n
  · obtain ⟨ao, c, rfl, -⟩ := rd_len hl.at_
    exact (fuses_out W n ao _ c h).mono fun e w' ⟨h1, h2⟩ => ⟨h1, h2 ▸ Fr.refl _ _⟩
  · obtain ⟨k, rfl⟩ := Int.eq_ofNat_of_zero_le (by omega : 0 ≤ n)
    exact fuses_in W k (by omega) lv l hl
end Go.Proofs.Ytggahnipmlihlaa
