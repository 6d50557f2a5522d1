/- DrumCrashes: behind a crash each sector is as it lasted, or as a write that waited made it. -/
import Derived.Test.YtggahnipmlihlaaDrumP2
import Derived.Deep.RegionWith
namespace Go.Proofs.Ytggahnipmlihlaa
open Go.RowKit Go.Lig

/-! ### The law, plain -/
def layAll (g : Nat → UInt8) (ws : List Wr) : Nat → UInt8 := ws.foldl (fun f x => lay f x.i x.p) g
theorem layAll_snoc (g : Nat → UInt8) (ws : List Wr) (x : Wr) : layAll g (ws ++ [x]) = lay (layAll g ws) x.i x.p := by simp [layAll, List.foldl_append]
theorem crashTo_all (g : Nat → UInt8) (ws : List Wr) (keep : List Bool) (hk : ∀ j, j < ws.length → keep[j]? = some true) : ∀ k, k ≤ ws.length → crashTo g ws keep k = layAll g (ws.take k)
  | 0, _ => rfl
  | k + 1, h => by
    have ih := crashTo_all g ws keep hk k (by omega)
    have hx : ws[k]? = some ws[k] := List.getElem?_eq_getElem (by omega)
    rw [crashTo_yes hx (hk k (by omega)), ih, List.take_add_one, hx]
    exact (layAll_snoc _ _ _).symm
/-- now is good with all that waits laid over it -/
def Inv (D : Dr) : Prop := layAll D.good D.wait = D.now
theorem inv_new (n : Nat) : Inv (Dr.new n) := rfl
theorem Dr.tick_good (D : Dr) : D.tick.good = D.good := by unfold Dr.tick; split <;> rfl
theorem Inv.tick {D : Dr} (h : Inv D) : Inv D.tick := by
  obtain ⟨t1, t2, t3⟩ := Dr.tick_now D
  unfold Inv at *
  rw [t1, t2, Dr.tick_good]
  exact h
theorem Inv.write {D : Dr} (h : Inv D) (i : Int) (l : List UInt8) : Inv (D.doWrite i l).2 := by
  unfold Dr.doWrite
  split
  · split
    · exact h.tick
    · show layAll D.tick.good (D.tick.wait ++ [_]) = _
      rw [layAll_snoc]
      have := h.tick
      unfold Inv at this
      rw [this]
      rfl
  · exact h.tick
theorem Inv.sync {D : Dr} (h : Inv D) : Inv D.doSync.2 := by
  unfold Dr.doSync
  split
  · rfl
  · exact h.tick
theorem Inv.crash {D : Dr} (h : Inv D) (m : Nat) (hm : D.wait.length ≤ m) : (D.crash (List.replicate m true)).now = D.now := by
  show crashTo D.good D.wait _ D.wait.length = _
  rw [crashTo_all _ _ _ (fun j hj => by rw [List.getElem?_replicate, if_pos (by omega)]) _ (Nat.le_refl _), List.take_length]
  exact h
theorem doWrite_n (D : Dr) (i : Int) (l : List UInt8) : (D.doWrite i l).2.n = D.n := by
  have t := (Dr.tick_now D).2.2
  unfold Dr.doWrite
  split
  · split <;> exact t
  · exact t
theorem doSync_n (D : Dr) : D.doSync.2.n = D.n := by
  have t := (Dr.tick_now D).2.2
  unfold Dr.doSync
  split <;> exact t
def fillB (n k : Nat) : List Value := (List.range n).map fun j => Value.bool (decide (j < k))
theorem fillB_zero (n : Nat) : List.replicate n (Value.bool false) = fillB n 0 := by
  apply List.ext_getElem <;> simp [fillB]
theorem fillB_step (n k : Nat) (h : k < n) : (fillB n k).toArray.setIfInBounds k (.bool true) = (fillB n (k + 1)).toArray := by
  apply Array.ext_getElem?
  intro i
  rw [Array.getElem?_setIfInBounds]
  simp only [fillB, List.getElem?_toArray, List.getElem?_map, List.size_toArray, List.length_map, List.length_range]
  by_cases e : k = i
  · subst e
    rw [if_pos rfl, if_pos h, List.getElem?_range h]
    simp
  · rw [if_neg e]
    by_cases h3 : i < n
    · rw [List.getElem?_range h3]
      simp only [Option.map_some]
      congr 2
      apply decide_eq_decide.2
      omega
    · rw [List.getElem?_eq_none (by simp; omega)]
      rfl
theorem fillB_all (n : Nat) : fillB n n = (List.replicate n true).map Value.bool := by
  apply List.ext_getElem
  · simp [fillB]
  · intro i h1 h2
    have : i < n := by simpa [fillB] using h1
    simp [fillB, this]
theorem fillB_get (n k j : Nat) (h : j < n) : (fillB n k)[j]? = some (.bool (decide (j < k))) := by simp [fillB, h]

theorem crashes_out (W : World) (n : Int) (ao bo : Option Addr) (m c m2 c2 : Nat) (l : List ActR) (hl : Acts W (.slice ao m c) l) (h : n < 0 ∨ 20 < n ∨ 200 < m2) : Calls Try.prog 3 #[.int .i64 n, .slice ao m c, .slice bo m2 c2] W fun e w' => e = .returned (.bool true) ∧ Fr No W w' := by
  have HL := hid hl
  clear hl
  by_cases h0 : n < 0
  · clear h
    go_enter Try.func3, Try.ntmps3
    go_wp2_with fail
    refine (long_any _ _ l HL.out).mono ?_
    rintro e w1 ⟨⟨bb, rfl⟩, f1⟩
    have F1 := hid f1
    clear f1
    cases bb
    all_goals
      go_wp2_with fail
      go_ret
      exact ⟨rfl, F1.out⟩
  · by_cases h1 : 20 < n
    · clear h
      go_enter Try.func3, Try.ntmps3
      go_wp2_with fail
      refine (long_any _ _ l HL.out).mono ?_
      rintro e w1 ⟨⟨bb, rfl⟩, f1⟩
      have F1 := hid f1
      clear f1
      cases bb
      all_goals
        go_wp2_with fail
        go_ret
        exact ⟨rfl, F1.out⟩
    · have h2 : (200 : Int) < (m2 : Int) := by omega
      clear h
      go_enter Try.func3, Try.ntmps3
      go_wp2_with fail
      refine (long_any _ _ l HL.out).mono ?_
      rintro e w1 ⟨⟨bb, rfl⟩, f1⟩
      have F1 := hid f1
      clear f1
      cases bb
      all_goals
        go_wp2_with fail
        go_ret
        exact ⟨rfl, F1.out⟩
/-- a sector's bytes, their number -/
theorem read_64 (w : World) (S : Nat → Prop) (b : Nat) (D : Dr) (h : DrumAt w S b D) (i : Nat) (hi : i < D.n) :
    Calls Try.prog 19 #[.pointer (some ⟨b, 0, none⟩), .int .i64 (i : Int)] w fun e w' => ∃ a c, e = .returned (.slice a 64 c) ∧ Fr No w w' := by
  refine (read_in w S b D h i hi).mono ?_
  rintro e w' ⟨v, rfl, o, n, b', f⟩
  obtain ⟨a, c, rfl⟩ := ownsRow_slice o
  exact ⟨a, c, rfl, f⟩
set_option maxRecDepth 100000 in
set_option maxHeartbeats 4000000 in
theorem crashes_in (W : World) (n : Nat) (h20 : n ≤ 20) (lv : Value) (l : List ActR) (hl : Acts W lv l) (hlen : l.length ≤ 2199023255552) (kv : Value) (keep : List Bool) (hk : Rd W kv keep.length 1 (keep.map Value.bool)) (h200 : keep.length ≤ 200) :
    Calls Try.prog 3 #[.int .i64 (n : Int), lv, kv] W fun e w' => e = .returned (.bool true) ∧ Fr No W w' := by
  obtain ⟨ao, c, rfl, -⟩ := rd_len hl.at_
  obtain ⟨ak, ck, rfl, -⟩ := rd_len hk
  have HL := hid (⟨hl, hk⟩ : _ ∧ _)
  have h0' : ¬ (n : Int) < 0 := by omega
  have h20' : ¬ (20 : Int) < (n : Int) := by omega
  have h200' : ¬ (200 : Int) < (keep.length : Int) := by omega
  clear hl hk
  go_enter Try.func3, Try.ntmps3
  go_wp2_with fail
  refine (long_any _ _ l HL.out.1).mono ?_
  rintro e w1 ⟨⟨bb, rfl⟩, f1⟩
  have F1 := hid f1
  clear f1
  cases bb
  case true =>
    go_wp2_with fail
    go_ret
    exact ⟨rfl, F1.out⟩
  case false =>
    go_wp2_with (first | (go_at_call 11; refine (new_any _ _).mono ?_; rintro e w2 ⟨b, rfl, h2, f2⟩; have H2 := hid (⟨h2, f2⟩ : _ ∧ _); clear h2 f2) | (go_at_call 12; refine (rnew_any _ _ (by omega)).mono ?_; rintro e w3 ⟨b2, rfl, h3, f3⟩; have H3 : Hid (∃ S T D R, Pair W w3 S T b b2 D R 0 ∧ Inv D ∧ D.n = n) := hid ⟨_, _, _, _, Pair.start (S := No) (T := No) H2.out.1 H2.out.2 h3 f3 F1.out (Sim.new (n : Int) (by omega)) 0 (Nat.le_refl _), inv_new _, by show clampN (n : Int) = n; unfold clampN; omega⟩; clear h3 f3))
    go_loopw [9] (fun vi wr => ∃ i : Nat, i ≤ l.length ∧ i ≤ 60 ∧ vi = .int .i64 (i : Int) ∧ Hid (∃ S T D R, Pair W wr S T b b2 D R i ∧ Inv D ∧ D.n = n)) (fun v _ => l.length - (intOf v).toNat)
    case atStart => exact ⟨0, Nat.zero_le _, Nat.zero_le _, rfl, H3.out⟩
    case round =>
      clear H2 H3
      obtain ⟨i, hil, hi60, rfl, hp⟩ := hrel
      obtain ⟨S, T, D, R, hpair⟩ := hp.out
      have HP := hid hpair
      clear hp hpair
      by_cases hlt : i < l.length
      · by_cases h60 : i < 60
        · obtain ⟨a, ha⟩ : ∃ a, l[i]? = some a := ⟨_, List.getElem?_eq_getElem hlt⟩
          obtain ⟨lb, lo, c', hlv, hlc, hcm, hok, hat⟩ := HL.out.1.at1 ha
          obtain ⟨rfl, rfl⟩ : ao = some ⟨lb, lo, none⟩ ∧ c = c' := by simpa using hlv
          obtain ⟨hc0, hc1, hc2, -⟩ := hat wr HP.out.1.d.fr
          obtain ⟨ap, cp, hpv, hpl⟩ := rd_len hok.p
          have hlb : lb < W.heap.size := World.block_lt_of_cell? W _ (hat W (Fr.refl _ _)).1
          have hp := hok.p
          rw [hpv] at hp hc2 hat
          have HA := hid (⟨hat, hlb⟩ : _ ∧ _)
          have HAP := hid hp
          clear hp hlb hpv hok hat hlv
          by_cases hk1 : a.kind = 1
          · rw [hk1] at hc0
            go_wp2_with fail
            have hpd := HP.out.1.nextNo ((Fr.refl No wr).drew)
            have hpr : Rd wr.drew (.slice ap a.p.length cp) a.p.length 1 (a.p.map u8v) := HAP.out.frame hpd.d.fr (fun _ _ e => e)
            have hSp : ∀ k, slBlock (.slice ap a.p.length cp) = some k → a.p.map u8v ≠ [] → k < W.heap.size := fun k hk hne => rd_block HAP.out hk hne
            have HD := hid (⟨hpd, hpr, hSp⟩ : _ ∧ _ ∧ _)
            have hlbd : lb < wr.drew.heap.size := Nat.lt_of_lt_of_le HA.out.2 hpd.d.fr.size
            clear hpd hpr hSp hc0
            refine wp_region_sched (by kernel_rfl) 12 [11] [0, 1, 2, 3, 4, 5, 6, 7, 8, 9, 10, 11] (AgC [lb] wr.drew) (by kernel_rfl) (AgC.refl _ _) ?_
            simp only [List.map_cons, List.map_nil, List.contains_cons, List.contains_nil, Nat.reduceBEq, Bool.or_false, Bool.or_true, nth_zero, nth_succ]
            repeat (refine sched_quiet (fun K hK => ?_); go_simp; refine hK _ ?_; clear hK K)
            refine sched_call (by first | rfl | go_simp) 13 #[.pointer (some ⟨b, 0, none⟩), .int .i64 a.i, .slice ap a.p.length cp] (by first | kernel_rfl | go_simp) (write_any wr.drew S b D HD.out.1.d.at_ a.i _ a.p HD.out.2.1 (fun k hk hne e => by have := HD.out.2.2 k hk hne; have := HD.out.1.d.new k e; omega) (by have := HP.out.1.wait; omega)) ?_
            rintro e w7 ⟨rfl, h7, f7⟩
            refine ⟨_, rfl, (AgC.refl _ _).fr f7 (fun j hj => by rw [List.mem_singleton.1 hj]; exact ⟨hlbd, fun e => by have := HD.out.1.d.new _ e; have := HA.out.2; omega⟩), ?_⟩
            have hpr7 : Rd w7.drew (.slice ap a.p.length cp) a.p.length 1 (a.p.map u8v) := (HD.out.2.1.frameE f7 (fun k hk hne e => by have := HD.out.2.2 k hk hne; have := HD.out.1.d.new k e; omega)).frame ((Fr.refl No w7).drew) (fun _ _ e => e)
            have h7d : DrumAt w7.drew (Gr S wr.drew w7.drew) b (D.doWrite a.i a.p).2 := h7.frame ((Fr.refl No w7).drew) (fun _ _ e => e)
            obtain ⟨e0, e1, e2, -⟩ := HA.out.1 w7 (HD.out.1.d.grow h7 f7).fr
            have H7 := hid (⟨h7d, f7.drew, hpr7⟩ : _ ∧ _ ∧ _)
            have hlb7 : lb < w7.drew.heap.size := Nat.lt_of_lt_of_le hlbd f7.size
            clear h7 f7 hpr7 h7d e0
            refine sched_nil ?_
            go_wp2_with fail
            refine wp_region_sched (by kernel_rfl) 12 [11] [0, 1, 2, 3, 4, 5, 6, 7, 8, 9, 10, 11] (AgC [lb] w7.drew) (by kernel_rfl) (AgC.refl _ _) ?_
            simp only [List.map_cons, List.map_nil, List.contains_cons, List.contains_nil, Nat.reduceBEq, Bool.or_false, Bool.or_true, nth_zero, nth_succ]
            repeat (refine sched_quiet (fun K hK => ?_); go_simp; refine hK _ ?_; clear hK K)
            refine sched_call (by first | rfl | go_simp) 14 #[.pointer (some ⟨b2, 0, none⟩), .int .i64 a.i, .slice ap a.p.length cp] (by first | kernel_rfl | go_simp) (HD.out.1.rwrite (by omega) H7.out.2.1 a.i _ a.p H7.out.2.2 (fun k hk hne e => by have := HD.out.2.2 k hk hne; have := HD.out.1.r.new k e; omega)) ?_
            rintro e w9 ⟨rfl, h8, f8⟩
            refine ⟨_, rfl, (AgC.refl _ _).fr f8 (fun j hj => by rw [List.mem_singleton.1 hj]; exact ⟨hlb7, fun e => by have := HD.out.1.r.new _ e; have := HA.out.2; omega⟩), ?_⟩
            have HQ : Hid (∃ S T D R, Pair W w9 S T b b2 D R (i + 1) ∧ Inv D ∧ D.n = n) := hid ⟨_, _, _, _, HD.out.1.step H7.out.1 H7.out.2.1 h8 f8 (HD.out.1.sim.write HD.out.1.d.at_.fuse_lo a.i a.p).2 (by have := doWrite_wait D a.i a.p; have := HP.out.1.wait; omega), HP.out.2.1.write a.i a.p, (doWrite_n D a.i a.p).trans HP.out.2.2⟩
            clear h8 f8
            refine sched_nil ?_
            go_wp2_with fail
            go_roundw
            case rel => exact ⟨i + 1, by omega, by omega, by go_num, HQ.out⟩
            case measure => simp [intOf]; omega
          · go_wp2_with (first | (go_at_call 15; refine (sync_any wr S b D HP.out.1.d.at_).mono ?_; rintro e w7 ⟨rfl, h7, f7⟩; have H7 := hid (⟨h7, f7⟩ : _ ∧ _); clear h7 f7) | (go_at_call 16; refine (HP.out.1.rsync H7.out.2).mono ?_; rintro e w9 ⟨rfl, h8, f8⟩; have HQ : Hid (∃ S T D R, Pair W w9 S T b b2 D R (i + 1) ∧ Inv D ∧ D.n = n) := hid ⟨_, _, _, _, HP.out.1.step H7.out.1.up H7.out.2 h8 f8 (HP.out.1.sim.sync HP.out.1.d.at_.fuse_lo).2 (by have := doSync_wait D; have := HP.out.1.wait; omega), HP.out.2.1.sync, (doSync_n D).trans HP.out.2.2⟩; clear h8 f8))
            go_roundw
            case rel => exact ⟨i + 1, by omega, by omega, by go_num, HQ.out⟩
            case measure => simp [intOf]; omega
        · go_wp2_with (first | (go_at_call 17; refine (crash_any _ S b D HP.out.1.d.at_ _ keep (HL.out.2.frame HP.out.1.d.fr (fun _ _ e => e)) (by have := HP.out.1.wait; omega)).mono ?_; rintro e w5 ⟨bc, rfl, h5, f5⟩; have H5 := hid (⟨h5, f5⟩ : _ ∧ _); clear h5 f5) | (refine wpList_makeO rfl 23 4 (.tmp 84) (.tmp 84) rfl _ 1 1 Try.underlying23 info4 l.length rfl rfl (by omega) (by omega) ?_; rw [made_one _ _ rfl, fillB_zero]; intro w6 p6; have P6 := hid p6; clear p6))
          go_loopw [12] (fun v wq => ∃ k : Nat, k ≤ l.length ∧ v = .int .i64 (k : Int) ∧ Hid (wq.heap[w5.heap.size]? = some (.cells (fillB l.length k).toArray 4 (0, 0)) ∧ Fr No w5 wq)) (fun v _ => l.length - (intOf v).toNat)
          case atStart => exact ⟨0, Nat.zero_le _, rfl, P6.out.at_, P6.out.fr⟩
          case round =>
            obtain ⟨k, hk, rfl, hm⟩ := hrel
            by_cases hlt2 : k < l.length
            · have hc : wr.cell? ⟨w5.heap.size, k, none⟩ = some (.bool (decide (k < k))) := by rw [cellOf hm.out.1]; simpa using fillB_get l.length k k hlt2
              have hz := freeAll hm.out.1
              go_wp2
              go_roundw
              case rel =>
                refine ⟨k + 1, by omega, by go_num, ?_, ?_⟩
                · have := hset (k := k) (v := .bool true) hm.out.1
                  rw [fillB_step l.length k hlt2] at this
                  exact this
                · exact hm.out.2.setCell (p := ⟨w5.heap.size, k, none⟩) _ (fun e => absurd e (Nat.lt_irrefl _))
              case measure => simp [intOf]; omega
            · have hkk : k = l.length := by omega
              subst hkk
              clear hlt2
              have hrd : Rd wr (.slice (some ⟨w5.heap.size, 0, none⟩) l.length l.length) (List.replicate l.length true).length 1 ((List.replicate l.length true).map Value.bool) := by
                rw [← fillB_all, List.length_replicate]
                exact Rd.block hm.out.1 l.length 1 l.length (by simp [fillB]) (by intro u hu; simp only [fillB, List.mem_map] at hu; obtain ⟨_, _, rfl⟩ := hu; rfl) (Nat.le_refl _) (by unfold maxLen; omega)
              have hpq := HP.out.1.nextNo (H5.out.2.thenNo hm.out.2)
              have HQ := hid (⟨hpq, H5.out.1.frame hm.out.2 (fun _ _ e => e), hrd⟩ : _ ∧ _ ∧ _)
              clear hpq hrd
              go_wp2_with (first | (go_at_call 17; refine (crash_any _ S b D HQ.out.1.d.at_ _ (List.replicate l.length true) HQ.out.2.2 (by have := HP.out.1.wait; omega)).mono ?_; rintro e w7 ⟨be, rfl, h7, f7⟩; have H7 := hid (⟨h7, f7⟩ : _ ∧ _); have hcw := HQ.out.2.1.frame f7 (fun _ _ e => e); have HC := hid hcw; clear h7 f7 hcw) | (go_at_call 18; refine (waiting_as HC.out 0 rfl).mono ?_; rintro e w' ⟨rfl, rfl⟩))
              go_loopw [14] (fun v wq => ∃ k : Nat, k ≤ n ∧ v = .int .i64 (k : Int) ∧ Hid (Fr No w7 wq)) (fun v _ => n - (intOf v).toNat)
              case atStart => exact ⟨0, Nat.zero_le _, rfl, Fr.refl _ _⟩
              case round =>
                obtain ⟨k, hkn, rfl, hf⟩ := hrel
                have hpr := (HQ.out.1.nextNo H7.out.2).nextNo hf.out
                have hcr := HC.out.frame hf.out (fun _ _ e => e)
                have her := H7.out.1.frame hf.out (fun _ _ e => e)
                have HR := hid (⟨hpr, hcr, her⟩ : _ ∧ _ ∧ _)
                clear hpr hcr her
                by_cases hlt3 : k < n
                · obtain ⟨X, hX⟩ : ∃ X, X = secL D.now k := ⟨_, rfl⟩
                  have hXs : R.S[k]? = some X := by rw [hX]; exact HR.out.1.sim.now k (by rw [HP.out.2.2]; exact hlt3)
                  have hSn : R.S.length = n := HR.out.1.sim.len.trans HP.out.2.2
                  have hXe : X = secI (D.crash (List.replicate l.length true)) (k : Int) := by
                    rw [hX, secI, if_pos ⟨by omega, by show (k : Int) < (D.n : Int); rw [HP.out.2.2]; omega⟩, Int.toNat_natCast, HP.out.2.1.crash l.length (by have := HP.out.1.wait; omega)]
                  obtain ⟨vo, vs, vw, g0, g1, g2, g3, -⟩ := HR.out.1.r.at_.body
                  obtain ⟨ax, cs, rfl⟩ := ownsRow_slice g2
                  obtain ⟨gs, _, rfl, -, hgsb, -⟩ := owns_at g2 (by omega)
                  have hcx : wr.cell? ⟨gs, k, none⟩ = some (strv X) := owns_cell g2 rfl (by rw [List.getElem?_map, hXs]; rfl)
                  obtain ⟨c0, c1, c2, c3, c4⟩ := cells5 g0
                  rw [hSn] at c1
                  have hL : ∀ j ∈ [b2, gs], j < wr.drew.heap.size ∧ ¬ No j := by
                    intro j hj
                    rcases List.mem_cons.1 hj with rfl | hj
                    · exact ⟨lt_of_block g0, fun e => e⟩
                    · rw [List.mem_singleton.1 hj]; exact ⟨lt_of_block hgsb, fun e => e⟩
                  have hed := HR.out.2.2.frame ((Fr.refl No wr).drew) (fun _ _ e => e)
                  have HX := hid (⟨hXe, hed, hL⟩ : _ ∧ _ ∧ _)
                  clear hX hXs hXe g0 g1 g2 g3 hgsb c0 c2 c3 c4 hL hed hSn
                  go_wp2_with fail
                  refine wp_region_sched (by kernel_rfl) 19 [2, 15] [0, 1, 4, 5, 6, 7, 8, 9, 10, 2, 3, 11, 12, 13, 14, 15, 16, 17, 18] (AgC [b2, gs] wr.drew) (by kernel_rfl) (AgC.refl _ _) ?_
                  simp only [List.map_cons, List.map_nil, List.contains_cons, List.contains_nil, Nat.reduceBEq, Bool.or_false, Bool.or_true, nth_zero, nth_succ]
                  repeat (refine sched_quiet (fun K hK => ?_); go_simp; refine hK _ ?_; clear hK K)
                  refine sched_call2 (by first | rfl | go_simp) 19 #[.pointer (some ⟨be, 0, none⟩), .int .i64 (k : Int)] (by first | kernel_rfl | go_simp) (read_all _ _ _ _ HX.out.2.1 _ X HX.out.1) ?_
                  rintro e wa ⟨aa, ca, rfl, ra, fa⟩
                  refine ⟨_, rfl, FrC wa, fun u hu => ((AgC.refl _ _).fr fa HX.out.2.2).fr hu.fr HX.out.2.2, FrC.refl _, ?_⟩
                  have hfa := (Fr.refl No wr).drew.thenNo fa
                  have HAA := hid (⟨ra, hfa, HR.out.2.1.frame hfa (fun _ _ e => e)⟩ : _ ∧ _ ∧ _)
                  clear ra fa hfa
                  refine sched_hide (fun K hK => ?_); go_simp; refine hK _ ?_; clear hK K
                  refine sched_conv (by first | rfl | go_simp) 29 9 (.tmp 116) rfl (.slice aa X.length ca) rfl (strv X) (fun w' hw' => run_strOf Try.underlying29 Try.underlying5 Try.underlying9 (HAA.out.1.frame hw'.fr (fun _ _ e => e))) ?_
                  refine sched_hide (fun K hK => ?_); simp only [strv]; refine hK _ ?_; clear hK K
                  repeat (refine sched_quiet (fun K hK => ?_); go_simp; refine hK _ ?_; clear hK K)
                  refine sched_call2 (by first | rfl | go_simp) 19 #[.pointer (some ⟨bc, 0, none⟩), .int .i64 (k : Int)] (by first | kernel_rfl | go_simp) (read_64 _ _ _ _ HAA.out.2.2 k (by show k < D.n; rw [HP.out.2.2]; exact hlt3)) ?_
                  rintro e wb ⟨ab, cb, rfl, fb⟩
                  refine ⟨_, rfl, FrC wb, FrC.sub fb, FrC.refl _, ?_⟩
                  have HB := hid ((hf.out.thenNo HAA.out.2.1).thenNo fb)
                  clear fb
                  repeat (refine sched_quiet (fun K hK => ?_); go_simp; refine hK _ ?_; clear hK K)
                  refine sched_nil ?_
                  go_wp2_with fail
                  go_roundw
                  case rel => exact ⟨k + 1, by omega, by go_num, HB.out⟩
                  case measure => simp [intOf]; omega
                · go_wp2_with (first | (go_at_call 21; refine (rcrash_any _ T b2 R HR.out.1.r.at_ _ keep (HL.out.2.frame HR.out.1.r.fr (fun _ _ e => e)) (by have := HR.out.1.rlen.2.1; omega) HR.out.1.rlen.2.2).mono ?_; rintro e w8 ⟨bx, rfl, h8, f8⟩; have H8 := hid (⟨h8, HR.out.2.1.frame f8 (fun _ _ e => e), HR.out.1.nextNo f8⟩ : _ ∧ _ ∧ _); clear h8 f8) | (go_at_call_of 20 bc; refine (alike_any w8 _ bc (D.crash keep) H8.out.2.1 _ bx (R.crash keep) H8.out.1 (HR.out.1.sim.crash keep)).mono ?_; rintro e w9 ⟨rfl, f9⟩; have H9 := hid (H8.out.2.2.nextNo f9); clear f9) | (go_at_call_of 20 b; refine (alike_any w9 S b D H9.out.d.at_ T b2 R H9.out.r.at_ H9.out.sim).mono ?_; rintro e w10 ⟨rfl, f10⟩; have H10 := hid (H9.out.nextNo f10); clear f10) | (go_at_call 22; refine (known_keeps H10.out.d.fr).mono ?_; rintro e w11 ⟨rfl, h11⟩; have H11 := hid h11; clear h11))
                  go_ret
                  exact ⟨rfl, H11.out⟩
      · go_wp2_with (first | (go_at_call 17; refine (crash_any _ S b D HP.out.1.d.at_ _ keep (HL.out.2.frame HP.out.1.d.fr (fun _ _ e => e)) (by have := HP.out.1.wait; omega)).mono ?_; rintro e w5 ⟨bc, rfl, h5, f5⟩; have H5 := hid (⟨h5, f5⟩ : _ ∧ _); clear h5 f5) | (refine wpList_makeO rfl 23 4 (.tmp 84) (.tmp 84) rfl _ 1 1 Try.underlying23 info4 l.length rfl rfl (by omega) (by omega) ?_; rw [made_one _ _ rfl, fillB_zero]; intro w6 p6; have P6 := hid p6; clear p6))
        go_loopw [12] (fun v wq => ∃ k : Nat, k ≤ l.length ∧ v = .int .i64 (k : Int) ∧ Hid (wq.heap[w5.heap.size]? = some (.cells (fillB l.length k).toArray 4 (0, 0)) ∧ Fr No w5 wq)) (fun v _ => l.length - (intOf v).toNat)
        case atStart => exact ⟨0, Nat.zero_le _, rfl, P6.out.at_, P6.out.fr⟩
        case round =>
          obtain ⟨k, hk, rfl, hm⟩ := hrel
          by_cases hlt2 : k < l.length
          · have hc : wr.cell? ⟨w5.heap.size, k, none⟩ = some (.bool (decide (k < k))) := by rw [cellOf hm.out.1]; simpa using fillB_get l.length k k hlt2
            have hz := freeAll hm.out.1
            go_wp2
            go_roundw
            case rel =>
              refine ⟨k + 1, by omega, by go_num, ?_, ?_⟩
              · have := hset (k := k) (v := .bool true) hm.out.1
                rw [fillB_step l.length k hlt2] at this
                exact this
              · exact hm.out.2.setCell (p := ⟨w5.heap.size, k, none⟩) _ (fun e => absurd e (Nat.lt_irrefl _))
            case measure => simp [intOf]; omega
          · have hkk : k = l.length := by omega
            subst hkk
            clear hlt2
            have hrd : Rd wr (.slice (some ⟨w5.heap.size, 0, none⟩) l.length l.length) (List.replicate l.length true).length 1 ((List.replicate l.length true).map Value.bool) := by
              rw [← fillB_all, List.length_replicate]
              exact Rd.block hm.out.1 l.length 1 l.length (by simp [fillB]) (by intro u hu; simp only [fillB, List.mem_map] at hu; obtain ⟨_, _, rfl⟩ := hu; rfl) (Nat.le_refl _) (by unfold maxLen; omega)
            have hpq := HP.out.1.nextNo (H5.out.2.thenNo hm.out.2)
            have HQ := hid (⟨hpq, H5.out.1.frame hm.out.2 (fun _ _ e => e), hrd⟩ : _ ∧ _ ∧ _)
            clear hpq hrd
            go_wp2_with (first | (go_at_call 17; refine (crash_any _ S b D HQ.out.1.d.at_ _ (List.replicate l.length true) HQ.out.2.2 (by have := HP.out.1.wait; omega)).mono ?_; rintro e w7 ⟨be, rfl, h7, f7⟩; have H7 := hid (⟨h7, f7⟩ : _ ∧ _); have hcw := HQ.out.2.1.frame f7 (fun _ _ e => e); have HC := hid hcw; clear h7 f7 hcw) | (go_at_call 18; refine (waiting_as HC.out 0 rfl).mono ?_; rintro e w' ⟨rfl, rfl⟩))
            go_loopw [14] (fun v wq => ∃ k : Nat, k ≤ n ∧ v = .int .i64 (k : Int) ∧ Hid (Fr No w7 wq)) (fun v _ => n - (intOf v).toNat)
            case atStart => exact ⟨0, Nat.zero_le _, rfl, Fr.refl _ _⟩
            case round =>
              obtain ⟨k, hkn, rfl, hf⟩ := hrel
              have hpr := (HQ.out.1.nextNo H7.out.2).nextNo hf.out
              have hcr := HC.out.frame hf.out (fun _ _ e => e)
              have her := H7.out.1.frame hf.out (fun _ _ e => e)
              have HR := hid (⟨hpr, hcr, her⟩ : _ ∧ _ ∧ _)
              clear hpr hcr her
              by_cases hlt3 : k < n
              · obtain ⟨X, hX⟩ : ∃ X, X = secL D.now k := ⟨_, rfl⟩
                have hXs : R.S[k]? = some X := by rw [hX]; exact HR.out.1.sim.now k (by rw [HP.out.2.2]; exact hlt3)
                have hSn : R.S.length = n := HR.out.1.sim.len.trans HP.out.2.2
                have hXe : X = secI (D.crash (List.replicate l.length true)) (k : Int) := by
                  rw [hX, secI, if_pos ⟨by omega, by show (k : Int) < (D.n : Int); rw [HP.out.2.2]; omega⟩, Int.toNat_natCast, HP.out.2.1.crash l.length (by have := HP.out.1.wait; omega)]
                obtain ⟨vo, vs, vw, g0, g1, g2, g3, -⟩ := HR.out.1.r.at_.body
                obtain ⟨ax, cs, rfl⟩ := ownsRow_slice g2
                obtain ⟨gs, _, rfl, -, hgsb, -⟩ := owns_at g2 (by omega)
                have hcx : wr.cell? ⟨gs, k, none⟩ = some (strv X) := owns_cell g2 rfl (by rw [List.getElem?_map, hXs]; rfl)
                obtain ⟨c0, c1, c2, c3, c4⟩ := cells5 g0
                rw [hSn] at c1
                have hL : ∀ j ∈ [b2, gs], j < wr.drew.heap.size ∧ ¬ No j := by
                  intro j hj
                  rcases List.mem_cons.1 hj with rfl | hj
                  · exact ⟨lt_of_block g0, fun e => e⟩
                  · rw [List.mem_singleton.1 hj]; exact ⟨lt_of_block hgsb, fun e => e⟩
                have hed := HR.out.2.2.frame ((Fr.refl No wr).drew) (fun _ _ e => e)
                have HX := hid (⟨hXe, hed, hL⟩ : _ ∧ _ ∧ _)
                clear hX hXs hXe g0 g1 g2 g3 hgsb c0 c2 c3 c4 hL hed hSn
                go_wp2_with fail
                refine wp_region_sched (by kernel_rfl) 19 [2, 15] [0, 1, 4, 5, 6, 7, 8, 9, 10, 2, 3, 11, 12, 13, 14, 15, 16, 17, 18] (AgC [b2, gs] wr.drew) (by kernel_rfl) (AgC.refl _ _) ?_
                simp only [List.map_cons, List.map_nil, List.contains_cons, List.contains_nil, Nat.reduceBEq, Bool.or_false, Bool.or_true, nth_zero, nth_succ]
                repeat (refine sched_quiet (fun K hK => ?_); go_simp; refine hK _ ?_; clear hK K)
                refine sched_call2 (by first | rfl | go_simp) 19 #[.pointer (some ⟨be, 0, none⟩), .int .i64 (k : Int)] (by first | kernel_rfl | go_simp) (read_all _ _ _ _ HX.out.2.1 _ X HX.out.1) ?_
                rintro e wa ⟨aa, ca, rfl, ra, fa⟩
                refine ⟨_, rfl, FrC wa, fun u hu => ((AgC.refl _ _).fr fa HX.out.2.2).fr hu.fr HX.out.2.2, FrC.refl _, ?_⟩
                have hfa := (Fr.refl No wr).drew.thenNo fa
                have HAA := hid (⟨ra, hfa, HR.out.2.1.frame hfa (fun _ _ e => e)⟩ : _ ∧ _ ∧ _)
                clear ra fa hfa
                refine sched_hide (fun K hK => ?_); go_simp; refine hK _ ?_; clear hK K
                refine sched_conv (by first | rfl | go_simp) 29 9 (.tmp 116) rfl (.slice aa X.length ca) rfl (strv X) (fun w' hw' => run_strOf Try.underlying29 Try.underlying5 Try.underlying9 (HAA.out.1.frame hw'.fr (fun _ _ e => e))) ?_
                refine sched_hide (fun K hK => ?_); simp only [strv]; refine hK _ ?_; clear hK K
                repeat (refine sched_quiet (fun K hK => ?_); go_simp; refine hK _ ?_; clear hK K)
                refine sched_call2 (by first | rfl | go_simp) 19 #[.pointer (some ⟨bc, 0, none⟩), .int .i64 (k : Int)] (by first | kernel_rfl | go_simp) (read_64 _ _ _ _ HAA.out.2.2 k (by show k < D.n; rw [HP.out.2.2]; exact hlt3)) ?_
                rintro e wb ⟨ab, cb, rfl, fb⟩
                refine ⟨_, rfl, FrC wb, FrC.sub fb, FrC.refl _, ?_⟩
                have HB := hid ((hf.out.thenNo HAA.out.2.1).thenNo fb)
                clear fb
                repeat (refine sched_quiet (fun K hK => ?_); go_simp; refine hK _ ?_; clear hK K)
                refine sched_nil ?_
                go_wp2_with fail
                go_roundw
                case rel => exact ⟨k + 1, by omega, by go_num, HB.out⟩
                case measure => simp [intOf]; omega
              · go_wp2_with (first | (go_at_call 21; refine (rcrash_any _ T b2 R HR.out.1.r.at_ _ keep (HL.out.2.frame HR.out.1.r.fr (fun _ _ e => e)) (by have := HR.out.1.rlen.2.1; omega) HR.out.1.rlen.2.2).mono ?_; rintro e w8 ⟨bx, rfl, h8, f8⟩; have H8 := hid (⟨h8, HR.out.2.1.frame f8 (fun _ _ e => e), HR.out.1.nextNo f8⟩ : _ ∧ _ ∧ _); clear h8 f8) | (go_at_call_of 20 bc; refine (alike_any w8 _ bc (D.crash keep) H8.out.2.1 _ bx (R.crash keep) H8.out.1 (HR.out.1.sim.crash keep)).mono ?_; rintro e w9 ⟨rfl, f9⟩; have H9 := hid (H8.out.2.2.nextNo f9); clear f9) | (go_at_call_of 20 b; refine (alike_any w9 S b D H9.out.d.at_ T b2 R H9.out.r.at_ H9.out.sim).mono ?_; rintro e w10 ⟨rfl, f10⟩; have H10 := hid (H9.out.nextNo f10); clear f10) | (go_at_call 22; refine (known_keeps H10.out.d.fr).mono ?_; rintro e w11 ⟨rfl, h11⟩; have H11 := hid h11; clear h11))
                go_ret
                exact ⟨rfl, H11.out⟩
theorem crashes_any (W : World) (n : Int) (lv : Value) (l : List ActR) (hl : Acts W lv l) (hlen : l.length ≤ 2199023255552) (kv : Value) (keep : List Bool) (hk : Rd W kv keep.length 1 (keep.map Value.bool)) :
    Calls Try.prog 3 #[.int .i64 n, lv, kv] W fun e w' => e = .returned (.bool true) ∧ Fr No W w' := by
  by_cases h : n < 0 ∨ 20 < n ∨ 200 < keep.length
  · obtain ⟨ao, c, rfl, -⟩ := rd_len hl.at_
    obtain ⟨bo, c2, rfl, -⟩ := rd_len hk
    exact crashes_out W n ao bo _ c _ c2 l hl h
  · obtain ⟨k, rfl⟩ := Int.eq_ofNat_of_zero_le (by omega : 0 ≤ n)
    exact crashes_in W k (by omega) lv l hl hlen kv keep hk (by omega)
end Go.Proofs.Ytggahnipmlihlaa
