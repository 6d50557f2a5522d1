/- The walks of package drum, sixth part: Crash, walked. -/
import Derived.Test.YtggahnipmlihlaaDrumE
namespace Go.Proofs.Ytggahnipmlihlaa
open Go.RowKit Go.Lig

/-- The world while Crash goes on: the new drum holds g for good. -/
structure Mid (w wr : World) (S : Nat → Prop) (b be : Nat) (D : Dr) (g : Nat → UInt8) : Prop where
  e : DrumAt wr (Gr No w wr) be { n := D.n, good := g, now := fun _ => 0, wait := [], dead := false, fuse := -1 }
  fr : Fr No w wr

theorem new_n (w : World) (n : Nat) (hn : n ≤ 200) : Calls Try.prog 11 #[.int .i64 (n : Int)] w fun e w' => ∃ b, e = .returned (.pointer (some ⟨b, 0, none⟩)) ∧ DrumAt w' (Gr No w w') b (Dr.new n) ∧ Fr No w w' := by
  have := new_any w (n : Int)
  rwa [clampN_of n hn] at this

theorem Mid.next {w wr w' : World} {S : Nat → Prop} {b be : Nat} {D : Dr} {g : Nat → UInt8} (h : Mid w wr S b be D g) (hf : Fr No wr w') : Mid w w' S b be D g :=
  ⟨(h.e.frame hf (fun _ _ e => e)).mono (fun k hk => by rcases hk with hk | hk; exact hk.elim; exact .inr ⟨hk.1, Nat.lt_of_lt_of_le hk.2 hf.size⟩) (fun k hk => by rcases hk with hk | hk; exact hk.elim; exact hk.2), h.fr.thenNo hf⟩

theorem size59 (x : Wr) : (Try.prog.info? 59).map (·.size) = some (wcell x).length := by rw [wcell_length]; kernel_rfl
theorem wcell_one (x : Wr) : ∀ u ∈ wcell x, u.oneCell' = true := one_cons _ _
/-- what the round needs of the write that waits. -/
theorem wait_cells {w wr : World} {gw len cv : Nat} {l : List Wr} (h3 : w.ownsRow 0 59 65 (.slice (some ⟨gw, 0, none⟩) len cv) l.length (wcells l)) (hf : Fr No w wr) {k : Nat} {x : Wr} (hx : l[k]? = some x) :
    ∀ j v, (wcell x)[j]? = some v → wr.cell? ((⟨gw, k * 65, none⟩ : Addr).add j) = some v := by
  intro j v hj
  have := (hf.owns h3 (fun _ _ e => e)).cells (g := gw) rfl (65 * k + j) v (wcells_get l k x hx j v hj)
  rw [Addr.add_mid] at this ⊢
  rw [show k * 65 + j = 0 + (65 * k + j) by omega]
  exact this
theorem keep_cell {w : World} {kv : Value} {keep : List Bool} (hk : Rd w kv keep.length 1 (keep.map Value.bool)) {k : Nat} {kb : Bool} (hkb : keep[k]? = some kb) :
    ∃ ka ko cc, kv = .slice (some ⟨ka, ko, none⟩) keep.length cc ∧ ∀ w', Fr No w w' → w'.cell? ⟨ka, ko + k, none⟩ = some (.bool kb) := by
  obtain ⟨ao, cc, rfl, hl, h0, h1, _⟩ := id hk
  cases ao with
  | none =>
    have := (h0 rfl).1
    have := (List.getElem?_eq_some_iff.1 hkb).1
    omega
  | some ad =>
    obtain ⟨ka, ko, sp⟩ := ad
    have hsp := hk.spot (by have := (List.getElem?_eq_some_iff.1 hkb).1; simp; omega)
    simp only at hsp
    subst hsp
    refine ⟨ka, ko, cc, rfl, fun w' hf => ?_⟩
    have := ((hk.frame hf (fun _ _ e => e)).cell rfl (j := k) (u := .bool kb) (by simp [hkb]))
    rwa [Addr.add_mid] at this
theorem crashTo_yes {g : Nat → UInt8} {ws : List Wr} {keep : List Bool} {k : Nat} {x : Wr} (hx : ws[k]? = some x) (hk : keep[k]? = some true) : crashTo g ws keep (k + 1) = lay (crashTo g ws keep k) x.i x.p := by
  simp [crashTo, hx, hk]
theorem crashTo_no {g : Nat → UInt8} {ws : List Wr} {keep : List Bool} {k : Nat} (hk : keep[k]? ≠ some true) : crashTo g ws keep (k + 1) = crashTo g ws keep k := by
  simp only [crashTo]
  split
  · rename_i h1 h2; exact absurd h2 hk
  · rfl

set_option maxRecDepth 100000 in
set_option maxHeartbeats 1000000 in
theorem crash_any (w : World) (S : Nat → Prop) (b : Nat) (D : Dr) (h : DrumAt w S b D) (kv : Value) (keep : List Bool) (hk : Rd w kv keep.length 1 (keep.map Value.bool)) (hlen : D.wait.length ≤ 1000000000) :
    Calls Try.prog 17 #[.pointer (some ⟨b, 0, none⟩), kv] w fun e w' => ∃ b', e = .returned (.pointer (some ⟨b', 0, none⟩)) ∧ DrumAt w' (Gr No w w') b' (D.crash keep) ∧ Fr No w w' := by
  obtain ⟨bg, bn, vw, h0, h1, h2, h3, s1, s2, s3, e1, e2, e3⟩ := h.body
  obtain ⟨c0, c1, c2, c3, c4⟩ := cells5 h0
  have hn := h.n_le
  obtain ⟨ao, cc, rfl, hk'⟩ := id hk
  obtain ⟨av, cv, rfl⟩ := ownsRow_slice h3
  have H := hid (⟨h, h0, h1, h2, h3, s1, s2, s3, e1, e2, e3, hk⟩ : _ ∧ _ ∧ _ ∧ _ ∧ _ ∧ _ ∧ _ ∧ _ ∧ _ ∧ _ ∧ _ ∧ _)
  clear h h0 h1 h2 h3 s1 s2 s3 e1 e2 e3 hk hk' c0 c2 c3 c4
  go_enter Try.func17, Try.ntmps17
  go_wp2_with (go_at_call 11; refine (new_n w D.n hn).mono ?_; rintro e w1 ⟨be, rfl, hE, hF⟩)
  obtain ⟨eg, en, ew, m0, m1, m2, t1, t2, u1, u2, u3⟩ := hE.body0
  have hF0 := hF.keep H.out.2.1 (fun e => e)
  have hF1 := hF.keep H.out.2.2.1 (fun e => e)
  obtain ⟨c0, c1', c2, c3, c4⟩ := cells5 hF0
  obtain ⟨x0, x1, x2, x3, x4⟩ := cells5 m0
  have HM := hid (⟨hE, hF, m0, m1, m2, t1, t2, u1, u2, u3, hF0, hF1⟩ : _ ∧ _ ∧ _ ∧ _ ∧ _ ∧ _ ∧ _ ∧ _ ∧ _ ∧ _ ∧ _ ∧ _)
  clear hE hF m0 m1 m2 t1 t2 u1 u2 u3 hF0 hF1 c1 c1' c3 c4 x1 x2 x3 x4
  go_still_tail 8, (by kernel_rfl)
  refine wpList_copyO rfl (.tmp 19) (.tmp 23) 52 52 rfl 57 64 Try.underlying52 size57 eg 0 D.n D.n _ D.n (bs D.good (64 * D.n)) rfl rfl (Rd.block HM.out.2.2.2.2.2.2.2.2.2.2.2 D.n 64 D.n (by rw [bs_length, Nat.mul_comm]) (bs_one _ _) (Nat.le_refl _) (by unfold maxLen; omega)) (bs (fun _ => 0) (64 * D.n)) 57 HM.out.2.2.2.1 (by rw [bs_length]; omega) ?_
  rw [Nat.min_self, List.take_of_length_le (l := bs D.good (64 * D.n)) (by rw [bs_length]; omega), List.drop_eq_nil_of_le (by rw [bs_length]; omega), List.take_zero, List.nil_append, List.append_nil]
  intro w2 p2
  have hm2 : Mid w w2 S b be D D.good := by
    obtain ⟨hE, hF, m0, m1, m2, t1, t2, u1, u2, u3, hF0, hF1⟩ := HM.out
    have p2' : Put eg (bs D.good (64 * D.n)).toArray 57 w1 w2 := ⟨p2.at_, (Fr.refl (fun k => k = eg) w1).drew.thenS p2.fr, p2.size⟩
    have hE' := hE.setGood m0 D.good p2'
    have hgr : ∀ k, Gr No w w1 k → Gr No w w2 k := fun k hk => by
      rcases hk with hk | hk
      · exact hk.elim
      · exact .inr ⟨hk.1, by rw [p2'.size]; exact hk.2⟩
    exact ⟨hE'.mono hgr (fun k hk => by rcases hk with hk | hk; exact hk.elim; exact hk.2), hF.trans p2'.fr (fun k hk e => by rcases t1 with t1 | t1; exact t1; omega)⟩
  have HM2 := hid hm2
  have hG0 := hm2.fr.keep H.out.2.1 (fun e => e)
  obtain ⟨d0, d1, d2, d3, d4⟩ := cells5 hG0
  clear p2 hm2 hG0 d0 d1 d3 d4 c0 c2 x0
  go_wp2
  go_loopw [30] (fun v wr => ∃ k : Nat, k ≤ D.wait.length ∧ v = .int .i64 (k : Int) ∧ Hid (Mid w wr S b be D (crashTo D.good D.wait keep k))) (fun v _ => D.wait.length - (intOf v).toNat)
  case atStart => exact ⟨0, Nat.zero_le _, rfl, HM2⟩
  case round =>
    obtain ⟨k, hkl, rfl, hm⟩ := hrel
    by_cases hlt : k < D.wait.length
    · obtain ⟨x, hx⟩ : ∃ x, D.wait[k]? = some x := ⟨_, List.getElem?_eq_getElem hlt⟩
      obtain ⟨gw, hgw⟩ : ∃ gw, av = some ⟨gw, 0, none⟩ := by
        rcases H.out.2.2.2.2.1.2 with ⟨e, e'⟩ | ⟨g, cap, cur, e, _⟩
        · omega
        · simp at e; exact ⟨g, e.1⟩
      subst hgw
      have hxl := H.out.1.wait_lt x (List.mem_of_getElem? hx)
      have HX := hid hx
      clear hx
      by_cases hkn : keep[k]? = some true
      · obtain ⟨ka, ko, cc', hkv, hkc0⟩ := keep_cell H.out.2.2.2.2.2.2.2.2.2.2.2 hkn
        obtain ⟨rfl, _, rfl⟩ := (by simpa using hkv : ao = some ⟨ka, ko, none⟩ ∧ True ∧ cc = cc')
        have hkl2 : k < keep.length := (List.getElem?_eq_some_iff.1 hkn).1
        have HKC := hid hkc0
        have HKN := hid hkn
        clear hkc0 hkn hkv
        go_wp2_with (first | (refine wpList_load_seg rfl 59 (.tmp 33) rfl _ Try.underlying59 rfl (wcell x) (size59 x) ⟨gw, k * 65, none⟩ rfl (wait_cells H.out.2.2.2.2.1 hm.out.fr HX.out) ?_) | (refine wpList_allocO rfl 59 rfl _ 65 72 info59 ?_; intro w3 p3; have HP3 := hid p3; clear p3) | (refine wpList_storeO rfl 59 (.tmp 7) (.tmp 34) rfl wr.heap.size 0 rfl (.int .i64 0 :: List.replicate 64 (.int .u8 0)) 59 (wcell x) rfl (size59 x) HP3.out.at_ (by rw [wcell_length]; simp) (wcell_one x) ?_; intro w4 p4; have q4 := local_done HP3.out p4 (wcell_length x); have hkc := HKC.out w4 (hm.out.fr.thenNo q4.fr); have HQ := hid q4; clear p4 q4))
        obtain ⟨eg', en', ew', m0, m1, m2, t1, t2, u1, u2, u3⟩ := hm.out.e.body0
        have q4 := HQ.out
        have m0' := q4.keep m0
        have m1' := q4.keep m1
        obtain ⟨y0, y1, y2, y3, y4⟩ := cells5 m0'
        have yB : w4.cell? ⟨wr.heap.size, 0, none⟩ = some (.int .i64 (x.i : Int)) := by rw [cellOf q4.at_]; simp [wcell]
        have hbe : be < w4.heap.size := lt_of_block m0'
        have hBB : wr.heap.size < w4.heap.size := by rw [q4.size]; omega
        have HY := hid (⟨m0, m0', m1', t1, u1⟩ : _ ∧ _ ∧ _ ∧ _ ∧ _)
        clear m0 m1 m2 t1 t2 u1 u2 u3 q4 m0' m1' y1 y2 y3 y4
        refine wp_region_sched (by kernel_rfl) 9 [9] [0, 1, 2, 3, 4, 5, 6, 7, 8, 9] (AgC [be, wr.heap.size] w4.drew) (by kernel_rfl) (AgC.refl _ _) ?_
        simp only [List.map_cons, List.map_nil, List.contains_cons, List.contains_nil, Nat.reduceBEq, Bool.or_false, nth_zero, nth_succ]
        have HLW : Hid (∀ w', AgC [be, wr.heap.size] w4.drew w' → (Instr.loadAt 57 (.pointer (some ⟨wr.heap.size, 1, none⟩))).run Try.prog w' = .ok (.agg (bs x.p 64).toArray) w') := by
          rintro w' ⟨u, rfl⟩
          refine run_load_seg 57 _ Try.underlying57 rfl _ (by rw [bs_length]; exact size57) _ (fun j v hj => ?_)
          rw [Addr.add_mid, cellOf (heap_agr u (w := w4.drew) HQ.out.at_ (by simp))]
          simpa [wcell, Nat.add_comm 1 j] using hj
        repeat (first | (refine sched_load rfl 57 (.tmp 51) rfl ⟨wr.heap.size, 1, none⟩ rfl (.agg (bs x.p 64).toArray) HLW.out ?_) | (refine sched_quiet (fun K hK => ?_); go_simp; refine hK _ ?_; clear hK K))
        refine sched_loud (wpList_storeO rfl 57 (.tmp 53) (.tmp 52) rfl eg' (x.i * 64) rfl (bs (crashTo D.good D.wait keep k) (64 * D.n)) 57 (bs x.p 64) rfl (by rw [bs_length]; exact size57) HY.out.2.2.1 (by rw [bs_length, bs_length]; omega) (bs_one _ _) ?_)
        rw [lay_cells _ D.n x.i hxl x.p, ← crashTo_yes HX.out HKN.out]
        intro w5 p5
        refine sched_last (sched_nil ?_)
        have HM5 : Hid (Mid w w5 S b be D (crashTo D.good D.wait keep (k + 1))) := by
          have hmid := hm.out.next HQ.out.fr
          have p5' : Put eg' (bs (crashTo D.good D.wait keep (k + 1)) (64 * D.n)).toArray 57 w4 w5 := ⟨p5.at_, (Fr.refl (fun k => k = eg') w4).drew.thenS p5.fr, p5.size⟩
          have hE' := hmid.e.setGood HY.out.2.1 _ p5'
          refine ⟨hE'.mono (fun k hk => ?_) (fun k hk => by rcases hk with hk | hk; exact hk.elim; exact hk.2), hmid.fr.trans p5'.fr (fun k hk e => ?_)⟩
          · rcases hk with hk | hk
            · exact hk.elim
            · exact .inr ⟨hk.1, by rw [p5'.size]; exact hk.2⟩
          · rcases HY.out.2.2.2.1 with t1 | t1
            · exact t1
            · omega
        clear p5 y0 yB hbe hBB
        go_wp2
        go_roundw
        case rel => exact ⟨k + 1, by omega, by go_num, HM5⟩
        case measure => simp [intOf]; omega
      · have hmn : ∀ wx, Fr No wr wx → Hid (Mid w wx S b be D (crashTo D.good D.wait keep (k + 1))) := fun wx hx => by
          rw [crashTo_no hkn]
          exact hm.out.next hx
        have HMN := hid hmn
        clear hmn
        by_cases hkl2 : k < keep.length
        · have hkf : keep[k]? = some false := by
            rw [List.getElem?_eq_getElem hkl2] at hkn ⊢
            cases hb : keep[k]
            · rfl
            · rw [hb] at hkn; exact absurd rfl hkn
          obtain ⟨ka, ko, cc', hkv, hkc0⟩ := keep_cell H.out.2.2.2.2.2.2.2.2.2.2.2 hkf
          obtain ⟨rfl, _, rfl⟩ := (by simpa using hkv : ao = some ⟨ka, ko, none⟩ ∧ True ∧ cc = cc')
          have HKC := hid hkc0
          clear hkc0 hkn hkv hkf
          go_wp2_with (first | (refine wpList_load_seg rfl 59 (.tmp 33) rfl _ Try.underlying59 rfl (wcell x) (size59 x) ⟨gw, k * 65, none⟩ rfl (wait_cells H.out.2.2.2.2.1 hm.out.fr HX.out) ?_) | (refine wpList_allocO rfl 59 rfl _ 65 72 info59 ?_; intro w3 p3; have HP3 := hid p3; clear p3) | (refine wpList_storeO rfl 59 (.tmp 7) (.tmp 34) rfl wr.heap.size 0 rfl (.int .i64 0 :: List.replicate 64 (.int .u8 0)) 59 (wcell x) rfl (size59 x) HP3.out.at_ (by rw [wcell_length]; simp) (wcell_one x) ?_; intro w4 p4; have q4 := local_done HP3.out p4 (wcell_length x); have hkc := HKC.out w4 (hm.out.fr.thenNo q4.fr); have HQ := hid q4; clear p4 q4))
          go_roundw
          case rel => exact ⟨k + 1, by omega, by go_num, HMN.out _ HQ.out.fr⟩
          case measure => simp [intOf]; omega
        · clear hkn
          have HKC : Hid (∀ w', Fr No w w' → True) := hid fun _ _ => trivial
          go_wp2_with (first | (refine wpList_load_seg rfl 59 (.tmp 33) rfl _ Try.underlying59 rfl (wcell x) (size59 x) ⟨gw, k * 65, none⟩ rfl (wait_cells H.out.2.2.2.2.1 hm.out.fr HX.out) ?_) | (refine wpList_allocO rfl 59 rfl _ 65 72 info59 ?_; intro w3 p3; have HP3 := hid p3; clear p3) | (refine wpList_storeO rfl 59 (.tmp 7) (.tmp 34) rfl wr.heap.size 0 rfl (.int .i64 0 :: List.replicate 64 (.int .u8 0)) 59 (wcell x) rfl (size59 x) HP3.out.at_ (by rw [wcell_length]; simp) (wcell_one x) ?_; intro w4 p4; have q4 := local_done HP3.out p4 (wcell_length x); have hkc := HKC.out w4 (hm.out.fr.thenNo q4.fr); have HQ := hid q4; clear p4 q4))
          go_roundw
          case rel => exact ⟨k + 1, by omega, by go_num, HMN.out _ HQ.out.fr⟩
          case measure => simp [intOf]; omega
    · obtain rfl : k = D.wait.length := by omega
      clear hlt
      obtain ⟨eg', en', ew', m0, m1, m2, t1, t2, u1, u2, u3⟩ := hm.out.e.body0
      obtain ⟨y0, y1, y2, y3, y4⟩ := cells5 m0
      have HY := hid (⟨m0, m1, m2, t2, u3⟩ : _ ∧ _ ∧ _ ∧ _ ∧ _)
      clear m0 m1 m2 t1 t2 u1 u2 u3 y2 y3 y4
      go_wp2
      go_still_tail 8, (by kernel_rfl)
      refine wpList_copyO rfl (.tmp 58) (.tmp 62) 52 52 rfl 57 64 Try.underlying52 size57 en' 0 D.n D.n _ D.n (bs (crashTo D.good D.wait keep D.wait.length) (64 * D.n)) rfl rfl (Rd.block HY.out.2.1 D.n 64 D.n (by rw [bs_length, Nat.mul_comm]) (bs_one _ _) (Nat.le_refl _) (by unfold maxLen; omega)) (bs (fun _ => 0) (64 * D.n)) 57 HY.out.2.2.1 (by rw [bs_length]; omega) ?_
      rw [Nat.min_self, List.take_of_length_le (l := bs (crashTo D.good D.wait keep D.wait.length) (64 * D.n)) (by rw [bs_length]; omega), List.drop_eq_nil_of_le (by rw [bs_length]; omega), List.take_zero, List.nil_append, List.append_nil]
      intro w5 p5
      have HP5 := hid p5
      clear p5 y0 y1
      go_wp2
      go_ret
      have p5' : Put en' (bs (crashTo D.good D.wait keep D.wait.length) (64 * D.n)).toArray 57 wr w5 := ⟨HP5.out.at_, (Fr.refl (fun k => k = en') wr).drew.thenS HP5.out.fr, HP5.out.size⟩
      have hE' := hm.out.e.setNow HY.out.1 _ p5'
      refine ⟨be, rfl, hE'.mono (fun k hk => ?_) (fun k hk => by rcases hk with hk | hk; exact hk.elim; exact hk.2), hm.out.fr.trans p5'.fr (fun k hk e => ?_)⟩
      · rcases hk with hk | hk
        · exact hk.elim
        · exact .inr ⟨hk.1, by rw [p5'.size]; exact hk.2⟩
      · rcases HY.out.2.2.2.1 with t1 | t1
        · exact t1
        · omega
end Go.Proofs.Ytggahnipmlihlaa
