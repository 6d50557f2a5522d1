/- A part of the proof: contracts of functions of the program, for the row's text. -/
import Derived.Test.YthadcdoepoglkaaGreatDoorJ16
import Derived.Test.YthadcdoepoglkaaGreatDoorJ03
import Derived.Test.YthadcdoepoglkaaGreatDoorJ14
namespace Go.Proofs.YthadcdoepoglkaaGreatDoor
open Go.RowKit Go.Lig
theorem txAs_sees {x y : Tx} (hy : TxOk y) : (decide (0 < txAs y) && decide (txAs y ≤ x.mark)) = (y.state == 1 && decide (y.commit ≤ x.mark)) := by
 unfold txAs
 by_cases h : y.state = 1
 ·have := hy.com h
  rw [if_pos h, decide_eq_true (show 0 < y.commit by omega)]
  simp [h]
 ·rw [if_neg h]
  simp [h]
theorem txAs_clash {x y : Tx} (hx : TxOk x) : (y.state == 0 || decide (x.mark < txAs y)) = (y.state == 0 || (y.state == 1 && decide (x.mark < y.commit))) := by
 unfold txAs
 have := hx.mark
 by_cases h : y.state = 1
 ·simp [h]
 ·rw [if_neg h, decide_eq_false (show ¬ x.mark < 0 by omega)]
  simp [h]
structure RTwo (w : World) (c g i j n m : Nat) (x y : Tx) : Prop where
 c0 : w.cell? ⟨c, 0, none⟩ = some (.slice (some ⟨g, 0, none⟩) m n)
 x0 : w.cell? ⟨g, i * 3, none⟩ = some (.int .i64 x.mark)
 y1 : w.cell? ⟨g, j * 3 + 1, none⟩ = some (.int .i64 (txAs y))
 y2 : w.cell? ⟨g, j * 3 + 2, none⟩ = some (.bool (y.state == 0))
 hi : i < m
 hj : j < m
theorem RClkRow.two {w : World} {c g : Nat} {K : Ck} (h : RClkRow w c g K) {t b : Int} {x y : Tx} (hx : K.tx t = some x) (hy : K.tx b = some y) : ∃ i j n : Nat, t = (i : Int) + 1 ∧ b = (j : Int) + 1 ∧ RTwo w c g i j n K.l.length x y := by
 obtain ⟨i, n, e1, hi, c0, d0, -, -⟩ := h.ix hx
 obtain ⟨j, n', e2, hj, c0', -, d1, d2⟩ := h.ix hy
 exact ⟨i, j, n, e1, e2, c0, d0, d1, d2, hi, hj⟩
set_option maxHeartbeats 1000000 in
theorem rsees_any (w : World) (c g : Nat) (K : Ck) (h : RClkRow w c g K) (t b : Int) :
  Calls Tryz.prog 160 #[.pointer (some ⟨c, 0, none⟩), .int .i64 t, .int .i64 b] w fun e w' => e = .returned (.bool (K.sees t b)) ∧ Fr No w w' := by
 have hs := h.few
 have HX := hid (ris_any w c g K h t)
 have HY := hid (ris_any w c g K h b)
 cases hx : K.tx t with
 | none =>
  have hr : K.sees t b = false := by unfold Ck.sees; rw [hx]
  rw [hr]
  rw [hx] at HX
  clear h hr hx
  go_enter Tryz.func160, Tryz.ntmps160
  go_wp2_with (go_at_call 151; refine HX.out.mono ?_; rintro e w' ⟨rfl, rfl⟩)
  go_ret
  exact ⟨rfl, Fr.refl _ _⟩
 | some x =>
  rw [hx] at HX
  cases hy : K.tx b with
  | none =>
   have hr : K.sees t b = false := by unfold Ck.sees; rw [hx, hy]
   rw [hr]
   rw [hy] at HY
   clear h hr hx hy
   go_enter Tryz.func160, Tryz.ntmps160
   go_wp2_with (first | (go_at_call 151; (with_reducible refine HX.out.mono ?_); rintro e w' ⟨rfl, rfl⟩) | (go_at_call 151; (with_reducible refine HY.out.mono ?_); rintro e w' ⟨rfl, rfl⟩))
   go_ret
   exact ⟨rfl, Fr.refl _ _⟩
  | some y =>
   rw [hy] at HY
   have hr : K.sees t b = (t == b || (decide (0 < txAs y) && decide (txAs y ≤ x.mark))) := by
    rw [txAs_sees (h.okt hy)]
    unfold Ck.sees
    rw [hx, hy]
   obtain ⟨i, j, n, rfl, rfl, ht⟩ := h.two hx hy
   rw [hr]
   obtain ⟨c0, x0, y1, y2, hi, hj⟩ := ht
   have hmy := hs
   clear h hr hx hy y2
   generalize K.l.length = m at *
   generalize txAs y = a at *
   generalize x.mark = b at *
   by_cases e1 : i = j
   ·subst e1
    have n1 : (((i : Int) + 1) == ((i : Int) + 1)) = true := beq_self_eq_true _
    rw [n1]
    by_cases e2 : 0 < a
    ·by_cases e3 : a ≤ b
     ·
      go_enter Tryz.func160, Tryz.ntmps160
      go_wp2_with (first | (go_at_call 151; (with_reducible refine HX.out.mono ?_); rintro e w' ⟨rfl, rfl⟩) | (go_at_call 151; (with_reducible refine HY.out.mono ?_); rintro e w' ⟨rfl, rfl⟩))
      go_ret
      exact ⟨rfl, Fr.refl _ _⟩
     ·
      go_enter Tryz.func160, Tryz.ntmps160
      go_wp2_with (first | (go_at_call 151; (with_reducible refine HX.out.mono ?_); rintro e w' ⟨rfl, rfl⟩) | (go_at_call 151; (with_reducible refine HY.out.mono ?_); rintro e w' ⟨rfl, rfl⟩))
      go_ret
      exact ⟨rfl, Fr.refl _ _⟩
    ·
     go_enter Tryz.func160, Tryz.ntmps160
     go_wp2_with (first | (go_at_call 151; (with_reducible refine HX.out.mono ?_); rintro e w' ⟨rfl, rfl⟩) | (go_at_call 151; (with_reducible refine HY.out.mono ?_); rintro e w' ⟨rfl, rfl⟩))
     go_ret
     exact ⟨rfl, Fr.refl _ _⟩
   ·have n1 : (((i : Int) + 1) == ((j : Int) + 1)) = false := beq_eq_false_iff_ne.2 (by omega)
    rw [n1]
    by_cases e2 : 0 < a
    ·rw [decide_eq_true e2]
     go_enter Tryz.func160, Tryz.ntmps160
     go_wp2_with (first | (go_at_call 151; (with_reducible refine HX.out.mono ?_); rintro e w' ⟨rfl, rfl⟩) | (go_at_call 151; (with_reducible refine HY.out.mono ?_); rintro e w' ⟨rfl, rfl⟩))
     go_ret
     exact ⟨rfl, Fr.refl _ _⟩
    ·rw [decide_eq_false e2]
     go_enter Tryz.func160, Tryz.ntmps160
     go_wp2_with (first | (go_at_call 151; (with_reducible refine HX.out.mono ?_); rintro e w' ⟨rfl, rfl⟩) | (go_at_call 151; (with_reducible refine HY.out.mono ?_); rintro e w' ⟨rfl, rfl⟩))
     go_ret
     exact ⟨rfl, Fr.refl _ _⟩
set_option maxHeartbeats 1000000 in
theorem rclashes_any (w : World) (c g : Nat) (K : Ck) (h : RClkRow w c g K) (t b : Int) :
  Calls Tryz.prog 199 #[.pointer (some ⟨c, 0, none⟩), .int .i64 t, .int .i64 b] w fun e w' => e = .returned (.bool (K.clashes t b)) ∧ Fr No w w' := by
 have hs := h.few
 have HX := hid (ris_any w c g K h t)
 have HY := hid (ris_any w c g K h b)
 cases hx : K.tx t with
 | none =>
  have hr : K.clashes t b = false := by unfold Ck.clashes; rw [hx]
  rw [hr]
  rw [hx] at HX
  clear h hr hx
  go_enter Tryz.func199, Tryz.ntmps199
  go_wp2_with (go_at_call 151; refine HX.out.mono ?_; rintro e w' ⟨rfl, rfl⟩)
  go_ret
  exact ⟨rfl, Fr.refl _ _⟩
 | some x =>
  rw [hx] at HX
  cases hy : K.tx b with
  | none =>
   have hr : K.clashes t b = false := by unfold Ck.clashes; rw [hx, hy]
   rw [hr]
   rw [hy] at HY
   have hne : (t == b) = false := beq_eq_false_iff_ne.2 (fun e => by rw [e, hy] at hx; cases hx)
   clear h hr hx hy
   go_enter Tryz.func199, Tryz.ntmps199
   go_wp2_with (first | (go_at_call 151; (with_reducible refine HX.out.mono ?_); rintro e w' ⟨rfl, rfl⟩) | (go_at_call 151; (with_reducible refine HY.out.mono ?_); rintro e w' ⟨rfl, rfl⟩))
   go_ret
   exact ⟨rfl, Fr.refl _ _⟩
  | some y =>
   rw [hy] at HY
   have hr : K.clashes t b = (!(t == b) && (y.state == 0 || decide (x.mark < txAs y))) := by
    rw [txAs_clash (h.okt hx)]
    unfold Ck.clashes
    rw [hx, hy]
   obtain ⟨i, j, n, rfl, rfl, ht⟩ := h.two hx hy
   rw [hr]
   obtain ⟨c0, x0, y1, y2, hi, hj⟩ := ht
   clear h hr hx hy
   generalize K.l.length = m at *
   generalize txAs y = a at *
   generalize x.mark = b at *
   by_cases e1 : i = j
   ·subst e1
    have n1 : (((i : Int) + 1) == ((i : Int) + 1)) = true := beq_self_eq_true _
    rw [n1]
    clear c0 x0 y1 y2
    go_enter Tryz.func199, Tryz.ntmps199
    go_wp2_with (first | (go_at_call 151; go_must (refine HX.out.mono ?_; rintro e w' ⟨rfl, rfl⟩)))
    go_ret
    exact ⟨rfl, Fr.refl _ _⟩
   ·have n1 : (((i : Int) + 1) == ((j : Int) + 1)) = false := beq_eq_false_iff_ne.2 (by omega)
    rw [n1]
    by_cases e2 : y.state = 0
    ·have n2 : ((y.state : Int) == 0) = true := by rw [beq_iff_eq]; exact e2
     rw [n2] at y2 ⊢
     clear e1
     have hwi : IntKind.i64.wrap (i : Int) = (i : Int) := IntWalk.i64_in _ (by omega)
     have hwj : IntKind.i64.wrap (j : Int) = (j : Int) := IntWalk.i64_in _ (by omega)
     go_enter Tryz.func199, Tryz.ntmps199
     go_wp2_with (first | (go_at_call 151; (with_reducible refine HX.out.mono ?_); rintro e w' ⟨rfl, rfl⟩) | (go_at_call 151; (with_reducible refine HY.out.mono ?_); rintro e w' ⟨rfl, rfl⟩))
     refine wp_region_sched (by kernel_rfl) 31 [] [0, 1, 2, 3, 4, 5, 6, 7, 8, 9, 10, 11, 12, 13, 14, 15, 16, 17, 18, 19, 20, 21, 22, 23, 24, 25, 26, 27, 28, 29, 30] (AgC [c, g] w.drew) (by kernel_rfl) (AgC.refl _ _) ?_
     simp only [List.map_cons, List.map_nil, List.contains_nil, nth_zero, nth_succ]
     repeat (refine sched_quiet (fun K hK => ?_); go_simp; refine hK _ ?_; clear hK K)
     refine sched_nil ?_
     go_wp2_with fail
     go_ret
     exact ⟨rfl, (Fr.refl No w).drew⟩
    ·have n2 : ((y.state : Int) == 0) = false := by rw [beq_eq_false_iff_ne]; exact e2
     rw [n2] at y2 ⊢
     clear e1
     have hwi : IntKind.i64.wrap (i : Int) = (i : Int) := IntWalk.i64_in _ (by omega)
     have hwj : IntKind.i64.wrap (j : Int) = (j : Int) := IntWalk.i64_in _ (by omega)
     go_enter Tryz.func199, Tryz.ntmps199
     go_wp2_with (first | (go_at_call 151; (with_reducible refine HX.out.mono ?_); rintro e w' ⟨rfl, rfl⟩) | (go_at_call 151; (with_reducible refine HY.out.mono ?_); rintro e w' ⟨rfl, rfl⟩))
     refine wp_region_sched (by kernel_rfl) 31 [] [0, 1, 2, 3, 4, 5, 6, 7, 8, 9, 10, 11, 12, 13, 14, 15, 16, 17, 18, 19, 20, 21, 22, 23, 24, 25, 26, 27, 28, 29, 30] (AgC [c, g] w.drew) (by kernel_rfl) (AgC.refl _ _) ?_
     simp only [List.map_cons, List.map_nil, List.contains_nil, nth_zero, nth_succ]
     repeat (refine sched_quiet (fun K hK => ?_); go_simp; refine hK _ ?_; clear hK K)
     refine sched_nil ?_
     go_wp2_with fail
     go_ret
     exact ⟨rfl, (Fr.refl No w).drew⟩
end Go.Proofs.YthadcdoepoglkaaGreatDoor
namespace Go.Proofs.YthadcdoepoglkaaGreatDoor
open Go.RowKit Go.Lig
theorem RClkRow.at_ {w : World} {c g : Nat} {K : Ck} (h : RClkRow w c g K) {i : Nat} {x : Tx} (hx : K.l[i]? = some x) : ∃ n : Nat, w.cell? ⟨c, 0, none⟩ = some (.slice (some ⟨g, 0, none⟩) K.l.length n) ∧
  w.cell? ⟨g, i * 3, none⟩ = some (.int .i64 x.mark) ∧ w.cell? ⟨g, i * 3 + 1, none⟩ = some (.int .i64 (txAs x)) ∧ w.cell? ⟨g, i * 3 + 2, none⟩ = some (.bool (x.state == 0)) := by
 have htx : K.tx ((i : Int) + 1) = some x := by unfold Ck.tx; rw [if_pos (by omega), show ((i : Int) + 1 - 1).toNat = i by omega]; exact hx
 obtain ⟨j, n, e, hj, c0, d0, d1, d2⟩ := h.ix htx
 obtain rfl : i = j := by omega
 exact ⟨n, c0, d0, d1, d2⟩
theorem RClkRow.c0 {w : World} {c g : Nat} {K : Ck} (h : RClkRow w c g K) : ∃ a n, w.cell? ⟨c, 0, none⟩ = some (.slice a K.l.length n) := by
 obtain ⟨a, n, h1, -⟩ := h.ex
 exact ⟨a, n, (cells2 h1).1⟩
set_option maxHeartbeats 1000000 in
theorem rcount_any (w : World) (c g : Nat) (K : Ck) (h : RClkRow w c g K) :
  Calls Tryz.prog 150 #[.pointer (some ⟨c, 0, none⟩)] w fun e w' => e = .returned (.int .i64 (K.count : Int)) ∧ Fr No w w' := by
 have hs := h.few
 obtain ⟨a0, m0, x0⟩ := h.c0
 have H := hid h
 clear h
 have HE : Hid (cntTo K.l K.l.length = K.count) := hid (by unfold cntTo Ck.count; rw [List.take_length])
 obtain ⟨n, hn⟩ : ∃ n, K.l.length = n := ⟨_, rfl⟩
 rw [hn] at hs x0
 have HN := hid hn
 clear hn
 go_enter Tryz.func150, Tryz.ntmps150
 go_wp2
 go_loop [3, 4] (fun vn vi => ∃ i : Nat, i ≤ n ∧ vn = .int .i64 (cntTo K.l i : Int) ∧ vi = .int .i64 (i : Int)) (fun _ vi => n - (intOf vi).toNat)
 case atStart => exact ⟨0, Nat.zero_le _, rfl, rfl⟩
 case round =>
  obtain ⟨i, hi, rfl, rfl⟩ := hrel
  have hcl := cnt_le K.l i
  by_cases hlt : i < n
  ·obtain ⟨x, hx⟩ : ∃ x, K.l[i]? = some x := ⟨K.l[i]'(by have := HN.out; omega), List.getElem?_eq_getElem _⟩
   obtain ⟨m, c0, y0, y1, y2⟩ := H.out.at_ hx
   rw [HN.out] at c0
   obtain ⟨rfl, rfl⟩ : a0 = some ⟨g, 0, none⟩ ∧ m0 = m := by simpa using x0.symm.trans c0
   have HS := hid (cnt_step hx)
   clear hx y0 y1 x0
   by_cases hz : x.state = 0
   ·have HS2 : Hid (cntTo K.l (i + 1) = cntTo K.l i + 1) := hid (by rw [HS.out, if_pos hz])
    have n1 : ((x.state : Int) == 0) = true := by rw [beq_iff_eq]; exact hz
    rw [n1] at y2
    clear hz n1
    go_wp2
    go_round
    case rel => exact ⟨i + 1, by omega, by rw [HS2.out]; go_num, by go_num⟩
    case measure => simp [intOf]; omega
   ·have HS2 : Hid (cntTo K.l (i + 1) = cntTo K.l i) := hid (by rw [HS.out, if_neg hz]; rfl)
    have n1 : ((x.state : Int) == 0) = false := by rw [beq_eq_false_iff_ne]; exact hz
    rw [n1] at y2
    clear hz n1
    go_wp2
    go_round
    case rel => exact ⟨i + 1, by omega, by rw [HS2.out], by go_num⟩
    case measure => simp [intOf]; omega
  ·obtain rfl : i = n := by omega
   clear hlt
   go_wp2
   go_ret
   exact ⟨by rw [← HE.out, HN.out]; rfl, Fr.refl _ _⟩
end Go.Proofs.YthadcdoepoglkaaGreatDoor
namespace Go.Proofs.YthadcdoepoglkaaGreatDoor
open Go.RowKit Go.Lig
set_option maxHeartbeats 1000000 in
theorem rbegin_full (w : World) (T : Nat → Prop) (c : Nat) (K : Ck) (h : RClkAt w T c K) (hc : 4 ≤ K.count) :
  Calls Tryz.prog 69 #[.pointer (some ⟨c, 0, none⟩)] w fun e w' => e = .returned (.tuple #[.int .i64 0, .int .i64 3]) ∧ Fr No w w' := by
 obtain ⟨g, hr, -⟩ := h.row
 have HC := hid (rcount_any w c g K hr)
 have h4 : (4 : Int) ≤ (K.count : Int) := by omega
 clear h hr hc
 go_enter Tryz.func69, Tryz.ntmps69
 go_wp2_with (go_at_call 150; refine HC.out.mono ?_; rintro e w1 ⟨rfl, f1⟩; have H1 := hid f1; clear f1)
 go_ret2
 exact ⟨rfl, H1.out⟩
theorem rbuilt_tx (n : Int) : Tryz.prog.built 216 [(0, .int .i64 n), (2, .bool true)] = some #[.int .i64 n, .int .i64 0, .bool true] := by kernel_rfl
theorem infoRt : (Tryz.prog.info? 216).map (fun i => (i.zero, i.size, i.bytes)) = some (some (.agg #[.int .i64 0, .int .i64 0, .bool false]), 3, 24) := by kernel_rfl
set_option maxHeartbeats 1000000 in
theorem rbegin_ok (w : World) (T : Nat → Prop) (c : Nat) (K : Ck) (h : RClkAt w T c K) (hc : K.count < 4) (hs : K.l.length < 1000000) :
  Calls Tryz.prog 69 #[.pointer (some ⟨c, 0, none⟩)] w fun e w' => e = .returned (.tuple #[.int .i64 ((K.l.length + 1 : Nat) : Int), .int .i64 0]) ∧ ∃ T', RClkAt w' T' c K.begins ∧ Fr T w w' ∧ Grown w T T' := by
 obtain ⟨g, hr, -⟩ := h.row
 have HC := hid (rcount_any w c g K hr)
 have h4 : ¬ (4 : Int) ≤ (K.count : Int) := by omega
 have H := hid h
 clear h hr hc
 go_enter Tryz.func69, Tryz.ntmps69
 go_wp2_with (go_at_call 150; refine HC.out.mono ?_; rintro e w1 ⟨rfl, f1⟩; have H1 := hid f1; clear f1)
 obtain ⟨v, g0, g1, g2⟩ := (H.out.frame (H1.out.thenNo (Fr.refl No w1).drew) (fun _ _ e => e)).ex
 obtain ⟨a, n, rfl⟩ := ownsRow_slice g1
 obtain ⟨c0, c1⟩ := cells2 g0
 have hcb := lt_of_block g0
 have HG := hid (⟨g0, g1, g2, hcb⟩ : _ ∧ _ ∧ _ ∧ _)
 clear g0 g1 g2 hcb
 refine wp_region_sched (by kernel_rfl) 14 [10, 11, 14] [0, 1, 2, 3, 4, 5, 6, 7, 8, 9, 10, 11, 12, 13, 14] (AgC [c] w1.drew) (by kernel_rfl) (AgC.refl _ _) ?_
 simp only [List.map_cons, List.map_nil, List.contains_cons, List.contains_nil, Nat.reduceBEq, Bool.or_false, Bool.or_true, nth_zero, nth_succ]
 repeat (first | (refine sched_build rfl 216 [(0, .tmp 15), (2, .const (.bool true))] rfl [(0, .int .i64 K.commits), (2, .bool true)] rfl _ (rbuilt_tx _) ?_) | (refine sched_quiet (fun K hK => ?_); go_simp; refine hK _ ?_; clear hK K))
 refine sched_loud (wpList_buildSlice1 rfl 121 216 (.tmp 16) rfl _ 3 24 Tryz.underlying121 infoRt (by decide) (by decide) (.agg (rtcell ⟨0, K.commits, 0⟩).toArray) rfl rfl ?_)
 intro w2 p2
 have p2' : New (rtcell ⟨0, K.commits, 0⟩).toArray 216 w1.drew w2 := p2
 have hL : ∀ (U : Nat → Prop), ¬ U c → ∀ j ∈ [c], j < w1.drew.heap.size ∧ ¬ U j := fun U hU j hj => by rw [List.mem_singleton.1 hj]; exact ⟨HG.out.2.2.2, hU⟩
 have a2 := (AgC.refl [c] w1.drew).fr p2.fr (hL No id)
 refine sched_on a2 ?_
 refine sched_loud (wpList_app rfl (.tmp 11) (.tmp 17) 121 rfl 216 _ 3 24 Tryz.underlying121 infoRt rfl (by decide) (.slice a K.l.length n) K.l.length (K.l.flatMap rtcell) rfl (fd_owns HG.out.2.1 p2.fr) (.slice (some ⟨w1.drew.heap.size, 0, none⟩) 1 1) 1 (rtcell ⟨0, K.commits, 0⟩) rfl (Rd.block p2'.at_ 1 3 1 rfl (by simp [rtcell, Value.oneCell']) (Nat.le_refl _) (by simp [maxLen])) (by unfold maxLen; omega) (by omega) ?_)
 intro v3 w3 o3 f3 b3 _
 have hcv : ¬ (Value.slice a K.l.length n).ownBlock = some c := fun e => (HG.out.2.2.1 c e).2 rfl
 refine sched_on (a2.fr f3 (hL _ hcv)) ?_
 have hg3 := f3.keep (p2.keep HG.out.1) hcv
 obtain ⟨a3, n3, rfl⟩ := ownsRow_slice o3
 have O3 := hid (⟨o3, f3, b3, hg3, p2.fr⟩ : _ ∧ _ ∧ _ ∧ _ ∧ _)
 clear o3 f3 b3 hg3 p2 p2' a2 hcv hL
 repeat (refine sched_quiet (fun K hK => ?_); go_simp; refine hK _ ?_; clear hK K)
 refine sched_loud (wpList_store1 rfl 121 (.tmp 20) (.tmp 18) rfl c 0 rfl _ _ (.slice a3 (K.l.length + 1) n3) rfl (by kernel_rfl) O3.out.2.2.2.1 (by simp) rfl ?_)
 intro w4 p4
 have p4' : Put c #[.slice a3 (K.l.length + 1) n3, .int .i64 K.commits] 123 w3 w4 := p4
 obtain ⟨d0, d1⟩ := cells2 p4'.at_
 have P4 := hid p4'
 clear p4 p4' d1
 refine sched_last ?_
 refine sched_nil ?_
 go_wp2
 go_ret2
 obtain ⟨o3, f3, b3, hg3, f2⟩ := O3.out
 have hfw : Fr No w w2 := (H1.out.thenNo (Fr.refl No w1).drew).thenNo f2
 have hown : ∀ k, (Value.slice a K.l.length n).ownBlock = some k → T k ∧ k ≠ c := HG.out.2.2.1
 have hnew : ∀ k, (Value.slice a3 (K.l.length + 1) n3).ownBlock = some k → (T k ∧ k ≠ c) ∨ w.heap.size ≤ k := fun k hk => by
  rcases b3 k hk with e | e
  ·exact .inl (hown k e)
  ·exact .inr (Nat.le_trans hfw.size e)
 have hcl : c < w.heap.size := H.out.bound c H.out.root
 have hne : ∀ k, (Value.slice a3 (K.l.length + 1) n3).ownBlock = some k → k ≠ c := fun k hk => by
  rcases hnew k hk with e | e
  ·exact e.2
  ·omega
 refine ⟨by simp, fun k => k = c ∨ (Value.slice a3 (K.l.length + 1) n3).ownBlock = some k, ⟨⟨_, P4.out.at_, P4.out.fr.owns (by simpa [Ck.begins] using o3) hne, fun k hk => ⟨.inr hk, hne k hk⟩⟩, .inl rfl, fun k hk => ?_, ?_, ?_⟩, ?_, fun k hk => ?_⟩
 ·have hz := P4.out.fr.size
  rcases hk with rfl | hk
  ·have := hfw.size; have := f3.size; omega
  ·have := (o3.lt k hk).2; omega
 ·have := H.out.small
  simp [Ck.begins]
  omega
 ·intro x hx
  have hx' : x ∈ K.l ∨ x = ⟨0, K.commits, 0⟩ := by simpa [Ck.begins] using hx
  rcases hx' with e | rfl
  ·exact H.out.ok x e
  ·exact ⟨.inl rfl, H.out.small.2.1, fun e => by simp at e⟩
 ·exact (hfw.mono (fun _ _ e => e.elim)).trans ((f3.mono (S' := fun k => (T k ∧ k ≠ c) ∨ k = c) (fun k _ e => .inl (hown k e))).trans P4.out.fr (fun _ _ e => .inr e)) (fun k _ e => by rcases e with e | rfl; exact e.1; exact H.out.root)
 ·rcases hk with rfl | hk
  ·exact .inl H.out.root
  ·exact (hnew k hk).imp (fun e => e.1) id
end Go.Proofs.YthadcdoepoglkaaGreatDoor
namespace Go.Proofs.YthadcdoepoglkaaGreatDoor
open Go.RowKit Go.Lig
theorem RClkAt.set {w w' : World} {T : Nat → Prop} {c g n : Nat} {K K' : Ck} {t : Int} {x x' : Tx} (h : RClkAt w T c K) (hx : K.tx t = some x) (hl : K'.l = K.l.set (t - 1).toNat x') (hc : 0 ≤ K'.commits ∧ K'.commits ≤ 1000000) (ho : TxOk x')
  (h1 : w'.heap[c]? = some (.cells #[.slice (some ⟨g, 0, none⟩) K.l.length n, .int .i64 K'.commits] 123 (0, 0))) (h2 : w'.ownsRow 0 216 3 (.slice (some ⟨g, 0, none⟩) K.l.length n) K.l.length ((K.l.set (t - 1).toNat x').flatMap rtcell))
  (hz : w.heap.size ≤ w'.heap.size) (hg : T g) (hgc : g ≠ c) : RClkAt w' T c K' := by
 refine ⟨⟨.slice (some ⟨g, 0, none⟩) K.l.length n, h1, ?_, fun k hk => ?_⟩, h.root, fun k hk => Nat.lt_of_lt_of_le (h.bound k hk) hz, ?_, fun y hy => ?_⟩
 ·rw [hl]; simpa using h2
 ·obtain rfl : g = k := Option.some.inj hk
  exact ⟨hg, hgc⟩
 ·have := h.small
  rw [hl, List.length_set]
  omega
 ·rw [hl] at hy
  rcases List.mem_or_eq_of_mem_set hy with e | rfl
  ·exact h.ok y e
  ·exact ho
set_option maxHeartbeats 1000000 in
theorem rabort_ok (w : World) (T : Nat → Prop) (c : Nat) (K : Ck) (h : RClkAt w T c K) (t : Int) (hn : K.live t = true) :
  Calls Tryz.prog 200 #[.pointer (some ⟨c, 0, none⟩), .int .i64 t] w fun e w' => e = .returned (.int .i64 0) ∧ RClkAt w' T c (K.abort t) ∧ Fr T w w' := by
 obtain ⟨g, hr, hgT⟩ := h.row
 obtain ⟨x, hx, hx0⟩ := Ck.live_some hn
 have HL := hid (rlive_any w c g K hr t)
 rw [hn] at HL
 obtain ⟨a, n, h1, h2, h3, h4⟩ := id hr.ex
 obtain ⟨t1, t2, t3, t4⟩ := Ck.tx_some hx
 obtain rfl := h3 (by omega)
 obtain ⟨g', cur, e', hb, hg, hnc, hcs, ht⟩ := owns_at h2 (by omega)
 obtain rfl : g = g' := by simpa using e'
 obtain ⟨i, hi⟩ : ∃ i : Nat, t = (i : Int) + 1 := ⟨(t - 1).toNat, by omega⟩
 have hit : (t - 1).toNat = i := by omega
 have hset := flat_set (f := rtcell) (m := 3) (fun _ => rfl) K.l (t - 1).toNat x { x with state := 2 } t3 2 (by decide) (.bool false) (by simp [rtcell, txAs, hx0])
 have hko : (t - 1).toNat * 3 + 2 < cur.size := by rw [hcs]; omega
 have ho := hr.okt hx
 have HH := hid (⟨h, h1, h2, hgT (by omega), h4, hset, hg, hko, hx, ho⟩ : _ ∧ _ ∧ _ ∧ _ ∧ _ ∧ _ ∧ _ ∧ _ ∧ _ ∧ _)
 have HK : Hid (K.abort t = { K with l := K.l.set (t - 1).toNat { x with state := 2 } }) := hid (by unfold Ck.abort Ck.put; rw [hx])
 have c0 := (cells2 h1).1
 rw [hit] at HH HK t2
 have HI := hid hi
 rw [hi] at HL ⊢
 have hs := hr.few
 clear h hr hn hx hx0 h1 h2 h3 h4 hgT t1 t3 t4 hb hg hnc hcs ht hko hset e' hit ho
 generalize hm : K.l.length = m at *
 have HM := hid hm
 clear hm
 go_enter Tryz.func200, Tryz.ntmps200
 go_wp2_with (first | (go_at_call 72; refine HL.out.mono ?_; rintro e w1 ⟨rfl, rfl⟩) | (refine wpList_store1 rfl 4 (.tmp 16) (.const (.bool false)) rfl g (i * 3 + 2) rfl cur 216 (.bool false) rfl (by kernel_rfl) HH.out.2.2.2.2.2.2.1 HH.out.2.2.2.2.2.2.2.1 rfl ?_; intro w2 p2; have P2 := hid p2; clear p2))
 go_ret
 obtain ⟨h, h1, h2, hgT, h4, hset, hg, hko, hx, ho⟩ := HH.out
 obtain rfl := HM.out
 obtain rfl := HI.out
 refine ⟨rfl, ?_, P2.out.fr.mono (fun k _ e => by subst e; exact hgT)⟩
 rw [HK.out]
 have e1 := owns_setN h2 hg P2.out
 rw [hset] at e1
 have e2 : ((i : Int) + 1 - 1).toNat = i := by omega
 exact h.set (t := (i : Int) + 1) (x' := { x with state := 2 }) hx (by rw [e2]) h.small.2 ⟨.inr (.inr rfl), ho.mark, fun e => by simp at e⟩ (P2.out.keep h1 (fun e => h4 e.symm)) (by rw [e2]; exact e1) P2.out.fr.size hgT h4
end Go.Proofs.YthadcdoepoglkaaGreatDoor
