/- A part of the proof: contracts of functions of the program, for the row's text. -/
import Derived.LaidEqlPtr
import Derived.Test.YthadcdoepoglkaaGreatDoorJ02
import Derived.RangeFuncNested
import Derived.RangeFuncBound
import Derived.RangeFuncCalls
import Derived.RangeFuncLeaves
import Derived.Shelf.Abstract
import Derived.Shelf.RegionOpen
import Derived.OwnWalkIn
import Derived.TacticsInMore
import Derived.LoopNIn
import Derived.LoopIn
namespace Go.Proofs.YthadcdoepoglkaaGreatDoor
open Go.RowKit Go.Lig
theorem off_ne {K : Ck} {t b : Int} {x y : Tx} (hx : K.tx t = some x) (hy : K.tx b = some y) (h : t ≠ b) : (t - 1).toNat * 3 ≠ (b - 1).toNat * 3 := by
 have h1 := (Ck.tx_some hx).1
 have h2 := (Ck.tx_some hy).1
 omega
set_option maxHeartbeats 1000000 in
theorem sees_none (w : World) (c g : Nat) (K : Ck) (h : ClkRow w c g K) (hs : K.l.length ≤ 1000000) (t b : Int) (hn : K.tx t = none ∨ K.tx b = none) :
  Calls Tryz.prog 183 #[.pointer (some ⟨c, 0, none⟩), .int .i64 t, .int .i64 b] w fun e w' => e = .returned (.bool false) ∧ Fr No w w' := by
 have HX := hid (clkat_any w c g K h hs t)
 have HY := hid (clkat_any w c g K h hs b)
 cases hx : K.tx t with
 | none =>
  rw [atV_none hx] at HX
  cases hy : K.tx b with
  | none =>
    rw [atV_none hy] at HY
    clear h hx hy hn
    go_enter Tryz.func183, Tryz.ntmps183
    go_wp2_with fail
    refine (HX.out).mono ?_
    rintro e w' ⟨rfl, rfl⟩
    go_wp2_with fail
    refine (HY.out).mono ?_
    rintro e w' ⟨rfl, rfl⟩
    go_wp2_with fail
    refine wp_region_sched (by kernel_rfl) 30 [] [0, 1, 2, 3, 4, 5, 6, 7, 8, 9, 10, 11, 12, 13, 14, 15, 16, 17, 18, 19, 20, 21, 22, 23, 24, 25, 26, 27, 28, 29] (AgC [g] w.drew) (by kernel_rfl) (AgC.refl _ _) ?_
    simp only [List.map_cons, List.map_nil, List.contains_nil, nth_zero, nth_succ]
    repeat (refine sched_quiet (fun K hK => ?_); go_simp; refine hK _ ?_; clear hK K)
    refine sched_nil ?_
    go_wp2_with fail
    go_ret
    exact ⟨rfl, (Fr.refl No w).drew⟩
  | some y =>
    rw [atV_some hy] at HY
    generalize (b - 1).toNat * 3 = o2 at *
    clear h hx hy hn
    go_enter Tryz.func183, Tryz.ntmps183
    go_wp2_with fail
    refine (HX.out).mono ?_
    rintro e w' ⟨rfl, rfl⟩
    go_wp2_with fail
    refine (HY.out).mono ?_
    rintro e w' ⟨rfl, rfl⟩
    go_wp2_with fail
    refine wp_region_sched (by kernel_rfl) 30 [] [0, 1, 2, 3, 4, 5, 6, 7, 8, 9, 10, 11, 12, 13, 14, 15, 16, 17, 18, 19, 20, 21, 22, 23, 24, 25, 26, 27, 28, 29] (AgC [g] w.drew) (by kernel_rfl) (AgC.refl _ _) ?_
    simp only [List.map_cons, List.map_nil, List.contains_nil, nth_zero, nth_succ]
    repeat (refine sched_quiet (fun K hK => ?_); go_simp; refine hK _ ?_; clear hK K)
    refine sched_nil ?_
    go_wp2_with fail
    go_ret
    exact ⟨rfl, (Fr.refl No w).drew⟩
 | some x =>
  rw [atV_some hx] at HX
  cases hy : K.tx b with
  | none =>
    rw [atV_none hy] at HY
    generalize (t - 1).toNat * 3 = o1 at *
    clear h hx hy hn
    go_enter Tryz.func183, Tryz.ntmps183
    go_wp2_with fail
    refine (HX.out).mono ?_
    rintro e w' ⟨rfl, rfl⟩
    go_wp2_with fail
    refine (HY.out).mono ?_
    rintro e w' ⟨rfl, rfl⟩
    go_wp2_with fail
    refine wp_region_sched (by kernel_rfl) 30 [] [0, 1, 2, 3, 4, 5, 6, 7, 8, 9, 10, 11, 12, 13, 14, 15, 16, 17, 18, 19, 20, 21, 22, 23, 24, 25, 26, 27, 28, 29] (AgC [g] w.drew) (by kernel_rfl) (AgC.refl _ _) ?_
    simp only [List.map_cons, List.map_nil, List.contains_nil, nth_zero, nth_succ]
    repeat (refine sched_quiet (fun K hK => ?_); go_simp; refine hK _ ?_; clear hK K)
    refine sched_nil ?_
    go_wp2_with fail
    go_ret
    exact ⟨rfl, (Fr.refl No w).drew⟩
  | some y => rw [hx, hy] at hn; rcases hn with h0 | h0 <;> cases h0
theorem infoTx : ∃ j, Tryz.prog.info? 140 = some j ∧ j.size = 3 := by
 have h : (Tryz.prog.info? 140).map (·.size) = some 3 := by kernel_rfl
 obtain ⟨j, h1, h2⟩ := Option.map_eq_some_iff.1 h
 exact ⟨j, h1, h2⟩
theorem eql_same (w0 : World) (g o : Nat) : ∀ a : Agr [g] w0, (binOp .eql 137 (.pointer (some ⟨g, o, none⟩)) (.pointer (some ⟨g, o, none⟩))).run Tryz.prog a.val = .ok (.bool true) a.val := fun a => by
 obtain ⟨j, hj, _⟩ := infoTx
 exact run_eql_ptr_same a.val _ Tryz.underlying137 hj
theorem eql_other (w0 : World) (g o1 o2 : Nat) (hne : o1 ≠ o2) {cur : Array Value} {ty : TypeId} (hg : w0.heap[g]? = some (.cells cur ty (0, 0))) : ∀ a : Agr [g] w0, (binOp .eql 137 (.pointer (some ⟨g, o1, none⟩)) (.pointer (some ⟨g, o2, none⟩))).run Tryz.prog a.val = .ok (.bool false) a.val := fun a => by
 obtain ⟨j, hj, hs⟩ := infoTx
 have hb := heap_agr a hg (by simp)
 exact run_eql_ptr_other a.val Tryz.underlying137 hj (by omega) (fun e => hne (by injection e)) hb hb
set_option maxHeartbeats 1000000 in
theorem sees_self (w : World) (c g : Nat) (K : Ck) (h : ClkRow w c g K) (hs : K.l.length ≤ 1000000) (t : Int) (x : Tx) (hx : K.tx t = some x) :
  Calls Tryz.prog 183 #[.pointer (some ⟨c, 0, none⟩), .int .i64 t, .int .i64 t] w fun e w' => e = .returned (.bool true) ∧ Fr No w w' := by
 have HX := hid (clkat_any w c g K h hs t)
 have HY := hid (clkat_any w c g K h hs t)
 rw [atV_some hx] at HX HY
 generalize (t - 1).toNat * 3 = o1 at *
 have hq := eql_same w.drew g o1
 clear h hx
 go_enter Tryz.func183, Tryz.ntmps183
 go_wp2_with fail
 refine (HX.out).mono ?_
 rintro e w' ⟨rfl, rfl⟩
 go_wp2_with fail
 refine (HY.out).mono ?_
 rintro e w' ⟨rfl, rfl⟩
 go_wp2_with fail
 refine wp_region_sched (by kernel_rfl) 30 [] [0, 1, 2, 3, 4, 5, 6, 7, 8, 9, 10, 11, 12, 13, 14, 15, 16, 17, 18, 19, 20, 21, 22, 23, 24, 25, 26, 27, 28, 29] (AgC [g] w.drew) (by kernel_rfl) (AgC.refl _ _) ?_
 simp only [List.map_cons, List.map_nil, List.contains_nil, nth_zero, nth_succ]
 repeat (refine sched_quiet (fun K hK => ?_); go_simp; refine hK _ ?_; clear hK K)
 refine sched_nil ?_
 go_wp2_with fail
 go_ret
 exact ⟨rfl, (Fr.refl No w).drew⟩
end Go.Proofs.YthadcdoepoglkaaGreatDoor
namespace Go.Proofs.YthadcdoepoglkaaGreatDoor
open Go.RowKit Go.Lig
theorem ClkRow.blk {w : World} {c g : Nat} {K : Ck} (h : ClkRow w c g K) (hl : 0 < K.l.length) : ∃ cur, w.heap[g]? = some (.cells cur 140 (0, 0)) := by
 obtain ⟨a, n, h1, h2, h3, _⟩ := h.ex
 obtain rfl := h3 hl
 obtain ⟨g', cur, e, -, hg, -⟩ := owns_at h2 hl
 obtain rfl : g = g' := by simpa using e
 exact ⟨cur, hg⟩
set_option maxHeartbeats 1000000 in
theorem sees_other (w : World) (c g : Nat) (K : Ck) (h : ClkRow w c g K) (hs : K.l.length ≤ 1000000) (t b : Int) (x y : Tx) (hx : K.tx t = some x) (hy : K.tx b = some y) (hne : t ≠ b) (r : Bool) (hr : (y.state == 1 && decide (y.commit ≤ x.mark)) = r) :
  Calls Tryz.prog 183 #[.pointer (some ⟨c, 0, none⟩), .int .i64 t, .int .i64 b] w fun e w' => e = .returned (.bool r) ∧ Fr No w w' := by
 have HX := hid (clkat_any w c g K h hs t)
 have HY := hid (clkat_any w c g K h hs b)
 rw [atV_some hx] at HX
 rw [atV_some hy] at HY
 obtain ⟨cur, hg⟩ := h.blk (by have := (Ck.tx_some hx).2.1; omega)
 have hq := eql_other w.drew g _ _ (off_ne hx hy hne) hg
 obtain ⟨x0, x1, x2⟩ := h.cell hx
 obtain ⟨y0, y1, y2⟩ := h.cell hy
 generalize (t - 1).toNat * 3 = o1 at *
 generalize (b - 1).toNat * 3 = o2 at *
 clear h hx hy hne hg x0 x2 y1
 by_cases h1 : y.state = 1
 ·have n1 : ((y.state : Int) == 1) = true := by rw [beq_iff_eq]; exact h1
  by_cases h2 : y.commit ≤ x.mark
  ·have hr' : r = true := by rw [← hr, n1, decide_eq_true h2]; rfl
   subst hr'
   clear hr h1
   go_enter Tryz.func183, Tryz.ntmps183
   go_wp2_with fail
   refine (HX.out).mono ?_
   rintro e w' ⟨rfl, rfl⟩
   go_wp2_with fail
   refine (HY.out).mono ?_
   rintro e w' ⟨rfl, rfl⟩
   go_wp2_with fail
   refine wp_region_sched (by kernel_rfl) 30 [] [0, 1, 2, 3, 4, 5, 6, 7, 8, 9, 10, 11, 12, 13, 14, 15, 16, 17, 18, 19, 20, 21, 22, 23, 24, 25, 26, 27, 28, 29] (AgC [g] w.drew) (by kernel_rfl) (AgC.refl _ _) ?_
   simp only [List.map_cons, List.map_nil, List.contains_nil, nth_zero, nth_succ]
   repeat (refine sched_quiet (fun K hK => ?_); go_simp; refine hK _ ?_; clear hK K)
   refine sched_nil ?_
   go_wp2_with fail
   go_ret
   exact ⟨rfl, (Fr.refl No w).drew⟩
  ·have h2f : decide (y.commit ≤ x.mark) = false := decide_eq_false h2
   have hr' : r = false := by rw [← hr, n1, h2f]; rfl
   subst hr'
   clear hr h1
   go_enter Tryz.func183, Tryz.ntmps183
   go_wp2_with fail
   refine (HX.out).mono ?_
   rintro e w' ⟨rfl, rfl⟩
   go_wp2_with fail
   refine (HY.out).mono ?_
   rintro e w' ⟨rfl, rfl⟩
   go_wp2_with fail
   refine wp_region_sched (by kernel_rfl) 30 [] [0, 1, 2, 3, 4, 5, 6, 7, 8, 9, 10, 11, 12, 13, 14, 15, 16, 17, 18, 19, 20, 21, 22, 23, 24, 25, 26, 27, 28, 29] (AgC [g] w.drew) (by kernel_rfl) (AgC.refl _ _) ?_
   simp only [List.map_cons, List.map_nil, List.contains_nil, nth_zero, nth_succ]
   repeat (refine sched_quiet (fun K hK => ?_); go_simp; refine hK _ ?_; clear hK K)
   refine sched_nil ?_
   go_wp2_with fail
   go_ret
   exact ⟨rfl, (Fr.refl No w).drew⟩
 ·have n1 : ((y.state : Int) == 1) = false := by rw [beq_eq_false_iff_ne]; exact h1
  have hr' : r = false := by rw [← hr, n1]; rfl
  subst hr'
  clear hr h1
  go_enter Tryz.func183, Tryz.ntmps183
  go_wp2_with fail
  refine (HX.out).mono ?_
  rintro e w' ⟨rfl, rfl⟩
  go_wp2_with fail
  refine (HY.out).mono ?_
  rintro e w' ⟨rfl, rfl⟩
  go_wp2_with fail
  refine wp_region_sched (by kernel_rfl) 30 [] [0, 1, 2, 3, 4, 5, 6, 7, 8, 9, 10, 11, 12, 13, 14, 15, 16, 17, 18, 19, 20, 21, 22, 23, 24, 25, 26, 27, 28, 29] (AgC [g] w.drew) (by kernel_rfl) (AgC.refl _ _) ?_
  simp only [List.map_cons, List.map_nil, List.contains_nil, nth_zero, nth_succ]
  repeat (refine sched_quiet (fun K hK => ?_); go_simp; refine hK _ ?_; clear hK K)
  refine sched_nil ?_
  go_wp2_with fail
  go_ret
  exact ⟨rfl, (Fr.refl No w).drew⟩
theorem sees_any (w : World) (c g : Nat) (K : Ck) (h : ClkRow w c g K) (hs : K.l.length ≤ 1000000) (t b : Int) :
  Calls Tryz.prog 183 #[.pointer (some ⟨c, 0, none⟩), .int .i64 t, .int .i64 b] w fun e w' => e = .returned (.bool (K.sees t b)) ∧ Fr No w w' := by
 cases hx : K.tx t with
 | none =>
  have e : K.sees t b = false := by unfold Ck.sees; rw [hx]
  rw [e]
  exact sees_none w c g K h hs t b (.inl hx)
 | some x =>
  cases hy : K.tx b with
  | none =>
   have e : K.sees t b = false := by unfold Ck.sees; rw [hx, hy]
   rw [e]
   exact sees_none w c g K h hs t b (.inr hy)
  | some y =>
   by_cases hne : t = b
   ·subst hne
    have e : K.sees t t = true := by unfold Ck.sees; rw [hx]; simp
    rw [e]
    exact sees_self w c g K h hs t x hx
   ·refine sees_other w c g K h hs t b x y hx hy hne _ ?_
    unfold Ck.sees
    rw [hx, hy]
    have : (t == b) = false := beq_eq_false_iff_ne.2 hne
    simp [this]
end Go.Proofs.YthadcdoepoglkaaGreatDoor
namespace Go.Proofs.YthadcdoepoglkaaGreatDoor
open Go.RowKit Go.Lig
theorem underTx : Tryz.prog.underlying 140 = some (Tryz.prog.underlying 140).get! := by kernel_rfl
theorem sizeTx : (Tryz.prog.info? 140).map (·.size) = some 3 := by kernel_rfl
theorem infoTx3 : (Tryz.prog.info? 140).map (fun i => (i.zero, i.size, i.bytes)) = some (some (.agg #[.int .i64 0, .int .i64 0, .int .i64 0]), 3, 24) := by kernel_rfl
def cntTo (l : List Tx) (i : Nat) : Nat := ((l.take i).filter fun x => x.state == 0).length
theorem cnt_step {l : List Tx} {i : Nat} {x : Tx} (h : l[i]? = some x) : cntTo l (i + 1) = cntTo l i + if x.state = 0 then 1 else 0 := by
 unfold cntTo
 rw [List.take_add_one, h, Option.toList_some, List.filter_append, List.length_append]
 by_cases e : x.state = 0 <;> simp [e]
theorem cnt_le (l : List Tx) (i : Nat) : cntTo l i ≤ i := by
 unfold cntTo
 have h1 := List.length_filter_le (fun x : Tx => x.state == 0) (l.take i)
 have h2 := List.length_take_le i l
 omega
theorem tx_src {w : World} {x : Tx} {g o : Nat} (h0 : w.cell? ⟨g, o, none⟩ = some (.int .i64 x.state)) (h1 : w.cell? ⟨g, o + 1, none⟩ = some (.int .i64 x.mark)) (h2 : w.cell? ⟨g, o + 2, none⟩ = some (.int .i64 x.commit)) :
  ∀ j u, (tcell x)[j]? = some u → w.cell? ((⟨g, o, none⟩ : Addr).add j) = some u := fun j u hj => by
 have hjl : j < 3 := (List.getElem?_eq_some_iff.1 hj).1
 rw [Addr.add_mid]
 match j, hjl with
 | 0, _ => exact h0.trans hj
 | 1, _ => exact h1.trans hj
 | 2, _ => exact h2.trans hj
theorem ClkRow.frame {w w' : World} {c g : Nat} {K : Ck} (h : ClkRow w c g K) (hf : Fr No w w') : ClkRow w' c g K := by
 obtain ⟨a, n, h1, h2, h3, h4⟩ := h.ex
 exact ⟨a, n, hf.keep h1 (fun e => e), fd_owns h2 hf, h3, h4⟩
set_option maxHeartbeats 1000000 in
theorem count_any (w : World) (c g : Nat) (K : Ck) (h : ClkRow w c g K) (hs : K.l.length ≤ 1000000) :
  Calls Tryz.prog 45 #[.pointer (some ⟨c, 0, none⟩)] w fun e w' => e = .returned (.int .i64 (K.count : Int)) ∧ Fr No w w' := by
 obtain ⟨a, n, h1, h2, h3, h4⟩ := id h.ex
 obtain ⟨c0, c1⟩ := cells2 h1
 have H := hid (⟨h, h3⟩ : _ ∧ _)
 clear h h1 h2 h3 h4 c1
 go_enter Tryz.func45, Tryz.ntmps45
 go_wp2
 go_loopw [3, 13] (fun vn vi wr => ∃ i : Nat, i ≤ K.l.length ∧ vn = .int .i64 (cntTo K.l i : Int) ∧ vi = .int .i64 (i : Int) ∧ Hid (Fr No w wr)) (fun _ vi _ => K.l.length - (intOf vi).toNat)
 case atStart => exact ⟨0, Nat.zero_le _, rfl, rfl, Fr.refl _ _⟩
 case round =>
  obtain ⟨i, hi, rfl, rfl, hF⟩ := hrel
  have hcl := cnt_le K.l i
  by_cases hlt : i < K.l.length
  ·obtain ⟨x, hx⟩ : ∃ x, K.l[i]? = some x := ⟨_, List.getElem?_eq_getElem hlt⟩
   obtain rfl := H.out.2 (by omega)
   have htx : K.tx ((i : Int) + 1) = some x := by unfold Ck.tx; rw [if_pos (by omega), show ((i : Int) + 1 - 1).toNat = i by omega]; exact hx
   obtain ⟨y0, y1, y2⟩ := (H.out.1.frame hF.out).cell htx
   rw [show ((i : Int) + 1 - 1).toNat = i by omega] at y0 y1 y2
   have HC := hid (tx_src y0 y1 y2)
   have HS := hid (cnt_step hx)
   clear hx htx y0 y1 y2
   by_cases hz : x.state = 0
   ·have HS2 : Hid (cntTo K.l (i + 1) = cntTo K.l i + 1) := hid (by rw [HS.out, if_pos hz])
    have n1 : ((x.state : Int) == 0) = true := by rw [beq_iff_eq]; exact hz
    clear hz
    go_wp2_with (first | (refine wpList_load_seg rfl 140 (.tmp 15) rfl _ underTx (by kernel_rfl) (tcell x) sizeTx ⟨g, i * 3, none⟩ rfl HC.out ?_) | (refine wpList_local rfl rfl 140 5 (.tmp 16) rfl rfl rfl _ 3 24 infoTx3 rfl (fun _ => rfl) (.agg (tcell x).toArray) (fun _ => rfl) (tcell x) rfl rfl (by simp [tcell, Value.oneCell']) ?_; intro w2 hB f2 z2; obtain ⟨B0, B1, B2⟩ := cells3 hB; have H2 := hid f2; clear hB f2 z2))
    go_roundw
    case rel => exact ⟨i + 1, by omega, by rw [HS2.out]; go_num, by go_num, hF.out.thenNo H2.out⟩
    case measure => simp [intOf]; omega
   ·have HS2 : Hid (cntTo K.l (i + 1) = cntTo K.l i) := hid (by rw [HS.out, if_neg hz]; rfl)
    have n1 : ((x.state : Int) == 0) = false := by rw [beq_eq_false_iff_ne]; exact hz
    clear hz
    go_wp2_with (first | (refine wpList_load_seg rfl 140 (.tmp 15) rfl _ underTx (by kernel_rfl) (tcell x) sizeTx ⟨g, i * 3, none⟩ rfl HC.out ?_) | (refine wpList_local rfl rfl 140 5 (.tmp 16) rfl rfl rfl _ 3 24 infoTx3 rfl (fun _ => rfl) (.agg (tcell x).toArray) (fun _ => rfl) (tcell x) rfl rfl (by simp [tcell, Value.oneCell']) ?_; intro w2 hB f2 z2; obtain ⟨B0, B1, B2⟩ := cells3 hB; have H2 := hid f2; clear hB f2 z2))
    go_roundw
    case rel => exact ⟨i + 1, by omega, by rw [HS2.out], by go_num, hF.out.thenNo H2.out⟩
    case measure => simp [intOf]; omega
  ·obtain rfl : i = K.l.length := by omega
   have HE : Hid (cntTo K.l K.l.length = K.count) := hid (by unfold cntTo Ck.count; rw [List.take_length])
   clear hlt
   go_wp2
   go_ret
   exact ⟨by rw [← HE.out]; rfl, hF.out⟩
end Go.Proofs.YthadcdoepoglkaaGreatDoor
namespace Go.Proofs.YthadcdoepoglkaaGreatDoor
open Go.RowKit Go.Lig
theorem clknew_any (w : World) : Calls Tryz.prog 70 #[] w fun e w' => ∃ c, e = .returned (.pointer (some ⟨c, 0, none⟩)) ∧ ClockAt w' (fun b => b = c) c ⟨[], 0⟩ ∧ Fr No w w' ∧ w.heap.size ≤ c := by
 go_enter Tryz.func70, Tryz.ntmps70
 go_wp2
 go_ret
 exact ⟨_, rfl, ⟨⟨_, heap1 w _, World.ownsRow_nil _ _ _ _, fun _ e => (by cases e)⟩, rfl, fun k hk => by subst hk; simp, by simp⟩, (Fr.refl No w).alloc _, Nat.le_refl _⟩
end Go.Proofs.YthadcdoepoglkaaGreatDoor
namespace Go.Proofs.YthadcdoepoglkaaGreatDoor
open Go.RowKit Go.Lig
set_option maxHeartbeats 1000000 in
theorem begin_full (w : World) (T : Nat → Prop) (c : Nat) (K : Ck) (h : ClockAt w T c K) (hc : 4 ≤ K.count) :
  Calls Tryz.prog 50 #[.pointer (some ⟨c, 0, none⟩)] w fun e w' => e = .returned (.tuple #[.int .i64 0, .int .i64 3]) ∧ Fr No w w' := by
 obtain ⟨g, hr, -⟩ := h.row
 have HC := hid (count_any w c g K hr h.small.1)
 have h4 : (4 : Int) ≤ (K.count : Int) := by omega
 clear h hr hc
 go_enter Tryz.func50, Tryz.ntmps50
 go_wp2_with (go_at_call 45; refine HC.out.mono ?_; rintro e w1 ⟨rfl, f1⟩; have H1 := hid f1; clear f1)
 go_ret2
 exact ⟨rfl, H1.out⟩
end Go.Proofs.YthadcdoepoglkaaGreatDoor
namespace Go.Proofs.YthadcdoepoglkaaGreatDoor
open Go.RowKit Go.Lig
theorem built_tx (n : Int) : Tryz.prog.built 140 [(1, .int .i64 n)] = some #[.int .i64 0, .int .i64 n, .int .i64 0] := by kernel_rfl
set_option maxHeartbeats 1000000 in
theorem begin_ok (w : World) (T : Nat → Prop) (c : Nat) (K : Ck) (h : ClockAt w T c K) (hc : K.count < 4) (hs : K.l.length < 1000000) :
  Calls Tryz.prog 50 #[.pointer (some ⟨c, 0, none⟩)] w fun e w' => e = .returned (.tuple #[.int .i64 ((K.l.length + 1 : Nat) : Int), .int .i64 0]) ∧ ∃ T', ClockAt w' T' c K.begins ∧ Fr T w w' ∧ Grown w T T' := by
 obtain ⟨g, hr, -⟩ := h.row
 have HC := hid (count_any w c g K hr h.small.1)
 have h4 : ¬ (4 : Int) ≤ (K.count : Int) := by omega
 have H := hid h
 clear h hr hc
 go_enter Tryz.func50, Tryz.ntmps50
 go_wp2_with (go_at_call 45; refine HC.out.mono ?_; rintro e w1 ⟨rfl, f1⟩; have H1 := hid f1; clear f1)
 obtain ⟨v, g0, g1, g2⟩ := (H.out.frame (H1.out.thenNo (Fr.refl No w1).drew) (fun _ _ e => e)).ex
 obtain ⟨a, n, rfl⟩ := ownsRow_slice g1
 obtain ⟨c0, c1⟩ := cells2 g0
 have hcb := lt_of_block g0
 have HG := hid (⟨g0, g1, g2, hcb⟩ : _ ∧ _ ∧ _ ∧ _)
 clear g0 g1 g2 hcb
 refine wp_region_sched (by kernel_rfl) 14 [10, 11, 14] [0, 1, 2, 3, 4, 5, 6, 7, 8, 9, 10, 11, 12, 13, 14] (AgC [c] w1.drew) (by kernel_rfl) (AgC.refl _ _) ?_
 simp only [List.map_cons, List.map_nil, List.contains_cons, List.contains_nil, Nat.reduceBEq, Bool.or_false, Bool.or_true, nth_zero, nth_succ]
 repeat (first | (refine sched_build rfl 140 [(1, .tmp 19)] rfl [(1, .int .i64 K.commits)] rfl _ (built_tx _) ?_) | (refine sched_quiet (fun K hK => ?_); go_simp; refine hK _ ?_; clear hK K))
 refine sched_loud (wpList_buildSlice1 rfl 134 140 (.tmp 20) rfl _ 3 24 Tryz.underlying134 infoTx3 (by decide) (by decide) (.agg (tcell ⟨0, K.commits, 0⟩).toArray) rfl rfl ?_)
 intro w2 p2
 have p2' : New (tcell ⟨0, K.commits, 0⟩).toArray 140 w1.drew w2 := p2
 have hL : ∀ (U : Nat → Prop), ¬ U c → ∀ j ∈ [c], j < w1.drew.heap.size ∧ ¬ U j := fun U hU j hj => by rw [List.mem_singleton.1 hj]; exact ⟨HG.out.2.2.2, hU⟩
 have a2 := (AgC.refl [c] w1.drew).fr p2.fr (hL No id)
 refine sched_on a2 ?_
 refine sched_loud (wpList_app rfl (.tmp 15) (.tmp 21) 134 rfl 140 _ 3 24 Tryz.underlying134 infoTx3 rfl (by decide) (.slice a K.l.length n) K.l.length (K.l.flatMap tcell) rfl (fd_owns HG.out.2.1 p2.fr) (.slice (some ⟨w1.drew.heap.size, 0, none⟩) 1 1) 1 (tcell ⟨0, K.commits, 0⟩) rfl (Rd.block p2'.at_ 1 3 1 rfl (by simp [tcell, Value.oneCell']) (Nat.le_refl _) (by simp [maxLen])) (by unfold maxLen; omega) (by omega) ?_)
 intro v3 w3 o3 f3 b3 _
 have hcv : ¬ (Value.slice a K.l.length n).ownBlock = some c := fun e => (HG.out.2.2.1 c e).2 rfl
 refine sched_on (a2.fr f3 (hL _ hcv)) ?_
 have hg3 := f3.keep (p2.keep HG.out.1) hcv
 obtain ⟨a3, n3, rfl⟩ := ownsRow_slice o3
 have O3 := hid (⟨o3, f3, b3, hg3, p2.fr⟩ : _ ∧ _ ∧ _ ∧ _ ∧ _)
 clear o3 f3 b3 hg3 p2 p2' a2 hcv hL
 repeat (refine sched_quiet (fun K hK => ?_); go_simp; refine hK _ ?_; clear hK K)
 refine sched_loud (wpList_store1 rfl 134 (.tmp 24) (.tmp 22) rfl c 0 rfl _ _ (.slice a3 (K.l.length + 1) n3) rfl (by kernel_rfl) O3.out.2.2.2.1 (by simp) rfl ?_)
 intro w4 p4
 have p4' : Put c #[.slice a3 (K.l.length + 1) n3, .int .i64 K.commits] 136 w3 w4 := p4
 obtain ⟨d0, d1⟩ := cells2 p4'.at_
 have P4 := hid p4'
 clear p4 p4' d1
 refine sched_last ?_
 refine sched_nil ?_
 go_wp2
 go_ret2
 obtain ⟨o3, f3, b3, hg3, f2⟩ := O3.out
 have hfw : Fr No w w2 := (H1.out.thenNo (Fr.refl No w1).drew).thenNo f2
 have hown : ∀ k, (Value.slice a K.l.length n).ownBlock = some k → T k ∧ k ≠ c := HG.out.2.2.1
 have hnew : ∀ k, (Value.slice a3 (K.l.length + 1) n3).ownBlock = some k → (T k ∧ k ≠ c) ∨ w.heap.size ≤ k := fun k hk => by
  rcases b3 k hk with e | e
  ·exact .inl (hown k e)
  ·exact .inr (Nat.le_trans hfw.size e)
 have hcl : c < w.heap.size := H.out.bound c H.out.root
 have hne : ∀ k, (Value.slice a3 (K.l.length + 1) n3).ownBlock = some k → k ≠ c := fun k hk => by
  rcases hnew k hk with e | e
  ·exact e.2
  ·omega
 refine ⟨by simp, fun k => k = c ∨ (Value.slice a3 (K.l.length + 1) n3).ownBlock = some k, ⟨⟨_, P4.out.at_, P4.out.fr.owns (by simpa [Ck.begins] using o3) hne, fun k hk => ⟨.inr hk, hne k hk⟩⟩, .inl rfl, fun k hk => ?_, ?_⟩, ?_, fun k hk => ?_⟩
 ·have hz := P4.out.fr.size
  rcases hk with rfl | hk
  ·have := hfw.size; have := f3.size; omega
  ·have := (o3.lt k hk).2; omega
 ·have := H.out.small
  simp [Ck.begins]
  omega
 ·exact (hfw.mono (fun _ _ e => e.elim)).trans ((f3.mono (S' := fun k => (T k ∧ k ≠ c) ∨ k = c) (fun k _ e => .inl (hown k e))).trans P4.out.fr (fun _ _ e => .inr e)) (fun k _ e => by rcases e with e | rfl; exact e.1; exact H.out.root)
 ·rcases hk with rfl | hk
  ·exact .inl H.out.root
  ·exact (hnew k hk).imp (fun e => e.1) id
end Go.Proofs.YthadcdoepoglkaaGreatDoor
namespace Go.Lig
open Go.RowKit
theorem owns_setN {w w' : World} {base : Nat} {e : TypeId} {size g c n : Nat} {xs : List Value} (h : w.ownsRow base e size (.slice (some ⟨g, 0, none⟩) n c) n xs) {cur : Array Value} (hg : w.heap[g]? = some (.cells cur e (0, 0))) {k : Nat} {v : Value}
  (p : Put g (cur.setIfInBounds k v) e w w') : w'.ownsRow base e size (.slice (some ⟨g, 0, none⟩) n c) n (xs.set k v) := by
 obtain ⟨hl, ⟨e', _⟩ | ⟨g', cap, cur', e', hb, hg', hnc, hcm, hcs, ht⟩⟩ := h
 ·cases e'
 ·simp only [Value.slice.injEq, Option.some.injEq, Addr.mk.injEq, and_true, true_and] at e'
  obtain ⟨rfl, rfl⟩ := e'
  rw [hg] at hg'
  obtain rfl : cur = cur' := by simpa using hg'
  refine ⟨by simpa using hl, .inr ⟨g, c, _, rfl, hb, p.at_, hnc, hcm, by simpa using hcs, ?_⟩⟩
  rw [Array.toList_setIfInBounds, List.take_set, ht]
theorem flat_set {α : Type} {f : α → List Value} {m : Nat} (hf : ∀ x, (f x).length = m) (l : List α) (k : Nat) (x x' : α) (hx : l[k]? = some x) (j : Nat) (hj : j < m) (v : Value) (hx' : f x' = (f x).set j v) : (l.flatMap f).set (k * m + j) v = (l.set k x').flatMap f := by
 induction l generalizing k with
 | nil => simp at hx
 | cons y l ih =>
  cases k with
  | zero =>
   obtain rfl : y = x := by simpa using hx
   rw [List.set_cons_zero, List.flatMap_cons, List.flatMap_cons, hx', Nat.zero_mul, Nat.zero_add, List.set_append_left _ _ (by rw [hf]; exact hj)]
  | succ k =>
   have e : (k + 1) * m + j = (f y).length + (k * m + j) := by rw [hf, Nat.succ_mul]; omega
   rw [List.set_cons_succ, List.flatMap_cons, List.flatMap_cons, e, List.set_append_right _ _ (by omega), Nat.add_sub_cancel_left, ih k (by simpa using hx)]
end Go.Lig
namespace Go.Proofs.YthadcdoepoglkaaGreatDoor
open Go.RowKit Go.Lig
theorem Ck.live_some {K : Ck} {t : Int} (h : K.live t = true) : ∃ x, K.tx t = some x ∧ x.state = 0 := by
 unfold Ck.live at h
 cases hx : K.tx t with
 | none => rw [hx] at h; cases h
 | some x => rw [hx] at h; exact ⟨x, rfl, by simpa using h⟩
theorem commit_no (w : World) (T : Nat → Prop) (c : Nat) (K : Ck) (h : ClockAt w T c K) (t : Int) (hn : K.live t = false) :
  Calls Tryz.prog 36 #[.pointer (some ⟨c, 0, none⟩), .int .i64 t] w fun e w' => e = .returned (.int .i64 5) ∧ w = w' := by
 obtain ⟨g, hr, -⟩ := h.row
 have HL := hid (live_any w c g K hr h.small.1 t)
 rw [hn] at HL
 clear h hr hn
 go_enter Tryz.func36, Tryz.ntmps36
 go_wp2_with (go_at_call 78; refine HL.out.mono ?_; rintro e w1 ⟨rfl, rfl⟩)
 go_ret
 exact ⟨rfl, rfl⟩
set_option maxHeartbeats 1000000 in
theorem abort_ok (w : World) (T : Nat → Prop) (c : Nat) (K : Ck) (h : ClockAt w T c K) (t : Int) (hn : K.live t = true) :
  Calls Tryz.prog 60 #[.pointer (some ⟨c, 0, none⟩), .int .i64 t] w fun e w' => e = .returned (.int .i64 0) ∧ ClockAt w' T c (K.abort t) ∧ Fr T w w' := by
 obtain ⟨g, hr, hgT⟩ := h.row
 obtain ⟨x, hx, hx0⟩ := Ck.live_some hn
 have HL := hid (live_any w c g K hr h.small.1 t)
 have HA := hid (clkat_any w c g K hr h.small.1 t)
 rw [hn] at HL
 rw [atV_some hx] at HA
 obtain ⟨a, n, h1, h2, h3, h4⟩ := id hr.ex
 obtain ⟨t1, t2, t3, t4⟩ := Ck.tx_some hx
 obtain rfl := h3 (by omega)
 obtain ⟨g', cur, e', hb, hg, hnc, hcs, ht⟩ := owns_at h2 (by omega)
 obtain rfl : g = g' := by simpa using e'
 have hko : (t - 1).toNat * 3 < cur.size := by rw [hcs]; omega
 have hset := flat_set (f := tcell) (m := 3) (fun _ => rfl) K.l (t - 1).toNat x { x with state := 2 } t3 0 (by decide) (.int .i64 2) rfl
 rw [Nat.add_zero] at hset
 have HH := hid (⟨h, h1, h2, hgT (by omega), h4, hset, hg, hko⟩ : _ ∧ _ ∧ _ ∧ _ ∧ _ ∧ _ ∧ _ ∧ _)
 have HK : Hid (K.abort t = { K with l := K.l.set (t - 1).toNat { x with state := 2 } }) := hid (by unfold Ck.abort Ck.put; rw [hx])
 generalize hoo : (t - 1).toNat * 3 = o at *
 clear h hr hn hx hx0 h1 h2 h3 h4 hgT t1 t2 t3 t4 hb hg hnc hcs ht hko hset e'
 go_enter Tryz.func60, Tryz.ntmps60
 go_wp2_with (first | (go_at_call 78; refine HL.out.mono ?_; rintro e w1 ⟨rfl, rfl⟩) | (go_at_call 79; refine HA.out.mono ?_; rintro e w1 ⟨rfl, rfl⟩) | (refine wpList_store1 rfl 3 (.tmp 13) (.const (.int .i64 2)) rfl g o rfl cur 140 (.int .i64 2) rfl (by kernel_rfl) HH.out.2.2.2.2.2.2.1 HH.out.2.2.2.2.2.2.2 rfl ?_; intro w2 p2; have P2 := hid p2; clear p2))
 go_ret
 obtain ⟨h, h1, h2, hgT, h4, hset, hg, hko⟩ := HH.out
 refine ⟨rfl, ?_, P2.out.fr.mono (fun k _ e => by subst e; exact hgT)⟩
 rw [HK.out]
 refine ⟨⟨_, P2.out.keep h1 (fun e => h4 e.symm), ?_, fun k hk => ?_⟩, h.root, fun k hk => Nat.lt_of_lt_of_le (h.bound k hk) P2.out.fr.size, by simpa using h.small⟩
 ·have := owns_setN h2 hg P2.out
  rw [hset] at this
  simpa using this
 ·obtain rfl : g = k := Option.some.inj hk
  exact ⟨hgT, h4⟩
end Go.Proofs.YthadcdoepoglkaaGreatDoor
namespace Go.Lig
structure Sl where
 a : Option Addr
 n : Nat
 c : Nat
def Sl.nil : Sl := ⟨none, 0, 0⟩
instance : Inhabited Sl := ⟨Sl.nil⟩
structure NodeV where
 l : Sl
 p : Sl
instance : Inhabited NodeV := ⟨⟨Sl.nil, Sl.nil⟩⟩
def NodeV.none : NodeV := ⟨Sl.nil, Sl.nil⟩
structure Ver (α : Type) where
 by_ : Int
 v : α
 gone : Bool
instance {α : Type} [Inhabited α] : Inhabited (Ver α) := ⟨⟨0, default, false⟩⟩
def ncell (y : Ver NodeV) : List Value := [.int .i64 y.by_, .slice y.v.l.a y.v.l.n y.v.l.c, .slice y.v.p.a y.v.p.n y.v.p.c, .bool y.gone]
def lastOf {α : Type} (meant : Int → Bool) : List (Ver α) → Option α
 | [] => Option.none
 | y :: l => if meant y.by_ then (if y.gone then Option.none else some y.v) else lastOf meant l
end Go.Lig
namespace Go.Proofs.YthadcdoepoglkaaGreatDoor
open Go.RowKit Go.Lig
structure CellAt (w : World) (T : Nat → Prop) (x : Nat) (L : List (Ver NodeV)) : Prop where
 ex : ∃ v, w.heap[x]? = some (.cells #[v] 162 (0, 0)) ∧ w.ownsRow 0 160 4 v L.length (L.flatMap ncell) ∧ ∀ k, v.ownBlock = some k → T k ∧ k ≠ x
 root : T x
 bound : ∀ k, T k → k < w.heap.size
 small : L.length ≤ 1000000
theorem CellAt.frame {w w' : World} {T U : Nat → Prop} {x : Nat} {L : List (Ver NodeV)} (h : CellAt w T x L) (hf : Fr U w w') (hd : ∀ k, T k → ¬ U k) : CellAt w' T x L := by
 obtain ⟨v, h1, h2, h3⟩ := h.ex
 exact ⟨⟨v, hf.keep h1 (hd x h.root), hf.owns h2 (fun k hk => hd k (h3 k hk).1), h3⟩, h.root, fun k hk => Nat.lt_of_lt_of_le (h.bound k hk) hf.size, h.small⟩
structure CelRow (w : World) (x g : Nat) (L : List (Ver NodeV)) : Prop where
 ex : ∃ a n, w.heap[x]? = some (.cells #[.slice a L.length n] 162 (0, 0)) ∧ w.ownsRow 0 160 4 (.slice a L.length n) L.length (L.flatMap ncell) ∧ (0 < L.length → a = some ⟨g, 0, none⟩) ∧ g ≠ x
theorem CellAt.row {w : World} {T : Nat → Prop} {x : Nat} {L : List (Ver NodeV)} (h : CellAt w T x L) : ∃ g, CelRow w x g L ∧ (0 < L.length → T g) := by
 obtain ⟨v, h1, h2, h3⟩ := h.ex
 obtain ⟨a, n, rfl⟩ := ownsRow_slice h2
 by_cases hl : 0 < L.length
 ·obtain ⟨g, cur, rfl, -, -⟩ := owns_at h2 hl
  exact ⟨g, ⟨_, n, h1, h2, fun _ => rfl, (h3 g rfl).2⟩, fun _ => (h3 g rfl).1⟩
 ·exact ⟨x + 1, ⟨a, n, h1, h2, fun e => absurd e hl, by omega⟩, fun e => absurd e hl⟩
theorem CelRow.frame {w w' : World} {x g : Nat} {L : List (Ver NodeV)} (h : CelRow w x g L) (hf : Fr No w w') : CelRow w' x g L := by
 obtain ⟨a, n, h1, h2, h3, h4⟩ := h.ex
 exact ⟨a, n, hf.keep h1 (fun e => e), fd_owns h2 hf, h3, h4⟩
def NcAt (w : World) (g j : Nat) (y : Ver NodeV) : Prop := w.cell? ⟨g, j * 4, none⟩ = some (.int .i64 y.by_) ∧ w.cell? ⟨g, j * 4 + 1, none⟩ = some (.slice y.v.l.a y.v.l.n y.v.l.c) ∧ w.cell? ⟨g, j * 4 + 2, none⟩ = some (.slice y.v.p.a y.v.p.n y.v.p.c) ∧ w.cell? ⟨g, j * 4 + 3, none⟩ = some (.bool y.gone)
theorem CelRow.cell {w : World} {x g : Nat} {L : List (Ver NodeV)} (h : CelRow w x g L) {j : Nat} {y : Ver NodeV} (hy : L[j]? = some y) : NcAt w g j y := by
 obtain ⟨a, n, h1, h2, h3, _⟩ := h.ex
 have hl := (List.getElem?_eq_some_iff.1 hy).1
 obtain rfl := h3 (by omega)
 have g0 : ∀ t, t < 4 → (L.flatMap ncell)[j * 4 + t]? = (ncell y)[t]? := fun t ht => flat_get (f := ncell) (m := 4) (fun _ => rfl) _ _ _ hy t ht
 exact ⟨owns_cell h2 rfl (by rw [← Nat.add_zero (j * 4), g0 0 (by decide)]; rfl), owns_cell h2 rfl (by rw [g0 1 (by decide)]; rfl), owns_cell h2 rfl (by rw [g0 2 (by decide)]; rfl), owns_cell h2 rfl (by rw [g0 3 (by decide)]; rfl)⟩
end Go.Proofs.YthadcdoepoglkaaGreatDoor
namespace Go.Proofs.YthadcdoepoglkaaGreatDoor
open Go.RowKit Go.Lig Go.Shelf
attribute [local go_sem] Oper.semAt_some
def upto {α : Type} (f : Nat → α) (k : Nat) : List α := (List.range k).map f
theorem upto_succ {α : Type} (f : Nat → α) (k : Nat) : upto f (k + 1) = upto f k ++ [f k] := by simp [upto, List.range_succ]
theorem upto_length {α : Type} (f : Nat → α) (k : Nat) : (upto f k).length = k := by simp [upto]
def bwf (L : List (Ver NodeV)) (j : Nat) : Nat × Ver NodeV := (L.length - 1 - j, L[L.length - 1 - j]?.getD default)
def encN (x : Nat × Ver NodeV) : Array Value := #[.int .i64 x.1, .agg #[.int .i64 x.2.by_, .slice x.2.v.l.a x.2.v.l.n x.2.v.l.c, .slice x.2.v.p.a x.2.v.p.n x.2.v.p.c, .bool x.2.gone]]
set_option maxRecDepth 100000 in
set_option maxHeartbeats 2000000 in
theorem bw1_in (F : Fence) (n : Nat) (h7 : F.fn 224) (hro : F.round = none) (hn : 1 ≤ n) (l Bs n₀ g cap : Nat) (a : Option Addr) (L : List (Ver NodeV)) (hs : L.length ≤ 1000000) (ha : 0 < L.length → a = some ⟨g, 0, none⟩) (hb : g < n₀) (J Jx : List (Nat × Ver NodeV) → World → Prop)
  (hY : ∀ pre x W, J pre W → pre.length < L.length → YieldAt F (n - 1) Tryz.prog l (encN x) W fun e W' =>
   (e = .returned (.bool true) ∧ J (pre ++ [x]) W' ∧ Below n₀ W W') ∨ (e = .returned (.bool false) ∧ Jx (pre ++ [x]) W'))
  (W : World) (hBl : Bs < n₀) (hBs : W.cell? ⟨Bs, 0, none⟩ = some (.slice a L.length cap)) (hc : ∀ j y, L[j]? = some y → NcAt W g j y) (h0 : J [] W) :
  CallsIn F n Tryz.prog 224 #[.func (.yield l) #[] #[], .pointer (some ⟨Bs, 0, none⟩)] W fun e W' => (∃ v, e = .returned v) ∧
   ((∃ ys, ys = upto (bwf L) L.length ∧ J ys W') ∨ (∃ pre, (∃ k, k ≤ L.length ∧ pre = upto (bwf L) k) ∧ Jx pre W')) := by
 refine callsIn_of_wp Tryz.func224 rfl h7 ?_ hro
 simp only [Tryz.ntmps224, List.size_toArray, List.length_cons, List.length_nil, Nat.reduceAdd, Nat.reduceSub, Array.replicate_succ, Array.replicate_zero, List.push_toArray, List.append_toArray, List.nil_append, List.cons_append]
 gi_wp2
 gi_loopw [3] (fun i wr => ∃ m : Nat, m ≤ L.length ∧ i = .int .i64 ((m : Int) - 1) ∧ J (upto (bwf L) (L.length - m)) wr ∧ Below n₀ W wr)
  (fun i _ => (intOf i + 1).toNat)
 case atStart => exact ⟨L.length, Nat.le_refl _, by go_num, by rw [Nat.sub_self]; exact h0, Below.refl _ _⟩
 case round =>
  obtain ⟨m, hm, rfl, hJs, hnx⟩ := hrel
  have hBw := (hnx.cell (p := ⟨Bs, 0, none⟩) hBl).trans hBs
  cases m with
  | zero =>
   gi_wp2
   go_end0
   exact ⟨⟨_, rfl⟩, .inl ⟨_, rfl, by simpa using hJs⟩⟩
  | succ m =>
   rw [show (((m + 1 : Nat) : Int) - 1) = (m : Int) by omega]
   have hlt : m < L.length := by omega
   obtain rfl := ha (by omega)
   obtain ⟨y, hy⟩ : ∃ y, L[m]? = some y := ⟨_, List.getElem?_eq_getElem hlt⟩
   have hf : bwf L (L.length - (m + 1)) = (m, y) := by
    unfold bwf
    rw [show L.length - 1 - (L.length - (m + 1)) = m by omega, hy]
    rfl
   obtain ⟨k0, k1, k2, k3⟩ := hc m y hy
   have y0 := (hnx.cell (p := ⟨g, m * 4, none⟩) hb).trans k0
   have y1 := (hnx.cell (p := ⟨g, m * 4 + 1, none⟩) hb).trans k1
   have y2 := (hnx.cell (p := ⟨g, m * 4 + 2, none⟩) hb).trans k2
   have y3 := (hnx.cell (p := ⟨g, m * 4 + 3, none⟩) hb).trans k3
   obtain ⟨fn, tmps, assign, body, hyy, hR⟩ := hY _ (m, y) wr hJs (by rw [upto_length]; omega)
   dsimp only [encN] at hyy
   have HJ := hid (⟨hJs, hnx, hf⟩ : _ ∧ _ ∧ _)
   clear hJs hnx hf k0 k1 k2 k3 hc hy
   have HM : Hid (m < L.length ∧ L.length ≤ 1000000) := hid ⟨hlt, hs⟩
   gi_wp2
   refine hR.mono ?_
   rintro e W3 (⟨rfl, hJ3, hk3⟩ | ⟨rfl, hJx3⟩)
   ·gi_wp2
    go_roundw
    case rel =>
     refine ⟨m, by omega, by go_num, ?_, HJ.out.2.1.trans hk3⟩
     rw [show L.length - m = (L.length - (m + 1)) + 1 by omega, upto_succ, HJ.out.2.2]
     exact hJ3
    case measure => simp [intOf]; try omega
   ·gi_wp2
    refine bodyPost_ret (results_none rfl _ _ _) rfl ?_
    refine ⟨⟨_, rfl⟩, .inr ⟨_, ⟨L.length - (m + 1) + 1, by omega, ?_⟩, hJx3⟩⟩
    rw [upto_succ, HJ.out.2.2]
end Go.Proofs.YthadcdoepoglkaaGreatDoor
