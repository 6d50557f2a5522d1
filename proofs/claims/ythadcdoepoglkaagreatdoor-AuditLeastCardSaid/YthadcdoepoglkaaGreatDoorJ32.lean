/- A part of the proof: contracts of functions of the program, for the row's text. -/
import Derived.Test.YthadcdoepoglkaaGreatDoorJ27
import Derived.Test.YthadcdoepoglkaaGreatDoorJ31
import Derived.Test.YthadcdoepoglkaaGreatDoorJ16
namespace Go.Proofs.YthadcdoepoglkaaGreatDoor
open Go.RowKit Go.Lig
def keysOf (Q : List PropV) : List ByteArray := Q.map PropV.key
def rnodeB (L : List ByteArray) (Q : List PropV) : Bool := (List.range L.length).all (nameAt L) && ((List.range Q.length).all (fun k => nameAt (keysOf Q) k && propB (Q[k]?.getD default)) && (decide (L.length ≤ 3) && decide (Q.length ≤ 3)))
theorem rnode_eq (L : List ByteArray) (Q : List PropV) : rnodeB L Q = isNodeB ⟨L, Q⟩ := by
 unfold rnodeB isNodeB namesB
 dsimp only
 have e1 : (List.range Q.length).all (fun k => nameAt (keysOf Q) k && propB (Q[k]?.getD default)) = ((List.range Q.length).all (nameAt (keysOf Q)) && Q.all propB) := by
  rw [Bool.eq_iff_iff]
  simp only [Bool.and_eq_true, List.all_eq_true, List.mem_range]
  constructor
  ·intro h
   refine ⟨fun k hk => (h k hk).1, fun q hq => ?_⟩
   obtain ⟨k, hk, rfl⟩ := List.getElem_of_mem hq
   have := (h k hk).2
   rwa [List.getElem?_eq_getElem hk] at this
  ·intro h k hk
   refine ⟨h.1 k hk, ?_⟩
   rw [List.getElem?_eq_getElem hk]
   exact h.2 _ (List.getElem_mem hk)
 rw [e1]
 unfold keysOf
 rw [List.length_map]
 generalize (List.range L.length).all (nameAt L) = x1
 generalize (List.range Q.length).all (nameAt (Q.map PropV.key)) = x2
 generalize Q.all propB = x3
 generalize decide (L.length ≤ 3) = x4
 generalize decide (Q.length ≤ 3) = x5
 revert x1 x2 x3 x4 x5
 decide
theorem lab_at {w : World} {la : Option Addr} {n lc : Nat} {L : List ByteArray} (h : Rd w (.slice la n lc) n 1 (L.map Value.string)) {k : Nat} {s : ByteArray} (hk : L[k]? = some s) : ∃ b o, la = some ⟨b, o, none⟩ ∧ ∀ u, Fr No w u → u.cell? ⟨b, o + k, none⟩ = some (.string s) := by
 obtain ⟨b, o, c', e, hc⟩ := h.at1 (k := k) (u := .string s) (by simp [hk])
 obtain ⟨rfl, -, rfl⟩ := Value.slice.inj e
 exact ⟨b, o, rfl, hc⟩
theorem nameAt_no {l : List ByteArray} {k : Nat} {s : ByteArray} (h : l[k]? = some s) (hn : isNameB s = false) : nameAt l k = false := by
 unfold nameAt; rw [h]; simp [hn]
theorem nameAt_zero {l : List ByteArray} {s : ByteArray} (h : l[0]? = some s) (hn : isNameB s = true) : nameAt l 0 = true := by
 unfold nameAt; rw [h]; simp [hn]
theorem nameAt_succ {l : List ByteArray} {j : Nat} {q s : ByteArray} (hq : l[j]? = some q) (h : l[j + 1]? = some s) (hn : isNameB s = true) : nameAt l (j + 1) = Op.bytesLess q.toList s.toList := by
 unfold nameAt
 rw [h, show j + 1 - 1 = j by omega, hq]
 simp [hn]
set_option maxRecDepth 100000 in
set_option maxHeartbeats 8000000 in
theorem rnode_any (w : World) (la pa : Option Addr) (lc pc : Nat) (L : List ByteArray) (Q : List PropV) (h : NodeOf w (.slice la L.length lc) (.slice pa Q.length pc) ⟨L, Q⟩) (hl : L.length ≤ 140737488355328) (hp : Q.length ≤ 140737488355328)
  (hls : ∀ s ∈ L, s.size ≤ 140737488355328) (hqs : ∀ q ∈ Q, q.key.size ≤ 140737488355328 ∧ q.v.t.size ≤ 140737488355328) :
  Calls Tryz.prog 16 #[.agg #[.slice la L.length lc, .slice pa Q.length pc]] w fun e w' => e = .returned (.bool (isNodeB ⟨L, Q⟩)) ∧ Fr No w w' := by
 rw [← rnode_eq]
 obtain ⟨h1, h2, h3, h4⟩ := h
 dsimp only at h1 h2
 have HB1 : Hid (∀ k, k < L.length → nameAt L k = false → rnodeB L Q = false) := hid (fun k hk hf => by
  unfold rnodeB
  rw [List.all_eq_false.2 ⟨k, List.mem_range.2 hk, by rw [hf]; simp⟩]
  rfl)
 have HB2 : Hid (∀ k q, Q[k]? = some q → (nameAt (keysOf Q) k && propB q) = false → rnodeB L Q = false) := hid (fun k q hq hf => by
  unfold rnodeB
  rw [show (List.range Q.length).all (fun k => nameAt (keysOf Q) k && propB (Q[k]?.getD default)) = false from List.all_eq_false.2 ⟨k, List.mem_range.2 (List.getElem?_eq_some_iff.1 hq).1, by rw [hq, Option.getD_some, hf]; simp⟩]
  rw [Bool.false_and, Bool.and_false])
 have HE : Hid ((∀ k, k < L.length → nameAt L k = true) → (∀ k q, Q[k]? = some q → (nameAt (keysOf Q) k && propB q) = true) → rnodeB L Q = (decide (L.length ≤ 3) && decide (Q.length ≤ 3))) := hid (fun hb hc => by
  unfold rnodeB
  rw [List.all_eq_true.2 (fun k hk => hb k (List.mem_range.1 hk)), List.all_eq_true.2 (fun k hk => by
   have hk' := List.mem_range.1 hk
   have := hc k _ (List.getElem?_eq_getElem hk')
   rw [List.getElem?_eq_getElem hk']
   exact this), Bool.true_and, Bool.true_and])
 have HC1 := hid (fun (k : Nat) (s : ByteArray) (hs : L[k]? = some s) => lab_at h1 hs)
 have HC2 := hid (fun (u : World) (hf : Fr No w u) (k : Nat) (q : PropV) (hq : Q[k]? = some q) => pcells (h2.frame hf (fun _ _ e => e)) hq)
 have HLS := hid hls
 have HQS := hid hqs
 have hb := heap1 w (.cells #[.slice la L.length lc, .slice pa Q.length pc] 34)
 have hf : Fr No w (w.alloc (.cells #[.slice la L.length lc, .slice pa Q.length pc] 34)) := (Fr.refl No w).alloc _
 generalize rnodeB L Q = r at *
 clear h1 h2 h3 h4 hls hqs
 obtain ⟨wa, hwa⟩ : ∃ wa, w.alloc (.cells #[.slice la L.length lc, .slice pa Q.length pc] 34) = wa := ⟨_, rfl⟩
 rw [hwa] at hb hf
 obtain ⟨c0, c1⟩ := cells2 hb
 have HF0 := hid (⟨hf, hb⟩ : _ ∧ _)
 have hbs := lt_of_block hb
 have HBS := hid hbs
 clear hf hb hbs
 obtain ⟨n, hn⟩ : ∃ n, L.length = n := ⟨_, rfl⟩
 obtain ⟨m, hm⟩ : ∃ m, Q.length = m := ⟨_, rfl⟩
 have HN := hid (⟨hn, hm⟩ : _ ∧ _)
 rw [hn] at hl c0
 rw [hm] at hp c1
 rw [hn, hm] at hwa ⊢
 clear hn hm
 go_enter Tryz.func16, Tryz.ntmps16
 go_wp2_with fail
 (try rw [hwa])
 clear hwa c0 c1
 go_loopw [3] (fun vi wr => ∃ i : Nat, i ≤ n ∧ vi = .int .i64 (i : Int) ∧ Hid (Fr No wa wr ∧ ∀ k, k < i → nameAt L k = true)) (fun vi _ => n - (intOf vi).toNat)
 case atStart => exact ⟨0, Nat.zero_le _, rfl, Fr.refl _ _, fun k hk => absurd hk (Nat.not_lt_zero _)⟩
 case round =>
  obtain ⟨i, hi, rfl, HF⟩ := hrel
  have hbr := HF.out.1.keep HF0.out.2 (fun e => e)
  obtain ⟨c0, c1⟩ := cells2 hbr
  have ef : L.length = n := HN.out.1
  have eq : Q.length = m := HN.out.2
  rw [ef] at c0
  rw [eq] at c1
  clear ef eq hbr
  by_cases hlt : i < n
  ·obtain ⟨s, hy⟩ : ∃ s, L[i]? = some s := ⟨L[i]'(by have := HN.out.1; omega), List.getElem?_eq_getElem _⟩
   obtain ⟨b, o, rfl, hc⟩ := HC1.out i s hy
   have d0 := hc wr (HF0.out.1.thenNo HF.out.1)
   have HI := hid (fun W => rname_any W s (HLS.out s (List.mem_of_getElem? hy)))
   have HY := hid hy
   clear hy hc
   cases hnm : isNameB s with
   | false =>
    rw [hnm] at HI
    have HV := hid (HB1.out i (by have := HN.out.1; omega) (nameAt_no HY.out hnm))
    clear hnm
    go_wp2_with fail
    refine wp_region_sched (by kernel_rfl) 25 [5] [0, 1, 2, 3, 4, 5, 6, 7, 8, 9, 10, 11, 12, 13, 14, 15, 16, 17, 18, 19, 20, 21, 22, 23, 24] (AgC [w.heap.size, b] wr.drew) (by kernel_rfl) (AgC.refl _ _) ?_
    simp only [List.map_cons, List.map_nil, List.contains_cons, List.contains_nil, nth_zero, nth_succ, Nat.reduceBEq, Bool.false_or, Bool.or_false, Bool.or_true, Bool.true_or]
    repeat (first | (refine sched_quiet (fun K hK => ?_); go_simp; refine hK _ ?_; clear hK K) | (refine sched_call ?_ 39 #[.string s] ?_ (HI.out _) ?_; (focus (first | rfl | (go_simp; done))); (focus (first | rfl | (go_simp; done))); rintro e w3 ⟨rfl, rfl⟩; refine ⟨_, rfl, AgC.refl _ _, ?_⟩))
    refine sched_nil ?_
    go_wp2_with fail
    go_ret
    exact ⟨by rw [HV.out]; rfl, (HF0.out.1.thenNo HF.out.1).drew⟩
   | true =>
    rw [hnm] at HI
    have HNM := hid hnm
    clear hnm
    by_cases hz : i = 0
    ·subst hz
     rw [Nat.add_zero] at d0
     have HV : Hid (nameAt L 0 = true) := hid (nameAt_zero HY.out HNM.out)
     go_wp2_with fail
     refine wp_region_sched (by kernel_rfl) 25 [5] [0, 1, 2, 3, 4, 5, 6, 7, 8, 9, 10, 11, 12, 13, 14, 15, 16, 17, 18, 19, 20, 21, 22, 23, 24] (AgC [w.heap.size, b] wr.drew) (by kernel_rfl) (AgC.refl _ _) ?_
     simp only [List.map_cons, List.map_nil, List.contains_cons, List.contains_nil, nth_zero, nth_succ, Nat.reduceBEq, Bool.false_or, Bool.or_false, Bool.or_true, Bool.true_or]
     repeat (first | (refine sched_quiet (fun K hK => ?_); go_simp; refine hK _ ?_; clear hK K) | (refine sched_call ?_ 39 #[.string s] ?_ (HI.out _) ?_; (focus (first | rfl | (go_simp; done))); (focus (first | rfl | (go_simp; done))); rintro e w3 ⟨rfl, rfl⟩; refine ⟨_, rfl, AgC.refl _ _, ?_⟩))
     refine sched_nil ?_
     go_wp2_with fail
     go_roundw
     case rel => exact ⟨1, by omega, by first | rfl | go_num, HF.out.1.drew, fun k hk => by
      rcases Nat.lt_succ_iff_lt_or_eq.1 hk with h | rfl
      ·exact HF.out.2 k h
      ·exact HV.out⟩
     case measure => simp [intOf]; omega
    ·obtain ⟨j, rfl⟩ : ∃ j, i = j + 1 := ⟨i - 1, by omega⟩
     have hz2 : (0 : Int) < ((j + 1 : Nat) : Int) := by omega
     obtain ⟨q, hq⟩ : ∃ q, L[j]? = some q := ⟨L[j]'(by have := HN.out.1; omega), List.getElem?_eq_getElem _⟩
     obtain ⟨b', o', e', hc'⟩ := HC1.out j q hq
     simp only [Option.some.injEq, Addr.mk.injEq, and_true] at e'
     obtain ⟨rfl, rfl⟩ := e'
     have d1 := hc' wr (HF0.out.1.thenNo HF.out.1)
     have HAj := hid (nameAt_succ hq HY.out HNM.out)
     have hw1 : ((j + 1 : Nat) : Int) - 1 = (j : Int) := by omega
     have hw2 : IntKind.i64.wrap (((j + 1 : Nat) : Int) - 1) = (j : Int) := by rw [hw1]; exact IntWalk.i64_in _ (by omega)
     have hw4 : IntKind.i64.wrap (j : Int) = (j : Int) := IntWalk.i64_in _ (by omega)
     have hw3 : wrap64 (((j + 1 : Nat) : Int) - 1) = (j : Int) := by unfold wrap64; omega
     have ht : ((j : Int) + 1).toNat = j + 1 := by omega
     have hlt' : (j : Int) + 1 < (n : Int) := by omega
     have hge' : (0 : Int) ≤ (j : Int) + 1 := by omega
     have hlt'' : j < n := by omega
     have hw5 : IntKind.i64.wrap ((j : Int) + 1) = (j : Int) + 1 := IntWalk.i64_in _ (by omega)
     clear hq hc' hz hw1
     cases hls : Op.bytesLess q.toList s.toList with
     | true =>
      have HV : Hid (nameAt L (j + 1) = true) := hid (by rw [HAj.out]; exact hls)
      go_wp2_with fail
      refine wp_region_sched (by kernel_rfl) 25 [5] [0, 1, 2, 3, 4, 5, 6, 7, 8, 9, 10, 11, 12, 13, 14, 15, 16, 17, 18, 19, 20, 21, 22, 23, 24] (AgC [w.heap.size, b] wr.drew) (by kernel_rfl) (AgC.refl _ _) ?_
      simp only [List.map_cons, List.map_nil, List.contains_cons, List.contains_nil, nth_zero, nth_succ, Nat.reduceBEq, Bool.false_or, Bool.or_false, Bool.or_true, Bool.true_or]
      repeat (first | (refine sched_quiet (fun K hK => ?_); go_simp; refine hK _ ?_; clear hK K) | (refine sched_call ?_ 39 #[.string s] ?_ (HI.out _) ?_; (focus (first | rfl | (go_simp; done))); (focus (first | rfl | (go_simp; done))); rintro e w3 ⟨rfl, rfl⟩; refine ⟨_, rfl, AgC.refl _ _, ?_⟩))
      refine sched_nil ?_
      go_wp2_with fail
      go_roundw
      case rel => exact ⟨(j + 1 + 1), by omega, by first | rfl | go_num, HF.out.1.drew, fun k hk => by
       rcases Nat.lt_succ_iff_lt_or_eq.1 hk with h | rfl
       ·exact HF.out.2 k h
       ·exact HV.out⟩
      case measure => simp [intOf]; omega
     | false =>
      have HV := hid (HB1.out (j + 1) (by have := HN.out.1; omega) (by rw [HAj.out]; exact hls))
      go_wp2_with fail
      refine wp_region_sched (by kernel_rfl) 25 [5] [0, 1, 2, 3, 4, 5, 6, 7, 8, 9, 10, 11, 12, 13, 14, 15, 16, 17, 18, 19, 20, 21, 22, 23, 24] (AgC [w.heap.size, b] wr.drew) (by kernel_rfl) (AgC.refl _ _) ?_
      simp only [List.map_cons, List.map_nil, List.contains_cons, List.contains_nil, nth_zero, nth_succ, Nat.reduceBEq, Bool.false_or, Bool.or_false, Bool.or_true, Bool.true_or]
      repeat (first | (refine sched_quiet (fun K hK => ?_); go_simp; refine hK _ ?_; clear hK K) | (refine sched_call ?_ 39 #[.string s] ?_ (HI.out _) ?_; (focus (first | rfl | (go_simp; done))); (focus (first | rfl | (go_simp; done))); rintro e w3 ⟨rfl, rfl⟩; refine ⟨_, rfl, AgC.refl _ _, ?_⟩))
      refine sched_nil ?_
      go_wp2_with fail
      go_ret
      exact ⟨by rw [HV.out]; rfl, (HF0.out.1.thenNo HF.out.1).drew⟩
  ·obtain rfl : i = n := by omega
   clear hlt
   have HF1 := hid HF.out.2
   have HW1 := hid (HF0.out.1.thenNo HF.out.1)
   have HBX := hid (HF.out.1.keep HF0.out.2 (fun e => e))
   go_wp2_with fail
   clear c0 c1 HF
   go_loopw [4] (fun vi w2 => ∃ k : Nat, k ≤ m ∧ vi = .int .i64 (k : Int) ∧ Hid (Fr No wr w2 ∧ ∀ j q, j < k → Q[j]? = some q → (nameAt (keysOf Q) j && propB q) = true)) (fun vi _ => m - (intOf vi).toNat)
   case atStart => exact ⟨0, Nat.zero_le _, rfl, Fr.refl _ _, fun j q hj => absurd hj (Nat.not_lt_zero _)⟩
   case round =>
    obtain ⟨k, hk, rfl, HG⟩ := hrel
    obtain ⟨c0, c1⟩ := cells2 (HG.out.1.keep HBX.out (fun e => e))
    have ef : L.length = i := HN.out.1
    have eq : Q.length = m := HN.out.2
    rw [ef] at c0
    rw [eq] at c1
    clear ef eq
    by_cases hkm : k < m
    ·obtain ⟨⟨qk, ⟨vk, vb, vn, vf, vt⟩⟩, hy⟩ : ∃ y, Q[k]? = some y := ⟨Q[k]'(by have := HN.out.2; omega), List.getElem?_eq_getElem _⟩
     obtain ⟨gb, go, rfl, hc⟩ := HC2.out w (Fr.refl _ _) k _ hy
     have z0 := hc _ (HW1.out.thenNo HG.out.1) 0 _ (by decide) rfl
     have z1 := hc _ (HW1.out.thenNo HG.out.1) 1 _ (by decide) rfl
     have z2 := hc _ (HW1.out.thenNo HG.out.1) 2 _ (by decide) rfl
     have z3 := hc _ (HW1.out.thenNo HG.out.1) 3 _ (by decide) rfl
     have z4 := hc _ (HW1.out.thenNo HG.out.1) 4 _ (by decide) rfl
     have z5 := hc _ (HW1.out.thenNo HG.out.1) 5 _ (by decide) rfl
     rw [Nat.add_zero] at z0
     dsimp only at z0 z1 z2 z3 z4 z5
     have HY := hid hy
     have hkey : (keysOf Q)[k]? = some qk := by unfold keysOf; rw [List.getElem?_map, hy]; rfl
     have HKEY := hid hkey
     have hsz := HQS.out _ (List.mem_of_getElem? hy)
     have HI := hid (fun W => rname_any W qk hsz.1)
     have HIs := hid (fun W => ris_val W ⟨vk, vb, vn, vf, vt⟩ hsz.2)
     have HPB : Hid (propB ⟨qk, ⟨vk, vb, vn, vf, vt⟩⟩ = (valIsB ⟨vk, vb, vn, vf, vt⟩ && decide (vk ≠ 0))) := hid rfl
     dsimp only at HIs
     have hbe := heap1 wr (.cells #[.string qk, .int .i64 vk, .bool vb, .int .i64 vn, .float .f64 vf, .string vt] 98)
     have hfe : Fr No wr (wr.alloc (.cells #[.string qk, .int .i64 vk, .bool vb, .int .i64 vn, .float .f64 vf, .string vt] 98)) := (Fr.refl No wr).alloc _
     obtain ⟨wp, hwp⟩ : ∃ wp, wr.alloc (.cells #[.string qk, .int .i64 vk, .bool vb, .int .i64 vn, .float .f64 vf, .string vt] 98) = wp := ⟨_, rfl⟩
     obtain ⟨bp, hbp⟩ : ∃ bp, wr.heap.size = bp := ⟨_, rfl⟩
     rw [hwp] at hbe hfe
     have HWP := hid (⟨(HW1.out.thenNo HG.out.1).thenNo hfe, HG.out.1.thenNo hfe⟩ : Fr No w wp ∧ Fr No _ wp)
     have y0 := cellOf hbe 0
     have y1 := cellOf hbe 1
     have y2 := cellOf hbe 2
     have y3 := cellOf hbe 3
     have y4 := cellOf hbe 4
     have y5 := cellOf hbe 5
     simp at y0 y1 y2 y3 y4 y5
     have HLt : Hid (∀ j ∈ [w.heap.size, gb, bp], j < wp.drew.heap.size ∧ ¬ No j) := hid (fun j hj => ⟨by
      have e1 := lt_of_block hbe
      have e2 := World.block_lt_of_cell? _ _ z0
      have e3 := hfe.size
      have e4 := lt_of_block (HG.out.1.keep HBX.out (fun e => e))
      show j < wp.heap.size
      simp only [List.mem_cons, List.not_mem_nil, or_false] at hj
      rcases hj with rfl | rfl | rfl
      ·exact Nat.lt_of_lt_of_le e4 e3
      ·exact Nat.lt_of_lt_of_le e2 e3
      ·rw [← hbp]; exact e1, fun e => e⟩)
     rw [hbp] at y0 y1 y2 y3 y4 y5
     have HCJ := hid (fun (j : Nat) (q : PropV) (hq : Q[j]? = some q) => HC2.out w (Fr.refl _ _) j q hq)
     clear hy hkey hsz hc hbe hfe
     cases hnm : isNameB qk with
     | false =>
      rw [hnm] at HI
      have HNO := hid (nameAt_no HKEY.out hnm)
      clear hnm
      have HV := hid (HB2.out k _ HY.out (by rw [HNO.out]; rfl))
      go_wp2_with fail
      (try rw [hwp])
      clear hwp z0 z1 z2 z3 z4 z5
      refine wp_region_sched (by kernel_rfl) 32 [2, 23] [0, 1, 2, 3, 4, 5, 6, 7, 8, 9, 10, 11, 12, 13, 14, 15, 16, 17, 18, 19, 20, 21, 22, 23, 24, 25, 26, 27, 28, 29, 30, 31] (AgC [w.heap.size, gb, bp] wp.drew) (by kernel_rfl) (AgC.refl _ _) ?_
      simp only [List.map_cons, List.map_nil, List.contains_cons, List.contains_nil, nth_zero, nth_succ, Nat.reduceBEq, Bool.false_or, Bool.or_false, Bool.or_true, Bool.true_or]
      repeat (first | (refine sched_quiet (fun K hK => ?_); go_simp; refine hK _ ?_; clear hK K) | (refine sched_skip ?_ (AgC.refl _ _) ?_; focus (first | rfl | (go_simp; done))) | (refine sched_call ?_ 39 #[.string qk] ?_ (HI.out _) ?_; (focus (first | rfl | (go_simp; done))); (focus (first | rfl | (go_simp; done))); rintro e w3 ⟨rfl, rfl⟩; refine ⟨_, rfl, AgC.refl _ _, ?_⟩) | (refine sched_call ?_ 40 #[.agg #[.int .i64 vk, .bool vb, .int .i64 vn, .float .f64 vf, .string vt]] ?_ (HIs.out _) ?_; (focus (first | rfl | (go_simp; done))); (focus (first | rfl | (go_simp; done))); rintro e w4 ⟨rfl, f4⟩; have a4 := (AgC.refl [w.heap.size, gb, bp] wp.drew).fr f4 HLt.out; have F4 := hid f4; clear f4; refine ⟨_, rfl, a4, ?_⟩))
      refine sched_nil ?_
      go_wp2_with fail
      go_ret
      exact ⟨by rw [HV.out]; rfl, HWP.out.1.drew⟩
     | true =>
      rw [hnm] at HI
      have HNM := hid hnm
      clear hnm
      by_cases hz : k = 0
      ·subst hz
       simp only [Nat.zero_mul, Nat.add_zero] at z0 z1 z2 z3 z4 z5
       have HNA := hid (nameAt_zero HKEY.out HNM.out)
       cases hiv : valIsB ⟨vk, vb, vn, vf, vt⟩ with
       | false =>
        rw [hiv] at HIs HPB
        clear hiv
        have HV := hid (HB2.out 0 _ HY.out (by rw [HNA.out, HPB.out]; rfl))
        go_wp2_with fail
        (try rw [hwp])
        clear hwp z0 z1 z2 z3 z4 z5
        refine wp_region_sched (by kernel_rfl) 32 [2, 23] [0, 1, 2, 3, 4, 5, 6, 7, 8, 9, 10, 11, 12, 13, 14, 15, 16, 17, 18, 19, 20, 21, 22, 23, 24, 25, 26, 27, 28, 29, 30, 31] (AgC [w.heap.size, gb, bp] wp.drew) (by kernel_rfl) (AgC.refl _ _) ?_
        simp only [List.map_cons, List.map_nil, List.contains_cons, List.contains_nil, nth_zero, nth_succ, Nat.reduceBEq, Bool.false_or, Bool.or_false, Bool.or_true, Bool.true_or]
        repeat (first | (refine sched_quiet (fun K hK => ?_); go_simp; refine hK _ ?_; clear hK K) | (refine sched_skip ?_ (AgC.refl _ _) ?_; focus (first | rfl | (go_simp; done))) | (refine sched_call ?_ 39 #[.string qk] ?_ (HI.out _) ?_; (focus (first | rfl | (go_simp; done))); (focus (first | rfl | (go_simp; done))); rintro e w3 ⟨rfl, rfl⟩; refine ⟨_, rfl, AgC.refl _ _, ?_⟩) | (refine sched_call ?_ 40 #[.agg #[.int .i64 vk, .bool vb, .int .i64 vn, .float .f64 vf, .string vt]] ?_ (HIs.out _) ?_; (focus (first | rfl | (go_simp; done))); (focus (first | rfl | (go_simp; done))); rintro e w4 ⟨rfl, f4⟩; have a4 := (AgC.refl [w.heap.size, gb, bp] wp.drew).fr f4 HLt.out; have F4 := hid f4; clear f4; refine ⟨_, rfl, a4, ?_⟩))
        refine sched_nil ?_
        go_wp2_with fail
        go_ret
        exact ⟨by rw [HV.out]; rfl, HWP.out.1.drew.thenNo F4.out⟩
       | true =>
        rw [hiv, Bool.true_and] at HPB
        rw [hiv] at HIs
        clear hiv
        by_cases hk0 : vk = 0
        ·have n0 : ((vk : Int) == 0) = true := by rw [beq_iff_eq]; exact hk0
         have HPB2 : Hid (propB ⟨qk, ⟨vk, vb, vn, vf, vt⟩⟩ = false) := hid (by rw [HPB.out, decide_eq_false (not_not_intro hk0)])
         clear hk0
         have HV := hid (HB2.out 0 _ HY.out (by rw [HNA.out, HPB2.out]; rfl))
         go_wp2_with fail
         (try rw [hwp])
         clear hwp z0 z1 z2 z3 z4 z5
         refine wp_region_sched (by kernel_rfl) 32 [2, 23] [0, 1, 2, 3, 4, 5, 6, 7, 8, 9, 10, 11, 12, 13, 14, 15, 16, 17, 18, 19, 20, 21, 22, 23, 24, 25, 26, 27, 28, 29, 30, 31] (AgC [w.heap.size, gb, bp] wp.drew) (by kernel_rfl) (AgC.refl _ _) ?_
         simp only [List.map_cons, List.map_nil, List.contains_cons, List.contains_nil, nth_zero, nth_succ, Nat.reduceBEq, Bool.false_or, Bool.or_false, Bool.or_true, Bool.true_or]
         repeat (first | (refine sched_quiet (fun K hK => ?_); go_simp; refine hK _ ?_; clear hK K) | (refine sched_skip ?_ (AgC.refl _ _) ?_; focus (first | rfl | (go_simp; done))) | (refine sched_call ?_ 39 #[.string qk] ?_ (HI.out _) ?_; (focus (first | rfl | (go_simp; done))); (focus (first | rfl | (go_simp; done))); rintro e w3 ⟨rfl, rfl⟩; refine ⟨_, rfl, AgC.refl _ _, ?_⟩) | (refine sched_call ?_ 40 #[.agg #[.int .i64 vk, .bool vb, .int .i64 vn, .float .f64 vf, .string vt]] ?_ (HIs.out _) ?_; (focus (first | rfl | (go_simp; done))); (focus (first | rfl | (go_simp; done))); rintro e w4 ⟨rfl, f4⟩; have a4 := (AgC.refl [w.heap.size, gb, bp] wp.drew).fr f4 HLt.out; have F4 := hid f4; clear f4; refine ⟨_, rfl, a4, ?_⟩))
         refine sched_nil ?_
         go_wp2_with fail
         go_ret
         exact ⟨by rw [HV.out]; rfl, HWP.out.1.drew.thenNo F4.out⟩
        ·have n0 : ((vk : Int) == 0) = false := by rw [beq_eq_false_iff_ne]; exact hk0
         have HPB2 : Hid (propB ⟨qk, ⟨vk, vb, vn, vf, vt⟩⟩ = true) := hid (by rw [HPB.out, decide_eq_true hk0])
         clear hk0
         have HV := hid (show (nameAt (keysOf Q) 0 && propB ⟨qk, ⟨vk, vb, vn, vf, vt⟩⟩) = true by rw [HNA.out, HPB2.out]; rfl)
         go_wp2_with fail
         (try rw [hwp])
         clear hwp z0 z1 z2 z3 z4 z5
         refine wp_region_sched (by kernel_rfl) 32 [2, 23] [0, 1, 2, 3, 4, 5, 6, 7, 8, 9, 10, 11, 12, 13, 14, 15, 16, 17, 18, 19, 20, 21, 22, 23, 24, 25, 26, 27, 28, 29, 30, 31] (AgC [w.heap.size, gb, bp] wp.drew) (by kernel_rfl) (AgC.refl _ _) ?_
         simp only [List.map_cons, List.map_nil, List.contains_cons, List.contains_nil, nth_zero, nth_succ, Nat.reduceBEq, Bool.false_or, Bool.or_false, Bool.or_true, Bool.true_or]
         repeat (first | (refine sched_quiet (fun K hK => ?_); go_simp; refine hK _ ?_; clear hK K) | (refine sched_skip ?_ (AgC.refl _ _) ?_; focus (first | rfl | (go_simp; done))) | (refine sched_call ?_ 39 #[.string qk] ?_ (HI.out _) ?_; (focus (first | rfl | (go_simp; done))); (focus (first | rfl | (go_simp; done))); rintro e w3 ⟨rfl, rfl⟩; refine ⟨_, rfl, AgC.refl _ _, ?_⟩) | (refine sched_call ?_ 40 #[.agg #[.int .i64 vk, .bool vb, .int .i64 vn, .float .f64 vf, .string vt]] ?_ (HIs.out _) ?_; (focus (first | rfl | (go_simp; done))); (focus (first | rfl | (go_simp; done))); rintro e w4 ⟨rfl, f4⟩; have a4 := (AgC.refl [w.heap.size, gb, bp] wp.drew).fr f4 HLt.out; have F4 := hid f4; clear f4; refine ⟨_, rfl, a4, ?_⟩))
         refine sched_nil ?_
         go_wp2_with fail
         go_roundw
         case rel => exact ⟨1, by omega, by first | rfl | go_num, HWP.out.2.drew.thenNo F4.out, fun j q hj hq => by
          rcases Nat.lt_succ_iff_lt_or_eq.1 hj with h | rfl
          ·exact HG.out.2 j q h hq
          ·obtain rfl : _ = q := Option.some.inj (HY.out.symm.trans hq)
           exact HV.out⟩
         case measure => simp [intOf]; omega
      ·obtain ⟨j, rfl⟩ : ∃ j, k = j + 1 := ⟨k - 1, by omega⟩
       have hz2 : (0 : Int) < ((j + 1 : Nat) : Int) := by omega
       obtain ⟨q, hq⟩ : ∃ q, Q[j]? = some q := ⟨Q[j]'(by have := HN.out.2; omega), List.getElem?_eq_getElem _⟩
       obtain ⟨b', o', e', hc'⟩ := HCJ.out j q hq
       simp only [Option.some.injEq, Addr.mk.injEq, and_true] at e'
       obtain ⟨rfl, rfl⟩ := e'
       have d1 := hc' wp HWP.out.1 0 _ (by decide) rfl
       rw [Nat.add_zero] at d1
       obtain ⟨p0, p1⟩ := cells2 (HWP.out.2.keep HBX.out (fun e => e))
       have eq : Q.length = m := HN.out.2
       rw [eq] at p1
       clear eq p0
       have HAj := hid (nameAt_succ (show (keysOf Q)[j]? = some q.key by unfold keysOf; rw [List.getElem?_map, hq]; rfl) HKEY.out HNM.out)
       have hw2 : IntKind.i64.wrap (((j + 1 : Nat) : Int) - 1) = (j : Int) := by rw [show (((j + 1 : Nat) : Int) - 1) = (j : Int) by omega]; exact IntWalk.i64_in _ (by omega)
       have hw4 : IntKind.i64.wrap (j : Int) = (j : Int) := IntWalk.i64_in _ (by omega)
       have hw5 : IntKind.i64.wrap ((j : Int) + 1) = (j : Int) + 1 := IntWalk.i64_in _ (by omega)
       have ht : ((j : Int) + 1).toNat = j + 1 := by omega
       have hlt' : (j : Int) + 1 < (m : Int) := by omega
       have hge' : (0 : Int) ≤ (j : Int) + 1 := by omega
       have hlt'' : j < m := by omega
       clear hq hc' hz
       cases hls : Op.bytesLess q.key.toList qk.toList with
       | false =>
        have HNO : Hid (nameAt (keysOf Q) (j + 1) = false) := hid (by rw [HAj.out]; exact hls)
        have HV := hid (HB2.out (j + 1) _ HY.out (by rw [HNO.out]; rfl))
        go_wp2_with fail
        (try rw [hwp])
        clear hwp z0 z1 z2 z3 z4 z5
        refine wp_region_sched (by kernel_rfl) 32 [2, 23] [0, 1, 2, 3, 4, 5, 6, 7, 8, 9, 10, 11, 12, 13, 14, 15, 16, 17, 18, 19, 20, 21, 22, 23, 24, 25, 26, 27, 28, 29, 30, 31] (AgC [w.heap.size, gb, bp] wp.drew) (by kernel_rfl) (AgC.refl _ _) ?_
        simp only [List.map_cons, List.map_nil, List.contains_cons, List.contains_nil, nth_zero, nth_succ, Nat.reduceBEq, Bool.false_or, Bool.or_false, Bool.or_true, Bool.true_or]
        repeat (first | (refine sched_quiet (fun K hK => ?_); go_simp; refine hK _ ?_; clear hK K) | (refine sched_skip ?_ (AgC.refl _ _) ?_; focus (first | rfl | (go_simp; done))) | (refine sched_call ?_ 39 #[.string qk] ?_ (HI.out _) ?_; (focus (first | rfl | (go_simp; done))); (focus (first | rfl | (go_simp; done))); rintro e w3 ⟨rfl, rfl⟩; refine ⟨_, rfl, AgC.refl _ _, ?_⟩) | (refine sched_call ?_ 40 #[.agg #[.int .i64 vk, .bool vb, .int .i64 vn, .float .f64 vf, .string vt]] ?_ (HIs.out _) ?_; (focus (first | rfl | (go_simp; done))); (focus (first | rfl | (go_simp; done))); rintro e w4 ⟨rfl, f4⟩; have a4 := (AgC.refl [w.heap.size, gb, bp] wp.drew).fr f4 HLt.out; have F4 := hid f4; clear f4; refine ⟨_, rfl, a4, ?_⟩))
        refine sched_nil ?_
        go_wp2_with fail
        go_ret
        exact ⟨by rw [HV.out]; rfl, HWP.out.1.drew⟩
       | true =>
        have HNA : Hid (nameAt (keysOf Q) (j + 1) = true) := hid (by rw [HAj.out]; exact hls)
        cases hiv : valIsB ⟨vk, vb, vn, vf, vt⟩ with
        | false =>
         rw [hiv] at HIs HPB
         clear hiv
         have HV := hid (HB2.out (j + 1) _ HY.out (by rw [HNA.out, HPB.out]; rfl))
         go_wp2_with fail
         (try rw [hwp])
         clear hwp z0 z1 z2 z3 z4 z5
         refine wp_region_sched (by kernel_rfl) 32 [2, 23] [0, 1, 2, 3, 4, 5, 6, 7, 8, 9, 10, 11, 12, 13, 14, 15, 16, 17, 18, 19, 20, 21, 22, 23, 24, 25, 26, 27, 28, 29, 30, 31] (AgC [w.heap.size, gb, bp] wp.drew) (by kernel_rfl) (AgC.refl _ _) ?_
         simp only [List.map_cons, List.map_nil, List.contains_cons, List.contains_nil, nth_zero, nth_succ, Nat.reduceBEq, Bool.false_or, Bool.or_false, Bool.or_true, Bool.true_or]
         repeat (first | (refine sched_quiet (fun K hK => ?_); go_simp; refine hK _ ?_; clear hK K) | (refine sched_skip ?_ (AgC.refl _ _) ?_; focus (first | rfl | (go_simp; done))) | (refine sched_call ?_ 39 #[.string qk] ?_ (HI.out _) ?_; (focus (first | rfl | (go_simp; done))); (focus (first | rfl | (go_simp; done))); rintro e w3 ⟨rfl, rfl⟩; refine ⟨_, rfl, AgC.refl _ _, ?_⟩) | (refine sched_call ?_ 40 #[.agg #[.int .i64 vk, .bool vb, .int .i64 vn, .float .f64 vf, .string vt]] ?_ (HIs.out _) ?_; (focus (first | rfl | (go_simp; done))); (focus (first | rfl | (go_simp; done))); rintro e w4 ⟨rfl, f4⟩; have a4 := (AgC.refl [w.heap.size, gb, bp] wp.drew).fr f4 HLt.out; have F4 := hid f4; clear f4; refine ⟨_, rfl, a4, ?_⟩))
         refine sched_nil ?_
         go_wp2_with fail
         go_ret
         exact ⟨by rw [HV.out]; rfl, HWP.out.1.drew.thenNo F4.out⟩
        | true =>
         rw [hiv, Bool.true_and] at HPB
         rw [hiv] at HIs
         clear hiv
         by_cases hk0 : vk = 0
         ·have n0 : ((vk : Int) == 0) = true := by rw [beq_iff_eq]; exact hk0
          have HPB2 : Hid (propB ⟨qk, ⟨vk, vb, vn, vf, vt⟩⟩ = false) := hid (by rw [HPB.out, decide_eq_false (not_not_intro hk0)])
          clear hk0
          have HV := hid (HB2.out (j + 1) _ HY.out (by rw [HNA.out, HPB2.out]; rfl))
          go_wp2_with fail
          (try rw [hwp])
          clear hwp z0 z1 z2 z3 z4 z5
          refine wp_region_sched (by kernel_rfl) 32 [2, 23] [0, 1, 2, 3, 4, 5, 6, 7, 8, 9, 10, 11, 12, 13, 14, 15, 16, 17, 18, 19, 20, 21, 22, 23, 24, 25, 26, 27, 28, 29, 30, 31] (AgC [w.heap.size, gb, bp] wp.drew) (by kernel_rfl) (AgC.refl _ _) ?_
          simp only [List.map_cons, List.map_nil, List.contains_cons, List.contains_nil, nth_zero, nth_succ, Nat.reduceBEq, Bool.false_or, Bool.or_false, Bool.or_true, Bool.true_or]
          repeat (first | (refine sched_quiet (fun K hK => ?_); go_simp; refine hK _ ?_; clear hK K) | (refine sched_skip ?_ (AgC.refl _ _) ?_; focus (first | rfl | (go_simp; done))) | (refine sched_call ?_ 39 #[.string qk] ?_ (HI.out _) ?_; (focus (first | rfl | (go_simp; done))); (focus (first | rfl | (go_simp; done))); rintro e w3 ⟨rfl, rfl⟩; refine ⟨_, rfl, AgC.refl _ _, ?_⟩) | (refine sched_call ?_ 40 #[.agg #[.int .i64 vk, .bool vb, .int .i64 vn, .float .f64 vf, .string vt]] ?_ (HIs.out _) ?_; (focus (first | rfl | (go_simp; done))); (focus (first | rfl | (go_simp; done))); rintro e w4 ⟨rfl, f4⟩; have a4 := (AgC.refl [w.heap.size, gb, bp] wp.drew).fr f4 HLt.out; have F4 := hid f4; clear f4; refine ⟨_, rfl, a4, ?_⟩))
          refine sched_nil ?_
          go_wp2_with fail
          go_ret
          exact ⟨by rw [HV.out]; rfl, HWP.out.1.drew.thenNo F4.out⟩
         ·have n0 : ((vk : Int) == 0) = false := by rw [beq_eq_false_iff_ne]; exact hk0
          have HPB2 : Hid (propB ⟨qk, ⟨vk, vb, vn, vf, vt⟩⟩ = true) := hid (by rw [HPB.out, decide_eq_true hk0])
          clear hk0
          have HV := hid (show (nameAt (keysOf Q) (j + 1) && propB ⟨qk, ⟨vk, vb, vn, vf, vt⟩⟩) = true by rw [HNA.out, HPB2.out]; rfl)
          go_wp2_with fail
          (try rw [hwp])
          clear hwp z0 z1 z2 z3 z4 z5
          refine wp_region_sched (by kernel_rfl) 32 [2, 23] [0, 1, 2, 3, 4, 5, 6, 7, 8, 9, 10, 11, 12, 13, 14, 15, 16, 17, 18, 19, 20, 21, 22, 23, 24, 25, 26, 27, 28, 29, 30, 31] (AgC [w.heap.size, gb, bp] wp.drew) (by kernel_rfl) (AgC.refl _ _) ?_
          simp only [List.map_cons, List.map_nil, List.contains_cons, List.contains_nil, nth_zero, nth_succ, Nat.reduceBEq, Bool.false_or, Bool.or_false, Bool.or_true, Bool.true_or]
          repeat (first | (refine sched_quiet (fun K hK => ?_); go_simp; refine hK _ ?_; clear hK K) | (refine sched_skip ?_ (AgC.refl _ _) ?_; focus (first | rfl | (go_simp; done))) | (refine sched_call ?_ 39 #[.string qk] ?_ (HI.out _) ?_; (focus (first | rfl | (go_simp; done))); (focus (first | rfl | (go_simp; done))); rintro e w3 ⟨rfl, rfl⟩; refine ⟨_, rfl, AgC.refl _ _, ?_⟩) | (refine sched_call ?_ 40 #[.agg #[.int .i64 vk, .bool vb, .int .i64 vn, .float .f64 vf, .string vt]] ?_ (HIs.out _) ?_; (focus (first | rfl | (go_simp; done))); (focus (first | rfl | (go_simp; done))); rintro e w4 ⟨rfl, f4⟩; have a4 := (AgC.refl [w.heap.size, gb, bp] wp.drew).fr f4 HLt.out; have F4 := hid f4; clear f4; refine ⟨_, rfl, a4, ?_⟩))
          refine sched_nil ?_
          go_wp2_with fail
          go_roundw
          case rel => exact ⟨j + 1 + 1, by omega, by first | rfl | go_num, HWP.out.2.drew.thenNo F4.out, fun i2 q hj hq => by
           rcases Nat.lt_succ_iff_lt_or_eq.1 hj with h | rfl
           ·exact HG.out.2 i2 q h hq
           ·obtain rfl : _ = q := Option.some.inj (HY.out.symm.trans hq)
            exact HV.out⟩
          case measure => simp [intOf]; omega
    ·obtain rfl : k = m := by omega
     have HV : Hid (r = (decide (i ≤ 3) && decide (k ≤ 3))) := hid (by
      have e1 := HN.out.1
      have e2 := HN.out.2
      rw [HE.out (fun j hj => HF1.out j (by omega)) (fun j q hq => HG.out.2 j q (by have := (List.getElem?_eq_some_iff.1 hq).1; omega) hq), e1, e2])
     have e3 : Hid (decide ((i : Int) ≤ 3) = decide (i ≤ 3) ∧ decide ((k : Int) ≤ 3) = decide (k ≤ 3)) := hid ⟨by rw [decide_eq_decide]; omega, by rw [decide_eq_decide]; omega⟩
     clear hkm
     by_cases h3 : i ≤ 3
     ·have H3 := hid h3
      go_wp2_with fail
      go_ret
      exact ⟨by rw [HV.out, decide_eq_true H3.out, ← e3.out.2]; rfl, HW1.out.thenNo HG.out.1⟩
     ·have H3 := hid h3
      go_wp2_with fail
      go_ret
      exact ⟨by rw [HV.out, decide_eq_false (show ¬ i ≤ 3 by have := H3.out; omega)]; rfl, HW1.out.thenNo HG.out.1⟩
end Go.Proofs.YthadcdoepoglkaaGreatDoor
namespace Go.Proofs.YthadcdoepoglkaaGreatDoor
open Go.RowKit Go.Lig
theorem tx_begins (K : Ck) (b : Int) : K.begins.tx b = if b = (K.l.length : Int) + 1 then some ⟨0, K.commits, 0⟩ else K.tx b := by
 unfold Ck.tx Ck.begins
 dsimp only
 by_cases h1 : 1 ≤ b
 ·rw [if_pos h1, if_pos h1]
  by_cases h2 : b = (K.l.length : Int) + 1
  ·rw [if_pos h2, List.getElem?_append_right (by omega), show (b - 1).toNat - K.l.length = 0 by omega]
   rfl
  ·rw [if_neg h2]
   by_cases h3 : (b - 1).toNat < K.l.length
   ·rw [List.getElem?_append_left h3]
   ·rw [List.getElem?_eq_none (by simp; omega), List.getElem?_eq_none (by omega)]
 ·rw [if_neg h1, if_neg h1, if_neg (by omega)]
theorem tx_put {K : Ck} {t : Int} {x0 : Tx} (h : K.tx t = some x0) (x : Tx) (b : Int) : (K.put t x).tx b = if b = t then some x else K.tx b := by
 obtain ⟨t1, t2, t3, t4⟩ := Ck.tx_some h
 unfold Ck.tx Ck.put
 dsimp only
 by_cases h1 : 1 ≤ b
 ·rw [if_pos h1, if_pos h1]
  by_cases h2 : b = t
  ·subst h2
   rw [if_pos rfl, List.getElem?_set_self t2]
  ·rw [if_neg h2, List.getElem?_set_ne (by omega)]
 ·rw [if_neg h1, if_neg h1, if_neg (by omega)]
theorem tx_abort {K : Ck} {t : Int} {x : Tx} (h : K.tx t = some x) (b : Int) : (K.abort t).tx b = if b = t then some { x with state := 2 } else K.tx b := by
 unfold Ck.abort
 rw [h]
 exact tx_put h _ b
theorem commits_abort (K : Ck) (t : Int) : (K.abort t).commits = K.commits := by
 unfold Ck.abort Ck.put
 split <;> rfl
theorem len_abort (K : Ck) (t : Int) : (K.abort t).l.length = K.l.length := by
 unfold Ck.abort Ck.put
 split <;> simp
theorem mem_abort {K : Ck} {t : Int} {x y : Tx} (h : K.tx t = some x) (hy : y ∈ (K.abort t).l) : y ∈ K.l ∨ y = { x with state := 2 } := by
 unfold Ck.abort Ck.put at hy
 rw [h] at hy
 exact List.mem_or_eq_of_mem_set hy
theorem ClkOk.begins {K : Ck} (h : ClkOk K) : ClkOk K.begins := by
 have hm : ∀ x, x ∈ K.begins.l → x ∈ K.l ∨ x = ⟨0, K.commits, 0⟩ := fun x hx => by
  unfold Ck.begins at hx
  simpa using hx
 refine ⟨fun x hx => ?_, h.c0, fun x hx => ?_, fun x hx => ?_⟩
 ·rcases hm x hx with e | rfl
  ·exact h.tx x e
  ·exact ⟨.inl rfl, h.c0, fun e => by simp at e⟩
 ·rcases hm x hx with e | rfl
  ·exact h.mrk x e
  ·exact Int.le_refl _
 ·rcases hm x hx with e | rfl
  ·exact h.cm x e
  ·exact fun e => by simp at e
theorem ClkOk.abort {K : Ck} (h : ClkOk K) {t : Int} (hl : K.live t = true) : ClkOk (K.abort t) := by
 obtain ⟨x, hx, h0⟩ := Ck.live_iff.1 hl
 have hxm := h.mrk x (Ck.mem hx)
 have hxo := h.tx x (Ck.mem hx)
 have e := commits_abort K t
 refine ⟨fun y hy => ?_, by have := h.c0; omega, fun y hy => ?_, fun y hy => ?_⟩
 ·rcases mem_abort hx hy with h1 | rfl
  ·exact h.tx y h1
  ·exact ⟨.inr (.inr rfl), hxo.mark, fun e => by simp at e⟩
 ·rcases mem_abort hx hy with h1 | rfl
  ·have := h.mrk y h1; omega
  ·show x.mark ≤ _; omega
 ·rcases mem_abort hx hy with h1 | rfl
  ·intro h2; have := h.cm y h1 h2; omega
  ·intro h2; simp at h2
section
variable {α : Type} {K : Ck} {L : List (Ver α)}
theorem CellOk.txne (h : CellOk K L) {y : Ver α} (hy : y ∈ L) : y.by_ ≠ (K.l.length : Int) + 1 := by
 obtain ⟨x, hx, -⟩ := h.st y hy
 have := (Ck.tx_some hx).2.2.2
 omega
theorem CellOk.begins (h : CellOk K L) : CellOk K.begins L := by
 have e : ∀ y ∈ L, K.begins.tx y.by_ = K.tx y.by_ := fun y hy => by rw [tx_begins, if_neg (h.txne hy)]
 refine ⟨fun y hy => by rw [e y hy]; exact h.st y hy, ?_⟩
 have hb := h.bef
 rw [List.pairwise_iff_forall_sublist] at hb ⊢
 intro y z hs
 obtain ⟨x, x', h1, h2, h3⟩ := hb hs
 exact ⟨x, x', by rw [e y (hs.subset (by simp))]; exact h1, by rw [e z (hs.subset (by simp))]; exact h2, h3⟩
theorem CellOk.abort (h : CellOk K L) {t : Int} (hl : K.live t = true) : CellOk (K.abort t) (undoV t L) := by
 obtain ⟨x, hx, h0⟩ := Ck.live_iff.1 hl
 have hs : (undoV t L).Sublist L := List.filter_sublist
 have hm : ∀ y ∈ undoV t L, y.by_ ≠ t := fun y hy => by
  unfold undoV at hy
  have := (List.mem_filter.1 hy).2
  simpa using this
 have e : ∀ y ∈ undoV t L, (K.abort t).tx y.by_ = K.tx y.by_ := fun y hy => by rw [tx_abort hx, if_neg (hm y hy)]
 refine ⟨fun y hy => by rw [e y hy]; exact h.st y (hs.subset hy), ?_⟩
 have hb := h.bef.sublist hs
 rw [List.pairwise_iff_forall_sublist] at hb ⊢
 intro y z hs2
 obtain ⟨a, b, h1, h2, h3⟩ := hb hs2
 exact ⟨a, b, by rw [e y (hs2.subset (by simp))]; exact h1, by rw [e z (hs2.subset (by simp))]; exact h2, h3⟩
theorem CellOk.snoc (h : CellOk K L) {t : Int} (hl : K.live t = true) (hne : ∀ y ∈ L, y.by_ ≠ t) (hc : clashV K t L = false) (v : α) (g : Bool) : CellOk K (L ++ [⟨t, v, g⟩]) := by
 obtain ⟨x, hx, h0⟩ := Ck.live_iff.1 hl
 refine ⟨fun y hy => ?_, ?_⟩
 ·rcases List.mem_append.1 hy with hy | hy
  ·exact h.st y hy
  ·rw [List.mem_singleton.1 hy]; exact ⟨x, hx, .inl h0⟩
 ·rw [List.pairwise_append]
  refine ⟨h.bef, by simp, fun y hy z hz => ?_⟩
  rw [List.mem_singleton.1 hz]
  -- the last
  cases hL : L.getLast? with
  | none => rw [List.getLast?_eq_none_iff.1 hL] at hy; cases hy
  | some u =>
   obtain ⟨A, rfl⟩ : ∃ A, L = A ++ [u] := by
    obtain ⟨A, hA⟩ := List.getLast?_eq_some_iff.1 hL
    exact ⟨A, hA⟩
   have hu : u ∈ A ++ [u] := by simp
   obtain ⟨xu, hxu, hsu⟩ := h.st u hu
   have hcu : K.clashes t u.by_ = false := by unfold clashV at hc; rw [hL] at hc; exact hc
   unfold Ck.clashes at hcu
   rw [hx, hxu] at hcu
   dsimp only at hcu
   have hn1 : (t == u.by_) = false := beq_eq_false_iff_ne.2 (fun e => hne u hu e.symm)
   rw [hn1] at hcu
   have h1 : xu.state = 1 ∧ xu.commit ≤ x.mark := by
    rcases hsu with e | e
    ·simp [e] at hcu
    ·simp [e] at hcu
     exact ⟨e, hcu⟩
   rcases List.mem_append.1 hy with hy | hy
   ·obtain ⟨a, b, q1, q2, q3, q4⟩ := (List.pairwise_append.1 h.bef).2.2 y hy u (by simp)
    obtain rfl := Option.some.inj (q2.symm.trans hxu)
    refine ⟨a, x, q1, hx, q3, .inr ⟨h0, ?_⟩⟩
    rcases q4 with q4 | q4 <;> omega
   ·rw [List.mem_singleton.1 hy]
    exact ⟨xu, x, hxu, hx, h1.1, .inr ⟨h0, h1.2⟩⟩
theorem writeV_as (h : CellOk K L) {t : Int} (hl : K.live t = true) (hc : clashV K t L = false) (v : α) (g : Bool) : writeV K t v g L = undoV t L ++ [⟨t, v, g⟩] := by
 unfold writeV
 rw [hc, if_neg (by simp)]
 cases hL : L.getLast? with
 | none =>
  obtain rfl := List.getLast?_eq_none_iff.1 hL
  rfl
 | some u =>
  obtain ⟨A, rfl⟩ := List.getLast?_eq_some_iff.1 hL
  have hA : ∀ y ∈ A, y.by_ ≠ t := fun y hy e => by
   obtain ⟨P, Q, hPQ⟩ := List.append_of_mem hy
   have := h.liveLast (A := P) (B := Q ++ [u]) (y := y) (by rw [hPQ]; simp) (by rw [e]; exact hl)
   simp at this
  have hf : undoV t A = A := List.filter_eq_self.2 (fun y hy => by simpa using hA y hy)
  have hs : undoV t (A ++ [u]) = undoV t A ++ undoV t [u] := List.filter_append ..
  dsimp only
  by_cases e : u.by_ = t
  ·rw [if_pos e, List.dropLast_concat, hs, hf]
   have : undoV t [u] = [] := by unfold undoV; simp [e]
   rw [this, List.append_nil]
  ·rw [if_neg e, hs, hf]
   have : undoV t [u] = [u] := by unfold undoV; simp [e]
   rw [this]
theorem clashV_undo (h : CellOk K L) {t : Int} (hl : K.live t = true) (hc : clashV K t L = false) : clashV K t (undoV t L) = false := by
 cases hL : L.getLast? with
 | none =>
  obtain rfl := List.getLast?_eq_none_iff.1 hL
  rfl
 | some u =>
  obtain ⟨A, rfl⟩ := List.getLast?_eq_some_iff.1 hL
  have hA : ∀ y ∈ A, y.by_ ≠ t := fun y hy e => by
   obtain ⟨P, Q, hPQ⟩ := List.append_of_mem hy
   have := h.liveLast (A := P) (B := Q ++ [u]) (y := y) (by rw [hPQ]; simp) (by rw [e]; exact hl)
   simp at this
  have hf : undoV t A = A := List.filter_eq_self.2 (fun y hy => by simpa using hA y hy)
  have hs : undoV t (A ++ [u]) = undoV t A ++ undoV t [u] := List.filter_append ..
  by_cases e : u.by_ = t
  ·have e2 : undoV t [u] = [] := by unfold undoV; simp [e]
   rw [hs, hf, e2, List.append_nil]
   obtain ⟨x, hx, h0⟩ := Ck.live_iff.1 hl
   cases hL2 : A.getLast? with
   | none => unfold clashV; rw [hL2]
   | some z =>
    obtain ⟨A', rfl⟩ := List.getLast?_eq_some_iff.1 hL2
    obtain ⟨a, b, q1, q2, q3, q4⟩ := (List.pairwise_append.1 h.bef).2.2 z (by simp) u (by simp)
    rw [e, hx] at q2
    obtain rfl := Option.some.inj q2
    have q5 : a.commit ≤ x.mark := by rcases q4 with q4 | q4 <;> omega
    unfold clashV
    rw [hL2]
    show K.clashes t z.by_ = false
    unfold Ck.clashes
    rw [hx, q1]
    simp [q3, q5]
  ·have e2 : undoV t [u] = [u] := by unfold undoV; simp [e]
   rw [hs, hf, e2]
   exact hc
theorem CellOk.undo (h : CellOk K L) (t : Int) : CellOk K (undoV t L) := h.sub List.filter_sublist
theorem undoV_ne (t : Int) (L : List (Ver α)) : ∀ y ∈ undoV t L, y.by_ ≠ t := fun y hy => by
 unfold undoV at hy
 have := (List.mem_filter.1 hy).2
 simpa using this
theorem CellOk.write (h : CellOk K L) {t : Int} (hl : K.live t = true) (hc : clashV K t L = false) (v : α) (g : Bool) : CellOk K (writeV K t v g L) := by
 rw [writeV_as h hl hc]
 exact (h.undo t).snoc hl (undoV_ne t L) (clashV_undo h hl hc) v g
end
end Go.Proofs.YthadcdoepoglkaaGreatDoor
