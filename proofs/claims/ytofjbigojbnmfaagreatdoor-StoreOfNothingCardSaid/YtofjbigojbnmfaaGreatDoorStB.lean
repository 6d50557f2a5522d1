/- The plain store: copied, IsNode, finds, of nodes that have nothing. -/
import Derived.Test.YtofjbigojbnmfaaGreatDoorStA
namespace Go.Proofs.YtofjbigojbnmfaaGreatDoor
open Go.RowKit Go.Lig

theorem eql_nils {P : Program} (w : World) (t e : TypeId) (ht : P.underlying t = some (.slice e)) : (binOp .eql t (.slice none 0 0) (.slice none 0 0)).run P w = .ok (.bool true) w := by
  have h : ∀ d : Nat, (Op.equalIn (d + 1) t (.slice none 0 0) (.slice none 0 0)).run P w = .ok true w := fun d => by
    simp [Op.equalIn, run_underlying ht]
  simp only [binOp]
  simp [Op.equal, Op.maxDepth, h 9999]
set_option maxRecDepth 100000 in
theorem clones_nil (w : World) : Calls Tryz.prog 118 #[.slice none 0 0] w fun e w' => e = .returned (.slice none 0 0) ∧ w = w' := by
  have hq := eql_nils w 29 _ Tryz.underlying29
  go_enter Tryz.func118, Tryz.ntmps118
  go_wp2
  go_ret
  exact ⟨rfl, rfl⟩
set_option maxRecDepth 100000 in
theorem clonep_nil (w : World) : Calls Tryz.prog 119 #[.slice none 0 0] w fun e w' => e = .returned (.slice none 0 0) ∧ w = w' := by
  have hq := eql_nils w 30 _ Tryz.underlying30
  go_enter Tryz.func119, Tryz.ntmps119
  go_wp2
  go_ret
  exact ⟨rfl, rfl⟩
theorem built_n0 : Tryz.prog.built 32 [(0, .slice none 0 0), (1, .slice none 0 0)] = some #[.slice none 0 0, .slice none 0 0] := by kernel_rfl
set_option maxHeartbeats 2000000 in
theorem copied_nil (w : World) : Calls Tryz.prog 50 #[.agg #[.slice none 0 0, .slice none 0 0]] w fun e w' => e = .returned (.agg #[.slice none 0 0, .slice none 0 0]) ∧ Fr No w w' := by
  obtain ⟨k1, k2⟩ := heap2 w (.cells #[.slice none 0 0, .slice none 0 0] 32) (.cells #[.slice none 0 0, .slice none 0 0] 32)
  have hf : Fr No w ((w.alloc (.cells #[.slice none 0 0, .slice none 0 0] 32)).alloc (.cells #[.slice none 0 0, .slice none 0 0] 32)) := ((Fr.refl No w).alloc _).alloc _
  go_enter Tryz.func50, Tryz.ntmps50
  go_wp2_with fail
  generalize (w.alloc (.cells #[.slice none 0 0, .slice none 0 0] 32)).alloc (.cells #[.slice none 0 0, .slice none 0 0] 32) = w2 at *
  obtain ⟨c0, c1⟩ := cells2 k1
  have HF := hid (⟨hf, k1, k2⟩ : _ ∧ _ ∧ _)
  have HZ := hid (⟨lt_of_block k1, lt_of_block k2⟩ : _ ∧ _)
  have hne : w.heap.size ≠ w.heap.size + 1 := by omega
  generalize hb1 : w.heap.size + 1 = b1 at *
  clear hf k1 k2
  refine wp_region_sched (by kernel_rfl) 7 [2, 5, 7] [0, 1, 3, 4, 2, 5, 6, 7] (AgC [w.heap.size] w2.drew) (by kernel_rfl) (AgC.refl _ _) ?_
  simp only [List.map_cons, List.map_nil, List.contains_cons, List.contains_nil, nth_zero, nth_succ, Nat.reduceBEq, Bool.false_or, Bool.or_false, Bool.or_true, Bool.true_or]
  repeat (refine sched_quiet (fun K hK => ?_); go_simp; refine hK _ ?_; clear hK K)
  refine sched_call (by first | rfl | go_simp) 118 #[.slice none 0 0] (by first | kernel_rfl | go_simp) (clones_nil _) ?_
  rintro e w3 ⟨rfl, rfl⟩
  refine ⟨_, rfl, AgC.refl _ _, ?_⟩
  repeat (refine sched_quiet (fun K hK => ?_); go_simp; refine hK _ ?_; clear hK K)
  refine sched_call (by first | rfl | go_simp) 119 #[.slice none 0 0] (by first | kernel_rfl | go_simp) (clonep_nil _) ?_
  rintro e w3 ⟨rfl, rfl⟩
  refine ⟨_, rfl, AgC.refl _ _, ?_⟩
  repeat (first | (refine sched_build rfl 32 [(0, .tmp 5), (1, .tmp 8)] rfl [(0, .slice none 0 0), (1, .slice none 0 0)] rfl _ built_n0 ?_) | (refine sched_quiet (fun K hK => ?_); go_simp; refine hK _ ?_; clear hK K))
  refine sched_loud (wpList_storeO rfl 32 (.tmp 2) (.tmp 9) rfl b1 0 rfl [.slice none 0 0, .slice none 0 0] 32 [.slice none 0 0, .slice none 0 0] rfl (by kernel_rfl) HF.out.2.2 (by simp) (by simp [Value.oneCell']) ?_)
  intro w5 p5
  have P5 := hid (show Put b1 #[.slice none 0 0, .slice none 0 0] 32 w2.drew w5 from p5)
  clear p5
  refine sched_last ?_
  refine sched_nil ?_
  obtain ⟨r0, r1⟩ := cells2 P5.out.at_
  go_wp2_with fail
  refine bodyPost_ret (v := .agg #[.slice none 0 0, .slice none 0 0]) ?_ rfl ⟨rfl, (HF.out.1.drew).fresh P5.out.fr (fun k e => by subst e; omega)⟩
  simp [results, Tryz.f50, go_sem, r0, r1]
theorem arenames_nil (w : World) : Calls Tryz.prog 90 #[.slice none 0 0, .int .i64 3] w fun e w' => e = .returned (.bool true) ∧ w = w' := by
  go_enter Tryz.func90, Tryz.ntmps90
  go_wp2
  go_loopw [9] (fun vi wr => vi = .int .i64 0 ∧ wr = w) (fun _ _ => 0)
  case atStart => exact ⟨rfl, rfl⟩
  case round =>
    obtain ⟨rfl, rfl⟩ := hrel
    go_wp2
    go_ret
    exact ⟨rfl, rfl⟩
set_option maxHeartbeats 1000000 in
theorem isnode_nil (w : World) : Calls Tryz.prog 34 #[.agg #[.slice none 0 0, .slice none 0 0]] w fun e w' => e = .returned (.bool true) ∧ Fr No w w' := by
  have hb := heap1 w (.cells #[.slice none 0 0, .slice none 0 0] 32)
  have hf : Fr No w (w.alloc (.cells #[.slice none 0 0, .slice none 0 0] 32)) := (Fr.refl No w).alloc _
  go_enter Tryz.func34, Tryz.ntmps34
  go_wp2_with fail
  generalize w.alloc (.cells #[.slice none 0 0, .slice none 0 0] 32) = w2 at *
  obtain ⟨c0, c1⟩ := cells2 hb
  have HF := hid hf
  clear hf hb
  go_loopw [3, 9] (fun v3 vi wr => v3 = .slice none 0 0 ∧ vi = .int .i64 0 ∧ wr = w2) (fun _ _ _ => 0)
  case atStart => exact ⟨rfl, rfl, rfl⟩
  case round =>
    obtain ⟨rfl, rfl, rfl⟩ := hrel
    go_wp2_with (go_at_call 90; refine (arenames_nil _).mono ?_; rintro e w' ⟨rfl, rfl⟩)
    go_ret
    exact ⟨rfl, HF.out⟩
set_option maxHeartbeats 1000000 in
theorem finds2_nil (w : World) (f : Value) : Calls Tryz.prog 102 #[.agg #[.slice none 0 0, .slice none 0 0], f] w fun e w' => e = .returned (.tuple #[]) ∧ Fr No w w' := by
  have hb := heap1 w (.cells #[.slice none 0 0, .slice none 0 0] 32)
  have hf : Fr No w (w.alloc (.cells #[.slice none 0 0, .slice none 0 0] 32)) := (Fr.refl No w).alloc _
  go_enter Tryz.func102, Tryz.ntmps102
  go_wp2_with fail
  generalize w.alloc (.cells #[.slice none 0 0, .slice none 0 0] 32) = w2 at *
  obtain ⟨c0, c1⟩ := cells2 hb
  have HF := hid hf
  clear hf hb
  go_loopw [10] (fun vi wr => vi = .int .i64 0 ∧ wr = w2) (fun _ _ => 0)
  case atStart => exact ⟨rfl, rfl⟩
  case round =>
    obtain ⟨rfl, rfl⟩ := hrel
    obtain ⟨wo, rfl⟩ : ∃ wo : World, wo = wr := ⟨_, rfl⟩
    go_wp2_with fail
    go_loopw [22] (fun vi wr => vi = .int .i64 0 ∧ wr = wo) (fun _ _ => 0)
    case atStart => exact ⟨rfl, rfl⟩
    case round =>
      obtain ⟨rfl, rfl⟩ := hrel
      go_wp2_with fail
      go_end0
      exact ⟨rfl, HF.out⟩
theorem StAt.erow_ {u w' : World} {ρ : Nat → Option Pt} {s : Nat} {A : Ad} {M : PSt} (h : StAt u ρ s A M) {ge ce k : Nat} {cur : Array Value} (hev : A.ev = .slice (some ⟨ge, 0, none⟩) M.N.length ce) (hg : u.heap[ge]? = some (.cells cur 146 (0, 0)))
    (p : Put ge (cur.setIfInBounds k (.slice none 0 0)) 146 u w') : StAt w' ρ s A M ∧ Fr (At ρ .erow) u w' := by
  have hge : At ρ .erow ge := h.eblk ge (by rw [hev]; rfl)
  have hf : Fr (At ρ .erow) u w' := p.fr.mono (fun k _ e => by subst e; exact hge)
  have kp : ∀ {q : Pt}, q ≠ .erow → ∀ b, At ρ q b → ¬ At ρ .erow b := fun hq => at_apart hq
  have he := h.erow
  rw [hev] at he
  have he2 := owns_setN he hg p
  have e1 : (nils M.N.length).set k (.slice none 0 0) = nils M.N.length := by
    apply List.ext_getElem?
    intro i
    rw [List.getElem?_set]
    by_cases hi : k = i
    · subst hi
      by_cases hl : k < (nils M.N.length).length
      · rw [if_pos rfl, if_pos hl, List.getElem?_eq_getElem hl]
        simp [nils]
      · rw [if_pos rfl, if_neg hl, List.getElem?_eq_none (by omega)]
    · rw [if_neg hi]
  rw [e1, ← hev] at he2
  exact ⟨⟨h.root, fun b hb => Nat.lt_of_lt_of_le (h.bound b hb) hf.size, hf.keep h.heap (kp (q := .root) (by simp) s h.root), h.clock.frame hf (kp (by simp)), hf.owns h.nrow (fun k hk => kp (by simp) k (h.nblk k hk)), h.nblk, he2, h.eblk, fun i L hL => (h.cell i L hL).frame hf (kp (by simp)), h.out.frame hf (fun b hb => kp (by simp) b (h.oblk b hb)), h.oblk, h.inn.frame hf (fun b hb => kp (by simp) b (h.iblk b hb)), h.iblk, hf.keep h.index (kp (q := .index) (by simp) _ h.mblk), h.mblk, h.plain, h.small⟩, hf⟩
theorem ndP_some (A : Ad) (M : PSt) (k : Nat) (hk : k < M.N.length) : ndP A M ((k : Int) + 1) = some ⟨A.x k, 0, none⟩ := by
  unfold ndP
  rw [if_pos (by omega), show ((k : Int) + 1 - 1).toNat = k by omega]
theorem enter_finds2 : ∀ args w, (callFunc 102 args).run Tryz.prog w = .ok (.enter 102 args) w := enters_of Tryz.func102 (by kernel_rfl) rfl
set_option maxRecDepth 100000 in
set_option maxHeartbeats 4000000 in
theorem finds_any (w : World) (ρ : Nat → Option Pt) (s : Nat) (A : Ad) (M : PSt) (h : StAt w ρ s A M) (k : Nat) (hk : k < M.N.length) :
    Calls Tryz.prog 40 #[.pointer (some ⟨s, 0, none⟩), .int .i64 ((k : Int) + 1)] w fun e w' => e = .returned (.tuple #[]) ∧ StAt w' ρ s A M ∧ Fr (Go.Lig.Own ρ) w w' := by
  obtain ⟨k2, k3⟩ := heap2 w (.cells #[.pointer (some ⟨s, 0, none⟩)] 23) (.cells #[.int .i64 ((k : Int) + 1)] 3)
  have hf : Fr No w ((w.alloc (.cells #[.pointer (some ⟨s, 0, none⟩)] 23)).alloc (.cells #[.int .i64 ((k : Int) + 1)] 3)) := ((Fr.refl No w).alloc _).alloc _
  have hsl := h.lt
  go_enter Tryz.func40, Tryz.ntmps40
  go_wp2_with fail
  generalize (w.alloc (.cells #[.pointer (some ⟨s, 0, none⟩)] 23)).alloc (.cells #[.int .i64 ((k : Int) + 1)] 3) = w2 at *
  have h2 := h.frame hf
  obtain ⟨-, -, -, -, -, x7⟩ := h2.cells
  obtain ⟨ae, ce, hev⟩ := ownsRow_slice h2.erow
  have he := h2.erow
  rw [hev] at x7 he
  obtain ⟨ge, cur, rfl, -, hge, hnc, hcs, hct⟩ := owns_at he (by omega)
  have xk : w2.cell? ⟨ge, k, none⟩ = some (.slice none 0 0) := owns_cell he rfl (by simp [nils, hk])
  have c2 := cells1 k2
  have c3 := cells1 k3
  have n2 : IntKind.i64.wrap (k : Int) = (k : Int) := IntWalk.i64_in _ (by have := h.small; omega)
  have HH := hid (⟨h2, hf, hev, he, hge, k2, k3⟩ : _ ∧ _ ∧ _ ∧ _ ∧ _ ∧ _ ∧ _)
  have HC := hid hcs
  have hn : M.N.length = M.N.length := rfl
  generalize hNe : M.N.length = n at hk x7 hnc hn
  have HNe := hid hNe
  clear h h2 hf hev he hge k2 k3 hct hNe hn hcs
  refine wp_region_sched (by kernel_rfl) 10 [] [0, 1, 2, 3, 4, 5, 6, 7, 8, 9] (AgC [w.heap.size, w.heap.size + 1, s, ge] w2.drew) (by kernel_rfl) (AgC.refl _ _) ?_
  simp only [List.map_cons, List.map_nil, List.contains_cons, List.contains_nil, nth_zero, nth_succ, Nat.reduceBEq, Bool.false_or, Bool.or_false, Bool.or_true, Bool.true_or]
  repeat (refine sched_quiet (fun K hK => ?_); go_simp; refine hK _ ?_; clear hK K)
  refine sched_nil ?_
  go_wp2_with fail
  have HW := hid (HH.out.2.1.drew)
  generalize hw2d : w2.drew = w3 at *
  have HQ : Hid (Fr No w2 w3) := hid (by rw [← hw2d]; exact (Fr.refl No w2).drew)
  clear hw2d
  go_loopw [17] (fun vi wr => vi = .int .i64 0 ∧ wr = w3) (fun _ _ => 0)
  case atStart => exact ⟨rfl, rfl⟩
  case round =>
    obtain ⟨rfl, rfl⟩ := hrel
    have h3 := HH.out.1.frame HQ.out
    have hk' : k < M.N.length := by rw [HNe.out]; exact hk
    obtain ⟨L, hL⟩ : ∃ L, M.N[k]? = some L := ⟨_, List.getElem?_eq_getElem hk'⟩
    obtain ⟨gx, hrx, -⟩ := (h3.cell k L hL).row
    have hpl := h3.plain L (List.mem_of_getElem? hL)
    have k2' := HQ.out.keep HH.out.2.2.2.2.2.1 id
    have k3' := HQ.out.keep HH.out.2.2.2.2.2.2 id
    have c2' := cells1 k2'
    have c3' := cells1 k3'
    have HX := hid (⟨h3, ndP_some A M k hk', hrx, hpl, (h3.cell k L hL).small, k2', k3'⟩ : _ ∧ _ ∧ _ ∧ _ ∧ _ ∧ _ ∧ _)
    clear h3 hk' hL hrx hpl k2' k3' c2 c3 x7 xk
    go_wp2_with (first | (refine wpList_store1 rfl 151 (.tmp 7) (.tmp 29) rfl (wr.heap.size + 1) 0 rfl _ _ (.func (.func 99) #[] #[.pointer (some ⟨w.heap.size + 1, 0, none⟩), .pointer (some ⟨w.heap.size, 0, none⟩), .pointer (some ⟨wr.heap.size, 0, none⟩)]) rfl (by kernel_rfl) (heap2 wr _ _).2 (by simp) rfl ?_; intro w5 p5; have P5 := hid (⟨(((Fr.refl No wr).alloc _).alloc _).fresh p5.fr (fun k e => by omega), p5.keep (heap2 wr _ _).1 (by omega)⟩ : Fr No wr w5 ∧ w5.heap[wr.heap.size]? = some (.cells #[.slice none 0 0] 146 (0, 0))); clear p5; have d2 := cells1 (P5.out.1.keep HX.out.2.2.2.2.2.1 id); have d3 := cells1 (P5.out.1.keep HX.out.2.2.2.2.2.2 id)) | (go_at_call 48; refine (node_any _ ρ s A M (HX.out.1.frame P5.out.1) _).mono ?_; rintro e w4 ⟨rfl, rfl⟩; rw [HX.out.2.1]) | (go_at_call 101; refine (each_any w5 (A.x k) gx L HX.out.2.2.2.2.1 102 #[.pointer (some ⟨wr.heap.size + 1, 0, none⟩)] enter_finds2 (fun _ W => Fr No w5 W) (Fr.refl _ _) (fun _ _ _ h1 h2 => h1.thenNo h2) (fun _ W h1 => HX.out.2.2.1.frame (P5.out.1.thenNo h1)) (fun _ _ _ _ _ h1 => h1) (fun i y W hy _ h1 => by rw [HX.out.2.2.2.1 y (List.mem_of_getElem? hy)]; exact (finds2_nil W _).mono fun e W' ⟨e1, e2⟩ => ⟨e1, h1.thenNo e2⟩)).mono ?_; rintro e w6 ⟨rfl, f6⟩; have H6 := hid (P5.out.1.thenNo f6); have B6 := hid (f6.keep P5.out.2 id); clear f6))
    have h6 := HX.out.1.frame H6.out
    obtain ⟨-, -, -, -, -, y7⟩ := h6.cells
    rw [HH.out.2.2.1, HNe.out] at y7
    have hg6 := H6.out.keep (HQ.out.keep HH.out.2.2.2.2.1 id) id
    have c2'' := cells1 (H6.out.keep HX.out.2.2.2.2.2.1 id)
    have c3'' := cells1 (H6.out.keep HX.out.2.2.2.2.2.2 id)
    have c6 := cells1 B6.out
    have HE := hid (⟨h6, hg6⟩ : _ ∧ _)
    have HK : Hid (k < cur.size) := hid (by rw [HC.out]; omega)
    have hgt : (wr.heap.size : Nat) = wr.heap.size := rfl
    generalize wr.heap.size = b6 at *
    clear h6 hg6 hgt
    refine wp_region_sched (by kernel_rfl) 8 [8] [0, 1, 2, 3, 4, 5, 6, 7, 8] (AgC [w.heap.size, w.heap.size + 1, s, ge, b6] w6.drew) (by kernel_rfl) (AgC.refl _ _) ?_
    simp only [List.map_cons, List.map_nil, List.contains_cons, List.contains_nil, nth_zero, nth_succ, Nat.reduceBEq, Bool.false_or, Bool.or_false, Bool.or_true, Bool.true_or]
    repeat (refine sched_quiet (fun K hK => ?_); go_simp; refine hK _ ?_; clear hK K)
    refine sched_loud (wpList_store1 rfl 146 (.tmp 42) (.tmp 41) rfl ge k rfl cur 146 (.slice none 0 0) rfl (by kernel_rfl) HE.out.2 HK.out rfl ?_)
    intro w7 p7
    have P7 := hid p7
    clear p7
    refine sched_last ?_
    refine sched_nil ?_
    go_wp2_with fail
    go_end0
    obtain ⟨h7, f7⟩ := (HE.out.1.frame (Fr.refl No w6).drew).erow_ HH.out.2.2.1 HE.out.2 P7.out
    exact ⟨rfl, h7, (((HH.out.2.1.thenNo HQ.out).thenNo H6.out).drew.mono (fun _ _ e => e.elim)).thenS (f7.mono (fun b _ hb => at_own b hb))⟩
end Go.Proofs.YtofjbigojbnmfaaGreatDoor
