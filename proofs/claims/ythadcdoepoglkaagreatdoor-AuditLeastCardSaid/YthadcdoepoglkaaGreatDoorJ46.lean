/- A part of the proof: contracts of functions of the program, for the row's text. -/
import Derived.Test.YthadcdoepoglkaaGreatDoorJ45
namespace Go.Proofs.YthadcdoepoglkaaGreatDoor
open Go.RowKit Go.Lig
def vNode (v : VS) (t id : Int) : Option NodeD := if v.K.live t then v.rdN t id else none
def vEdge (v : VS) (t id : Int) : Option EdgeV := if v.K.live t then v.rdE t id else none
section
variable {w : World} {J : Nat → Prop} {ρ : Nat → Option Rp} {s : Nat} {A : RAd} {v : VS} {F : Nat}
theorem RfAt.rdN (h : RfAt w J ρ s A v F) (t : Int) {k : Nat} (hk : k < v.N.length) : ∃ o : Option Nat, o.isSome = (v.rdN t ((k : Int) + 1)).isSome ∧ (∀ u, Fr No w u → Calls Tryz.prog 91 #[.pointer (some ⟨A.x k, 0, none⟩), .pointer (some ⟨A.c, 0, none⟩), .int .i64 t] u fun e w' => e = .returned (.tuple #[.int .i64 (optI o), .bool o.isSome]) ∧ Fr No u w') ∧
  ∀ i, o = some i → ∃ hd, A.nh[i]? = some hd ∧ i < A.nh.length ∧ v.rdN t ((k : Int) + 1) = A.nd[i]? ∧ NodeIn w J (.slice hd.l.a hd.l.n hd.l.c) (.slice hd.p.a hd.p.n hd.p.c) ((v.rdN t ((k : Int) + 1)).getD NodeD.none) := by
 have hL : v.N[k]? = some v.N[k] := List.getElem?_eq_getElem hk
 obtain ⟨H, h1, h2, h3⟩ := h.ncell hL
 obtain ⟨g, hr, -⟩ := h1.row
 obtain ⟨gk, hck, -⟩ := h.clock.row
 have er : v.rdN t ((k : Int) + 1) = (readV v.K t H).map (fun j => A.nd[j]?.getD default) := by
  unfold VS.rdN VS.nc
  rw [cellOf_nat, hL]
  exact h2.read v.K t
 refine ⟨readV v.K t H, by rw [er]; cases readV v.K t H <;> rfl, fun u hu => rread_any u (A.x k) g A.c gk H v.K (hr.frame hu) (hck.frame hu) t, fun i hi => ?_⟩
 have hlt := h2.readLt v.K t hi
 obtain ⟨-, -, q3, -, q5⟩ := h.at_ .nds
 have hh : A.nh[i]? = some (A.nh[i]'(by omega)) := List.getElem?_eq_getElem _
 have hd : A.nd[i]? = some A.nd[i] := List.getElem?_eq_getElem hlt
 have e2 : v.rdN t ((k : Int) + 1) = some A.nd[i] := by rw [er, hi]; show some (A.nd[i]?.getD default) = _; rw [hd]; rfl
 exact ⟨_, hh, by omega, by rw [e2, hd], by rw [e2]; exact q5 i _ _ hh hd⟩
theorem RfAt.rdE (h : RfAt w J ρ s A v F) (t : Int) {k : Nat} (hk : k < v.E.length) : ∃ o : Option Nat, o.isSome = (v.rdE t ((k : Int) + 1)).isSome ∧ (∀ u, Fr No w u → Calls Tryz.prog 91 #[.pointer (some ⟨A.z k, 0, none⟩), .pointer (some ⟨A.c, 0, none⟩), .int .i64 t] u fun e w' => e = .returned (.tuple #[.int .i64 (optI o), .bool o.isSome]) ∧ Fr No u w') ∧
  ∀ i, o = some i → ∃ ev, A.ed[i]? = some ev ∧ v.rdE t ((k : Int) + 1) = some ev := by
 have hL : v.E[k]? = some v.E[k] := List.getElem?_eq_getElem hk
 obtain ⟨H, h1, h2, h3⟩ := h.ecell hL
 obtain ⟨g, hr, -⟩ := h1.row
 obtain ⟨gk, hck, -⟩ := h.clock.row
 have er : v.rdE t ((k : Int) + 1) = (readV v.K t H).map (fun j => A.ed[j]?.getD default) := by
  unfold VS.rdE VS.ec
  rw [cellOf_nat, hL]
  exact h2.read v.K t
 refine ⟨readV v.K t H, by rw [er]; cases readV v.K t H <;> rfl, fun u hu => rread_any u (A.z k) g A.c gk H v.K (hr.frame hu) (hck.frame hu) t, fun i hi => ?_⟩
 have hlt := h2.readLt v.K t hi
 have hd : A.ed[i]? = some A.ed[i] := List.getElem?_eq_getElem hlt
 exact ⟨A.ed[i], hd, by rw [er, hi]; show some (A.ed[i]?.getD default) = _; rw [hd]; rfl⟩
theorem RfAt.nhAt (h : RfAt w J ρ s A v F) {i : Nat} {hd : NodeV} (hi : A.nh[i]? = some hd) : ∃ g n, A.dv = .slice (some ⟨g, 0, none⟩) A.nh.length n ∧ ∀ u, Fr No w u → u.cell? ⟨g, i * 2, none⟩ = some (.slice hd.l.a hd.l.n hd.l.c) ∧ u.cell? ⟨g, i * 2 + 1, none⟩ = some (.slice hd.p.a hd.p.n hd.p.c) := by
 have hr := (h.at_ .nds).1
 have hl := (List.getElem?_eq_some_iff.1 hi).1
 obtain ⟨a, n, hv⟩ := ownsRow_slice hr
 rw [hv] at hr
 obtain ⟨g, cur, rfl, -, -⟩ := owns_at hr (by omega)
 refine ⟨g, n, hv, fun u hu => ?_⟩
 have hru := fd_owns hr hu
 have g0 : ∀ t, t < 2 → (A.nh.flatMap nhcell)[i * 2 + t]? = (nhcell hd)[t]? := fun t ht => flat_get (f := nhcell) (m := 2) (fun _ => rfl) _ _ _ hi t ht
 exact ⟨owns_cell hru rfl (by rw [← Nat.add_zero (i * 2), g0 0 (by decide)]; rfl), owns_cell hru rfl (by rw [g0 1 (by decide)]; rfl)⟩
theorem RfAt.edAt (h : RfAt w J ρ s A v F) {i : Nat} {ev : EdgeV} (hi : A.ed[i]? = some ev) : ∃ g n, A.fv = .slice (some ⟨g, 0, none⟩) A.ed.length n ∧ ∀ u, Fr No w u → u.cell? ⟨g, i * 4, none⟩ = some (.int .i64 ev.from_) ∧ u.cell? ⟨g, i * 4 + 1, none⟩ = some (.int .i64 ev.to_) ∧ u.cell? ⟨g, i * 4 + 2, none⟩ = some (.string ev.type) ∧ u.cell? ⟨g, i * 4 + 3, none⟩ = some (.float .f64 ev.w) := by
 have hr := (h.at_ .eds).1
 have hl := (List.getElem?_eq_some_iff.1 hi).1
 obtain ⟨a, n, hv⟩ := ownsRow_slice hr
 rw [hv] at hr
 obtain ⟨g, cur, rfl, -, -⟩ := owns_at hr (by omega)
 refine ⟨g, n, hv, fun u hu => ?_⟩
 have hru := fd_owns hr hu
 have g0 : ∀ t, t < 4 → (A.ed.flatMap edcell)[i * 4 + t]? = (edcell ev)[t]? := fun t ht => flat_get (f := edcell) (m := 4) (fun _ => rfl) _ _ _ hi t ht
 exact ⟨owns_cell hru rfl (by rw [← Nat.add_zero (i * 4), g0 0 (by decide)]; rfl), owns_cell hru rfl (by rw [g0 1 (by decide)]; rfl), owns_cell hru rfl (by rw [g0 2 (by decide)]; rfl), owns_cell hru rfl (by rw [g0 3 (by decide)]; rfl)⟩
theorem RfAt.xAt (h : RfAt w J ρ s A v F) {k : Nat} (hk : k < v.N.length) : ∃ g n, A.nv = .slice (some ⟨g, 0, none⟩) v.N.length n ∧ ∀ u, Fr No w u → u.cell? ⟨g, k, none⟩ = some (.pointer (some ⟨A.x k, 0, none⟩)) := by
 have hr := (h.at_ .nrow).1
 obtain ⟨a, n, hv⟩ := ownsRow_slice hr
 rw [hv] at hr
 obtain ⟨g, cur, rfl, -, -⟩ := owns_at hr (by omega)
 exact ⟨g, n, hv, fun u hu => owns_cell (fd_owns hr hu) rfl (ptrs_get A.x v.N.length k hk)⟩
theorem RfAt.zAt (h : RfAt w J ρ s A v F) {k : Nat} (hk : k < v.E.length) : ∃ g n, A.ev = .slice (some ⟨g, 0, none⟩) v.E.length n ∧ ∀ u, Fr No w u → u.cell? ⟨g, k, none⟩ = some (.pointer (some ⟨A.z k, 0, none⟩)) := by
 have hr := (h.at_ .erow).1
 obtain ⟨a, n, hv⟩ := ownsRow_slice hr
 rw [hv] at hr
 obtain ⟨g, cur, rfl, -, -⟩ := owns_at hr (by omega)
 exact ⟨g, n, hv, fun u hu => owns_cell (fd_owns hr hu) rfl (ptrs_get A.z v.E.length k hk)⟩
end
theorem vNode_none {v : VS} {t id : Int} (h : v.K.live t = false ∨ id < 1 ∨ (v.N.length : Int) < id) : vNode v t id = none := by
 unfold vNode
 split
 ·rename_i hl
  rcases h with h | h
  ·rw [hl] at h; cases h
  ·unfold VS.rdN VS.nc
   rw [cellOf_none (by omega)]
   rfl
 ·rfl
theorem vEdge_none {v : VS} {t id : Int} (h : v.K.live t = false ∨ id < 1 ∨ (v.E.length : Int) < id) : vEdge v t id = none := by
 unfold vEdge
 split
 ·rename_i hl
  rcases h with h | h
  ·rw [hl] at h; cases h
  ·unfold VS.rdE VS.ec
   rw [cellOf_none (by omega)]
   rfl
 ·rfl
set_option maxRecDepth 100000 in
set_option maxHeartbeats 2000000 in
theorem rsnode_any (w : World) (J : Nat → Prop) (ρ : Nat → Option Rp) (s : Nat) (A : RAd) (v : VS) (F : Nat) (h : RfAt w J ρ s A v F) (ho : Old w J) (t id : Int) :
  Calls Tryz.prog 74 #[.pointer (some ⟨s, 0, none⟩), .int .i64 t, .int .i64 id] w fun e w' => ∃ (la : Option Addr) (ln lc : Nat) (pa : Option Addr) (pn pc : Nat), e = .returned (.tuple #[.agg #[.slice la ln lc, .slice pa pn pc], .bool (vNode v t id).isSome]) ∧ NodeIn w' J (.slice la ln lc) (.slice pa pn pc) ((vNode v t id).getD NodeD.none) ∧ Fr No w w' := by
 have HOld := hid ho
 clear ho
 have hb := heap1 w (.cells #[.slice none 0 0, .slice none 0 0] 34)
 have hfr : Fr No w (w.alloc (.cells #[.slice none 0 0, .slice none 0 0] 34)) := (Fr.refl No w).alloc _
 have hwl : w.heap.size < (w.alloc (.cells #[.slice none 0 0, .slice none 0 0] 34)).heap.size := by simp
 obtain ⟨w0, hw0⟩ : ∃ w0, w.alloc (.cells #[.slice none 0 0, .slice none 0 0] 34) = w0 := ⟨_, rfl⟩
 rw [hw0] at hb hfr hwl
 have h0 := h.no hfr
 obtain ⟨gk, hck, -⟩ := h0.clock.row
 have HL := hid (fun u (hu : Fr No w0 u) => rlive_any u A.c gk v.K (hck.frame hu) t)
 obtain ⟨x0, x1, x2, x3, -⟩ := h0.cells
 obtain ⟨an, cn, hnv⟩ := ownsRow_slice (h0.at_ .nrow).1
 have hn1 := h0.nlen
 rw [hnv] at x1
 have HF := hid (⟨hfr, hb, hwl, h0, hnv⟩ : _ ∧ _ ∧ _ ∧ _ ∧ _)
 have HZ : Hid (∀ w7, Put w.heap.size #[.slice none 0 0, .slice none 0 0] 34 w0 w7 → vNode v t id = none → NodeIn w7 J (.slice none 0 0) (.slice none 0 0) ((vNode v t id).getD NodeD.none) ∧ Fr No w w7) := hid (fun w7 p e => by
  rw [e]
  exact ⟨NodeIn.none _ _, hfr.trans p.fr (fun k hk e2 => by omega)⟩)
 clear h hb hfr h0 hck hnv hwl
 cases hl : v.K.live t with
 | false =>
  rw [hl] at HL
  have HV := hid (vNode_none (v := v) (t := t) (id := id) (.inl hl))
  clear hl x1 x2 x3
  go_enter Tryz.func74, Tryz.ntmps74
  go_wp2_with (first | (go_at_call 72; refine (HL.out _ (Fr.refl _ _)).mono ?_; rintro e w1 ⟨rfl, rfl⟩) | (refine wpList_storeO rfl 34 (.tmp 6) (.tmp 30) rfl w.heap.size 0 rfl [.slice none 0 0, .slice none 0 0] 34 [.slice none 0 0, .slice none 0 0] rfl (by kernel_rfl) HF.out.2.1 (by simp) (by simp [Value.oneCell']) ?_; intro w7 p7; have P7 := hid (show Put w.heap.size #[.slice none 0 0, .slice none 0 0] 34 w0 w7 from p7); clear p7))
  obtain ⟨r0, r1⟩ := cells2 P7.out.at_
  refine bodyPost_ret (v := .tuple #[.agg #[.slice none 0 0, .slice none 0 0], .bool false]) ?_ rfl ?_
  ·simp [results, Tryz.f74, go_sem, r0, r1]
  exact ⟨none, 0, 0, none, 0, 0, by rw [HV.out]; rfl, HZ.out w7 P7.out HV.out⟩
 | true =>
  rw [hl] at HL
  by_cases h1 : id < 1
  ·have HV := hid (vNode_none (v := v) (t := t) (id := id) (.inr (.inl h1)))
   clear hl x1 x2 x3
   go_enter Tryz.func74, Tryz.ntmps74
   go_wp2_with (first | (go_at_call 72; refine (HL.out _ (Fr.refl _ _)).mono ?_; rintro e w1 ⟨rfl, rfl⟩) | (refine wpList_storeO rfl 34 (.tmp 6) (.tmp 30) rfl w.heap.size 0 rfl [.slice none 0 0, .slice none 0 0] 34 [.slice none 0 0, .slice none 0 0] rfl (by kernel_rfl) HF.out.2.1 (by simp) (by simp [Value.oneCell']) ?_; intro w7 p7; have P7 := hid (show Put w.heap.size #[.slice none 0 0, .slice none 0 0] 34 w0 w7 from p7); clear p7))
   obtain ⟨r0, r1⟩ := cells2 P7.out.at_
   refine bodyPost_ret (v := .tuple #[.agg #[.slice none 0 0, .slice none 0 0], .bool false]) ?_ rfl ?_
   ·simp [results, Tryz.f74, go_sem, r0, r1]
   exact ⟨none, 0, 0, none, 0, 0, by rw [HV.out]; rfl, HZ.out w7 P7.out HV.out⟩
  ·by_cases h2 : (v.N.length : Int) < id
   ·have HV := hid (vNode_none (v := v) (t := t) (id := id) (.inr (.inr h2)))
    clear hl x2 x3
    go_enter Tryz.func74, Tryz.ntmps74
    go_wp2_with (first | (go_at_call 72; refine (HL.out _ (Fr.refl _ _)).mono ?_; rintro e w1 ⟨rfl, rfl⟩) | (refine wpList_storeO rfl 34 (.tmp 6) (.tmp 30) rfl w.heap.size 0 rfl [.slice none 0 0, .slice none 0 0] 34 [.slice none 0 0, .slice none 0 0] rfl (by kernel_rfl) HF.out.2.1 (by simp) (by simp [Value.oneCell']) ?_; intro w7 p7; have P7 := hid (show Put w.heap.size #[.slice none 0 0, .slice none 0 0] 34 w0 w7 from p7); clear p7))
    obtain ⟨r0, r1⟩ := cells2 P7.out.at_
    refine bodyPost_ret (v := .tuple #[.agg #[.slice none 0 0, .slice none 0 0], .bool false]) ?_ rfl ?_
    ·simp [results, Tryz.f74, go_sem, r0, r1]
    exact ⟨none, 0, 0, none, 0, 0, by rw [HV.out]; rfl, HZ.out w7 P7.out HV.out⟩
   ·obtain ⟨k, rfl⟩ : ∃ k : Nat, id = (k : Int) + 1 := ⟨(id - 1).toNat, by omega⟩
    have hk : k < v.N.length := by omega
    have hvn : vNode v t ((k : Int) + 1) = v.rdN t ((k : Int) + 1) := by unfold vNode; rw [if_pos hl]
    obtain ⟨o, ho, hrd, hio⟩ := HF.out.2.2.2.1.rdN t hk
    obtain ⟨g, n, hnv2, hx⟩ := HF.out.2.2.2.1.xAt hk
    rw [HF.out.2.2.2.2] at hnv2
    obtain ⟨rfl, -, rfl⟩ := Value.slice.inj hnv2
    have px := hx w0 (Fr.refl _ _)
    have hwk : IntKind.i64.wrap (k : Int) = (k : Int) := IntWalk.i64_in _ (by omega)
    have HRD := hid hrd
    have HIO := hid hio
    have HO := hid ho
    have HVN := hid hvn
    have HGB := hid (⟨World.block_lt_of_cell? _ _ px, World.block_lt_of_cell? _ _ x0⟩ : _ ∧ _)
    have h3 : ¬ (k : Int) + 1 < 1 := by omega
    clear h1 h2 hl hnv2 hx hrd hio ho hvn
    generalize hNe : v.N.length = m at *
    clear hNe
    go_enter Tryz.func74, Tryz.ntmps74
    go_wp2_with (go_at_call 72; refine (HL.out _ (Fr.refl _ _)).mono ?_; rintro e w1 ⟨rfl, rfl⟩)
    have HY3 := hid x3
    clear x3
    refine wp_region_sched (by kernel_rfl) 19 [13] [0, 1, 2, 3, 4, 5, 6, 7, 8, 9, 10, 11, 12, 13, 14, 15, 16, 17, 18] (AgC [s, g] w0.drew) (by kernel_rfl) (AgC.refl _ _) ?_
    simp only [List.map_cons, List.map_nil, List.contains_cons, List.contains_nil, nth_zero, nth_succ, Nat.reduceBEq, Bool.false_or, Bool.or_false, Bool.or_true, Bool.true_or]
    repeat (refine sched_quiet (fun K hK => ?_); go_simp; refine hK _ ?_; clear hK K)
    refine sched_call ?_ 91 #[.pointer (some ⟨A.x k, 0, none⟩), .pointer (some ⟨A.c, 0, none⟩), .int .i64 t] ?_ (HRD.out _ (Fr.refl No w0).drew) ?_
    focus (first | rfl | (go_simp; done))
    focus (first | rfl | (go_simp; done))
    rintro e w1 ⟨rfl, f1⟩
    have a1 : AgC [s, g] w0.drew w1 := (AgC.refl _ _).fr f1 (fun j hj => by
     simp only [List.mem_cons, List.not_mem_nil, or_false] at hj
     rcases hj with rfl | rfl
     ·exact ⟨HGB.out.2, fun e => e⟩
     ·exact ⟨HGB.out.1, fun e => e⟩)
    have F1 := hid ((Fr.refl No w0).drew.thenNo f1)
    clear f1
    refine ⟨_, rfl, a1, ?_⟩
    clear a1
    repeat (refine sched_quiet (fun K hK => ?_); go_simp; refine hK _ ?_; clear hK K)
    refine sched_nil ?_
    have HB1 := hid (F1.out.keep HF.out.2.1 (fun e => e))
    cases o with
    | none =>
     have hvn0 : vNode v t ((k : Int) + 1) = none := by
      have := HO.out
      rw [HVN.out]
      cases hq : v.rdN t ((k : Int) + 1) with
      | none => rfl
      | some d => rw [hq] at this; cases this
     have HV := hid hvn0
     clear hvn0 x0 x1 px
     go_wp2_with (refine wpList_storeO rfl 34 (.tmp 6) (.tmp 50) rfl w.heap.size 0 rfl [.slice none 0 0, .slice none 0 0] 34 [.slice none 0 0, .slice none 0 0] rfl (by kernel_rfl) HB1.out (by simp) (by simp [Value.oneCell']) ?_; intro w7 p7; have P7 := hid (show Put w.heap.size #[.slice none 0 0, .slice none 0 0] 34 w1 w7 from p7); clear p7)
     obtain ⟨r0, r1⟩ := cells2 P7.out.at_
     refine bodyPost_ret (v := .tuple #[.agg #[.slice none 0 0, .slice none 0 0], .bool false]) ?_ rfl ?_
     ·simp [results, Tryz.f74, go_sem, r0, r1]
     exact ⟨none, 0, 0, none, 0, 0, by rw [HV.out]; rfl, by rw [HV.out]; exact NodeIn.none _ _, (HF.out.1.thenNo F1.out).trans P7.out.fr (fun j hj e2 => by omega)⟩
    | some i =>
     obtain ⟨hd, i1, i2, i3, i4⟩ := HIO.out i rfl
     obtain ⟨g3, n3, hdv, hcells⟩ := HF.out.2.2.2.1.nhAt i1
     obtain ⟨c0, c1⟩ := hcells w1 F1.out
     obtain ⟨-, -, -, y3, -⟩ := (HF.out.2.2.2.1.no F1.out).cells
     rw [hdv] at y3
     have HI := hid (⟨i3, i4⟩ : _ ∧ _)
     clear i1 i3 i4 hdv hcells x0 x1 px HY3
     obtain ⟨⟨la, ln, lc⟩, ⟨pa, pn, pc⟩⟩ := hd
     dsimp only at c0 c1 HI
     generalize A.nh.length = z at *
     simp only [show optI (some i) = (i : Int) from rfl, Option.isSome_some]
     go_wp2_with (refine wpList_storeO rfl 34 (.tmp 6) (.tmp 57) rfl w.heap.size 0 rfl [.slice none 0 0, .slice none 0 0] 34 [.slice la ln lc, .slice pa pn pc] rfl (by kernel_rfl) HB1.out (by simp) (by simp [Value.oneCell']) ?_; intro w7 p7; have P7 := hid (show Put w.heap.size #[.slice la ln lc, .slice pa pn pc] 34 w1 w7 from p7); clear p7)
     obtain ⟨r0, r1⟩ := cells2 P7.out.at_
     refine bodyPost_ret (v := .tuple #[.agg #[.slice la ln lc, .slice pa pn pc], .bool true]) ?_ rfl ?_
     ·simp [results, Tryz.f74, go_sem, r0, r1]
     have fz := (HF.out.1.thenNo F1.out).trans P7.out.fr (fun j hj e2 => by omega)
     exact ⟨la, ln, lc, pa, pn, pc, by rw [HVN.out, ← HO.out]; rfl, by rw [HVN.out]; exact (HI.out.2.frame F1.out (fun _ _ e => e)).frame P7.out.fr (fun b hb e2 => by have := HOld.out b hb; omega), fz⟩
end Go.Proofs.YthadcdoepoglkaaGreatDoor
namespace Go.Proofs.YthadcdoepoglkaaGreatDoor
open Go.RowKit Go.Lig
set_option maxRecDepth 100000 in
set_option maxHeartbeats 2000000 in
theorem rsedge_any (w : World) (J : Nat → Prop) (ρ : Nat → Option Rp) (s : Nat) (A : RAd) (v : VS) (F : Nat) (h : RfAt w J ρ s A v F) (t id : Int) :
  Calls Tryz.prog 38 #[.pointer (some ⟨s, 0, none⟩), .int .i64 t, .int .i64 id] w fun e w' => e = .returned (.tuple #[.agg (edgeCs ((vEdge v t id).getD EdgeV.none)), .bool (vEdge v t id).isSome]) ∧ Fr No w w' := by
 have hb := heap1 w (.cells #[.int .i64 0, .int .i64 0, .string ⟨#[]⟩, .float .f64 0] 48)
 have hfr : Fr No w (w.alloc (.cells #[.int .i64 0, .int .i64 0, .string ⟨#[]⟩, .float .f64 0] 48)) := (Fr.refl No w).alloc _
 have hwl : w.heap.size < (w.alloc (.cells #[.int .i64 0, .int .i64 0, .string ⟨#[]⟩, .float .f64 0] 48)).heap.size := by simp
 obtain ⟨w0, hw0⟩ : ∃ w0, w.alloc (.cells #[.int .i64 0, .int .i64 0, .string ⟨#[]⟩, .float .f64 0] 48) = w0 := ⟨_, rfl⟩
 rw [hw0] at hb hfr hwl
 have h0 := h.no hfr
 obtain ⟨gk, hck, -⟩ := h0.clock.row
 have HL := hid (fun u (hu : Fr No w0 u) => rlive_any u A.c gk v.K (hck.frame hu) t)
 obtain ⟨x0, -, x1, -, x3⟩ := h0.cells
 obtain ⟨an, cn, hnv⟩ := ownsRow_slice (h0.at_ .erow).1
 have hn1 := h0.elen
 rw [hnv] at x1
 have HF := hid (⟨hfr, hb, hwl, h0, hnv⟩ : _ ∧ _ ∧ _ ∧ _ ∧ _)
 have HZ : Hid (∀ w7, Put w.heap.size #[.int .i64 0, .int .i64 0, .string ⟨#[]⟩, .float .f64 0] 48 w0 w7 → Fr No w w7) := hid (fun w7 p => hfr.trans p.fr (fun k hk e2 => by omega))
 clear h hb hfr h0 hck hnv hwl
 cases hl : v.K.live t with
 | false =>
  rw [hl] at HL
  have HV := hid (vEdge_none (v := v) (t := t) (id := id) (.inl hl))
  clear hl x1 x3
  go_enter Tryz.func38, Tryz.ntmps38
  go_wp2_with (first | (go_at_call 72; refine (HL.out _ (Fr.refl _ _)).mono ?_; rintro e w1 ⟨rfl, rfl⟩) | (refine wpList_storeO rfl 48 (.tmp 6) (.tmp 30) rfl w.heap.size 0 rfl [.int .i64 0, .int .i64 0, .string ⟨#[]⟩, .float .f64 0] 48 [.int .i64 0, .int .i64 0, .string ⟨#[]⟩, .float .f64 0] rfl (by kernel_rfl) HF.out.2.1 (by simp) (by simp [Value.oneCell']) ?_; intro w7 p7; have P7 := hid (show Put w.heap.size #[.int .i64 0, .int .i64 0, .string ⟨#[]⟩, .float .f64 0] 48 w0 w7 from p7); clear p7))
  obtain ⟨r0, r1, r2, r3⟩ := cells4 P7.out.at_
  refine bodyPost_ret (v := .tuple #[.agg #[.int .i64 0, .int .i64 0, .string ⟨#[]⟩, .float .f64 0], .bool false]) ?_ rfl ?_
  ·simp [results, Tryz.f38, go_sem, r0, r1, r2, r3]
  exact ⟨by rw [HV.out]; rfl, HZ.out w7 P7.out⟩
 | true =>
  rw [hl] at HL
  by_cases h1 : id < 1
  ·have HV := hid (vEdge_none (v := v) (t := t) (id := id) (.inr (.inl h1)))
   clear hl x1 x3
   go_enter Tryz.func38, Tryz.ntmps38
   go_wp2_with (first | (go_at_call 72; refine (HL.out _ (Fr.refl _ _)).mono ?_; rintro e w1 ⟨rfl, rfl⟩) | (refine wpList_storeO rfl 48 (.tmp 6) (.tmp 30) rfl w.heap.size 0 rfl [.int .i64 0, .int .i64 0, .string ⟨#[]⟩, .float .f64 0] 48 [.int .i64 0, .int .i64 0, .string ⟨#[]⟩, .float .f64 0] rfl (by kernel_rfl) HF.out.2.1 (by simp) (by simp [Value.oneCell']) ?_; intro w7 p7; have P7 := hid (show Put w.heap.size #[.int .i64 0, .int .i64 0, .string ⟨#[]⟩, .float .f64 0] 48 w0 w7 from p7); clear p7))
   obtain ⟨r0, r1, r2, r3⟩ := cells4 P7.out.at_
   refine bodyPost_ret (v := .tuple #[.agg #[.int .i64 0, .int .i64 0, .string ⟨#[]⟩, .float .f64 0], .bool false]) ?_ rfl ?_
   ·simp [results, Tryz.f38, go_sem, r0, r1, r2, r3]
   exact ⟨by rw [HV.out]; rfl, HZ.out w7 P7.out⟩
  ·by_cases h2 : (v.E.length : Int) < id
   ·have HV := hid (vEdge_none (v := v) (t := t) (id := id) (.inr (.inr h2)))
    clear hl x3
    go_enter Tryz.func38, Tryz.ntmps38
    go_wp2_with (first | (go_at_call 72; refine (HL.out _ (Fr.refl _ _)).mono ?_; rintro e w1 ⟨rfl, rfl⟩) | (refine wpList_storeO rfl 48 (.tmp 6) (.tmp 30) rfl w.heap.size 0 rfl [.int .i64 0, .int .i64 0, .string ⟨#[]⟩, .float .f64 0] 48 [.int .i64 0, .int .i64 0, .string ⟨#[]⟩, .float .f64 0] rfl (by kernel_rfl) HF.out.2.1 (by simp) (by simp [Value.oneCell']) ?_; intro w7 p7; have P7 := hid (show Put w.heap.size #[.int .i64 0, .int .i64 0, .string ⟨#[]⟩, .float .f64 0] 48 w0 w7 from p7); clear p7))
    obtain ⟨r0, r1, r2, r3⟩ := cells4 P7.out.at_
    refine bodyPost_ret (v := .tuple #[.agg #[.int .i64 0, .int .i64 0, .string ⟨#[]⟩, .float .f64 0], .bool false]) ?_ rfl ?_
    ·simp [results, Tryz.f38, go_sem, r0, r1, r2, r3]
    exact ⟨by rw [HV.out]; rfl, HZ.out w7 P7.out⟩
   ·obtain ⟨k, rfl⟩ : ∃ k : Nat, id = (k : Int) + 1 := ⟨(id - 1).toNat, by omega⟩
    have hk : k < v.E.length := by omega
    have hvn : vEdge v t ((k : Int) + 1) = v.rdE t ((k : Int) + 1) := by unfold vEdge; rw [if_pos hl]
    obtain ⟨o, ho, hrd, hio⟩ := HF.out.2.2.2.1.rdE t hk
    obtain ⟨g, n, hnv2, hx⟩ := HF.out.2.2.2.1.zAt hk
    rw [HF.out.2.2.2.2] at hnv2
    obtain ⟨rfl, -, rfl⟩ := Value.slice.inj hnv2
    have px := hx w0 (Fr.refl _ _)
    have hwk : IntKind.i64.wrap (k : Int) = (k : Int) := IntWalk.i64_in _ (by omega)
    have HRD := hid hrd
    have HIO := hid hio
    have HO := hid ho
    have HVN := hid hvn
    have HGB := hid (⟨World.block_lt_of_cell? _ _ px, World.block_lt_of_cell? _ _ x0⟩ : _ ∧ _)
    have h3 : ¬ (k : Int) + 1 < 1 := by omega
    clear h1 h2 hl hnv2 hx hrd hio ho hvn x3
    generalize hNe : v.E.length = m at *
    clear hNe
    go_enter Tryz.func38, Tryz.ntmps38
    go_wp2_with (go_at_call 72; refine (HL.out _ (Fr.refl _ _)).mono ?_; rintro e w1 ⟨rfl, rfl⟩)
    refine wp_region_sched (by kernel_rfl) 19 [13] [0, 1, 2, 3, 4, 5, 6, 7, 8, 9, 10, 11, 12, 13, 14, 15, 16, 17, 18] (AgC [s, g] w0.drew) (by kernel_rfl) (AgC.refl _ _) ?_
    simp only [List.map_cons, List.map_nil, List.contains_cons, List.contains_nil, nth_zero, nth_succ, Nat.reduceBEq, Bool.false_or, Bool.or_false, Bool.or_true, Bool.true_or]
    repeat (refine sched_quiet (fun K hK => ?_); go_simp; refine hK _ ?_; clear hK K)
    refine sched_call ?_ 91 #[.pointer (some ⟨A.z k, 0, none⟩), .pointer (some ⟨A.c, 0, none⟩), .int .i64 t] ?_ (HRD.out _ (Fr.refl No w0).drew) ?_
    focus (first | rfl | (go_simp; done))
    focus (first | rfl | (go_simp; done))
    rintro e w1 ⟨rfl, f1⟩
    have a1 : AgC [s, g] w0.drew w1 := (AgC.refl _ _).fr f1 (fun j hj => by
     simp only [List.mem_cons, List.not_mem_nil, or_false] at hj
     rcases hj with rfl | rfl
     ·exact ⟨HGB.out.2, fun e => e⟩
     ·exact ⟨HGB.out.1, fun e => e⟩)
    have F1 := hid ((Fr.refl No w0).drew.thenNo f1)
    clear f1
    refine ⟨_, rfl, a1, ?_⟩
    clear a1
    repeat (refine sched_quiet (fun K hK => ?_); go_simp; refine hK _ ?_; clear hK K)
    refine sched_nil ?_
    have HB1 := hid (F1.out.keep HF.out.2.1 (fun e => e))
    cases o with
    | none =>
     have hvn0 : vEdge v t ((k : Int) + 1) = none := by
      have := HO.out
      rw [HVN.out]
      cases hq : v.rdE t ((k : Int) + 1) with
      | none => rfl
      | some d => rw [hq] at this; cases this
     have HV := hid hvn0
     clear hvn0 x0 x1 px
     go_wp2_with (refine wpList_storeO rfl 48 (.tmp 6) (.tmp 50) rfl w.heap.size 0 rfl [.int .i64 0, .int .i64 0, .string ⟨#[]⟩, .float .f64 0] 48 [.int .i64 0, .int .i64 0, .string ⟨#[]⟩, .float .f64 0] rfl (by kernel_rfl) HB1.out (by simp) (by simp [Value.oneCell']) ?_; intro w7 p7; have P7 := hid (show Put w.heap.size #[.int .i64 0, .int .i64 0, .string ⟨#[]⟩, .float .f64 0] 48 w1 w7 from p7); clear p7)
     obtain ⟨r0, r1, r2, r3⟩ := cells4 P7.out.at_
     refine bodyPost_ret (v := .tuple #[.agg #[.int .i64 0, .int .i64 0, .string ⟨#[]⟩, .float .f64 0], .bool false]) ?_ rfl ?_
     ·simp [results, Tryz.f38, go_sem, r0, r1, r2, r3]
     exact ⟨by rw [HV.out]; rfl, (HF.out.1.thenNo F1.out).trans P7.out.fr (fun j hj e2 => by omega)⟩
    | some i =>
     obtain ⟨ev, i1, i3⟩ := HIO.out i rfl
     obtain ⟨g3, n3, hdv, hcells⟩ := HF.out.2.2.2.1.edAt i1
     obtain ⟨c0, c1, c2, c3⟩ := hcells w1 F1.out
     have i2 := (List.getElem?_eq_some_iff.1 i1).1
     obtain ⟨-, -, -, -, y3⟩ := (HF.out.2.2.2.1.no F1.out).cells
     rw [hdv] at y3
     have HI := hid i3
     clear i1 i3 hdv hcells x0 x1 px
     obtain ⟨ef, et, ey, ew⟩ := ev
     dsimp only at c0 c1 c2 c3 HI
     generalize A.ed.length = z at *
     simp only [show optI (some i) = (i : Int) from rfl, Option.isSome_some]
     go_wp2_with (refine wpList_storeO rfl 48 (.tmp 6) (.tmp 57) rfl w.heap.size 0 rfl [.int .i64 0, .int .i64 0, .string ⟨#[]⟩, .float .f64 0] 48 [.int .i64 ef, .int .i64 et, .string ey, .float .f64 ew] rfl (by kernel_rfl) HB1.out (by simp) (by simp [Value.oneCell']) ?_; intro w7 p7; have P7 := hid (show Put w.heap.size #[.int .i64 ef, .int .i64 et, .string ey, .float .f64 ew] 48 w1 w7 from p7); clear p7)
     obtain ⟨r0, r1, r2, r3⟩ := cells4 P7.out.at_
     refine bodyPost_ret (v := .tuple #[.agg #[.int .i64 ef, .int .i64 et, .string ey, .float .f64 ew], .bool true]) ?_ rfl ?_
     ·simp [results, Tryz.f38, go_sem, r0, r1, r2, r3]
     exact ⟨by rw [HVN.out, HI.out]; rfl, (HF.out.1.thenNo F1.out).trans P7.out.fr (fun j hj e2 => by omega)⟩
end Go.Proofs.YthadcdoepoglkaaGreatDoor
