/- A part of the proof: contracts of functions of the program, for the row's text. -/
import Derived.Test.YthadcdoepoglkaaGreatDoorJ46
import Derived.Test.YthadcdoepoglkaaGreatDoorJ22
import Derived.Test.YthadcdoepoglkaaGreatDoorJ29
namespace Go.Proofs.YthadcdoepoglkaaGreatDoor
open Go.RowKit Go.Lig
section
variable {α : Type} [Inhabited α] {nd : List α} {H : List (Ver Nat)} {L : List (Ver α)}
theorem RVers.write2 (h : RVers nd H L) (K : Ck) (t : Int) {j : Nat} {d : α} (hj : nd[j]? = some d) (g : Bool) : RVers nd (writeV K t j g H) (writeV K t d g L) := by
 have hn : res nd ⟨t, j, g⟩ = ⟨t, d, g⟩ := by
  unfold res
  rw [hj]
  rfl
 have hlt : ∀ y ∈ writeV K t j g H, y.v < nd.length := fun y hy => by
  have hm : y ∈ H ∨ y = ⟨t, j, g⟩ := by
   unfold writeV at hy
   split at hy
   ·exact .inl hy
   ·split at hy
    ·split at hy
     ·rcases List.mem_append.1 hy with e | e
      ·exact .inl (List.mem_of_mem_take (by rw [List.dropLast_eq_take] at e; exact e))
      ·exact .inr (List.mem_singleton.1 e)
     ·rcases List.mem_append.1 hy with e | e
      ·exact .inl e
      ·exact .inr (List.mem_singleton.1 e)
    ·rcases List.mem_append.1 hy with e | e
     ·exact .inl e
     ·exact .inr (List.mem_singleton.1 e)
  rcases hm with e | rfl
  ·exact h.lt y e
  ·exact (List.getElem?_eq_some_iff.1 hj).1
 refine ⟨?_, hlt⟩
 unfold writeV
 rw [← h.clash K t]
 split
 ·exact h.eq
 ·have hl : L.getLast? = (H.getLast?).map (res nd) := by rw [h.eq, List.getLast?_map]
  rw [hl]
  cases he : H.getLast? with
  | none =>
   dsimp only [Option.map_none]
   rw [List.map_append, ← h.eq]
   simp [hn]
  | some u =>
   dsimp only [Option.map_some]
   rw [res_by]
   split
   ·rw [List.map_append, List.map_dropLast, ← h.eq]
    simp [hn]
   ·rw [List.map_append, ← h.eq]
    simp [hn]
end
section
variable {w w' : World} {J : Nat → Prop} {ρ : Nat → Option Rp} {s : Nat} {A A' : RAd} {v v' : VS} {p : Rp} {T : Nat → Prop} {F F' : Nat}
theorem RfAt.jnot (h : RfAt w J ρ s A v F) : ∀ k, J k → ¬ (At ρ p k ∨ k = s) := fun k hk e => by
 have h1 := h.far k hk
 rcases e with e | rfl
 ·rw [show ρ k = some p from e] at h1; cases h1
 ·rw [show ρ k = some Rp.root from h.root] at h1; cases h1
theorem RfAt.upd2 (h : RfAt w J ρ s A v F) (ho : Old w J) (f : Fr (fun k => At ρ p k ∨ k = s) w w') (g : Grown w (At ρ p) T) (bd : ∀ b, T b → b < w'.heap.size) (hp : p ≠ .root) (hr : w'.heap[s]? = some (.cells (rrootCells A') 93 (0, 0)))
  (hk : RPartAt w' T J s A' v' F' p) (hq : ∀ q, q ≠ p → q ≠ .root → ∀ R, RPartAt w' R J s A v F q → RPartAt w' R J s A' v' F' q) : RfAt w' J (turn ρ p T) s A' v' F' ∧ Gone (Go.Lig.Own ρ) w (Go.Lig.Own (turn ρ p T)) w' := by
 have hj := h.jnot (p := p)
 refine ⟨⟨bound_turn h.bound f.size bd, fun q => ?_, fun b hb => ?_⟩, ⟨f.mono (fun b _ hb => hb.elim (fun e => at_own b e) (fun e => by subst e; exact at_own b h.root)), own_turn g⟩⟩
 ·by_cases e : q = p
  ·subst e
   rw [at_turn_same]
   exact hk
  ·rw [at_turn_other e g h.bound]
   by_cases e2 : q = .root
   ·subst e2
    exact ⟨h.root, hr⟩
   ·refine hq q e e2 _ ((h.at_ q).frame f (fun k hk1 hb => ?_) hj)
    rcases hb with hb | rfl
    ·exact at_apart e k hk1 hb
    ·exact e2 (Option.some.inj ((show ρ k = some q from hk1).symm.trans (show ρ k = some Rp.root from h.root)))
 ·classical
  unfold turn
  rw [if_neg (fun e => by
   rcases g b e with e2 | e2
   ·exact hj b hb (.inl e2)
   ·exact absurd (ho b hb) (Nat.not_lt.2 e2)), h.far b hb]
  simp
theorem RfAt.ndsGrow (h : RfAt w J ρ s A v F) (ho : Old w J) {a : Option Addr} {n : Nat} {hd : NodeV} {d : NodeD} (f : Fr (fun k => At ρ .nds k ∨ k = s) w w') (o : w'.ownsRow 0 34 2 (.slice a (A.nh.length + 1) n) (A.nh.length + 1) (A.nh.flatMap nhcell ++ nhcell hd))
  (hb : ∀ k, (Value.slice a (A.nh.length + 1) n).ownBlock = some k → At ρ .nds k ∨ w.heap.size ≤ k) (hr : w'.heap[s]? = some (.cells (rrootCells { A with dv := .slice a (A.nh.length + 1) n }) 93 (0, 0))) (hn : NodeIn w' J (.slice hd.l.a hd.l.n hd.l.c) (.slice hd.p.a hd.p.n hd.p.c) d) :
  ∃ ρ', RfAt w' J ρ' s { A with dv := .slice a (A.nh.length + 1) n, nh := A.nh ++ [hd], nd := A.nd ++ [d] } v (F + 1) ∧ Gone (Go.Lig.Own ρ) w (Go.Lig.Own ρ') w' := by
 have hl : (A.nh ++ [hd]).length = A.nh.length + 1 := by simp
 obtain ⟨-, -, q3, q4, q5⟩ := h.at_ .nds
 refine ⟨_, h.upd2 (p := .nds) (T := fun k => (Value.slice a (A.nh.length + 1) n).ownBlock = some k) ho f hb (fun b hb => (o.lt b hb).2) (by simp) hr ⟨?_, fun k hk => hk, ?_, ?_, fun j h' d' e1 e2 => ?_⟩ (fun q hq hq2 R hR => ?_)⟩
 ·show w'.ownsRow 0 34 2 (.slice a (A.nh.length + 1) n) (A.nh ++ [hd]).length ((A.nh ++ [hd]).flatMap nhcell)
  rw [hl, List.flatMap_append, List.flatMap_cons, List.flatMap_nil, List.append_nil]
  exact o
 ·show (A.nh ++ [hd]).length = (A.nd ++ [d]).length
  rw [List.length_append, List.length_append, q3]
  rfl
 ·show (A.nd ++ [d]).length ≤ F + 1
  rw [List.length_append]
  show A.nd.length + 1 ≤ F + 1
  omega
 ·have e1' : (A.nh ++ [hd])[j]? = some h' := e1
  have e2' : (A.nd ++ [d])[j]? = some d' := e2
  by_cases hj : j < A.nh.length
  ·rw [List.getElem?_append_left hj] at e1'
   rw [List.getElem?_append_left (by omega)] at e2'
   exact (q5 j h' d' e1' e2').frame f (h.jnot (p := .nds))
  ·have hj2 := (List.getElem?_eq_some_iff.1 e1').1
   rw [hl] at hj2
   obtain rfl : j = A.nh.length := by omega
   rw [List.getElem?_append_right (Nat.le_refl _), Nat.sub_self] at e1'
   rw [q3, List.getElem?_append_right (Nat.le_refl _), Nat.sub_self] at e2'
   obtain rfl := Option.some.inj e1'
   obtain rfl := Option.some.inj e2'
   exact hn
 ·have hR2 := hR.more (Nat.le_succ F)
  cases q with
  | root => exact absurd rfl hq2
  | nds => exact absurd rfl hq
  | node i =>
   intro L hL
   obtain ⟨H, h1, h2, h3⟩ := hR2 L hL
   exact ⟨H, h1, h2.grow [d], h3⟩
  | _ => exact hR2
theorem RfAt.nWrite (h : RfAt w J ρ s A v F) (ho : Old w J) {t : Int} {k : Nat} (hk : k < v.N.length) {L : List (Ver NodeD)} (hL : v.N[k]? = some L) {F' : Nat} (hF : F ≤ F') (hLF : L.length + 1 ≤ F') {H : List (Ver Nat)} (c2 : RVers A.nd H L) {j : Nat} {d : NodeD} (hj : A.nd[j]? = some d) (g : Bool)
  (q1 : RCellAt w' T (A.x k) (writeV v.K t j g H)) (q2 : Fr (At ρ (.node k)) w w') (q3 : Grown w (At ρ (.node k)) T) : ∃ ρ', RfAt w' J ρ' s A (vPut v t k d g) F' ∧ Gone (Go.Lig.Own ρ) w (Go.Lig.Own ρ') w' := by
 have tr : RTrn w w' ρ (.node k) T := ⟨q2, q3, q1.bound⟩
 have e0 : (vPut v t k d g).N.length = v.N.length := by simp [vPut]
 have eG : v.N[k]?.getD [] = L := by rw [hL]; rfl
 have e1 : (vPut v t k d g).N[k]? = some (writeV v.K t d g L) := by
  show (v.N.set k (writeV v.K t d g (v.N[k]?.getD [])))[k]? = _
  rw [List.getElem?_set_self hk, eG]
 have e2 : ∀ i, i ≠ k → (vPut v t k d g).N[i]? = v.N[i]? := fun i hi => by
  show (v.N.set k _)[i]? = _
  rw [List.getElem?_set_ne (fun e => hi e.symm)]
 refine ⟨_, (h.more hF).upd ho tr (fun L' hL' => ?_) (fun q hq R hR => ?_), rgone_turn tr⟩
 ·rw [e1] at hL'
  obtain rfl := Option.some.inj hL'
  exact ⟨_, q1, c2.write2 v.K t hj g, Nat.le_trans (writeV_len v.K t d g L) hLF⟩
 ·cases q with
  | nrow =>
   obtain ⟨r1, r2, r3⟩ := hR
   exact ⟨by rw [e0]; exact r1, r2, by rw [e0]; exact r3⟩
  | node i =>
   have hi : i ≠ k := fun e => hq (by rw [e])
   exact fun L' hL' => hR L' (by rw [← e2 i hi]; exact hL')
  | _ => exact hR
end
set_option maxRecDepth 100000 in
set_option maxHeartbeats 2000000 in
theorem rsputnode_any (w : World) (J : Nat → Prop) (ρ : Nat → Option Rp) (s : Nat) (A : RAd) (v : VS) (F : Nat) (h : RfAt w J ρ s A v F) (ho : Old w J) (t : Int) {k : Nat} (hk : k < v.N.length) (la : Option Addr) (ln lc : Nat) (pa : Option Addr) (pn pc : Nat) (d : NodeD) (hd : NodeIn w J (.slice la ln lc) (.slice pa pn pc) d) (g : Bool) (hF : F < 999990) :
  Calls Tryz.prog 73 #[.pointer (some ⟨s, 0, none⟩), .int .i64 t, .int .i64 ((k : Int) + 1), .agg #[.slice la ln lc, .slice pa pn pc], .bool g] w fun e w' => e = .returned (.tuple #[]) ∧ RTurns w J ρ s (vPut v t k d g) (F + 1) w' := by
 have hb := heap1 w (.cells #[.slice la ln lc, .slice pa pn pc] 34)
 have hfr : Fr No w (w.alloc (.cells #[.slice la ln lc, .slice pa pn pc] 34)) := (Fr.refl No w).alloc _
 have hwl : w.heap.size < (w.alloc (.cells #[.slice la ln lc, .slice pa pn pc] 34)).heap.size := by simp
 obtain ⟨w0, hw0⟩ : ∃ w0, w.alloc (.cells #[.slice la ln lc, .slice pa pn pc] 34) = w0 := ⟨_, rfl⟩
 rw [hw0] at hb hfr hwl
 have h0 := h.no hfr
 obtain ⟨q1, q2, q3, q4, -⟩ := h0.at_ .nds
 obtain ⟨a, n, hdv⟩ := ownsRow_slice q1
 rw [hdv] at q1 q2
 have hheap : w0.heap[s]? = some (.cells #[.pointer (some ⟨A.c, 0, none⟩), A.nv, A.ev, .slice a A.nh.length n, A.fv] 93) := by
  have := h0.heap
  unfold rrootCells at this
  rw [hdv] at this
  exact this
 obtain ⟨b0, b1⟩ := cells2 hb
 obtain ⟨-, -, -, y3, -⟩ := h0.cells
 rw [hdv] at y3
 have hsl := h0.lt
 have hss : s ≠ w.heap.size := fun e => by have := h.lt; omega
 have hcv : ¬ (Value.slice a A.nh.length n).ownBlock = some s := fun e => by
  have e1 : ρ s = some Rp.nds := q2 s e
  rw [show ρ s = some Rp.root from h0.root] at e1
  cases e1
 have hcv2 : ¬ (Value.slice a A.nh.length n).ownBlock = some w.heap.size := fun e => by
  have e1 : ρ w.heap.size = some Rp.nds := q2 _ e
  have := h.bound w.heap.size (by rw [e1]; simp)
  omega
 have HF := hid (⟨h, h0, ho, hfr, hd, hk, hF⟩ : _ ∧ _ ∧ _ ∧ _ ∧ _ ∧ _ ∧ _)
 have HG := hid (⟨hheap, q1, q2, q3, q4, hsl, hwl, hcv, hcv2⟩ : _ ∧ _ ∧ _ ∧ _ ∧ _ ∧ _ ∧ _ ∧ _ ∧ _)
 have hlen : A.nh.length ≤ 999990 := by omega
 clear h h0 ho hfr hd hheap q1 q2 q3 q4 hsl hwl hcv hcv2 hb hk hF hdv
 go_enter Tryz.func73, Tryz.ntmps73
 go_wp2_with fail
 refine wp_region_sched (by kernel_rfl) 10 [6, 7, 10] [0, 1, 2, 3, 4, 5, 6, 7, 8, 9, 10] (AgC [s, w.heap.size] w0.drew) (by kernel_rfl) (AgC.refl _ _) ?_
 simp only [List.map_cons, List.map_nil, List.contains_cons, List.contains_nil, nth_zero, nth_succ, Nat.reduceBEq, Bool.false_or, Bool.or_false, Bool.or_true, Bool.true_or]
 repeat (refine sched_quiet (fun K hK => ?_); go_simp; refine hK _ ?_; clear hK K)
 refine sched_loud (wpList_buildSlice1 rfl 22 34 (.tmp 15) rfl _ 2 48 Tryz.underlying22 infoN (by decide) (by decide) (.agg #[.slice la ln lc, .slice pa pn pc]) rfl rfl ?_)
 intro w2 p2
 have p2' : New #[.slice la ln lc, .slice pa pn pc] 34 w0.drew w2 := p2
 have hL : ∀ (U : Nat → Prop), ¬ U s → ¬ U w.heap.size → ∀ j ∈ [s, w.heap.size], j < w0.drew.heap.size ∧ ¬ U j := fun U hU hU2 j hj => by
  simp only [List.mem_cons, List.not_mem_nil, or_false] at hj
  rcases hj with rfl | rfl
  ·exact ⟨HG.out.2.2.2.2.2.1, hU⟩
  ·exact ⟨HG.out.2.2.2.2.2.2.1, hU2⟩
 have a2 := (AgC.refl [s, w.heap.size] w0.drew).fr p2.fr (hL No id id)
 refine sched_on a2 ?_
 refine sched_loud (wpList_app rfl (.tmp 14) (.tmp 16) 22 rfl 34 _ 2 48 Tryz.underlying22 infoN rfl (by decide) (.slice a A.nh.length n) A.nh.length (A.nh.flatMap nhcell) rfl (fd_owns HG.out.2.1 ((Fr.refl No w0).drew.thenNo p2.fr)) (.slice (some ⟨w0.drew.heap.size, 0, none⟩) 1 1) 1 [.slice la ln lc, .slice pa pn pc] rfl (Rd.block p2'.at_ 1 2 1 rfl (by simp [Value.oneCell']) (Nat.le_refl _) (by simp [maxLen])) (by unfold maxLen; omega) (by omega) ?_)
 intro v3 w3 o3 f3 b3 _
 refine sched_on (a2.fr f3 (hL _ HG.out.2.2.2.2.2.2.2.1 HG.out.2.2.2.2.2.2.2.2)) ?_
 have hg3 := f3.keep (p2.keep HG.out.1) HG.out.2.2.2.2.2.2.2.1
 obtain ⟨a3, n3, rfl⟩ := ownsRow_slice o3
 have O3 := hid (⟨o3, f3, b3, hg3, p2.fr⟩ : _ ∧ _ ∧ _ ∧ _ ∧ _)
 clear o3 f3 b3 hg3 p2 p2' a2 hL
 repeat (refine sched_quiet (fun K hK => ?_); go_simp; refine hK _ ?_; clear hK K)
 refine sched_loud (wpList_store1 rfl 22 (.tmp 19) (.tmp 17) rfl s 3 rfl _ _ (.slice a3 (A.nh.length + 1) n3) rfl (by kernel_rfl) O3.out.2.2.2.1 (by simp) rfl ?_)
 intro w4 p4
 have p4' : Put s #[.pointer (some ⟨A.c, 0, none⟩), A.nv, A.ev, .slice a3 (A.nh.length + 1) n3, A.fv] 93 w3 w4 := p4
 have P4 := hid p4'
 clear p4 p4'
 refine sched_last ?_
 refine sched_nil ?_
 obtain ⟨h, h0, ho, hfr, hd, hk, hF⟩ := HF.out
 obtain ⟨o3, f3, b3, hg3, f2⟩ := O3.out
 obtain ⟨-, q1, q2, q3, q4, hsl, hwl, hcv, hcv2⟩ := HG.out
 have hf02 : Fr No w w2 := (hfr.thenNo (Fr.refl No w0).drew).thenNo f2
 have hf3 : Fr (fun j => At ρ .nds j ∨ j = s) w w3 := (hf02.mono (fun _ _ e => e.elim)).thenS (f3.mono (fun j _ e => .inl (q2 j e)))
 have hf4 : Fr (fun j => At ρ .nds j ∨ j = s) w w4 := hf3.thenS (P4.out.fr.mono (fun j _ e => .inr e))
 have hb4 : ∀ j, (Value.slice a3 (A.nh.length + 1) n3).ownBlock = some j → At ρ .nds j ∨ w.heap.size ≤ j := fun j hj => by
  rcases b3 j hj with e | e
  ·exact .inl (q2 j e)
  ·exact .inr (Nat.le_trans hf02.size e)
 have hne : ∀ j, (Value.slice a3 (A.nh.length + 1) n3).ownBlock = some j → j ≠ s := fun j hj e => by
  subst e
  rcases hb4 j hj with e1 | e1
  ·have e2 : ρ j = some Rp.nds := e1
   rw [show ρ j = some Rp.root from h.root] at e2
   cases e2
  ·have := h.lt; omega
 obtain ⟨ρ1, h4, G4⟩ := h.ndsGrow (hd := ⟨⟨la, ln, lc⟩, ⟨pa, pn, pc⟩⟩) (d := d) ho hf4 (P4.out.fr.owns o3 hne) hb4 P4.out.at_ (hd.frame hf4 (h.jnot (p := .nds)))
 obtain ⟨L0, hL⟩ : ∃ L0, v.N[k]? = some L0 := ⟨v.N[k], List.getElem?_eq_getElem hk⟩
 obtain ⟨H, c1, c2, -⟩ := h4.ncell hL
 obtain ⟨-, -, -, hLF⟩ := h.ncell hL
 obtain ⟨gk, hck, -⟩ := h4.clock.row
 have hjd : (A.nd ++ [d])[A.nh.length]? = some d := by rw [q3, List.getElem?_append_right (Nat.le_refl _), Nat.sub_self]; rfl
 have c1d := c1.frame (Fr.refl No w4).drew (fun _ _ e => e)
 have hHl : H.length = L0.length := c2.len
 have HW := hid (rwrite_any w4.drew _ (A.x k) A.c gk v.K H c1d (hck.frame (Fr.refl No w4).drew) (by rw [hHl]; omega) t A.nh.length g (by omega))
 obtain ⟨z0, z1, -, z3, -⟩ := h4.cells
 obtain ⟨gn, nn, hnv, hx⟩ := h4.xAt hk
 have hpx := hx w4 (Fr.refl _ _)
 have hn1 := h4.nlen
 dsimp only at z0 z1 z3 hnv hpx
 rw [hnv] at z1
 have HH := hid (⟨h4, G4, c2, hL, hLF, hjd, ho, hf4⟩ : _ ∧ _ ∧ _ ∧ _ ∧ _ ∧ _ ∧ _ ∧ _)
 have hwk : IntKind.i64.wrap (k : Int) = (k : Int) := IntWalk.i64_in _ (by omega)
 have hwn : IntKind.i64.wrap (A.nh.length : Int) = (A.nh.length : Int) := IntWalk.i64_in _ (by omega)
 clear h h0 ho hfr hd hF o3 f3 b3 hg3 f2 q1 q2 q3 q4 hsl hwl hcv hcv2 hf02 hf3 hf4 hb4 hne h4 G4 hL c1 c2 hLF hck hjd c1d hHl hx hnv y3 b0 b1
 generalize hNe : v.N.length = m at *
 clear hNe
 go_wp2_with fail
 refine wp_region_sched (by kernel_rfl) 20 [20] [0, 1, 2, 3, 4, 5, 6, 7, 8, 9, 10, 11, 12, 13, 14, 15, 16, 17, 18, 19, 20] (AgC [s, gn] w4.drew) (by kernel_rfl) (AgC.refl _ _) ?_
 simp only [List.map_cons, List.map_nil, List.contains_cons, List.contains_nil, nth_zero, nth_succ, Nat.reduceBEq, Bool.false_or, Bool.or_false, Bool.or_true, Bool.true_or]
 repeat (refine sched_quiet (fun K hK => ?_); go_simp; refine hK _ ?_; clear hK K)
 refine sched_callL ?_ 152 #[.pointer (some ⟨A.x k, 0, none⟩), .pointer (some ⟨A.c, 0, none⟩), .int .i64 t, .int .i64 (A.nh.length : Int), .bool g] ?_ HW.out ?_
 focus (first | rfl | (go_simp; done))
 focus (first | rfl | (go_simp; done))
 rintro e w5 ⟨rfl, T', r1, r2, r3⟩
 refine ⟨_, rfl, ?_⟩
 refine sched_nil ?_
 have H5 := hid (⟨r1, r2, r3⟩ : _ ∧ _ ∧ _)
 clear r1 r2 r3
 go_wp2_with fail
 refine bodyPost_end (results_none rfl _ _ _) rfl ?_
 obtain ⟨h4, G4, c2, hL, hLF, hjd, ho, hf4⟩ := HH.out
 have r2' : Fr (At ρ1 (.node k)) w4 w5 := (((Fr.refl No w4).drew).mono (fun _ _ e => e.elim)).thenS H5.out.2.1
 obtain ⟨ρ2, h5, G5⟩ := h4.nWrite (ho.next hf4) (List.getElem?_eq_some_iff.1 hL).1 hL (Nat.le_refl _) (by omega) c2 hjd g H5.out.1 r2' (fun b hb => H5.out.2.2 b hb)
 exact ⟨rfl, ρ2, _, h5, G4.trans G5⟩
end Go.Proofs.YthadcdoepoglkaaGreatDoor
namespace Go.Proofs.YthadcdoepoglkaaGreatDoor
open Go.RowKit Go.Lig
section
variable {w w' : World} {J : Nat → Prop} {ρ : Nat → Option Rp} {s : Nat} {A A' : RAd} {v v' : VS} {p : Rp} {T : Nat → Prop} {F F' : Nat}
theorem RfAt.edsGrow (h : RfAt w J ρ s A v F) (ho : Old w J) {a : Option Addr} {n : Nat} {d : EdgeV} (f : Fr (fun k => At ρ .eds k ∨ k = s) w w') (o : w'.ownsRow 0 48 4 (.slice a (A.ed.length + 1) n) (A.ed.length + 1) (A.ed.flatMap edcell ++ edcell d))
  (hb : ∀ k, (Value.slice a (A.ed.length + 1) n).ownBlock = some k → At ρ .eds k ∨ w.heap.size ≤ k) (hr : w'.heap[s]? = some (.cells (rrootCells { A with fv := .slice a (A.ed.length + 1) n }) 93 (0, 0))) :
  ∃ ρ', RfAt w' J ρ' s { A with fv := .slice a (A.ed.length + 1) n, ed := A.ed ++ [d] } v (F + 1) ∧ Gone (Go.Lig.Own ρ) w (Go.Lig.Own ρ') w' := by
 have hl : (A.ed ++ [d]).length = A.ed.length + 1 := by simp
 obtain ⟨-, -, q4⟩ := h.at_ .eds
 refine ⟨_, h.upd2 (p := .eds) (T := fun k => (Value.slice a (A.ed.length + 1) n).ownBlock = some k) ho f hb (fun b hb => (o.lt b hb).2) (by simp) hr ⟨?_, fun k hk => hk, ?_⟩ (fun q hq hq2 R hR => ?_)⟩
 ·show w'.ownsRow 0 48 4 (.slice a (A.ed.length + 1) n) (A.ed ++ [d]).length ((A.ed ++ [d]).flatMap edcell)
  rw [hl, List.flatMap_append, List.flatMap_cons, List.flatMap_nil, List.append_nil]
  exact o
 ·show (A.ed ++ [d]).length ≤ F + 1
  rw [hl]
  omega
 ·have hR2 := hR.more (Nat.le_succ F)
  cases q with
  | root => exact absurd rfl hq2
  | eds => exact absurd rfl hq
  | edge i =>
   intro L hL
   obtain ⟨H, h1, h2, h3⟩ := hR2 L hL
   exact ⟨H, h1, h2.grow [d], h3⟩
  | _ => exact hR2
theorem RfAt.eWrite (h : RfAt w J ρ s A v F) (ho : Old w J) {t : Int} {k : Nat} (hk : k < v.E.length) {L : List (Ver EdgeV)} (hL : v.E[k]? = some L) {F' : Nat} (hF : F ≤ F') (hLF : L.length + 1 ≤ F') {H : List (Ver Nat)} (c2 : RVers A.ed H L) {j : Nat} {d : EdgeV} (hj : A.ed[j]? = some d) (g : Bool)
  (q1 : RCellAt w' T (A.z k) (writeV v.K t j g H)) (q2 : Fr (At ρ (.edge k)) w w') (q3 : Grown w (At ρ (.edge k)) T) : ∃ ρ', RfAt w' J ρ' s A (vTie v t k d g) F' ∧ Gone (Go.Lig.Own ρ) w (Go.Lig.Own ρ') w' := by
 have tr : RTrn w w' ρ (.edge k) T := ⟨q2, q3, q1.bound⟩
 have e0 : (vTie v t k d g).E.length = v.E.length := by simp [vTie]
 have eG : v.E[k]?.getD [] = L := by rw [hL]; rfl
 have e1 : (vTie v t k d g).E[k]? = some (writeV v.K t d g L) := by
  show (v.E.set k (writeV v.K t d g (v.E[k]?.getD [])))[k]? = _
  rw [List.getElem?_set_self hk, eG]
 have e2 : ∀ i, i ≠ k → (vTie v t k d g).E[i]? = v.E[i]? := fun i hi => by
  show (v.E.set k _)[i]? = _
  rw [List.getElem?_set_ne (fun e => hi e.symm)]
 refine ⟨_, (h.more hF).upd ho tr (fun L' hL' => ?_) (fun q hq R hR => ?_), rgone_turn tr⟩
 ·rw [e1] at hL'
  obtain rfl := Option.some.inj hL'
  exact ⟨_, q1, c2.write2 v.K t hj g, Nat.le_trans (writeV_len v.K t d g L) hLF⟩
 ·cases q with
  | erow =>
   obtain ⟨r1, r2, r3⟩ := hR
   exact ⟨by rw [e0]; exact r1, r2, by rw [e0]; exact r3⟩
  | edge i =>
   have hi : i ≠ k := fun e => hq (by rw [e])
   exact fun L' hL' => hR L' (by rw [← e2 i hi]; exact hL')
  | _ => exact hR
end
set_option maxRecDepth 100000 in
set_option maxHeartbeats 2000000 in
theorem rsputedge_any (w : World) (J : Nat → Prop) (ρ : Nat → Option Rp) (s : Nat) (A : RAd) (v : VS) (F : Nat) (h : RfAt w J ρ s A v F) (ho : Old w J) (t : Int) {k : Nat} (hk : k < v.E.length) (ef et : Int) (ey : ByteArray) (ew : Nat) (g : Bool) (hF : F < 999990) :
  Calls Tryz.prog 77 #[.pointer (some ⟨s, 0, none⟩), .int .i64 t, .int .i64 ((k : Int) + 1), .agg #[.int .i64 ef, .int .i64 et, .string ey, .float .f64 ew], .bool g] w fun e w' => e = .returned (.tuple #[]) ∧ RTurns w J ρ s (vTie v t k ⟨ef, et, ey, ew⟩ g) (F + 1) w' := by
 have hb := heap1 w (.cells #[.int .i64 ef, .int .i64 et, .string ey, .float .f64 ew] 48)
 have hfr : Fr No w (w.alloc (.cells #[.int .i64 ef, .int .i64 et, .string ey, .float .f64 ew] 48)) := (Fr.refl No w).alloc _
 have hwl : w.heap.size < (w.alloc (.cells #[.int .i64 ef, .int .i64 et, .string ey, .float .f64 ew] 48)).heap.size := by simp
 obtain ⟨w0, hw0⟩ : ∃ w0, w.alloc (.cells #[.int .i64 ef, .int .i64 et, .string ey, .float .f64 ew] 48) = w0 := ⟨_, rfl⟩
 rw [hw0] at hb hfr hwl
 have h0 := h.no hfr
 obtain ⟨q1, q2, q4⟩ := h0.at_ .eds
 obtain ⟨a, n, hdv⟩ := ownsRow_slice q1
 rw [hdv] at q1 q2
 have hheap : w0.heap[s]? = some (.cells #[.pointer (some ⟨A.c, 0, none⟩), A.nv, A.ev, A.dv, .slice a A.ed.length n] 93) := by
  have := h0.heap
  unfold rrootCells at this
  rw [hdv] at this
  exact this
 obtain ⟨b0, b1, b2, bq⟩ := cells4 hb
 obtain ⟨-, -, -, -, y3⟩ := h0.cells
 rw [hdv] at y3
 have hsl := h0.lt
 have hss : s ≠ w.heap.size := fun e => by have := h.lt; omega
 have hcv : ¬ (Value.slice a A.ed.length n).ownBlock = some s := fun e => by
  have e1 : ρ s = some Rp.eds := q2 s e
  rw [show ρ s = some Rp.root from h0.root] at e1
  cases e1
 have hcv2 : ¬ (Value.slice a A.ed.length n).ownBlock = some w.heap.size := fun e => by
  have e1 : ρ w.heap.size = some Rp.eds := q2 _ e
  have := h.bound w.heap.size (by rw [e1]; simp)
  omega
 have HF := hid (⟨h, h0, ho, hfr, hk, hF⟩ : _ ∧ _ ∧ _ ∧ _ ∧ _ ∧ _)
 have HG := hid (⟨hheap, q1, q2, q4, hsl, hwl, hcv, hcv2⟩ : _ ∧ _ ∧ _ ∧ _ ∧ _ ∧ _ ∧ _ ∧ _)
 have hlen : A.ed.length ≤ 999990 := by omega
 clear h h0 ho hfr hheap q1 q2 q4 hsl hwl hcv hcv2 hb hk hF hdv
 go_enter Tryz.func77, Tryz.ntmps77
 go_wp2_with fail
 refine wp_region_sched (by kernel_rfl) 10 [6, 7, 10] [0, 1, 2, 3, 4, 5, 6, 7, 8, 9, 10] (AgC [s, w.heap.size] w0.drew) (by kernel_rfl) (AgC.refl _ _) ?_
 simp only [List.map_cons, List.map_nil, List.contains_cons, List.contains_nil, nth_zero, nth_succ, Nat.reduceBEq, Bool.false_or, Bool.or_false, Bool.or_true, Bool.true_or]
 repeat (refine sched_quiet (fun K hK => ?_); go_simp; refine hK _ ?_; clear hK K)
 refine sched_loud (wpList_buildSlice1 rfl 23 48 (.tmp 15) rfl _ 4 40 Tryz.underlying23 infoEd (by decide) (by decide) (.agg #[.int .i64 ef, .int .i64 et, .string ey, .float .f64 ew]) rfl rfl ?_)
 intro w2 p2
 have p2' : New #[.int .i64 ef, .int .i64 et, .string ey, .float .f64 ew] 48 w0.drew w2 := p2
 have hL : ∀ (U : Nat → Prop), ¬ U s → ¬ U w.heap.size → ∀ j ∈ [s, w.heap.size], j < w0.drew.heap.size ∧ ¬ U j := fun U hU hU2 j hj => by
  simp only [List.mem_cons, List.not_mem_nil, or_false] at hj
  rcases hj with rfl | rfl
  ·exact ⟨HG.out.2.2.2.2.1, hU⟩
  ·exact ⟨HG.out.2.2.2.2.2.1, hU2⟩
 have a2 := (AgC.refl [s, w.heap.size] w0.drew).fr p2.fr (hL No id id)
 refine sched_on a2 ?_
 refine sched_loud (wpList_app rfl (.tmp 14) (.tmp 16) 23 rfl 48 _ 4 40 Tryz.underlying23 infoEd rfl (by decide) (.slice a A.ed.length n) A.ed.length (A.ed.flatMap edcell) rfl (fd_owns HG.out.2.1 ((Fr.refl No w0).drew.thenNo p2.fr)) (.slice (some ⟨w0.drew.heap.size, 0, none⟩) 1 1) 1 [.int .i64 ef, .int .i64 et, .string ey, .float .f64 ew] rfl (Rd.block p2'.at_ 1 4 1 rfl (by simp [Value.oneCell']) (Nat.le_refl _) (by simp [maxLen])) (by unfold maxLen; omega) (by omega) ?_)
 intro v3 w3 o3 f3 b3 _
 refine sched_on (a2.fr f3 (hL _ HG.out.2.2.2.2.2.2.1 HG.out.2.2.2.2.2.2.2)) ?_
 have hg3 := f3.keep (p2.keep HG.out.1) HG.out.2.2.2.2.2.2.1
 obtain ⟨a3, n3, rfl⟩ := ownsRow_slice o3
 have O3 := hid (⟨o3, f3, b3, hg3, p2.fr⟩ : _ ∧ _ ∧ _ ∧ _ ∧ _)
 clear o3 f3 b3 hg3 p2 p2' a2 hL
 repeat (refine sched_quiet (fun K hK => ?_); go_simp; refine hK _ ?_; clear hK K)
 refine sched_loud (wpList_store1 rfl 23 (.tmp 19) (.tmp 17) rfl s 4 rfl _ _ (.slice a3 (A.ed.length + 1) n3) rfl (by kernel_rfl) O3.out.2.2.2.1 (by simp) rfl ?_)
 intro w4 p4
 have p4' : Put s #[.pointer (some ⟨A.c, 0, none⟩), A.nv, A.ev, A.dv, .slice a3 (A.ed.length + 1) n3] 93 w3 w4 := p4
 have P4 := hid p4'
 clear p4 p4'
 refine sched_last ?_
 refine sched_nil ?_
 obtain ⟨h, h0, ho, hfr, hk, hF⟩ := HF.out
 obtain ⟨o3, f3, b3, hg3, f2⟩ := O3.out
 obtain ⟨-, q1, q2, q4, hsl, hwl, hcv, hcv2⟩ := HG.out
 have hf02 : Fr No w w2 := (hfr.thenNo (Fr.refl No w0).drew).thenNo f2
 have hf3 : Fr (fun j => At ρ .eds j ∨ j = s) w w3 := (hf02.mono (fun _ _ e => e.elim)).thenS (f3.mono (fun j _ e => .inl (q2 j e)))
 have hf4 : Fr (fun j => At ρ .eds j ∨ j = s) w w4 := hf3.thenS (P4.out.fr.mono (fun j _ e => .inr e))
 have hb4 : ∀ j, (Value.slice a3 (A.ed.length + 1) n3).ownBlock = some j → At ρ .eds j ∨ w.heap.size ≤ j := fun j hj => by
  rcases b3 j hj with e | e
  ·exact .inl (q2 j e)
  ·exact .inr (Nat.le_trans hf02.size e)
 have hne : ∀ j, (Value.slice a3 (A.ed.length + 1) n3).ownBlock = some j → j ≠ s := fun j hj e => by
  subst e
  rcases hb4 j hj with e1 | e1
  ·have e2 : ρ j = some Rp.eds := e1
   rw [show ρ j = some Rp.root from h.root] at e2
   cases e2
  ·have := h.lt; omega
 obtain ⟨ρ1, h4, G4⟩ := h.edsGrow (d := ⟨ef, et, ey, ew⟩) ho hf4 (P4.out.fr.owns o3 hne) hb4 P4.out.at_
 obtain ⟨L0, hL⟩ : ∃ L0, v.E[k]? = some L0 := ⟨v.E[k], List.getElem?_eq_getElem hk⟩
 obtain ⟨H, c1, c2, -⟩ := h4.ecell hL
 obtain ⟨-, -, -, hLF⟩ := h.ecell hL
 obtain ⟨gk, hck, -⟩ := h4.clock.row
 have hjd : (A.ed ++ [⟨ef, et, ey, ew⟩])[A.ed.length]? = some ⟨ef, et, ey, ew⟩ := by rw [List.getElem?_append_right (Nat.le_refl _), Nat.sub_self]; rfl
 have c1d := c1.frame (Fr.refl No w4).drew (fun _ _ e => e)
 have hHl : H.length = L0.length := c2.len
 have HW := hid (rwrite_any w4.drew _ (A.z k) A.c gk v.K H c1d (hck.frame (Fr.refl No w4).drew) (by rw [hHl]; omega) t A.ed.length g (by omega))
 obtain ⟨z0, -, z1, -, z3⟩ := h4.cells
 obtain ⟨gn, nn, hnv, hx⟩ := h4.zAt hk
 have hpx := hx w4 (Fr.refl _ _)
 have hn1 := h4.elen
 dsimp only at z0 z1 z3 hnv hpx
 rw [hnv] at z1
 have HH := hid (⟨h4, G4, c2, hL, hLF, hjd, ho, hf4⟩ : _ ∧ _ ∧ _ ∧ _ ∧ _ ∧ _ ∧ _ ∧ _)
 have hwk : IntKind.i64.wrap (k : Int) = (k : Int) := IntWalk.i64_in _ (by omega)
 have hwn : IntKind.i64.wrap (A.ed.length : Int) = (A.ed.length : Int) := IntWalk.i64_in _ (by omega)
 clear h h0 ho hfr hF o3 f3 b3 hg3 f2 q1 q2 q4 hsl hwl hcv hcv2 hf02 hf3 hf4 hb4 hne h4 G4 hL c1 c2 hLF hck hjd c1d hHl hx hnv y3 b0 b1 b2 bq
 generalize hNe : v.E.length = m at *
 clear hNe
 go_wp2_with fail
 refine wp_region_sched (by kernel_rfl) 20 [20] [0, 1, 2, 3, 4, 5, 6, 7, 8, 9, 10, 11, 12, 13, 14, 15, 16, 17, 18, 19, 20] (AgC [s, gn] w4.drew) (by kernel_rfl) (AgC.refl _ _) ?_
 simp only [List.map_cons, List.map_nil, List.contains_cons, List.contains_nil, nth_zero, nth_succ, Nat.reduceBEq, Bool.false_or, Bool.or_false, Bool.or_true, Bool.true_or]
 repeat (refine sched_quiet (fun K hK => ?_); go_simp; refine hK _ ?_; clear hK K)
 refine sched_callL ?_ 152 #[.pointer (some ⟨A.z k, 0, none⟩), .pointer (some ⟨A.c, 0, none⟩), .int .i64 t, .int .i64 (A.ed.length : Int), .bool g] ?_ HW.out ?_
 focus (first | rfl | (go_simp; done))
 focus (first | rfl | (go_simp; done))
 rintro e w5 ⟨rfl, T', r1, r2, r3⟩
 refine ⟨_, rfl, ?_⟩
 refine sched_nil ?_
 have H5 := hid (⟨r1, r2, r3⟩ : _ ∧ _ ∧ _)
 clear r1 r2 r3
 go_wp2_with fail
 refine bodyPost_end (results_none rfl _ _ _) rfl ?_
 obtain ⟨h4, G4, c2, hL, hLF, hjd, ho, hf4⟩ := HH.out
 have r2' : Fr (At ρ1 (.edge k)) w4 w5 := (((Fr.refl No w4).drew).mono (fun _ _ e => e.elim)).thenS H5.out.2.1
 obtain ⟨ρ2, h5, G5⟩ := h4.eWrite (ho.next hf4) (List.getElem?_eq_some_iff.1 hL).1 hL (Nat.le_refl _) (by omega) c2 hjd g H5.out.1 r2' (fun b hb => H5.out.2.2 b hb)
 exact ⟨rfl, ρ2, _, h5, G4.trans G5⟩
end Go.Proofs.YthadcdoepoglkaaGreatDoor
