/- A part of the proof: contracts of functions of the program, for the row's text. -/
import Derived.Test.YthadcdoepoglkaaGreatDoorJ47
import Derived.Test.YthadcdoepoglkaaGreatDoorJ21
namespace Go.Proofs.YthadcdoepoglkaaGreatDoor
open Go.RowKit Go.Lig
theorem undo_get {α : Type} (f : List α → List α) (l : List (List α)) (i : Nat) (hi : i < l.length) : ((l.take i).map f ++ l.drop i)[i]? = some l[i] := by
 have hl : ((l.take i).map f).length = i := by rw [List.length_map, List.length_take]; omega
 rw [List.getElem?_append_right (by omega), hl, Nat.sub_self, List.getElem?_drop, Nat.add_zero, List.getElem?_eq_getElem hi]
theorem undo_step {α : Type} (f : List α → List α) (l : List (List α)) (i : Nat) (hi : i < l.length) : ((l.take i).map f ++ l.drop i).set i (f l[i]) = (l.take (i + 1)).map f ++ l.drop (i + 1) := by
 have hl : ((l.take i).map f).length = i := by rw [List.length_map, List.length_take]; omega
 rw [List.set_append_right _ _ (by omega), hl, Nat.sub_self, List.drop_eq_getElem_cons hi, List.set_cons_zero, List.take_add_one, List.getElem?_eq_getElem hi, List.map_append]
 simp
theorem undo_len {α : Type} (f : List α → List α) (l : List (List α)) (i : Nat) : ((l.take i).map f ++ l.drop i).length = l.length := by
 rw [List.length_append, List.length_map, List.length_take, List.length_drop]
 omega
theorem eraseP_filter {β : Type} (p : β → Bool) : ∀ l : List β, l.Pairwise (fun a b => ¬ (p a = true ∧ p b = true)) → l.eraseP p = l.filter (fun a => !p a)
 | [], _ => rfl
 | a :: l, h => by
  obtain ⟨h1, h2⟩ := List.pairwise_cons.1 h
  cases hp : p a with
  | true =>
   rw [List.eraseP_cons_of_pos hp, List.filter_cons_of_neg (by simp [hp])]
   refine (List.filter_eq_self.2 (fun b hb => ?_)).symm
   have := h1 b hb
   cases hq : p b with
   | false => rfl
   | true => exact absurd ⟨hp, hq⟩ this
  | false =>
   rw [List.eraseP_cons_of_neg (by simp [hp]), List.filter_cons_of_pos (by simp [hp]), eraseP_filter p l h2]
theorem RVers.undo {α : Type} [Inhabited α] {nd : List α} {H : List (Ver Nat)} {L : List (Ver α)} (h : RVers nd H L) (hn : (L.map Ver.by_).Nodup) (t : Int) : RVers nd (rundo t H) (undoV t L) := by
 have hb : H.map Ver.by_ = L.map Ver.by_ := by
  rw [h.eq, List.map_map]
  rfl
 have e : rundo t H = H.filter (fun z => !(z.by_ == t)) := eraseP_filter (fun z : Ver Nat => z.by_ == t) H (by
  rw [← hb] at hn
  unfold List.Nodup at hn
  rw [List.pairwise_map] at hn
  exact hn.imp (fun e q => e ((eq_of_beq q.1).trans (eq_of_beq q.2).symm)))
 rw [e]
 exact h.filter t
section
variable {w w' : World} {J : Nat → Prop} {ρ : Nat → Option Rp} {s : Nat} {A A' : RAd} {v v' : VS} {p : Rp} {T : Nat → Prop} {F F' : Nat}
theorem RfAt.nSet (h : RfAt w J ρ s A v F) (ho : Old w J) {k : Nat} {L' : List (Ver NodeD)} (hk : k < v.N.length) (hF : F ≤ F') (hLF : L'.length ≤ F') {H' : List (Ver Nat)} (c2 : RVers A.nd H' L') (q1 : RCellAt w' T (A.x k) H') (q2 : Fr (At ρ (.node k)) w w') (q3 : Grown w (At ρ (.node k)) T) :
  ∃ ρ', RfAt w' J ρ' s A { v with N := v.N.set k L' } F' ∧ Gone (Go.Lig.Own ρ) w (Go.Lig.Own ρ') w' := by
 have tr : RTrn w w' ρ (.node k) T := ⟨q2, q3, q1.bound⟩
 refine ⟨_, (h.more hF).upd ho tr (fun L hL => ?_) (fun q hq R hR => ?_), rgone_turn tr⟩
 ·have hL2 : (v.N.set k L')[k]? = some L := hL
  rw [List.getElem?_set_self hk] at hL2
  obtain rfl := Option.some.inj hL2
  exact ⟨_, q1, c2, hLF⟩
 ·cases q with
  | nrow =>
   obtain ⟨r1, r2, r3⟩ := hR
   have e0 : (v.N.set k L').length = v.N.length := List.length_set
   exact ⟨by show w'.ownsRow 0 _ 1 A.nv (v.N.set k L').length (ptrs A.x (v.N.set k L').length); rw [e0]; exact r1, r2, by show (v.N.set k L').length ≤ 1000; rw [e0]; exact r3⟩
  | node i =>
   have hi : i ≠ k := fun e => hq (by rw [e])
   intro L hL
   have hL2 : (v.N.set k L')[i]? = some L := hL
   rw [List.getElem?_set_ne (fun e => hi e.symm)] at hL2
   exact hR L hL2
  | _ => exact hR
theorem RfAt.eSet (h : RfAt w J ρ s A v F) (ho : Old w J) {k : Nat} {L' : List (Ver EdgeV)} (hk : k < v.E.length) (hF : F ≤ F') (hLF : L'.length ≤ F') {H' : List (Ver Nat)} (c2 : RVers A.ed H' L') (q1 : RCellAt w' T (A.z k) H') (q2 : Fr (At ρ (.edge k)) w w') (q3 : Grown w (At ρ (.edge k)) T) :
  ∃ ρ', RfAt w' J ρ' s A { v with E := v.E.set k L' } F' ∧ Gone (Go.Lig.Own ρ) w (Go.Lig.Own ρ') w' := by
 have tr : RTrn w w' ρ (.edge k) T := ⟨q2, q3, q1.bound⟩
 refine ⟨_, (h.more hF).upd ho tr (fun L hL => ?_) (fun q hq R hR => ?_), rgone_turn tr⟩
 ·have hL2 : (v.E.set k L')[k]? = some L := hL
  rw [List.getElem?_set_self hk] at hL2
  obtain rfl := Option.some.inj hL2
  exact ⟨_, q1, c2, hLF⟩
 ·cases q with
  | erow =>
   obtain ⟨r1, r2, r3⟩ := hR
   have e0 : (v.E.set k L').length = v.E.length := List.length_set
   exact ⟨by show w'.ownsRow 0 _ 1 A.ev (v.E.set k L').length (ptrs A.z (v.E.set k L').length); rw [e0]; exact r1, r2, by show (v.E.set k L').length ≤ 1000; rw [e0]; exact r3⟩
  | edge i =>
   have hi : i ≠ k := fun e => hq (by rw [e])
   intro L hL
   have hL2 : (v.E.set k L')[i]? = some L := hL
   rw [List.getElem?_set_ne (fun e => hi e.symm)] at hL2
   exact hR L hL2
  | _ => exact hR
end
def vUn (v : VS) (t : Int) (i j : Nat) : VS := ⟨v.K.abort t, (v.N.take i).map (undoV t) ++ v.N.drop i, (v.E.take j).map (undoV t) ++ v.E.drop j⟩
theorem vUn_zero (v : VS) (t : Int) : vUn v t 0 0 = { v with K := v.K.abort t } := by simp [vUn]
theorem vUn_all (v : VS) (t : Int) : vUn v t v.N.length v.E.length = vAbort v t := by simp [vUn, vAbort]
theorem undoV_len2 {α : Type} (t : Int) (L : List (Ver α)) : (undoV t L).length ≤ L.length := List.length_filter_le _ _
section
variable {w : World} {J : Nat → Prop} {ρ : Nat → Option Rp} {s : Nat} {A : RAd} {v : VS} {F : Nat} {t : Int} {i j : Nat}
theorem RfAt.undoN (h : RfAt w J ρ s A (vUn v t i j) F) (ho : Old w J) (hv : VOk v) (hi : i < v.N.length) : Calls Tryz.prog 201 #[.pointer (some ⟨A.x i, 0, none⟩), .int .i64 t] w fun e w' => e = .returned (.tuple #[]) ∧ ∃ ρ', RfAt w' J ρ' s A (vUn v t (i + 1) j) F ∧ Gone (Go.Lig.Own ρ) w (Go.Lig.Own ρ') w' := by
 have hL : (vUn v t i j).N[i]? = some v.N[i] := undo_get _ _ _ hi
 obtain ⟨H, c1, c2, c3⟩ := h.ncell hL
 have hn : (v.N[i].map Ver.by_).Nodup := by
  have := (hv.n ((i : Int) + 1)).nd
  have e : v.nc ((i : Int) + 1) = v.N[i] := by unfold VS.nc; rw [cellOf_nat, List.getElem?_eq_getElem hi]; rfl
  rw [e] at this
  exact this
 refine (rundo_any w _ (A.x i) H c1 t).mono ?_
 rintro e w' ⟨rfl, T', r1, r2, r3⟩
 obtain ⟨ρ', h', G⟩ := h.nSet ho (k := i) (by show i < ((v.N.take i).map (undoV t) ++ v.N.drop i).length; rw [undo_len]; exact hi) (Nat.le_refl F) (Nat.le_trans (undoV_len2 t _) c3) (c2.undo hn t) r1 r2 r3
 refine ⟨rfl, ρ', ?_, G⟩
 have e : ({ vUn v t i j with N := (vUn v t i j).N.set i (undoV t v.N[i]) } : VS) = vUn v t (i + 1) j := by
  unfold vUn
  dsimp only
  rw [undo_step _ _ _ hi]
 rw [← e]
 exact h'
theorem RfAt.undoE (h : RfAt w J ρ s A (vUn v t i j) F) (ho : Old w J) (hv : VOk v) (hj : j < v.E.length) : Calls Tryz.prog 201 #[.pointer (some ⟨A.z j, 0, none⟩), .int .i64 t] w fun e w' => e = .returned (.tuple #[]) ∧ ∃ ρ', RfAt w' J ρ' s A (vUn v t i (j + 1)) F ∧ Gone (Go.Lig.Own ρ) w (Go.Lig.Own ρ') w' := by
 have hL : (vUn v t i j).E[j]? = some v.E[j] := undo_get _ _ _ hj
 obtain ⟨H, c1, c2, c3⟩ := h.ecell hL
 have hn : (v.E[j].map Ver.by_).Nodup := by
  have := (hv.e ((j : Int) + 1)).nd
  have e : v.ec ((j : Int) + 1) = v.E[j] := by unfold VS.ec; rw [cellOf_nat, List.getElem?_eq_getElem hj]; rfl
  rw [e] at this
  exact this
 refine (rundo_any w _ (A.z j) H c1 t).mono ?_
 rintro e w' ⟨rfl, T', r1, r2, r3⟩
 obtain ⟨ρ', h', G⟩ := h.eSet ho (k := j) (by show j < ((v.E.take j).map (undoV t) ++ v.E.drop j).length; rw [undo_len]; exact hj) (Nat.le_refl F) (Nat.le_trans (undoV_len2 t _) c3) (c2.undo hn t) r1 r2 r3
 refine ⟨rfl, ρ', ?_, G⟩
 have e : ({ vUn v t i j with E := (vUn v t i j).E.set j (undoV t v.E[j]) } : VS) = vUn v t i (j + 1) := by
  unfold vUn
  dsimp only
  rw [undo_step _ _ _ hj]
 rw [← e]
 exact h'
end
set_option maxRecDepth 100000 in
set_option maxHeartbeats 2000000 in
theorem rsabort_ok (w : World) (J : Nat → Prop) (ρ : Nat → Option Rp) (s : Nat) (A : RAd) (v : VS) (F : Nat) (h : RfAt w J ρ s A v F) (ho : Old w J) (hv : VOk v) (t : Int) (hl : v.K.live t = true) :
  Calls Tryz.prog 154 #[.pointer (some ⟨s, 0, none⟩), .int .i64 t] w fun e w' => e = .returned (.int .i64 0) ∧ RTurns w J ρ s (vAbort v t) F w' := by
 obtain ⟨x0, -⟩ := h.cells
 obtain ⟨an, cn, hnv⟩ := ownsRow_slice (h.at_ .nrow).1
 obtain ⟨ae, ce, hev⟩ := ownsRow_slice (h.at_ .erow).1
 have hk := h.at_ .clock
 have HB := hid (rabort_ok w (At ρ .clock) A.c v.K h.clock t hl)
 have HNL := hid (show ∀ i j, (vUn v t i j).N.length = v.N.length from fun i j => undo_len _ _ _)
 have HEL := hid (show ∀ i j, (vUn v t i j).E.length = v.E.length from fun i j => undo_len _ _ _)
 have HE := hid (vUn_all v t)
 have hb1 := h.nlen
 have hb2 := h.elen
 have HH := hid (⟨h, ho, hk, hv⟩ : _ ∧ _ ∧ _ ∧ _)
 have HN : Hid (∀ i, i < v.N.length → i < v.N.length) := hid (fun _ e => e)
 obtain ⟨n, hn⟩ : ∃ n, v.N.length = n := ⟨_, rfl⟩
 obtain ⟨m, hm⟩ : ∃ m, v.E.length = m := ⟨_, rfl⟩
 rw [hn] at hnv HNL HE hb1
 rw [hm] at hev HEL HE hb2
 have HNM := hid (⟨hn, hm, hnv, hev⟩ : _ ∧ _ ∧ _ ∧ _)
 clear h ho hk hl hn hm hnv hev HN hv
 go_enter Tryz.func154, Tryz.ntmps154
 go_wp2_with (go_at_call 200; refine HB.out.mono ?_; rintro e w1 ⟨rfl, k1, f1⟩; obtain ⟨ρ1, h1, G1⟩ := HH.out.1.clock_ HH.out.2.1 k1 f1 (Grown.refl _ _) (Nat.le_refl F) (by have := HH.out.2.2.1.2.1; rw [len_abort]; exact this) (by have := HH.out.2.2.1.2.2; rw [commits_abort]; exact this); have H1 := hid (⟨ρ1, by rw [vUn_zero]; exact h1, G1⟩ : ∃ ρ1, RfAt w1 J ρ1 s A (vUn v t 0 0) F ∧ Gone (Go.Lig.Own ρ) w (Go.Lig.Own ρ1) w1); clear k1 f1 h1 G1)
 go_loopw [6] (fun vi wr => ∃ i : Nat, i ≤ n ∧ vi = .int .i64 (i : Int) ∧ Hid (∃ ρ', RfAt wr J ρ' s A (vUn v t i 0) F ∧ Gone (Go.Lig.Own ρ) w (Go.Lig.Own ρ') wr)) (fun vi _ => n - (intOf vi).toNat)
 case atStart => exact ⟨0, Nat.zero_le _, rfl, H1.out⟩
 case round =>
  obtain ⟨i, hi, rfl, HR⟩ := hrel
  obtain ⟨ρ', h', G'⟩ := HR.out
  have x1 := h'.cells.2.1
  rw [HNM.out.2.2.1] at x1
  by_cases hlt : i < n
  ·obtain ⟨g, c', hnv2, hx⟩ := h'.xAt (k := i) (by rw [HNL.out]; exact hlt)
   rw [HNM.out.2.2.1] at hnv2
   obtain ⟨rfl, -, rfl⟩ := Value.slice.inj hnv2
   have px := hx wr (Fr.refl _ _)
   have HU := hid (h'.undoN (HH.out.2.1.next G'.fr) HH.out.2.2.2 (by rw [HNM.out.1]; exact hlt))
   have HG := hid G'
   clear h' G' hx hnv2 HR
   go_wp2_with (go_at_call 201; refine HU.out.mono ?_; rintro e w2 ⟨rfl, ρ2, h2, G2⟩; have H2 := hid (⟨ρ2, h2, HG.out.trans G2⟩ : ∃ ρ2, RfAt w2 J ρ2 s A (vUn v t (i + 1) 0) F ∧ Gone (Go.Lig.Own ρ) w (Go.Lig.Own ρ2) w2); clear h2 G2)
   go_roundw
   case rel => exact ⟨i + 1, by omega, by go_num, H2.out⟩
   case measure => simp [intOf]; omega
  ·obtain rfl : i = n := by omega
   clear h' G'
   go_wp2_with fail
   go_loopw [7] (fun vj wr => ∃ j : Nat, j ≤ m ∧ vj = .int .i64 (j : Int) ∧ Hid (∃ ρ', RfAt wr J ρ' s A (vUn v t i j) F ∧ Gone (Go.Lig.Own ρ) w (Go.Lig.Own ρ') wr)) (fun vj _ => m - (intOf vj).toNat)
   case atStart => exact ⟨0, Nat.zero_le _, rfl, HR.out⟩
   case round =>
    obtain ⟨j, hj, rfl, HR2⟩ := hrel
    obtain ⟨ρ', h', G'⟩ := HR2.out
    have x2 := h'.cells.2.2.1
    rw [HNM.out.2.2.2] at x2
    by_cases hlj : j < m
    ·obtain ⟨g, c', hev2, hx⟩ := h'.zAt (k := j) (by rw [HEL.out]; exact hlj)
     rw [HNM.out.2.2.2] at hev2
     obtain ⟨rfl, -, rfl⟩ := Value.slice.inj hev2
     have px := hx wr (Fr.refl _ _)
     have HU := hid (h'.undoE (HH.out.2.1.next G'.fr) HH.out.2.2.2 (by rw [HNM.out.2.1]; exact hlj))
     have HG := hid G'
     clear h' G' hx hev2 HR2 x1
     go_wp2_with (go_at_call 201; refine HU.out.mono ?_; rintro e w2 ⟨rfl, ρ2, h2, G2⟩; have H2 := hid (⟨ρ2, h2, HG.out.trans G2⟩ : ∃ ρ2, RfAt w2 J ρ2 s A (vUn v t i (j + 1)) F ∧ Gone (Go.Lig.Own ρ) w (Go.Lig.Own ρ2) w2); clear h2 G2)
     go_roundw
     case rel => exact ⟨j + 1, by omega, by go_num, H2.out⟩
     case measure => simp [intOf]; omega
    ·obtain rfl : j = m := by omega
     clear h' G' x1
     go_wp2_with fail
     go_ret
     obtain ⟨ρ', h', G'⟩ := HR2.out
     rw [HE.out] at h'
     exact ⟨rfl, ρ', A, h', G'⟩
theorem rsclash_any (w : World) (J : Nat → Prop) (ρ : Nat → Option Rp) (s : Nat) (A : RAd) (v : VS) (F : Nat) (h : RfAt w J ρ s A v F) (ho : Old w J) (hv : VOk v) (t : Int) (hl : v.K.live t = true) :
  Calls Tryz.prog 76 #[.pointer (some ⟨s, 0, none⟩), .int .i64 t] w fun e w' => e = .returned (.int .i64 6) ∧ RTurns w J ρ s (vAbort v t) F w' := by
 have HA := hid (rsabort_ok w J ρ s A v F h ho hv t hl)
 clear h ho hv hl
 go_enter Tryz.func76, Tryz.ntmps76
 go_wp2_with (go_at_call 154; refine HA.out.mono ?_; rintro e w1 ⟨rfl, h1⟩; have H1 := hid h1; clear h1)
 go_ret
 exact ⟨rfl, H1.out⟩
end Go.Proofs.YthadcdoepoglkaaGreatDoor
namespace Go.Proofs.YthadcdoepoglkaaGreatDoor
open Go.RowKit Go.Lig
theorem infoRP : (Tryz.prog.info? 126).map (fun i => (i.zero, i.size, i.bytes)) = some (some (.pointer none), 1, 8) := by kernel_rfl
section
variable {w w' : World} {J : Nat → Prop} {ρ : Nat → Option Rp} {s : Nat} {A A' : RAd} {v v' : VS} {p : Rp} {T : Nat → Prop} {F F' : Nat}
theorem RfAt.upd3 (h : RfAt w J ρ s A v F) (ho : Old w J) (f : Fr (fun k => At ρ p k ∨ k = s) w w') (g : Grown w (At ρ p) T) (bd : ∀ b, T b → b < w'.heap.size) (hp : p ≠ .root) (hr : w'.heap[s]? = some (.cells (rrootCells A') 93 (0, 0)))
  (hk : RPartAt w' T J s A' v' F' p) (hq : ∀ q, q ≠ p → q ≠ .root → RPartAt w' (At ρ q) J s A v F q → RPartAt w' (At ρ q) J s A' v' F' q) : RfAt w' J (turn ρ p T) s A' v' F' ∧ Gone (Go.Lig.Own ρ) w (Go.Lig.Own (turn ρ p T)) w' := by
 have hj := h.jnot (p := p)
 refine ⟨⟨bound_turn h.bound f.size bd, fun q => ?_, fun b hb => ?_⟩, ⟨f.mono (fun b _ hb => hb.elim (fun e => at_own b e) (fun e => by subst e; exact at_own b h.root)), own_turn g⟩⟩
 ·by_cases e : q = p
  ·subst e
   rw [at_turn_same]
   exact hk
  ·rw [at_turn_other e g h.bound]
   by_cases e2 : q = .root
   ·subst e2
    exact ⟨h.root, hr⟩
   ·refine hq q e e2 ((h.at_ q).frame f (fun k hk1 hb => ?_) hj)
    rcases hb with hb | rfl
    ·exact at_apart e k hk1 hb
    ·exact e2 (Option.some.inj ((show ρ k = some q from hk1).symm.trans (show ρ k = some Rp.root from h.root)))
 ·classical
  unfold turn
  rw [if_neg (fun e => by
   rcases g b e with e2 | e2
   ·exact hj b hb (.inl e2)
   ·exact absurd (ho b hb) (Nat.not_lt.2 e2)), h.far b hb]
  simp
theorem RfAt.nNew (h : RfAt w J ρ s A v F) (ho : Old w J) (hf : Fr No w w') {b : Nat} (hb0 : w.heap.size ≤ b) (hb1 : b < w'.heap.size) : ∃ ρ', At ρ' (.node v.N.length) = (fun k => k = b) ∧ RfAt w' J ρ' s { A with x := fun i => if i = v.N.length then b else A.x i } v F ∧ Gone (Go.Lig.Own ρ) w (Go.Lig.Own ρ') w' := by
 have tr : RTrn w w' ρ (.node v.N.length) (fun k => k = b) := ⟨hf.mono (fun _ _ e => e.elim), fun k hk => .inr (by rw [hk]; exact hb0), fun k hk => by rw [hk]; exact hb1⟩
 refine ⟨_, at_turn_same _ _ _, h.upd ho tr (fun L hL => ?_) (fun q hq R hR => ?_), rgone_turn tr⟩
 ·rw [List.getElem?_eq_none (Nat.le_refl _)] at hL
  cases hL
 ·cases q with
  | nrow =>
   obtain ⟨r1, r2, r3⟩ := hR
   refine ⟨?_, r2, r3⟩
   rw [ptrs_congr (y := A.x) (fun i hi => by
    show (if i = v.N.length then b else A.x i) = A.x i
    rw [if_neg (by omega)])]
   exact r1
  | node i =>
   have hi : i ≠ v.N.length := fun e => hq (by rw [e])
   intro L hL
   obtain ⟨H, c1, c2, c3⟩ := hR L hL
   refine ⟨H, ?_, c2, c3⟩
   show RCellAt w' R (if i = v.N.length then b else A.x i) H
   rw [if_neg hi]
   exact c1
  | _ => exact hR
theorem RfAt.nRow (h : RfAt w J ρ s A v F) (ho : Old w J) {b : Nat} (hxb : A.x v.N.length = b) (hat : At ρ (.node v.N.length) = (fun k => k = b)) {a : Option Addr} {n : Nat} (f : Fr (fun k => At ρ .nrow k ∨ k = s) w w') (hcell : w'.heap[b]? = some (.cells #[.slice none 0 0] 129 (0, 0)))
  (o : w'.ownsRow 0 126 1 (.slice a (v.N.length + 1) n) (v.N.length + 1) (ptrs A.x v.N.length ++ [.pointer (some ⟨b, 0, none⟩)])) (hb : ∀ k, (Value.slice a (v.N.length + 1) n).ownBlock = some k → At ρ .nrow k ∨ w.heap.size ≤ k)
  (hr : w'.heap[s]? = some (.cells (rrootCells { A with nv := .slice a (v.N.length + 1) n }) 93 (0, 0))) (hn : v.N.length < 1000) : ∃ ρ', RfAt w' J ρ' s { A with nv := .slice a (v.N.length + 1) n } (vGrowN v) F ∧ Gone (Go.Lig.Own ρ) w (Go.Lig.Own ρ') w' := by
 have hl : (vGrowN v).N.length = v.N.length + 1 := by simp [vGrowN]
 have hbw : b < w'.heap.size := lt_of_block hcell
 refine ⟨_, h.upd3 (p := .nrow) (T := fun k => (Value.slice a (v.N.length + 1) n).ownBlock = some k) ho f hb (fun b hb => (o.lt b hb).2) (by simp) hr ⟨?_, fun k hk => hk, by rw [hl]; omega⟩ (fun q hq hq2 hR => ?_)⟩
 ·rw [hl, ptrs_succ, hxb]
  exact o
 ·cases q with
  | root => exact absurd rfl hq2
  | nrow => exact absurd rfl hq
  | node i =>
   by_cases hi : i = v.N.length
   ·subst hi
    intro L hL
    have hL2 : (v.N ++ [[]])[v.N.length]? = some L := hL
    rw [List.getElem?_append_right (Nat.le_refl _), Nat.sub_self] at hL2
    obtain rfl : [] = L := Option.some.inj hL2
    rw [hat]
    refine ⟨[], ⟨⟨.slice none 0 0, by show w'.heap[A.x v.N.length]? = _; rw [hxb]; exact hcell, World.ownsRow_nil _ _ _ _, fun _ e => (by cases e)⟩, hxb, fun k hk => by rw [hk]; exact hbw, Nat.zero_le _, fun y hy => (by cases hy)⟩, RVers.nil _, Nat.zero_le _⟩
   ·intro L hL
    have hL2 : (v.N ++ [[]])[i]? = some L := hL
    by_cases hi2 : i < v.N.length
    ·rw [List.getElem?_append_left hi2] at hL2
     exact hR L hL2
    ·rw [List.getElem?_eq_none (by simp; omega)] at hL2
     cases hL2
  | _ => exact hR
end
def vAddNode (v : VS) (t : Int) (b : Bool) (d : NodeD) : (Int × Int) × VS :=
 if v.K.live t then (if b then (if v.N.length < 24 then (((v.N.length : Int) + 1, 0), vPut (vGrowN v) t v.N.length d false) else ((0, 3), v)) else ((0, 1), v)) else ((0, 5), v)
set_option maxRecDepth 100000 in
set_option maxHeartbeats 4000000 in
theorem rsaddnode_any (w : World) (J : Nat → Prop) (ρ : Nat → Option Rp) (s : Nat) (A : RAd) (v : VS) (F : Nat) (h : RfAt w J ρ s A v F) (ho : Old w J) (t : Int) (la : Option Addr) (ln lc : Nat) (pa : Option Addr) (pn pc : Nat) (d : NodeD) (hd : NodeIn w J (.slice la ln lc) (.slice pa pn pc) d) (b : Bool) (hF : F < 999990)
  (hIS : ∀ u, Fr No w u → Calls Tryz.prog 16 #[.agg #[.slice la ln lc, .slice pa pn pc]] u fun e w' => e = .returned (.bool b) ∧ Fr No u w') :
  Calls Tryz.prog 34 #[.pointer (some ⟨s, 0, none⟩), .int .i64 t, .agg #[.slice la ln lc, .slice pa pn pc]] w fun e w' => e = .returned (.tuple #[.int .i64 (vAddNode v t b d).1.1, .int .i64 (vAddNode v t b d).1.2]) ∧ RTurns w J ρ s (vAddNode v t b d).2 (F + 1) w' := by
 have hb := heap1 w (.cells #[.slice la ln lc, .slice pa pn pc] 34)
 have hfr : Fr No w (w.alloc (.cells #[.slice la ln lc, .slice pa pn pc] 34)) := (Fr.refl No w).alloc _
 obtain ⟨w0, hw0⟩ : ∃ w0, w.alloc (.cells #[.slice la ln lc, .slice pa pn pc] 34) = w0 := ⟨_, rfl⟩
 rw [hw0] at hb hfr
 have h0 := h.no hfr
 obtain ⟨gk, hck, -⟩ := h0.clock.row
 have HL := hid (rlive_any w0 A.c gk v.K hck t)
 have HIS := hid (hIS w0 hfr)
 obtain ⟨b0, b1⟩ := cells2 hb
 obtain ⟨x0, -⟩ := h0.cells
 obtain ⟨an, cn, hnv⟩ := ownsRow_slice (h0.at_ .nrow).1
 have hrow := (h0.at_ .nrow).1
 have hown := (h0.at_ .nrow).2.1
 rw [hnv] at hrow hown
 have hns : ¬ (Value.slice an v.N.length cn).ownBlock = some s := fun e => by
  have e1 : ρ s = some Rp.nrow := hown s e
  rw [show ρ s = some Rp.root from h0.root] at e1
  cases e1
 have HF := hid (⟨h, h0, ho, hfr, hd, hF, hb⟩ : _ ∧ _ ∧ _ ∧ _ ∧ _ ∧ _ ∧ _)
 have HROW := hid (fun u (hu : Fr No w0 u) => fd_owns hrow hu)
 have HOWN := hid hown
 have hn1 := h0.nlen
 unfold vAddNode
 obtain ⟨m, hm⟩ : ∃ m, v.N.length = m := ⟨_, rfl⟩
 rw [hm] at hnv HROW HOWN hns hn1 ⊢
 have HNV := hid hnv
 have HNS := hid hns
 have HM := hid hm
 clear h h0 ho hfr hd hF hb hck hrow hown hns hnv hm hIS
 cases hl : v.K.live t with
 | false =>
  rw [hl] at HL
  rw [if_neg (by simp)]
  go_enter Tryz.func34, Tryz.ntmps34
  go_wp2_with (go_at_call 72; refine HL.out.mono ?_; rintro e w1 ⟨rfl, rfl⟩)
  go_ret2
  exact ⟨rfl, RTurns.ofNo (HF.out.1.more (Nat.le_succ F)) HF.out.2.2.2.1⟩
 | true =>
  rw [hl] at HL
  rw [if_pos rfl]
  cases b with
  | false =>
   rw [if_neg (by simp)]
   go_enter Tryz.func34, Tryz.ntmps34
   go_wp2_with (first | (go_at_call 72; refine HL.out.mono ?_; rintro e w1 ⟨rfl, rfl⟩) | (go_at_call 16; refine HIS.out.mono ?_; rintro e w1 ⟨rfl, f1⟩; have F1 := hid f1; have x1 := (HF.out.2.1.no F1.out).cells.2.1; rw [HNV.out] at x1; clear f1))
   go_ret2
   exact ⟨rfl, RTurns.ofNo (HF.out.1.more (Nat.le_succ F)) (HF.out.2.2.2.1.thenNo F1.out)⟩
  | true =>
   rw [if_pos rfl]
   by_cases h24 : m < 24
   ·rw [if_pos h24]
    have h24' : ¬ (24 : Int) ≤ (m : Int) := by omega
    clear hl
    go_enter Tryz.func34, Tryz.ntmps34
    go_wp2_with (first | (go_at_call 72; refine HL.out.mono ?_; rintro e w1 ⟨rfl, rfl⟩) | (go_at_call 16; refine HIS.out.mono ?_; rintro e w1 ⟨rfl, f1⟩; have F1 := hid f1; have x1 := (HF.out.2.1.no F1.out).cells.2.1; rw [HNV.out] at x1; clear f1) | (refine wpList_buildSlice1 rfl 91 126 (.tmp 33) rfl _ 1 8 Tryz.underlying91 infoRP (by decide) (by decide) (.pointer (some ⟨w1.heap.size, 0, none⟩)) rfl rfl ?_; intro w5 p5; have P5 := hid (show New #[.pointer (some ⟨w1.heap.size, 0, none⟩)] 126 (w1.alloc (.cells #[.slice none 0 0] 129)) w5 from p5); clear p5) | (at_builtin; (refine wpList_app rfl (.tmp 31) (.tmp 34) 91 rfl 126 (.pointer none) 1 8 Tryz.underlying91 infoRP rfl (by decide) (.slice an m cn) m (ptrs A.x m) rfl (fd_owns (HROW.out w1 F1.out) (((Fr.refl No w1).alloc _).thenNo P5.out.fr)) (.slice (some ⟨(w1.alloc (.cells #[.slice none 0 0] 129)).heap.size, 0, none⟩) 1 1) 1 [.pointer (some ⟨w1.heap.size, 0, none⟩)] rfl (Rd.block P5.out.at_ 1 1 1 rfl (by simp [Value.oneCell']) (Nat.le_refl _) (by simp [maxLen])) (by unfold maxLen; omega) (by omega) ?_; rintro v6 w6 o6 f6 b6 -; obtain ⟨a6, n6, rfl⟩ := ownsRow_slice o6; have X6 := hid (f6.keep (P5.out.keep (((Fr.refl No w1).alloc (.cells #[.slice none 0 0] 129)).keep ((HF.out.2.1.no F1.out).heap) (fun e => e))) HNS.out); have O6 := hid (⟨o6, f6, b6⟩ : _ ∧ _ ∧ _); clear o6 f6 b6)) | (refine wpList_store1 rfl 91 (.tmp 37) (.tmp 35) rfl s 1 rfl _ 93 (.slice a6 (m + 1) n6) rfl (by kernel_rfl) X6.out (by simp [rrootCells]) rfl ?_; intro w7 p7; have P7 := hid (show Put s #[.pointer (some ⟨A.c, 0, none⟩), .slice a6 (m + 1) n6, A.ev, A.dv, A.fv] 93 w6 w7 from p7); clear p7))
    have hm := HM.out
    subst hm
    obtain ⟨h, h0, ho, hfr, hd, hF, hb⟩ := HF.out
    obtain ⟨o6, f6, b6⟩ := O6.out
    have h1 := h0.no F1.out
    have fw1 : Fr No w w1 := hfr.thenNo F1.out
    have fa : Fr No w1 (w1.alloc (.cells #[.slice none 0 0] 129)) := (Fr.refl No w1).alloc _
    have ha : w1.heap.size < (w1.alloc (.cells #[.slice none 0 0] 129)).heap.size := by simp
    have hcell0 := heap1 w1 (.cells #[.slice none 0 0] 129)
    obtain ⟨ρ2, hat, h2, G2⟩ := h1.nNew (ho.next fw1) fa (Nat.le_refl _) ha
    have hown2 : ∀ k, (Value.slice an v.N.length cn).ownBlock = some k → At ρ2 .nrow k := by
     have := (h2.at_ .nrow).2.1
     dsimp only at this
     rw [HNV.out] at this
     exact this
    have f7 : Fr (fun k => At ρ2 .nrow k ∨ k = s) (w1.alloc (.cells #[.slice none 0 0] 129)) w7 := ((P5.out.fr.mono (fun _ _ e => e.elim)).thenS (f6.mono (fun k _ e => .inl (hown2 k e)))).thenS (P7.out.fr.mono (fun k _ e => .inr e))
    have hb6 : ∀ k, (Value.slice a6 (v.N.length + 1) n6).ownBlock = some k → At ρ2 .nrow k ∨ (w1.alloc (.cells #[.slice none 0 0] 129)).heap.size ≤ k := fun k hk => by
     rcases b6 k hk with e | e
     ·exact .inl (hown2 k e)
     ·exact .inr (Nat.le_trans P5.out.fr.size e)
    have hsz := h1.lt
    have hne : ∀ k, (Value.slice a6 (v.N.length + 1) n6).ownBlock = some k → k ≠ s := fun k hk e => by
     subst e
     rcases hb6 k hk with e1 | e1
     ·have e2 : ρ2 k = some Rp.nrow := e1
      rw [show ρ2 k = some Rp.root from h2.root] at e2
      cases e2
     ·omega
    have hnb : ∀ k, w.heap.size ≤ k → ¬ (Value.slice an v.N.length cn).ownBlock = some k := fun k hk e => by
     have e1 : ρ k = some Rp.nrow := HOWN.out k e
     have := h.bound k (by rw [e1]; simp)
     omega
    have hcell7 := P7.out.fr.keep (f6.keep (P5.out.keep hcell0) (hnb _ fw1.size)) (fun e => by omega)
    have hwl := h.lt
    have hb7 := P7.out.fr.keep (f6.keep (P5.out.keep (fa.keep (F1.out.keep hb (fun e => e)) (fun e => e))) (hnb _ (Nat.le_refl _))) (fun e => by omega)
    have ep : ptrs (fun i => if i = v.N.length then w1.heap.size else A.x i) v.N.length = ptrs A.x v.N.length := ptrs_congr (fun i hi => if_neg (by omega))
    obtain ⟨ρ3, h3, G3⟩ := h2.nRow (b := w1.heap.size) ((ho.next fw1).next fa) (by dsimp only; rw [if_pos rfl]) hat f7 hcell7 (by dsimp only; rw [ep]; exact P7.out.fr.owns o6 hne) hb6 P7.out.at_ (by omega)
    have x7 := h3.cells.2.1
    dsimp only at x7
    obtain ⟨c0, c1⟩ := cells2 hb7
    have hd7 := (((hd.frame fw1 (fun _ _ e => e)).frame fa (fun _ _ e => e)).frame f7 (h2.jnot (p := .nrow))).frame (Fr.refl No w7).drew (fun _ _ e => e)
    have ho7 : Old w7.drew J := (((ho.next fw1).next fa).next f7).next (Fr.refl No w7).drew
    have HP := hid (rsputnode_any w7.drew J ρ3 s _ (vGrowN v) F (h3.no (Fr.refl No w7).drew) ho7 t (k := v.N.length) (by simp [vGrowN]) la ln lc pa pn pc d hd7 false hF)
    have HG := hid (show Gone (Go.Lig.Own ρ) w (Go.Lig.Own ρ3) w7.drew from (((Gone.no fw1).trans G2).trans G3).nextNo (Fr.refl No w7).drew)
    have HLT := hid (⟨lt_of_block hb7, h3.lt⟩ : _ ∧ _)
    clear h h0 ho hfr hd hF hb o6 f6 b6 h1 fw1 fa ha hcell0 hat h2 G2 hown2 f7 hb6 hsz hne hnb hcell7 hwl hb7 ep h3 G3 hd7 ho7 b0 b1 x0 x1
    generalize hNe : v.N.length = m at *
    go_wp2_with fail
    refine wp_region_sched (by kernel_rfl) 8 [8] [0, 1, 2, 3, 4, 5, 6, 7, 8] (AgC [s, w.heap.size] w7.drew) (by kernel_rfl) (AgC.refl _ _) ?_
    simp only [List.map_cons, List.map_nil, List.contains_cons, List.contains_nil, nth_zero, nth_succ, Nat.reduceBEq, Bool.false_or, Bool.or_false, Bool.or_true, Bool.true_or]
    repeat (refine sched_quiet (fun K hK => ?_); go_simp; refine hK _ ?_; clear hK K)
    refine sched_callL ?_ 73 #[.pointer (some ⟨s, 0, none⟩), .int .i64 t, .int .i64 ((m : Int) + 1), .agg #[.slice la ln lc, .slice pa pn pc], .bool false] ?_ HP.out ?_
    focus (first | rfl | (go_simp; done))
    focus (first | rfl | (go_simp; done))
    rintro e w8 ⟨rfl, ρ8, A8, h8, G8⟩
    refine ⟨_, rfl, ?_⟩
    refine sched_nil ?_
    have x8 := h8.cells.2.1
    obtain ⟨a8, c8, hnv8⟩ := ownsRow_slice (h8.at_ .nrow).1
    have e8 : (vPut (vGrowN v) t m d false).N.length = m + 1 := by simp [vPut, vGrowN, hNe]
    rw [hnv8, e8] at x8
    have H8 := hid (⟨h8, G8⟩ : _ ∧ _)
    clear h8 G8 hnv8 e8 c0 c1 x7
    go_wp2_with fail
    subst hNe
    go_ret2
    exact ⟨rfl, ρ8, A8, H8.out.1, HG.out.trans H8.out.2⟩
   ·rw [if_neg h24]
    have h24' : (24 : Int) ≤ (m : Int) := by omega
    go_enter Tryz.func34, Tryz.ntmps34
    go_wp2_with (first | (go_at_call 72; refine HL.out.mono ?_; rintro e w1 ⟨rfl, rfl⟩) | (go_at_call 16; refine HIS.out.mono ?_; rintro e w1 ⟨rfl, f1⟩; have F1 := hid f1; have x1 := (HF.out.2.1.no F1.out).cells.2.1; rw [HNV.out] at x1; clear f1))
    go_ret2
    exact ⟨rfl, RTurns.ofNo (HF.out.1.more (Nat.le_succ F)) (HF.out.2.2.2.1.thenNo F1.out)⟩
end Go.Proofs.YthadcdoepoglkaaGreatDoor
