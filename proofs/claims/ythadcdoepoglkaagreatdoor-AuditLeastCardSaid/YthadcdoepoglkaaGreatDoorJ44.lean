/- A part of the proof: contracts of functions of the program, for the row's text. -/
import Derived.Test.YthadcdoepoglkaaGreatDoorJ42
import Derived.Test.YthadcdoepoglkaaGreatDoorJ10
import Derived.Test.YthadcdoepoglkaaGreatDoorJ07
import Derived.Test.YthadcdoepoglkaaGreatDoorJ27
import Derived.Test.YthadcdoepoglkaaGreatDoorJ03
import Derived.Test.YthadcdoepoglkaaGreatDoorJ14
import Derived.Test.YthadcdoepoglkaaGreatDoorJ25
import Derived.Test.YthadcdoepoglkaaGreatDoorJ19
import Derived.Test.YthadcdoepoglkaaGreatDoorJ39
import Derived.Test.YthadcdoepoglkaaGreatDoorJ23
namespace Go.Proofs.YthadcdoepoglkaaGreatDoor
open Go.RowKit Go.Lig
def OOk (O : List (Int × Int)) (D : Nat → Option Int) (T : Nat → Bool) : Prop := ∀ g id : Int, (g, id) ∈ O ↔ ∃ k : Nat, id = (k : Int) + 1 ∧ D k = some g ∧ T k = true
structure OBut (O : List (Int × Int)) (D : Nat → Option Int) (T : Nat → Bool) (k : Nat) : Prop where
 o : ∀ g id : Int, id ≠ (k : Int) + 1 → ((g, id) ∈ O ↔ ∃ j : Nat, id = (j : Int) + 1 ∧ D j = some g ∧ T j = true)
 k : ∀ g : Int, (g, (k : Int) + 1) ∈ O → D k = some g
theorem mem_addI {O : List (Int × Int)} {f x : Int} {p : Int × Int} : p ∈ addI O f x ↔ p = (f, x) ∨ p ∈ O := by
 unfold addI
 split
 ·rename_i h
  exact ⟨.inr, fun e => e.elim (fun q => by rw [q]; exact h) id⟩
 ·exact List.mem_cons
theorem mem_cutI {O : List (Int × Int)} {f x : Int} {p : Int × Int} : p ∈ cutI O f x ↔ p ∈ O ∧ p ≠ (f, x) := by
 unfold cutI
 rw [List.mem_filter]
 simp
theorem OBut.link {O : List (Int × Int)} {D : Nat → Option Int} {T : Nat → Bool} {k : Nat} (h : OBut O D T k) {f : Int} (hf : D k = some f) : OOk (if T k then addI O f ((k : Int) + 1) else cutI O f ((k : Int) + 1)) D T := by
 intro g id
 by_cases e : id = (k : Int) + 1
 ·subst e
  have one : (∃ j : Nat, (k : Int) + 1 = (j : Int) + 1 ∧ D j = some g ∧ T j = true) ↔ D k = some g ∧ T k = true := by
   constructor
   ·rintro ⟨j, e, h1⟩
    obtain rfl : k = j := by omega
    exact h1
   ·exact fun h1 => ⟨k, rfl, h1⟩
  rw [one]
  cases ht : T k with
  | true =>
   rw [if_pos rfl, mem_addI]
   constructor
   ·rintro (q | q)
    ·obtain rfl : g = f := by injection q
     exact ⟨hf, rfl⟩
    ·exact ⟨h.k g q, rfl⟩
   ·rintro ⟨q, -⟩
    obtain rfl := Option.some.inj (hf.symm.trans q)
    exact .inl rfl
  | false =>
   rw [if_neg (by simp), mem_cutI]
   constructor
   ·rintro ⟨q1, q2⟩
    have := h.k g q1
    obtain rfl := Option.some.inj (hf.symm.trans this)
    exact absurd rfl q2
   ·rintro ⟨-, q⟩
    cases q
 ·rw [← h.o g id e]
  split
  ·rw [mem_addI]
   exact ⟨fun q => q.elim (fun q => absurd (by injection q) e) (fun q => q), .inr⟩
  ·rw [mem_cutI]
   exact ⟨fun q => q.1, fun q => ⟨q, fun q2 => e (by injection q2)⟩⟩
theorem OOk.but {O : List (Int × Int)} {D D' : Nat → Option Int} {T T' : Nat → Bool} (h : OOk O D T) {k : Nat} (hD : ∀ j, j ≠ k → D' j = D j) (hT : ∀ j, j ≠ k → T' j = T j) (hk : ∀ g, (g, (k : Int) + 1) ∈ O → D' k = some g) : OBut O D' T' k := by
 refine ⟨fun g id e => ?_, hk⟩
 rw [h g id]
 constructor
 ·rintro ⟨j, rfl, h1, h2⟩
  have : j ≠ k := fun q => e (by rw [q])
  exact ⟨j, rfl, by rw [hD j this]; exact h1, by rw [hT j this]; exact h2⟩
 ·rintro ⟨j, rfl, h1, h2⟩
  have : j ≠ k := fun q => e (by rw [q])
  exact ⟨j, rfl, by rw [← hD j this]; exact h1, by rw [← hT j this]; exact h2⟩
theorem OOk.at_ {O : List (Int × Int)} {D : Nat → Option Int} {T : Nat → Bool} (h : OOk O D T) {k : Nat} {g : Int} (hm : (g, (k : Int) + 1) ∈ O) : D k = some g := by
 obtain ⟨j, e, h1, -⟩ := (h g _).1 hm
 obtain rfl : k = j := by omega
 exact h1
def dF (M : PSt) (k : Nat) : Option Int := (M.D[k]?).map (·.1)
def dT (M : PSt) (k : Nat) : Option Int := (M.D[k]?).map (·.2)
def thE (M : PSt) (k : Nat) : Bool := there (M.E[k]?.getD [])
structure LinkOk (M : PSt) : Prop where
 dl : M.D.length = M.E.length
 dd : ∀ (k : Nat) y, y ∈ (M.E[k]?.getD []) → y.gone = false → M.D[k]? = some (y.v.from_, y.v.to_)
 oo : OOk M.O (dF M) (thE M)
 ii : OOk M.I (dT M) (thE M)
theorem linkM_D (M : PSt) (k : Nat) : (linkM M k).D = M.D := by
 unfold linkM
 split
 ·split <;> rfl
 ·rfl
theorem linkM_K (M : PSt) (k : Nat) : (linkM M k).K = M.K := by
 unfold linkM
 split
 ·split <;> rfl
 ·rfl
theorem linkM_N (M : PSt) (k : Nat) : (linkM M k).N = M.N := by
 unfold linkM
 split
 ·split <;> rfl
 ·rfl
theorem linkM_X (M : PSt) (k : Nat) : (linkM M k).X = M.X ∧ (linkM M k).Y = M.Y := by
 unfold linkM
 split
 ·split <;> exact ⟨rfl, rfl⟩
 ·exact ⟨rfl, rfl⟩
theorem linkM_vs (M : PSt) (k : Nat) : (linkM M k).vs = M.vs := by
 unfold PSt.vs
 rw [linkM_K, linkM_N, linkM_E]
theorem LinkOk.link {M : PSt} {k : Nat} (dl : M.D.length = M.E.length) (hk : k < M.E.length) (dd : ∀ (k : Nat) y, y ∈ (M.E[k]?.getD []) → y.gone = false → M.D[k]? = some (y.v.from_, y.v.to_)) (h1 : OBut M.O (dF M) (thE M) k) (h2 : OBut M.I (dT M) (thE M) k) : LinkOk (linkM M k) := by
 have hD : M.D[k]? = some M.D[k] := List.getElem?_eq_getElem (by omega)
 have e1 : dF (linkM M k) = dF M := by funext j; unfold dF; rw [linkM_D]
 have e2 : dT (linkM M k) = dT M := by funext j; unfold dT; rw [linkM_D]
 have e3 : thE (linkM M k) = thE M := by funext j; unfold thE; rw [linkM_E]
 have f1 := h1.link (f := M.D[k].1) (by unfold dF; rw [hD]; rfl)
 have f2 := h2.link (f := M.D[k].2) (by unfold dT; rw [hD]; rfl)
 have eO : (linkM M k).O = if thE M k then addI M.O M.D[k].1 ((k : Int) + 1) else cutI M.O M.D[k].1 ((k : Int) + 1) := by
  unfold linkM thE
  rw [hD]
  dsimp only
  split <;> rfl
 have eI : (linkM M k).I = if thE M k then addI M.I M.D[k].2 ((k : Int) + 1) else cutI M.I M.D[k].2 ((k : Int) + 1) := by
  unfold linkM thE
  rw [hD]
  dsimp only
  split <;> rfl
 refine ⟨by rw [linkM_D, linkM_E]; exact dl, fun j y hy hg => by rw [linkM_E] at hy; rw [linkM_D]; exact dd j y hy hg, ?_, ?_⟩
 ·rw [eO, e1, e3]; exact f1
 ·rw [eI, e2, e3]; exact f2
theorem LinkOk.fewer {M M' : PSt} (h : LinkOk M) {k : Nat} {L : List (Ver EdgeV)} (hk : k < M.E.length) (hE : M'.E = M.E.set k L) (hD : M'.D = M.D) (hO : M'.O = M.O) (hI : M'.I = M.I) (hs : ∀ y ∈ L, y.gone = false → y ∈ M.E[k]?.getD []) : LinkOk (linkM M' k) := by
 have hT : ∀ j, j ≠ k → thE M' j = thE M j := fun j hj => by unfold thE; rw [hE, List.getElem?_set_ne (fun e => hj e.symm)]
 have d1 : dF M' = dF M := by funext j; unfold dF; rw [hD]
 have d2 : dT M' = dT M := by funext j; unfold dT; rw [hD]
 refine LinkOk.link (by rw [hD, hE, List.length_set]; exact h.dl) (by rw [hE, List.length_set]; exact hk) (fun j y hy hg => ?_) ?_ ?_
 ·rw [hD]
  by_cases e : j = k
  ·subst e
   rw [hE, List.getElem?_set_self hk] at hy
   exact h.dd j y (hs y hy hg) hg
  ·rw [hE, List.getElem?_set_ne (fun q => e q.symm)] at hy
   exact h.dd j y hy hg
 ·rw [hO]; exact h.oo.but (fun j _ => by rw [d1]) hT (fun g hm => by rw [d1]; exact h.oo.at_ hm)
 ·rw [hI]; exact h.ii.but (fun j _ => by rw [d2]) hT (fun g hm => by rw [d2]; exact h.ii.at_ hm)
theorem LinkOk.undos {M : PSt} (h : LinkOk M) (t : Int) : ∀ j, j ≤ M.E.length → LinkOk (undoEs t M j)
 | 0, _ => h
 | j + 1, hj => by
  have ih := LinkOk.undos h t j (by omega)
  have hl := undoEs_len t M j
  refine ih.fewer (M' := undoEM (undoEs t M j) t j) (k := j) (L := undoV t ((undoEs t M j).E[j]?.getD [])) (by omega) rfl rfl rfl rfl (fun y hy _ => ?_)
  exact (List.mem_filter.1 hy).1
theorem LinkOk.same {M M' : PSt} (h : LinkOk M) (hE : M'.E = M.E) (hD : M'.D = M.D) (hO : M'.O = M.O) (hI : M'.I = M.I) : LinkOk M' := by
 have d1 : dF M' = dF M := by funext j; unfold dF; rw [hD]
 have d2 : dT M' = dT M := by funext j; unfold dT; rw [hD]
 have d3 : thE M' = thE M := by funext j; unfold thE; rw [hE]
 exact ⟨by rw [hD, hE]; exact h.dl, fun k y hy hg => by rw [hE] at hy; rw [hD]; exact h.dd k y hy hg, by rw [hO, d1, d3]; exact h.oo, by rw [hI, d2, d3]; exact h.ii⟩
theorem LinkOk.tieNew {M : PSt} (h : LinkOk M) (t : Int) (v : EdgeV) : LinkOk (tieM (growE M) t M.E.length v false) := by
 have hw : writeV M.K t v false ([] : List (Ver EdgeV)) = [⟨t, v, false⟩] := rfl
 have hEl : (growE M).E = M.E ++ [[]] := rfl
 have hDl : (growE M).D = M.D ++ [(0, 0)] := rfl
 have hk : M.E.length < (M.E ++ [[]]).length := by simp
 have e0 : (M.E ++ [([] : List (Ver EdgeV))])[M.E.length]?.getD [] = [] := by simp
 have eE : (writeE (endsM (growE M) M.E.length v false) t M.E.length v false).E = (M.E ++ [[]]).set M.E.length [⟨t, v, false⟩] := by
  show ((growE M).E).set M.E.length (writeV M.K t v false ((growE M).E[M.E.length]?.getD [])) = _
  rw [hEl, e0, hw]
 have eD : (writeE (endsM (growE M) M.E.length v false) t M.E.length v false).D = (M.D ++ [(0, 0)]).set M.E.length (v.from_, v.to_) := rfl
 have no : ∀ (O : List (Int × Int)) (D : Nat → Option Int), OOk O D (thE M) → (∀ j, M.E.length ≤ j → D j = none) → ∀ g, (g, ((M.E.length : Nat) : Int) + 1) ∉ O := fun O D hO hD g hm => by
  have := hO.at_ hm
  rw [hD _ (Nat.le_refl _)] at this
  cases this
 have n1 := no M.O (dF M) h.oo (fun j hj => by unfold dF; rw [List.getElem?_eq_none (by have := h.dl; omega)]; rfl)
 have n2 := no M.I (dT M) h.ii (fun j hj => by unfold dT; rw [List.getElem?_eq_none (by have := h.dl; omega)]; rfl)
 unfold tieM
 have hT : ∀ j, j ≠ M.E.length → thE (writeE (endsM (growE M) M.E.length v false) t M.E.length v false) j = thE M j := fun j hj => by
  unfold thE
  rw [eE, List.getElem?_set_ne (fun e => hj e.symm)]
  by_cases hlt : j < M.E.length
  ·rw [List.getElem?_append_left hlt]
  ·rw [List.getElem?_eq_none (by simp; omega), List.getElem?_eq_none (by omega)]
 have hDj : ∀ j, j ≠ M.E.length → (writeE (endsM (growE M) M.E.length v false) t M.E.length v false).D[j]? = M.D[j]? := fun j hj => by
  rw [eD, List.getElem?_set_ne (fun e => hj e.symm)]
  have := h.dl
  by_cases hlt : j < M.D.length
  ·rw [List.getElem?_append_left hlt]
  ·rw [List.getElem?_eq_none (by simp; omega), List.getElem?_eq_none (by omega)]
 refine LinkOk.link (by rw [eE, eD]; simp [h.dl]) (by rw [eE]; simp) (fun j y hy hg => ?_) ?_ ?_
 ·by_cases e : j = M.E.length
  ·subst e
   rw [eE, List.getElem?_set_self hk] at hy
   rw [eD, List.getElem?_set_self (by simp [h.dl])]
   obtain rfl : y = ⟨t, v, false⟩ := by simpa using hy
   rfl
  ·rw [eE, List.getElem?_set_ne (fun q => e q.symm)] at hy
   rw [hDj j e]
   by_cases hlt : j < M.E.length
   ·rw [List.getElem?_append_left hlt] at hy
    exact h.dd j y hy hg
   ·rw [List.getElem?_eq_none (by simp; omega)] at hy
    cases hy
 ·exact h.oo.but (fun j hj => by unfold dF; rw [hDj j hj]) hT (fun g hm => absurd hm (n1 g))
 ·exact h.ii.but (fun j hj => by unfold dT; rw [hDj j hj]) hT (fun g hm => absurd hm (n2 g))
end Go.Proofs.YthadcdoepoglkaaGreatDoor
namespace Go.Proofs.YthadcdoepoglkaaGreatDoor
open Go.RowKit Go.Lig
def tot {α : Type} (N : List (List α)) : Nat := (N.map List.length).sum
def Small (d : NodeD) : Prop := d.L.length ≤ 3 ∧ d.Q.length ≤ 3
structure Room (p : PF) (a b c : Nat) : Prop where
 ny : p.1.Y.length = p.1.N.length
 sm : ∀ L ∈ p.1.N, ∀ y ∈ L, Small y.v
 yl : ∀ k : Nat, (p.1.Y[k]?.getD []).length ≤ costV (p.1.N[k]?.getD [])
 n24 : p.1.N.length ≤ 24
 e32 : p.1.E.length ≤ 32
 tn : tot p.1.N ≤ a
 te : tot p.1.E ≤ b
 F : p.2 + 3000 * tot p.1.N + 2 * tot p.1.E ≤ c
theorem Room.mono {p : PF} {a b c a' b' c' : Nat} (h : Room p a b c) (ha : a ≤ a') (hb : b ≤ b') (hc : c ≤ c') : Room p a' b' c' := ⟨h.ny, h.sm, h.yl, h.n24, h.e32, Nat.le_trans h.tn ha, Nat.le_trans h.te hb, Nat.le_trans h.F hc⟩
theorem costV_small {L : List (Ver NodeD)} (h : ∀ y ∈ L, Small y.v) : costV L ≤ 6 * L.length := by
 induction L with
 | nil => simp [costV]
 | cons y L ih =>
  have h1 := h y (List.mem_cons_self ..)
  have h2 := ih (fun z hz => h z (List.mem_cons_of_mem _ hz))
  have e : costV (y :: L) = (y.v.L.length + y.v.Q.length) + costV L := by simp [costV]
  have h3 := h1.1
  have h4 := h1.2
  rw [e, List.length_cons]
  omega
theorem tot_get {α : Type} : ∀ (N : List (List α)) (k : Nat), (N[k]?.getD []).length ≤ tot N
 | [], k => by simp [tot]
 | L :: N, 0 => by simp [tot]
 | L :: N, k + 1 => by
  have := tot_get N k
  simp only [tot, List.getElem?_cons_succ, List.map_cons, List.sum_cons] at *
  omega
theorem tot_set {α : Type} : ∀ (N : List (List α)) (k : Nat) (L : List α), k < N.length → tot (N.set k L) + (N[k]?.getD []).length = tot N + L.length
 | [], k, L, h => by simp at h
 | L0 :: N, 0, L, _ => by simp [tot]; omega
 | L0 :: N, k + 1, L, h => by
  have := tot_set N k L (by simpa using h)
  simp only [tot, List.getElem?_cons_succ, List.map_cons, List.sum_cons, List.set_cons_succ] at *
  omega
theorem tot_snoc {α : Type} (N : List (List α)) : tot (N ++ [[]]) = tot N := by simp [tot]
theorem finds_len (M : PSt) (k : Nat) : (findsX M k).2.length ≤ costV (M.N[k]?.getD []) := by
 unfold findsX
 have := runV_len ((k : Int) + 1) (M.N[k]?.getD []) (delAll M.X (M.Y[k]?.getD []), [])
 simpa using this
theorem Room.at_ {p : PF} {a b c : Nat} (h : Room p a b c) (k : Nat) : ∀ y ∈ p.1.N[k]?.getD [], Small y.v := fun y hy => by
 cases hk : p.1.N[k]? with
 | none => rw [hk] at hy; cases hy
 | some L => rw [hk] at hy; exact h.sm L (List.mem_of_getElem? hk) y hy
theorem Room.cost {p : PF} {a b c : Nat} (h : Room p a b c) (k : Nat) : costV (p.1.N[k]?.getD []) ≤ 6 * (p.1.N[k]?.getD []).length := costV_small (h.at_ k)
theorem Room.fin {p : PF} {a b c : Nat} (h : Room p a b c) {M' : PSt} {k : Nat} {L : List (Ver NodeD)} (hk : k < p.1.N.length) (hN : M'.N = p.1.N.set k L) (hY : M'.Y = p.1.Y) (hL : ∀ y ∈ L, Small y.v) (F : Nat) : finF M' k F ≤ F + 6 * (p.1.N[k]?.getD []).length + 12 * L.length := by
 unfold finF
 have e : M'.N[k]?.getD [] = L := by rw [hN, List.getElem?_set_self hk]; rfl
 rw [e, hY]
 have h1 := h.yl k
 have h2 := h.cost k
 have h3 := costV_small hL
 omega
theorem Room.finds {p : PF} {a b c a' c' : Nat} (h : Room p a b c) {M' : PSt} {k : Nat} {L : List (Ver NodeD)} (hk : k < p.1.N.length) (hN : M'.N = p.1.N.set k L) (hY : M'.Y = p.1.Y) (hE : M'.E = p.1.E) (hL : ∀ y ∈ L, Small y.v) {F' : Nat}
  (ht : tot (p.1.N.set k L) ≤ a') (hF : F' + 3000 * tot (p.1.N.set k L) + 2 * tot p.1.E ≤ c') : Room (findsM M' k, F') a' b c' := by
 have eN : (findsM M' k).N = p.1.N.set k L := hN
 have eY : (findsM M' k).Y = p.1.Y.set k (findsX M' k).2 := by show M'.Y.set k _ = _; rw [hY]
 have eE : (findsM M' k).E = p.1.E := hE
 refine ⟨?_, fun L' hL' => ?_, fun j => ?_, ?_, ?_, ?_, ?_, ?_⟩
 ·show (findsM M' k).Y.length = (findsM M' k).N.length
  rw [eN, eY, List.length_set, List.length_set]
  exact h.ny
 ·have hL2 : L' ∈ p.1.N.set k L := by rw [← eN]; exact hL'
  rcases List.mem_or_eq_of_mem_set hL2 with q | rfl
  ·exact h.sm L' q
  ·exact hL
 ·show ((findsM M' k).Y[j]?.getD []).length ≤ costV ((findsM M' k).N[j]?.getD [])
  rw [eN, eY]
  by_cases e : k = j
  ·subst e
   rw [List.getElem?_set_self (by have := h.ny; omega), List.getElem?_set_self hk]
   have := finds_len M' k
   rw [hN, List.getElem?_set_self hk] at this
   exact this
  ·rw [List.getElem?_set_ne e, List.getElem?_set_ne e]
   exact h.yl j
 ·show (findsM M' k).N.length ≤ 24
  rw [eN, List.length_set]; exact h.n24
 ·show (findsM M' k).E.length ≤ 32
  rw [eE]; exact h.e32
 ·show tot (findsM M' k).N ≤ a'
  rw [eN]; exact ht
 ·show tot (findsM M' k).E ≤ b
  rw [eE]; exact h.te
 ·show F' + 3000 * tot (findsM M' k).N + 2 * tot (findsM M' k).E ≤ c'
  rw [eN, eE]; exact hF
theorem writeV_small {K : Ck} {t : Int} {d : NodeD} {g : Bool} {L : List (Ver NodeD)} (h : ∀ y ∈ L, Small y.v) (hd : Small d) : ∀ y ∈ writeV K t d g L, Small y.v := fun y hy => by
 unfold writeV at hy
 split at hy
 ·exact h y hy
 ·split at hy
  ·split at hy
   ·rcases List.mem_append.1 hy with e | e
    ·exact h y (List.mem_of_mem_take (by rw [List.dropLast_eq_take] at e; exact e))
    ·rw [List.mem_singleton.1 e]; exact hd
   ·rcases List.mem_append.1 hy with e | e
    ·exact h y e
    ·rw [List.mem_singleton.1 e]; exact hd
  ·rcases List.mem_append.1 hy with e | e
   ·exact h y e
   ·rw [List.mem_singleton.1 e]; exact hd
theorem Room.put {p : PF} {a b c : Nat} (h : Room p a b c) (ha : a ≤ 160) (hc : c ≤ 980000) {k : Nat} (hk : k < p.1.N.length) (t : Int) {d : NodeD} (hd : Small d) (g : Bool) : okPut p t k d g = true ∧ Room (exPut p t k d g) (a + 1) b (c + 5900) := by
 have hs := writeV_small (K := p.1.K) (t := t) (g := g) (h.at_ k) hd
 have hl := writeV_len p.1.K t d g (p.1.N[k]?.getD [])
 have ht := tot_set p.1.N k (writeV p.1.K t d g (p.1.N[k]?.getD [])) hk
 have hg := tot_get p.1.N k
 have hF := h.F
 have htn := h.tn
 have hf := h.fin (M' := putM p.1 t k d g) hk rfl rfl hs (p.2 + 1)
 refine ⟨?_, h.finds (M' := putM p.1 t k d g) hk rfl rfl rfl hs (by omega) (by show finF (putM p.1 t k d g) k (p.2 + 1) + _ + _ ≤ _; omega)⟩
 unfold okPut
 rw [decide_eq_true hk, decide_eq_true (by rw [h.ny]; exact hk), decide_eq_true (show finF (putM p.1 t k d g) k (p.2 + 1) < 999990 by omega)]
 rfl
theorem tot_drop {α : Type} (N : List (List α)) (i : Nat) : tot (N.drop i) = (N[i]?.getD []).length + tot (N.drop (i + 1)) := by
 by_cases h : i < N.length
 ·rw [List.drop_eq_getElem_cons h, List.getElem?_eq_getElem h]
  unfold tot
  rw [List.map_cons, List.sum_cons]
  rfl
 ·rw [List.drop_eq_nil_of_le (by omega), List.drop_eq_nil_of_le (by omega), List.getElem?_eq_none (by omega)]
  simp [tot]
theorem tot_drop_le {α : Type} (N : List (List α)) (i : Nat) : tot (N.drop i) ≤ tot N := by
 have h : tot (N.take i ++ N.drop i) = tot (N.take i) + tot (N.drop i) := by unfold tot; rw [List.map_append, List.sum_append]
 rw [List.take_append_drop] at h
 omega
theorem Room.undo {t : Int} : ∀ (m i : Nat) (p : PF) (a b c : Nat), Room p a b c → a ≤ 160 → c + 18 * tot (p.1.N.drop i) ≤ 990000 → p.1.N.length = i + m → okUndo t m i p = true ∧ Room (exUndo t m i p) a b (c + 18 * tot (p.1.N.drop i))
 | 0, i, p, a, b, c, h, _, _, _ => ⟨rfl, h.mono (Nat.le_refl _) (Nat.le_refl _) (Nat.le_add_right _ _)⟩
 | m + 1, i, p, a, b, c, h, ha, hc, hl => by
  have hi : i < p.1.N.length := by omega
  have hsub : ∀ y ∈ undoV t (p.1.N[i]?.getD []), Small y.v := fun y hy => h.at_ i y (List.mem_filter.1 hy).1
  have hul := undoV_len t (p.1.N[i]?.getD [])
  have ht := tot_set p.1.N i (undoV t (p.1.N[i]?.getD [])) hi
  have hf := h.fin (M' := undoNM p.1 t i) hi rfl rfl hsub p.2
  have hd := tot_drop p.1.N i
  have hF := h.F
  have htn := h.tn
  have h1 : Room (exUndo1 t p i) a b (c + 18 * (p.1.N[i]?.getD []).length) := h.finds (M' := undoNM p.1 t i) hi rfl rfl rfl hsub (by omega) (by show finF (undoNM p.1 t i) i p.2 + _ + _ ≤ _; omega)
  have e1 : (exUndo1 t p i).1.N = p.1.N.set i (undoV t (p.1.N[i]?.getD [])) := rfl
  have e2 : (exUndo1 t p i).1.N.drop (i + 1) = p.1.N.drop (i + 1) := by rw [e1, List.drop_set_of_lt (by omega)]
  obtain ⟨h2, h3⟩ := Room.undo (t := t) m (i + 1) (exUndo1 t p i) a b _ h1 ha (by rw [e2]; omega) (by rw [e1, List.length_set]; omega)
  rw [e2] at h3
  refine ⟨?_, h3.mono (Nat.le_refl _) (Nat.le_refl _) (by omega)⟩
  unfold okUndo
  rw [decide_eq_true (show i < p.1.Y.length by rw [h.ny]; exact hi), decide_eq_true (show finF (undoNM p.1 t i) i p.2 < 999990 by omega), h2]
  rfl
theorem undoEs_tot (t : Int) (M : PSt) : ∀ j, j ≤ M.E.length → tot (undoEs t M j).E ≤ tot M.E
 | 0, _ => Nat.le_refl _
 | j + 1, hj => by
  have ih := undoEs_tot t M j (by omega)
  have hl := undoEs_len t M j
  have e : (undoEs t M (j + 1)).E = (undoEs t M j).E.set j (undoV t ((undoEs t M j).E[j]?.getD [])) := linkM_E _ _
  have ht := tot_set (undoEs t M j).E j (undoV t ((undoEs t M j).E[j]?.getD [])) (by omega)
  have hu := undoV_len t ((undoEs t M j).E[j]?.getD [])
  rw [e]
  omega
theorem undoEs_N (t : Int) (M : PSt) : ∀ j, (undoEs t M j).N = M.N ∧ (undoEs t M j).Y = M.Y ∧ (undoEs t M j).K = M.K ∧ (undoEs t M j).D = M.D
 | 0 => ⟨rfl, rfl, rfl, rfl⟩
 | j + 1 => by
  obtain ⟨h1, h2, h3, h4⟩ := undoEs_N t M j
  exact ⟨(linkM_N _ _).trans h1, (linkM_X _ _).2.trans h2, (linkM_K _ _).trans h3, (linkM_D _ _).trans h4⟩
theorem Room.abort {p : PF} {a b c : Nat} (h : Room p a b c) (ha : a ≤ 160) (hc : c ≤ 980000) (t : Int) : okAbort p t = true ∧ Room (exAbort p t) a b (c + 2944) := by
 have h0 : Room ({ p.1 with K := p.1.K.abort t }, p.2) a b c := ⟨h.ny, h.sm, h.yl, h.n24, h.e32, h.tn, h.te, h.F⟩
 have htn := h.tn
 have hd := tot_drop_le p.1.N 0
 obtain ⟨h1, h2⟩ := Room.undo (t := t) p.1.N.length 0 ({ p.1 with K := p.1.K.abort t }, p.2) a b c h0 ha (by show c + 18 * tot (p.1.N.drop 0) ≤ _; omega) (by simp)
 have h3 : Room (exAb0 p t) a b (c + 18 * tot (p.1.N.drop 0)) := h2
 have hF := h3.F
 have hte := undoEs_tot t (exAb0 p t).1 (exAb0 p t).1.E.length (Nat.le_refl _)
 obtain ⟨e1, e2, e3, e4⟩ := undoEs_N t (exAb0 p t).1 (exAb0 p t).1.E.length
 have el := undoEs_len t (exAb0 p t).1 (exAb0 p t).1.E.length
 have he := h3.e32
 refine ⟨?_, ?_⟩
 ·unfold okAbort
  rw [h1, decide_eq_true (show (exAb0 p t).2 + 3000 < 1000000 by omega)]
  rfl
 ·unfold exAbort
  refine ⟨by show (undoEs t _ _).Y.length = (undoEs t _ _).N.length; rw [e1, e2]; exact h3.ny, by show ∀ L ∈ (undoEs t _ _).N, _; rw [e1]; exact h3.sm, by show ∀ k, ((undoEs t _ _).Y[k]?.getD []).length ≤ costV ((undoEs t _ _).N[k]?.getD []); rw [e1, e2]; exact h3.yl, by show (undoEs t _ _).N.length ≤ 24; rw [e1]; exact h3.n24, by show (undoEs t _ _).E.length ≤ 32; rw [el]; exact he, by show tot (undoEs t _ _).N ≤ a; rw [e1]; exact h3.tn, by show tot (undoEs t _ _).E ≤ b; have := h3.te; omega, ?_⟩
  show (exAb0 p t).2 + 2 * (exAb0 p t).1.E.length + 3000 * tot (undoEs t _ _).N + 2 * tot (undoEs t _ _).E ≤ c + 2944
  rw [e1]
  omega
end Go.Proofs.YthadcdoepoglkaaGreatDoor
namespace Go.Proofs.YthadcdoepoglkaaGreatDoor
open Go.RowKit Go.Lig
structure GOk (p : PF) (a b c : Nat) : Prop where
 vj : VJ p.1.vs
 lk : LinkOk p.1
 rm : Room p a b c
theorem GOk.mono {p : PF} {a b c a' b' c' : Nat} (h : GOk p a b c) (ha : a ≤ a') (hb : b ≤ b') (hc : c ≤ c') : GOk p a' b' c' := ⟨h.vj, h.lk, h.rm.mono ha hb hc⟩
theorem clB_nc (M : PSt) (t id : Int) : clB M t id = clashV M.K t (M.vs.nc id) := by
 unfold clB VS.nc
 by_cases h : 1 ≤ id ∧ id ≤ (M.N.length : Int)
 ·rw [if_pos h]
  unfold Go.Proofs.YthadcdoepoglkaaGreatDoor.cellOf
  rw [if_pos h.1]
  rfl
 ·rw [if_neg h, cellOf_none (l := M.vs.N) h]
  rfl
theorem ceB_ec (M : PSt) (t id : Int) : ceB M t id = clashV M.K t (M.vs.ec id) := by
 unfold ceB VS.ec
 by_cases h : 1 ≤ id ∧ id ≤ (M.E.length : Int)
 ·rw [if_pos h]
  unfold Go.Proofs.YthadcdoepoglkaaGreatDoor.cellOf
  rw [if_pos h.1]
  rfl
 ·rw [if_neg h, cellOf_none (l := M.vs.E) h]
  rfl
theorem mayB_no {M : PSt} {t ed : Int} {l : List Int} (h : mayB M t ed l = false) : clashV M.K t (M.vs.ec ed) = false ∧ ∀ n ∈ l, clashV M.K t (M.vs.nc n) = false := by
 unfold mayB at h
 rw [Bool.or_eq_false_iff, List.any_eq_false] at h
 refine ⟨by rw [← ceB_ec]; exact h.1, fun n hn => ?_⟩
 rw [← clB_nc]
 have := h.2 n hn
 simpa using this
theorem exPut_lk {p : PF} (h : LinkOk p.1) (t : Int) (k : Nat) (d : NodeD) (g : Bool) : LinkOk (exPut p t k d g).1 := h.same rfl rfl rfl rfl
theorem lastVer_small {p : PF} {a b c : Nat} (h : Room p a b c) {t id : Int} {d : NodeD} (hr : p.1.vs.rdN t id = some d) : Small d := by
 unfold VS.rdN at hr
 rw [readV_ver] at hr
 obtain ⟨y, h1, -, rfl⟩ := valOf_some hr
 have hm := (lastVer_mem h1).1
 unfold VS.nc Go.Proofs.YthadcdoepoglkaaGreatDoor.cellOf at hm
 split at hm
 ·exact h.at_ _ y hm
 ·cases hm
theorem exTouch1_vs (t : Int) (p : PF) (id : Int) : (exTouch1 t p id).1.vs = vTouch1 t p.1.vs id := by
 unfold exTouch1 vTouch1
 rw [readN_vs]
 cases p.1.vs.rdN t id <;> rfl
theorem exTouch_vs (t : Int) : ∀ (l : List Int) (p : PF), (exTouch t p l).1.vs = vTouch t p.1.vs l
 | [], _ => rfl
 | id :: l, p => by
  show (exTouch t (exTouch1 t p id) l).1.vs = vTouch t (vTouch1 t p.1.vs id) l
  rw [exTouch_vs t l, exTouch1_vs]
theorem exTouch_lk (t : Int) : ∀ (l : List Int) (p : PF), LinkOk p.1 → LinkOk (exTouch t p l).1
 | [], _, h => h
 | id :: l, p, h => by
  refine exTouch_lk t l (exTouch1 t p id) ?_
  unfold exTouch1
  split
  ·exact h
  ·exact exPut_lk h _ _ _ _
theorem exTouch_rm (t : Int) : ∀ (l : List Int) (p : PF) (a b c : Nat), Room p a b c → a + l.length ≤ 160 → c + 5900 * l.length ≤ 980000 → okTouch t p l = true ∧ Room (exTouch t p l) (a + l.length) b (c + 5900 * l.length)
 | [], p, a, b, c, h, _, _ => ⟨rfl, h⟩
 | id :: l, p, a, b, c, h, ha, hc => by
  simp only [List.length_cons] at ha hc ⊢
  cases hr : readN p.1 t id with
  | none =>
   have e1 : exTouch1 t p id = p := by unfold exTouch1; rw [hr]
   obtain ⟨h1, h2⟩ := exTouch_rm t l p a b c h (by omega) (by omega)
   refine ⟨?_, ?_⟩
   ·unfold okTouch
    rw [hr, e1, h1]
    rfl
   ·show Room (exTouch t (exTouch1 t p id) l) _ _ _
    rw [e1]
    exact h2.mono (by omega) (Nat.le_refl _) (by omega)
  | some d =>
   have hp := readN_pos hr
   have hd := lastVer_small h (by rw [← readN_vs]; exact hr)
   have e1 : exTouch1 t p id = exPut p t (id - 1).toNat d false := by unfold exTouch1; rw [hr]
   obtain ⟨g1, g2⟩ := h.put (by omega) (by omega) (show (id - 1).toNat < p.1.N.length by omega) t hd false
   obtain ⟨h1, h2⟩ := exTouch_rm t l (exPut p t (id - 1).toNat d false) (a + 1) b (c + 5900) g2 (by omega) (by omega)
   refine ⟨?_, ?_⟩
   ·unfold okTouch
    rw [hr, e1, h1, Bool.and_true]
    exact g1
   ·show Room (exTouch t (exTouch1 t p id) l) _ _ _
    rw [e1]
    exact h2.mono (by omega) (Nat.le_refl _) (by omega)
theorem exUndo_N (t : Int) : ∀ (m i : Nat) (p : PF), p.1.N.length = i + m → (exUndo t m i p).1.N = p.1.N.take i ++ (p.1.N.drop i).map (undoV t) ∧ (exUndo t m i p).1.K = p.1.K ∧ (exUndo t m i p).1.E = p.1.E ∧ (exUndo t m i p).1.D = p.1.D ∧ (exUndo t m i p).1.O = p.1.O ∧ (exUndo t m i p).1.I = p.1.I
 | 0, i, p, hl => by
  refine ⟨?_, rfl, rfl, rfl, rfl, rfl⟩
  show p.1.N = _
  rw [List.drop_eq_nil_of_le (by omega), List.take_of_length_le (by omega)]
  simp
 | m + 1, i, p, hl => by
  have hi : i < p.1.N.length := by omega
  have e1 : (exUndo1 t p i).1.N = p.1.N.set i (undoV t (p.1.N[i]?.getD [])) := rfl
  obtain ⟨h1, h2, h3, h4, h5, h6⟩ := exUndo_N t m (i + 1) (exUndo1 t p i) (by rw [e1, List.length_set]; omega)
  refine ⟨?_, h2, h3, h4, h5, h6⟩
  show (exUndo t m (i + 1) (exUndo1 t p i)).1.N = _
  rw [h1, e1, List.drop_set_of_lt (by omega), List.getElem?_eq_getElem hi, List.take_set, List.take_add_one, List.getElem?_eq_getElem hi]
  have e2 : (p.1.N.take i ++ [p.1.N[i]]).set i (undoV t p.1.N[i]) = p.1.N.take i ++ [undoV t p.1.N[i]] := by
   rw [List.set_append_right _ _ (by rw [List.length_take]; omega), List.length_take, Nat.min_eq_left (by omega), Nat.sub_self]
   rfl
  simp only [Option.toList_some, Option.getD_some]
  rw [e2, List.append_assoc]
  conv => rhs; rw [List.drop_eq_getElem_cons hi]
  rfl
theorem undoEs_E (t : Int) (M : PSt) : ∀ j, j ≤ M.E.length → (undoEs t M j).E = (M.E.take j).map (undoV t) ++ M.E.drop j
 | 0, _ => by simp [undoEs]
 | j + 1, hj => by
  have ih := undoEs_E t M j (by omega)
  have hi : j < M.E.length := by omega
  have e : (undoEs t M (j + 1)).E = (undoEs t M j).E.set j (undoV t ((undoEs t M j).E[j]?.getD [])) := linkM_E _ _
  have hl : ((M.E.take j).map (undoV t)).length = j := by rw [List.length_map, List.length_take]; omega
  have e1 : (undoEs t M j).E[j]?.getD [] = M.E[j] := by
   rw [ih, List.getElem?_append_right (by omega), hl, Nat.sub_self, List.getElem?_drop, Nat.add_zero, List.getElem?_eq_getElem hi]
   rfl
  rw [e, e1, ih, List.set_append_right _ _ (by omega), hl, Nat.sub_self, List.drop_eq_getElem_cons hi, List.set_cons_zero, List.take_add_one, List.getElem?_eq_getElem hi, List.map_append]
  simp
theorem exAbort_vs (p : PF) (t : Int) : (exAbort p t).1.vs = vAbort p.1.vs t := by
 obtain ⟨h1, h2, h3, h4, -, -⟩ := exUndo_N t p.1.N.length 0 ({ p.1 with K := p.1.K.abort t }, p.2) (by simp)
 have g1 : (exAb0 p t).1.N = p.1.N.map (undoV t) := by show (exUndo t _ _ _).1.N = _; rw [h1]; simp
 have g2 : (exAb0 p t).1.K = p.1.K.abort t := h2
 have g3 : (exAb0 p t).1.E = p.1.E := h3
 obtain ⟨e1, -, e3, -⟩ := undoEs_N t (exAb0 p t).1 (exAb0 p t).1.E.length
 have e4 := undoEs_E t (exAb0 p t).1 (exAb0 p t).1.E.length (Nat.le_refl _)
 rw [List.take_length, List.drop_length, List.append_nil] at e4
 show (⟨(undoEs t _ _).K, (undoEs t _ _).N, (undoEs t _ _).E⟩ : VS) = _
 rw [e1, e3, e4, g1, g2, g3]
 rfl
theorem exAbort_lk {p : PF} (h : LinkOk p.1) (t : Int) : LinkOk (exAbort p t).1 := by
 obtain ⟨-, -, h3, h4, h5, h6⟩ := exUndo_N t p.1.N.length 0 ({ p.1 with K := p.1.K.abort t }, p.2) (by simp)
 have h0 : LinkOk (exAb0 p t).1 := h.same h3 h4 h5 h6
 exact h0.undos t _ (Nat.le_refl _)
theorem GOk.abort {p : PF} {a b c : Nat} (h : GOk p a b c) (ha : a ≤ 160) (hc : c ≤ 980000) {t : Int} (hl : p.1.K.live t = true) : okAbort p t = true ∧ GOk (exAbort p t) a b (c + 2944) := by
 obtain ⟨h1, h2⟩ := h.rm.abort ha hc t
 exact ⟨h1, by rw [exAbort_vs]; exact h.vj.abort hl, exAbort_lk h.lk t, h2⟩
section
variable {p : PF} {a b c : Nat} (h : GOk p a b c) (ha : a ≤ 150) (hc : c ≤ 960000) (t : Int)
include h ha hc
theorem GOk.opBegin : GOk (opBegin p).2 (a + 2) (b + 1) (c + 12000) := by
 have _u := ha
 have _w := hc
 unfold Go.Proofs.YthadcdoepoglkaaGreatDoor.opBegin
 split
 ·have hr := h.rm
  exact ⟨h.vj.begins, h.lk.same rfl rfl rfl rfl, ⟨hr.ny, hr.sm, hr.yl, hr.n24, hr.e32, by show tot p.1.N ≤ _; have := hr.tn; omega, by show tot p.1.E ≤ _; have := hr.te; omega, by have := hr.F; show p.2 + 1 + 3000 * tot p.1.N + 2 * tot p.1.E ≤ _; omega⟩⟩
 ·exact h.mono (by omega) (by omega) (by omega)
theorem GOk.opAddNode {bb : Bool} {d : NodeD} (hd : bb = true → Small d) : rmAddNode p t bb d = true ∧ GOk (opAddNode p t bb d).2 (a + 2) (b + 1) (c + 12000) := by
 unfold Go.Proofs.YthadcdoepoglkaaGreatDoor.opAddNode rmAddNode
 have hm := h.mono (show a ≤ a + 2 by omega) (show b ≤ b + 1 by omega) (show c ≤ c + 12000 by omega)
 cases hl : p.1.K.live t with
 | false => exact ⟨rfl, by rw [if_neg (by simp)]; exact hm⟩
 | true =>
  rw [if_pos rfl]
  cases bb with
  | false => exact ⟨rfl, by rw [if_neg (by simp)]; exact hm⟩
  | true =>
   rw [if_pos rfl]
   by_cases hn : p.1.N.length < 24
   ·rw [if_pos hn, decide_eq_true hn]
    have hr := h.rm
    have hg : Room (growN p.1, p.2) a b c := ⟨by show (p.1.Y ++ [[]]).length = (p.1.N ++ [[]]).length; simp [hr.ny], fun L hL => by
     rcases List.mem_append.1 (show L ∈ p.1.N ++ [[]] from hL) with e | e
     ·exact hr.sm L e
     ·rw [List.mem_singleton.1 e]; exact fun y hy => (by cases hy), fun k => by
     show ((p.1.Y ++ [[]])[k]?.getD []).length ≤ costV ((p.1.N ++ [[]])[k]?.getD [])
     by_cases hk : k < p.1.N.length
     ·rw [List.getElem?_append_left (by rw [hr.ny]; exact hk), List.getElem?_append_left hk]; exact hr.yl k
     ·by_cases hk2 : k = p.1.N.length
      ·subst hk2
       rw [List.getElem?_append_right (by rw [hr.ny]; exact Nat.le_refl _), hr.ny]; simp
      ·rw [List.getElem?_eq_none (by simp; have := hr.ny; omega)]; simp, by show (p.1.N ++ [[]]).length ≤ 24; simp; omega, hr.e32, by show tot (p.1.N ++ [[]]) ≤ a; rw [tot_snoc]; exact hr.tn, hr.te, by show p.2 + 3000 * tot (p.1.N ++ [[]]) + _ ≤ c; rw [tot_snoc]; exact hr.F⟩
    have hk : p.1.N.length < (growN p.1).N.length := by show _ < (p.1.N ++ [[]]).length; simp
    obtain ⟨g1, g2⟩ := hg.put (by omega) (by omega) hk t (hd rfl) false
    refine ⟨by simpa using g1, ?_, ?_, g2.mono (by omega) (by omega) (by omega)⟩
    ·show VJ (vPut (vGrowN p.1.vs) t p.1.N.length d false)
     exact h.vj.growN.put hl hk (by
      have : (vGrowN p.1.vs).nc ((p.1.N.length : Int) + 1) = [] := by
       rw [vGrowN_nc]
       exact cellOf_none (by show ¬ (1 ≤ _ ∧ _ ≤ (p.1.N.length : Int)); omega)
      rw [this]
      rfl) d
    ·exact h.lk.same rfl rfl rfl rfl
   ·rw [if_neg hn, decide_eq_false hn]
    exact ⟨rfl, hm⟩
end
end Go.Proofs.YthadcdoepoglkaaGreatDoor
