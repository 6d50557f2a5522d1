/- A part of the proof: contracts of functions of the program, for the row's text. -/
import Derived.Test.YthadcdoepoglkaaGreatDoorJ33
import Derived.Test.YthadcdoepoglkaaGreatDoorJ39
import Derived.Test.YthadcdoepoglkaaGreatDoorJ10
import Derived.Test.YthadcdoepoglkaaGreatDoorJ07
import Derived.Test.YthadcdoepoglkaaGreatDoorJ27
import Derived.Test.YthadcdoepoglkaaGreatDoorJ03
import Derived.Test.YthadcdoepoglkaaGreatDoorJ14
import Derived.Test.YthadcdoepoglkaaGreatDoorJ25
import Derived.Test.YthadcdoepoglkaaGreatDoorJ23
namespace Go.Proofs.YthadcdoepoglkaaGreatDoor
open Go.RowKit Go.Lig
structure VS where
 K : Ck
 N : List (List (Ver NodeD))
 E : List (List (Ver EdgeV))
def PSt.vs (M : PSt) : VS := ⟨M.K, M.N, M.E⟩
def cellOf {α : Type} (l : List (List α)) (id : Int) : List α := if 1 ≤ id then l[(id - 1).toNat]?.getD [] else []
def VS.nc (v : VS) (id : Int) : List (Ver NodeD) := Go.Proofs.YthadcdoepoglkaaGreatDoor.cellOf v.N id
def VS.ec (v : VS) (id : Int) : List (Ver EdgeV) := Go.Proofs.YthadcdoepoglkaaGreatDoor.cellOf v.E id
def VS.rdN (v : VS) (t id : Int) : Option NodeD := readV v.K t (v.nc id)
def VS.rdE (v : VS) (t id : Int) : Option EdgeV := readV v.K t (v.ec id)
theorem readV_nil {α : Type} (K : Ck) (t : Int) : readV K t ([] : List (Ver α)) = none := rfl
theorem cellOf_none {α : Type} {l : List (List α)} {id : Int} (h : ¬ (1 ≤ id ∧ id ≤ (l.length : Int))) : Go.Proofs.YthadcdoepoglkaaGreatDoor.cellOf l id = [] := by
 unfold Go.Proofs.YthadcdoepoglkaaGreatDoor.cellOf
 split
 ·rw [List.getElem?_eq_none (by omega)]; rfl
 ·rfl
theorem cellOf_nat {α : Type} (l : List (List α)) (k : Nat) : Go.Proofs.YthadcdoepoglkaaGreatDoor.cellOf l ((k : Int) + 1) = l[k]?.getD [] := by
 unfold Go.Proofs.YthadcdoepoglkaaGreatDoor.cellOf
 rw [if_pos (by omega), show ((k : Int) + 1 - 1).toNat = k by omega]
theorem readN_vs (M : PSt) (t id : Int) : readN M t id = M.vs.rdN t id := by
 unfold readN VS.rdN VS.nc
 by_cases h : 1 ≤ id ∧ id ≤ (M.N.length : Int)
 ·rw [if_pos h]
  unfold Go.Proofs.YthadcdoepoglkaaGreatDoor.cellOf
  rw [if_pos h.1]
  rfl
 ·rw [if_neg h, cellOf_none (l := M.vs.N) h, readV_nil]
def EndOf (e : EdgeV) (n : Int) : Prop := n = e.from_ ∨ n = e.to_
structure VOk (v : VS) : Prop where
 clk : ClkOk v.K
 n : ∀ id, CellOk v.K (v.nc id)
 e : ∀ id, CellOk v.K (v.ec id)
structure VJ (v : VS) : Prop extends VOk v where
 j1 : ∀ id e, lastC v.K (v.ec id) = some e → ∀ n, EndOf e n → (lastC v.K (v.nc n)).isSome = true
 j2 : ∀ t, v.K.live t = true → ∀ id e, v.rdE t id = some e → ∀ n, EndOf e n → (v.rdN t n).isSome = true
 j3 : ∀ t, v.K.live t = true → ∀ id y, y ∈ v.ec id → y.by_ = t → y.gone = false → ∀ n, EndOf y.v n → hasV t (v.nc n)
 j4 : ∀ id y x, lastVer v.K.done (v.ec id) = some y → y.gone = false → v.K.tx y.by_ = some x → ∀ n, EndOf y.v n → cmax v.K x.commit (v.nc n)
theorem valOf_some {α : Type} {o : Option (Ver α)} {v : α} (h : valOf o = some v) : ∃ y, o = some y ∧ y.gone = false ∧ y.v = v := by
 cases o with
 | none => cases h
 | some y =>
  unfold valOf at h
  cases hg : y.gone with
  | true => simp [hg] at h
  | false => simp [hg] at h; exact ⟨y, rfl, hg, h⟩
theorem live_begins {K : Ck} {u : Int} (h : K.begins.live u = true) : u = (K.l.length : Int) + 1 ∨ K.live u = true := by
 obtain ⟨x, hx, h0⟩ := Ck.live_iff.1 h
 rw [tx_begins] at hx
 split at hx
 ·exact .inl ‹_›
 ·exact .inr (Ck.live_iff.2 ⟨x, hx, h0⟩)
theorem live_abort {K : Ck} {t u : Int} (hl : K.live t = true) (h : (K.abort t).live u = true) : u ≠ t ∧ K.live u = true := by
 obtain ⟨x', hx', h0'⟩ := Ck.live_iff.1 hl
 obtain ⟨x, hx, h0⟩ := Ck.live_iff.1 h
 rw [tx_abort hx'] at hx
 split at hx
 ·obtain rfl := Option.some.inj hx
  simp at h0
 ·exact ⟨‹_›, Ck.live_iff.2 ⟨x, hx, h0⟩⟩
theorem VOk.begins {v : VS} (h : VOk v) : VOk { v with K := v.K.begins } := ⟨h.clk.begins, fun id => (h.n id).begins, fun id => (h.e id).begins⟩
theorem VJ.begins {v : VS} (h : VJ v) : VJ { v with K := v.K.begins } := by
 refine { h.toVOk.begins with j1 := ?_, j2 := ?_, j3 := ?_, j4 := ?_ }
 ·intro id e he n hn
  show (lastC v.K.begins (v.nc n)).isSome = true
  rw [lastC_begins (h.n n)]
  exact h.j1 id e (by rw [← lastC_begins (h.e id)]; exact he) n hn
 ·intro t ht id e he n hn
  show (readV v.K.begins t (v.nc n)).isSome = true
  have he' : readV v.K.begins t (v.ec id) = some e := he
  rcases live_begins ht with rfl | hl
  ·rw [read_new h.clk (h.n n)]
   rw [read_new h.clk (h.e id)] at he'
   exact h.j1 id e he' n hn
  ·rw [read_begins (h.n n) hl]
   rw [read_begins (h.e id) hl] at he'
   exact h.j2 t hl id e he' n hn
 ·intro t ht id y hy hb hg n hn
  rcases live_begins ht with rfl | hl
  ·exact absurd hb ((h.e id).txne hy)
  ·exact h.j3 t hl id y hy hb hg n hn
 ·intro id y x hy hg hx n hn
  have hy' : lastVer v.K.begins.done (v.ec id) = some y := hy
  rw [lastVer_begins (h.e id)] at hy'
  have hm := (lastVer_mem hy').1
  have hx' : v.K.tx y.by_ = some x := by
   have : v.K.begins.tx y.by_ = some x := hx
   rwa [tx_begins, if_neg ((h.e id).txne hm)] at this
  exact cmax_begins (h.j4 id y x hy' hg hx' n hn)
theorem cellOf_map {α β : Type} (f : List α → List β) (hf : f [] = []) (l : List (List α)) (id : Int) : Go.Proofs.YthadcdoepoglkaaGreatDoor.cellOf (l.map f) id = f (Go.Proofs.YthadcdoepoglkaaGreatDoor.cellOf l id) := by
 unfold Go.Proofs.YthadcdoepoglkaaGreatDoor.cellOf
 split
 ·rw [List.getElem?_map]
  cases l[(id - 1).toNat]? with
  | none => exact hf.symm
  | some x => rfl
 ·exact hf.symm
def vAbort (v : VS) (t : Int) : VS := ⟨v.K.abort t, v.N.map (undoV t), v.E.map (undoV t)⟩
theorem vAbort_nc (v : VS) (t id : Int) : (vAbort v t).nc id = undoV t (v.nc id) := cellOf_map _ rfl _ _
theorem vAbort_ec (v : VS) (t id : Int) : (vAbort v t).ec id = undoV t (v.ec id) := cellOf_map _ rfl _ _
theorem VOk.abort {v : VS} (h : VOk v) {t : Int} (hl : v.K.live t = true) : VOk (vAbort v t) := ⟨h.clk.abort hl, fun id => by rw [vAbort_nc]; exact (h.n id).abort hl, fun id => by rw [vAbort_ec]; exact (h.e id).abort hl⟩
theorem VJ.abort {v : VS} (h : VJ v) {t : Int} (hl : v.K.live t = true) : VJ (vAbort v t) := by
 refine { h.toVOk.abort hl with j1 := ?_, j2 := ?_, j3 := ?_, j4 := ?_ }
 ·intro id e he n hn
  rw [vAbort_ec] at he
  rw [vAbort_nc]
  show (valOf (lastVer (v.K.abort t).done (undoV t (v.nc n)))).isSome = true
  have he' : valOf (lastVer (v.K.abort t).done (undoV t (v.ec id))) = some e := he
  rw [lastVer_abort hl] at he' ⊢
  exact h.j1 id e he' n hn
 ·intro u hu id e he n hn
  obtain ⟨hne, hlu⟩ := live_abort hl hu
  unfold VS.rdE at he
  unfold VS.rdN
  rw [vAbort_ec] at he
  rw [vAbort_nc]
  have he' : readV (v.K.abort t) u (undoV t (v.ec id)) = some e := he
  show (readV (v.K.abort t) u (undoV t (v.nc n))).isSome = true
  rw [read_abort (h.e id) hl hlu hne] at he'
  rw [read_abort (h.n n) hl hlu hne]
  exact h.j2 u hlu id e he' n hn
 ·intro u hu id y hy hb hg n hn
  obtain ⟨hne, hlu⟩ := live_abort hl hu
  rw [vAbort_ec] at hy
  rw [vAbort_nc]
  obtain ⟨z, hz, hzb⟩ := h.j3 u hlu id y (List.mem_filter.1 hy).1 hb hg n hn
  exact ⟨z, List.mem_filter.2 ⟨hz, by simpa using (fun e => hne (hzb.symm.trans e) : z.by_ ≠ t)⟩, hzb⟩
 ·intro id y x hy hg hx n hn
  rw [vAbort_ec] at hy
  have hy' : lastVer (v.K.abort t).done (undoV t (v.ec id)) = some y := hy
  have hyt := undoV_ne t (v.ec id) y (lastVer_mem hy').1
  rw [lastVer_abort hl] at hy'
  obtain ⟨xt, hxt, h0⟩ := Ck.live_iff.1 hl
  have hx' : (v.K.abort t).tx y.by_ = some x := hx
  rw [tx_abort hxt, if_neg hyt] at hx'
  rw [vAbort_nc]
  exact cmax_abort hl (h.j4 id y x hy' hg hx' n hn)
end Go.Proofs.YthadcdoepoglkaaGreatDoor
namespace Go.Proofs.YthadcdoepoglkaaGreatDoor
open Go.RowKit Go.Lig
section
variable {α : Type}
theorem cellOf_set {l : List (List α)} {k : Nat} (hk : k < l.length) (L : List α) (id : Int) : Go.Proofs.YthadcdoepoglkaaGreatDoor.cellOf (l.set k L) id = if id = (k : Int) + 1 then L else Go.Proofs.YthadcdoepoglkaaGreatDoor.cellOf l id := by
 unfold Go.Proofs.YthadcdoepoglkaaGreatDoor.cellOf
 by_cases h1 : 1 ≤ id
 ·rw [if_pos h1, if_pos h1]
  by_cases h2 : id = (k : Int) + 1
  ·rw [if_pos h2, show (id - 1).toNat = k by omega, List.getElem?_set_self hk]
   rfl
  ·rw [if_neg h2, List.getElem?_set_ne (by omega)]
 ·rw [if_neg h1, if_neg h1, if_neg (by omega)]
theorem cellOf_snoc (l : List (List α)) (L : List α) (id : Int) : Go.Proofs.YthadcdoepoglkaaGreatDoor.cellOf (l ++ [L]) id = if id = (l.length : Int) + 1 then L else Go.Proofs.YthadcdoepoglkaaGreatDoor.cellOf l id := by
 unfold Go.Proofs.YthadcdoepoglkaaGreatDoor.cellOf
 by_cases h1 : 1 ≤ id
 ·rw [if_pos h1, if_pos h1]
  by_cases h2 : id = (l.length : Int) + 1
  ·rw [if_pos h2, show (id - 1).toNat = l.length by omega, List.getElem?_append_right (Nat.le_refl _), Nat.sub_self]
   rfl
  ·rw [if_neg h2]
   by_cases h3 : (id - 1).toNat < l.length
   ·rw [List.getElem?_append_left h3]
   ·rw [List.getElem?_eq_none (by simp; omega), List.getElem?_eq_none (by omega)]
 ·rw [if_neg h1, if_neg h1, if_neg (by omega)]
end
def vPut (v : VS) (t : Int) (k : Nat) (d : NodeD) (g : Bool) : VS := { v with N := v.N.set k (writeV v.K t d g (v.N[k]?.getD [])) }
def vTie (v : VS) (t : Int) (k : Nat) (e : EdgeV) (g : Bool) : VS := { v with E := v.E.set k (writeV v.K t e g (v.E[k]?.getD [])) }
def vGrowN (v : VS) : VS := { v with N := v.N ++ [[]] }
def vGrowE (v : VS) : VS := { v with E := v.E ++ [[]] }
def vTouch1 (t : Int) (v : VS) (id : Int) : VS := match v.rdN t id with
 | none => v
 | some d => vPut v t (id - 1).toNat d false
def vTouch (t : Int) (v : VS) (l : List Int) : VS := l.foldl (vTouch1 t) v
theorem vPut_nc {v : VS} {k : Nat} (hk : k < v.N.length) (t : Int) (d : NodeD) (g : Bool) (id : Int) : (vPut v t k d g).nc id = if id = (k : Int) + 1 then writeV v.K t d g (v.nc ((k : Int) + 1)) else v.nc id := by
 unfold VS.nc vPut
 dsimp only
 rw [cellOf_set hk, cellOf_nat]
theorem vTie_ec {v : VS} {k : Nat} (hk : k < v.E.length) (t : Int) (e : EdgeV) (g : Bool) (id : Int) : (vTie v t k e g).ec id = if id = (k : Int) + 1 then writeV v.K t e g (v.ec ((k : Int) + 1)) else v.ec id := by
 unfold VS.ec vTie
 dsimp only
 rw [cellOf_set hk, cellOf_nat]
theorem VJ.mono {v v' : VS} (h : VJ v) (ho : VOk v') (hK : v'.K = v.K) (hE : v'.E = v.E) (h1 : ∀ n, (lastC v.K (v.nc n)).isSome = true → (lastC v.K (v'.nc n)).isSome = true)
  (h2 : ∀ u, v.K.live u = true → ∀ n, (v.rdN u n).isSome = true → (v'.rdN u n).isSome = true) (h3 : ∀ u n, hasV u (v.nc n) → hasV u (v'.nc n)) (h4 : ∀ c n, cmax v.K c (v.nc n) → cmax v.K c (v'.nc n)) : VJ v' := by
 have he : ∀ id, v'.ec id = v.ec id := fun id => by unfold VS.ec; rw [hE]
 have hr : ∀ u id, v'.rdE u id = v.rdE u id := fun u id => by unfold VS.rdE; rw [he, hK]
 refine { ho with j1 := ?_, j2 := ?_, j3 := ?_, j4 := ?_ }
 ·intro id e q n hn
  rw [he, hK] at q
  rw [hK]
  exact h1 n (h.j1 id e q n hn)
 ·intro t ht id e q n hn
  rw [hK] at ht
  rw [hr] at q
  exact h2 t ht n (h.j2 t ht id e q n hn)
 ·intro t ht id y q hb hg n hn
  rw [hK] at ht
  rw [he] at q
  exact h3 t n (h.j3 t ht id y q hb hg n hn)
 ·intro id y x q hg hx n hn
  rw [he, hK] at q
  rw [hK] at hx ⊢
  exact h4 _ n (h.j4 id y x q hg hx n hn)
theorem VOk.put {v : VS} (h : VOk v) {t : Int} (hl : v.K.live t = true) {k : Nat} (hk : k < v.N.length) (hc : clashV v.K t (v.nc ((k : Int) + 1)) = false) (d : NodeD) (g : Bool) : VOk (vPut v t k d g) := by
 refine ⟨h.clk, fun id => ?_, h.e⟩
 show CellOk v.K ((vPut v t k d g).nc id)
 rw [vPut_nc hk]
 split
 ·exact (h.n _).write hl hc d g
 ·exact h.n id
theorem VOk.tie {v : VS} (h : VOk v) {t : Int} (hl : v.K.live t = true) {k : Nat} (hk : k < v.E.length) (hc : clashV v.K t (v.ec ((k : Int) + 1)) = false) (d : EdgeV) (g : Bool) : VOk (vTie v t k d g) := by
 refine ⟨h.clk, h.n, fun id => ?_⟩
 show CellOk v.K ((vTie v t k d g).ec id)
 rw [vTie_ec hk]
 split
 ·exact (h.e _).write hl hc d g
 ·exact h.e id
theorem VJ.put {v : VS} (h : VJ v) {t : Int} (hl : v.K.live t = true) {k : Nat} (hk : k < v.N.length) (hc : clashV v.K t (v.nc ((k : Int) + 1)) = false) (d : NodeD) : VJ (vPut v t k d false) := by
 have hC := h.n ((k : Int) + 1)
 refine h.mono (h.toVOk.put hl hk hc d false) rfl rfl (fun n q => ?_) (fun u hu n q => ?_) (fun u n q => ?_) (fun c n q => ?_)
 ·rw [vPut_nc hk]
  split
  ·rename_i e
   unfold lastC
   rw [lastVer_write hC hl hc]
   rw [e] at q
   exact q
  ·exact q
 ·show (readV v.K u ((vPut v t k d false).nc n)).isSome = true
  rw [vPut_nc hk]
  split
  ·rename_i e
   by_cases hu2 : u = t
   ·subst hu2
    rw [read_write_self hC hl hc]
    rfl
   ·rw [read_write_other hC hl hc d false hu2]
    rw [e] at q
    exact q
  ·exact q
 ·rw [vPut_nc hk]
  split
  ·rename_i e
   rw [e] at q
   exact (hasV_write hC hl hc d false u).2 (.inr q)
  ·exact q
 ·rw [vPut_nc hk]
  split
  ·rename_i e
   rw [e] at q
   exact cmax_write hC hl hc d false q
  ·exact q
theorem clashV_nil {α : Type} (K : Ck) (t : Int) : clashV K t ([] : List (Ver α)) = false := rfl
theorem vGrowN_nc (v : VS) (id : Int) : (vGrowN v).nc id = v.nc id := by
 unfold VS.nc vGrowN
 dsimp only
 rw [cellOf_snoc]
 split
 ·rename_i e
  exact (cellOf_none (by omega)).symm
 ·rfl
theorem vGrowE_ec (v : VS) (id : Int) : (vGrowE v).ec id = v.ec id := by
 unfold VS.ec vGrowE
 dsimp only
 rw [cellOf_snoc]
 split
 ·rename_i e
  exact (cellOf_none (by omega)).symm
 ·rfl
theorem VJ.same {v v' : VS} (h : VJ v) (hK : v'.K = v.K) (hn : ∀ id, v'.nc id = v.nc id) (he : ∀ id, v'.ec id = v.ec id) : VJ v' := by
 have hr : ∀ u id, v'.rdE u id = v.rdE u id := fun u id => by unfold VS.rdE; rw [he, hK]
 have hrn : ∀ u id, v'.rdN u id = v.rdN u id := fun u id => by unfold VS.rdN; rw [hn, hK]
 refine { clk := by rw [hK]; exact h.clk, n := fun id => by rw [hK, hn]; exact h.n id, e := fun id => by rw [hK, he]; exact h.e id, j1 := ?_, j2 := ?_, j3 := ?_, j4 := ?_ }
 ·intro id e q n hn'
  rw [he, hK] at q
  rw [hK, hn]
  exact h.j1 id e q n hn'
 ·intro t ht id e q n hn'
  rw [hK] at ht
  rw [hr] at q
  rw [hrn]
  exact h.j2 t ht id e q n hn'
 ·intro t ht id y q hb hg n hn'
  rw [hK] at ht
  rw [he] at q
  rw [hn]
  exact h.j3 t ht id y q hb hg n hn'
 ·intro id y x q hg hx n hn'
  rw [he, hK] at q
  rw [hK] at hx ⊢
  rw [hn]
  exact h.j4 id y x q hg hx n hn'
theorem VJ.growN {v : VS} (h : VJ v) : VJ (vGrowN v) := h.same rfl (vGrowN_nc v) (fun _ => rfl)
theorem VJ.growE {v : VS} (h : VJ v) : VJ (vGrowE v) := h.same rfl (fun _ => rfl) (vGrowE_ec v)
theorem VJ.tie {v : VS} (h : VJ v) {t : Int} (hl : v.K.live t = true) {k : Nat} (hk : k < v.E.length) (hc : clashV v.K t (v.ec ((k : Int) + 1)) = false) (e0 : EdgeV) (g : Bool) (hg0 : g = false → ∀ n, EndOf e0 n → (v.rdN t n).isSome = true ∧ hasV t (v.nc n)) : VJ (vTie v t k e0 g) := by
 have hC := h.e ((k : Int) + 1)
 refine { h.toVOk.tie hl hk hc e0 g with j1 := ?_, j2 := ?_, j3 := ?_, j4 := ?_ }
 ·intro id e q n hn
  have q' : lastC v.K ((vTie v t k e0 g).ec id) = some e := q
  rw [vTie_ec hk] at q'
  split at q'
  ·unfold lastC at q'
   rw [lastVer_write hC hl hc] at q'
   exact h.j1 _ e q' n hn
  ·exact h.j1 id e q' n hn
 ·intro u hu id e q n hn
  have q' : readV v.K u ((vTie v t k e0 g).ec id) = some e := q
  rw [vTie_ec hk] at q'
  split at q'
  ·by_cases hu2 : u = t
   ·subst hu2
    rw [read_write_self hC hl hc] at q'
    cases hg : g with
    | true => rw [hg] at q'; simp at q'
    | false =>
     rw [hg] at q'
     simp at q'
     subst q'
     exact (hg0 hg n hn).1
   ·rw [read_write_other hC hl hc e0 g hu2] at q'
    exact h.j2 u hu _ e q' n hn
  ·exact h.j2 u hu id e q' n hn
 ·intro u hu id y q hb hg n hn
  rw [vTie_ec hk] at q
  split at q
  ·rcases mem_write hC hl hc e0 g q with rfl | ⟨q1, q2⟩
   ·have e1 : t = u := hb
    subst e1
    exact (hg0 hg n hn).2
   ·exact h.j3 u hu _ y q1 hb hg n hn
  ·exact h.j3 u hu id y q hb hg n hn
 ·intro id y x q hg hx n hn
  have q' : lastVer v.K.done ((vTie v t k e0 g).ec id) = some y := q
  rw [vTie_ec hk] at q'
  split at q'
  ·rw [lastVer_write hC hl hc] at q'
   exact h.j4 _ y x q' hg hx n hn
  ·exact h.j4 id y x q' hg hx n hn
theorem VS.rdN_pos {v : VS} {t id : Int} {d : NodeD} (h : v.rdN t id = some d) : 1 ≤ id ∧ id ≤ (v.N.length : Int) := by
 by_cases hp : 1 ≤ id ∧ id ≤ (v.N.length : Int)
 ·exact hp
 ·unfold VS.rdN VS.nc at h
  rw [cellOf_none hp] at h
  cases h
structure Wrt (v : VS) (t n : Int) : Prop where
 rd : (v.rdN t n).isSome = true
 own : hasV t (v.nc n)
theorem Wrt.put {v : VS} (h : VOk v) {t : Int} (hl : v.K.live t = true) {k : Nat} (hk : k < v.N.length) (hc : clashV v.K t (v.nc ((k : Int) + 1)) = false) (d : NodeD) {n : Int} (hw : n = (k : Int) + 1 ∨ Wrt v t n) : Wrt (vPut v t k d false) t n := by
 have hC := h.n ((k : Int) + 1)
 by_cases e : n = (k : Int) + 1
 ·refine ⟨?_, ?_⟩
  ·show (readV v.K t ((vPut v t k d false).nc n)).isSome = true
   rw [vPut_nc hk, if_pos e, read_write_self hC hl hc]
   rfl
  ·rw [vPut_nc hk, if_pos e]
   exact (hasV_write hC hl hc d false t).2 (.inl rfl)
 ·rcases hw with hw | hw
  ·exact absurd hw e
  ·refine ⟨?_, ?_⟩
   ·show (readV v.K t ((vPut v t k d false).nc n)).isSome = true
    rw [vPut_nc hk, if_neg e]
    exact hw.rd
   ·rw [vPut_nc hk, if_neg e]
    exact hw.own
theorem clash_own {α : Type} {K : Ck} {L : List (Ver α)} (h : CellOk K L) {t : Int} (hl : K.live t = true) (ho : hasV t L) : clashV K t L = false := by
 obtain ⟨y, hy, e⟩ := ho
 obtain ⟨A, rfl, -⟩ := own_last h hl hy e
 obtain ⟨x, hx, h0⟩ := Ck.live_iff.1 hl
 unfold clashV
 rw [List.getLast?_concat]
 show K.clashes t y.by_ = false
 unfold Ck.clashes
 rw [e, hx]
 simp
theorem VJ.touch {t : Int} : ∀ (l : List Int) (v : VS), VJ v → v.K.live t = true → (∀ n ∈ l, clashV v.K t (v.nc n) = false) → VJ (vTouch t v l) ∧ (vTouch t v l).K = v.K ∧ (vTouch t v l).E = v.E ∧ (vTouch t v l).N.length = v.N.length ∧
  (∀ n, (n ∈ l ∧ (v.rdN t n).isSome = true) ∨ Wrt v t n → Wrt (vTouch t v l) t n)
 | [], v, h, _, _ => ⟨h, rfl, rfl, rfl, fun n hn => by rcases hn with ⟨q, -⟩ | q; cases q; exact q⟩
 | id :: l, v, h, hl, hc => by
  have e0 : vTouch t v (id :: l) = vTouch t (vTouch1 t v id) l := rfl
  rw [e0]
  cases hr : v.rdN t id with
  | none =>
   have e1 : vTouch1 t v id = v := by unfold vTouch1; rw [hr]
   rw [e1]
   obtain ⟨h1, h2, h3, h4, h5⟩ := VJ.touch l v h hl (fun n hn => hc n (List.mem_cons_of_mem _ hn))
   refine ⟨h1, h2, h3, h4, fun n hn => h5 n ?_⟩
   rcases hn with ⟨q, q2⟩ | q
   ·rcases List.mem_cons.1 q with rfl | q
    ·rw [hr] at q2; cases q2
    ·exact .inl ⟨q, q2⟩
   ·exact .inr q
  | some d =>
   have hp := VS.rdN_pos hr
   obtain ⟨k, rfl⟩ : ∃ k : Nat, id = (k : Int) + 1 := ⟨(id - 1).toNat, by omega⟩
   have hk : k < v.N.length := by omega
   have e1 : vTouch1 t v ((k : Int) + 1) = vPut v t k d false := by unfold vTouch1; rw [hr, show ((k : Int) + 1 - 1).toNat = k by omega]
   rw [e1]
   have hc0 := hc _ (List.mem_cons_self ..)
   have h' := h.put hl hk hc0 d
   obtain ⟨h1, h2, h3, h4, h5⟩ := VJ.touch l (vPut v t k d false) h' hl (fun n hn => by
    show clashV v.K t ((vPut v t k d false).nc n) = false
    rw [vPut_nc hk]
    split
    ·have hw := clash_own (K := v.K) (h'.n ((k : Int) + 1)) hl (Wrt.put h.toVOk hl hk hc0 d (.inl rfl)).own
     rw [vPut_nc hk, if_pos rfl] at hw
     exact hw
    ·exact hc n (List.mem_cons_of_mem _ hn))
   refine ⟨h1, h2, h3, by rw [h4]; simp [vPut], fun n hn => h5 n ?_⟩
   by_cases e : n = (k : Int) + 1
   ·exact .inr (Wrt.put h.toVOk hl hk hc0 d (.inl e))
   ·rcases hn with ⟨q, q2⟩ | q
    ·rcases List.mem_cons.1 q with q | q
     ·exact absurd q e
     ·refine .inl ⟨q, ?_⟩
      show (readV v.K t ((vPut v t k d false).nc n)).isSome = true
      rw [vPut_nc hk, if_neg e]
      exact q2
    ·exact .inr (Wrt.put h.toVOk hl hk hc0 d (.inr q))
end Go.Proofs.YthadcdoepoglkaaGreatDoor
