/- A part of the proof: contracts of functions of the program, for the row's text. -/
import Derived.Test.YtibfpkfpmkghhaaGreatDoorJ44
import Derived.Test.YtibfpkfpmkghhaaGreatDoorJ45
import Derived.Test.YtibfpkfpmkghhaaGreatDoorJ46
import Derived.Test.YtibfpkfpmkghhaaGreatDoorRows
import Derived.Test.YtibfpkfpmkghhaaGreatDoorJ02
namespace Go.Proofs.YtibfpkfpmkghhaaGreatDoor
open Go.RowKit Go.Lig

/-- an edge that is read stands in its ends' chains -/
theorem LinkOk.of_read {M : PSt} (h : LinkOk M) {t id : Int} {e : EdgeV} (hr : M.vs.rdE t id = some e) : (e.from_, id) ∈ M.O ∧ (e.to_, id) ∈ M.I := by
  have hp := VS.rdE_pos hr
  obtain ⟨k, rfl⟩ : ∃ k : Nat, id = (k : Int) + 1 := ⟨(id - 1).toNat, by omega⟩
  unfold VS.rdE VS.ec at hr
  rw [cellOf_nat, readV_ver] at hr
  obtain ⟨y, h1, h2, rfl⟩ := valOf_some hr
  have hm : y ∈ M.E[k]?.getD [] := (lastVer_mem h1).1
  have hD := h.dd k y hm h2
  have ht : thE M k = true := by
    unfold thE there
    exact List.any_eq_true.2 ⟨y, hm, by simp [h2]⟩
  exact ⟨(h.oo _ _).2 ⟨k, rfl, by unfold dF; rw [hD]; rfl, ht⟩, (h.ii _ _).2 ⟨k, rfl, by unfold dT; rw [hD]; rfl, ht⟩⟩
theorem seen_mem {M : PSt} {t : Int} {l : List Int} {x : Int} (hx : x ∈ l) (hr : (readE M t x).isSome = true) : x ∈ seen M t l := by
  unfold seen srt
  rw [List.mem_mergeSort]
  exact List.mem_filter.2 ⟨hx, hr⟩
/-- a node without edges that t reads is no end of what t reads -/
theorem LinkOk.no_end {M : PSt} (h : LinkOk M) {t n : Int} (hl : M.K.live t = true) (h0 : ¬ 0 < (outM M t n).length + (inM M t n).length) {id : Int} {e : EdgeV} (hr : M.vs.rdE t id = some e) : ¬ EndOf e n := fun he => by
  obtain ⟨h1, h2⟩ := h.of_read hr
  have hs : (readE M t id).isSome = true := by rw [readE_vs, hr]; rfl
  unfold outM inM at h0
  rw [if_pos hl, if_pos hl] at h0
  rcases he with rfl | rfl
  · have := seen_mem (M := M) ((mem_ids M.O e.from_ id).2 h1) hs
    have := List.length_pos_of_mem this
    omega
  · have := seen_mem (M := M) ((mem_ids M.I e.to_ id).2 h2) hs
    have := List.length_pos_of_mem this
    omega
theorem tieM_vs (M : PSt) (t : Int) (k : Nat) (v : EdgeV) (g : Bool) : (tieM M t k v g).vs = vTie M.vs t k v g := by
  unfold tieM
  rw [linkM_vs]
  unfold writeE endsM
  cases g <;> rfl
theorem small_none : Small NodeD.none := ⟨by simp [NodeD.none], by simp [NodeD.none]⟩
section
variable {p : PF} {a b c : Nat} (h : GOk p a b c) (ha : a ≤ 150) (hc : c ≤ 960000) (t : Int)
include h ha hc
theorem GOk.opDropNode (id : Int) : rmDropNode p t id = true ∧ GOk (opDropNode p t id).2 (a + 2) (b + 1) (c + 12000) := by
  unfold Go.Proofs.YtibfpkfpmkghhaaGreatDoor.opDropNode rmDropNode
  have hm := h.mono (show a ≤ a + 2 by omega) (show b ≤ b + 1 by omega) (show c ≤ c + 12000 by omega)
  cases hl : p.1.K.live t with
  | false => exact ⟨rfl, by rw [if_neg (by simp)]; exact hm⟩
  | true =>
    rw [if_pos rfl]
    cases hv : readN p.1 t id with
    | none => exact ⟨rfl, by rw [if_neg (by simp)]; exact hm⟩
    | some d0 =>
      by_cases hb : 0 < (outM p.1 t id).length + (inM p.1 t id).length
      · rw [if_pos hb, decide_eq_true hb]
        exact ⟨rfl, hm⟩
      · rw [if_neg hb, decide_eq_false hb]
        have hp := readN_pos hv
        cases hmy : mayB p.1 t 0 [id] with
        | true =>
          obtain ⟨h1, h2⟩ := h.abort (by omega) (by omega) hl
          simp only [Option.isSome_some, ↓reduceIte, Bool.and_self, Bool.and_true, Bool.not_true, Bool.not_false, Bool.false_or, Bool.false_eq_true, h1]
          exact ⟨trivial, h2.mono (by omega) (by omega) (by omega)⟩
        | false =>
          have hk : (id - 1).toNat < p.1.N.length := by omega
          obtain ⟨g1, g2⟩ := h.rm.put (by omega) (by omega) hk t small_none true
          simp only [Option.isSome_some, ↓reduceIte, Bool.and_self, Bool.and_true, Bool.not_true, Bool.not_false, Bool.false_or, Bool.false_eq_true, g1]
          have hcl := (mayB_no hmy).2 id (by simp)
          have e1 : (((id - 1).toNat : Nat) : Int) + 1 = id := by omega
          refine ⟨trivial, h.vj.drop hl hk (by rw [e1]; exact hcl) NodeD.none (fun i e he => by rw [e1]; exact h.lk.no_end hl hb he), h.lk.same rfl rfl rfl rfl, g2.mono (by omega) (by omega) (by omega)⟩
theorem GOk.opAddEdge {bb : Bool} {v : EdgeV} : rmAddEdge p t bb v = true ∧ GOk (opAddEdge p t bb v).2 (a + 2) (b + 1) (c + 12000) := by
  unfold Go.Proofs.YtibfpkfpmkghhaaGreatDoor.opAddEdge rmAddEdge
  have hm := h.mono (show a ≤ a + 2 by omega) (show b ≤ b + 1 by omega) (show c ≤ c + 12000 by omega)
  cases hl : p.1.K.live t with
  | false => exact ⟨rfl, by rw [if_neg (by simp)]; exact hm⟩
  | true =>
    rw [if_pos rfl]
    cases bb with
    | false => exact ⟨rfl, by rw [if_neg (by simp)]; exact hm⟩
    | true =>
      rw [if_pos rfl]
      cases hf : (readN p.1 t v.from_).isSome with
      | false => exact ⟨rfl, by rw [if_neg (by simp)]; exact hm⟩
      | true =>
        cases ht : (readN p.1 t v.to_).isSome with
        | false => exact ⟨rfl, by rw [if_neg (by simp)]; exact hm⟩
        | true =>
          by_cases hn : p.1.E.length < 32
          · rw [if_pos hn, decide_eq_true hn]
            cases hmy : mayB p.1 t 0 [v.from_, v.to_] with
            | true =>
              obtain ⟨h1, h2⟩ := h.abort (by omega) (by omega) hl
              simp only [Option.isSome_some, ↓reduceIte, Bool.and_self, Bool.and_true, Bool.not_true, Bool.not_false, Bool.false_or, Bool.false_eq_true, h1]
              exact ⟨trivial, h2.mono (by omega) (by omega) (by omega)⟩
            | false =>
              have hcl := (mayB_no hmy).2
              obtain ⟨g1, g2⟩ := exTouch_rm t [v.from_, v.to_] p a b c h.rm (by simp; omega) (by simp; omega)
              obtain ⟨q1, q2, q3, q4, q5⟩ := VJ.touch (t := t) [v.from_, v.to_] p.1.vs h.vj hl hcl
              have evs := exTouch_vs t [v.from_, v.to_] p
              have hlk := exTouch_lk t [v.from_, v.to_] p h.lk
              rw [← evs] at q1 q2 q3 q4 q5
              have eE : (exTouch t p [v.from_, v.to_]).1.E = p.1.E := q3
              have eK : (exTouch t p [v.from_, v.to_]).1.K = p.1.K := q2
              simp only [Option.isSome_some, ↓reduceIte, Bool.and_self, Bool.and_true, Bool.not_true, Bool.not_false, Bool.false_or, Bool.false_eq_true, Bool.true_and, g1]
              have hF := g2.F
              simp only [List.length_cons, List.length_nil] at g2 hF
              refine ⟨decide_eq_true (by omega), ?_, ?_, ?_⟩
              · show VJ (tieM (growE (exTouch t p [v.from_, v.to_]).1) t p.1.E.length v false).vs
                rw [tieM_vs]
                have hq := q1.growE
                refine hq.tie (t := t) (k := p.1.E.length) (by show (exTouch t p [v.from_, v.to_]).1.K.live t = true; rw [eK]; exact hl) (by show p.1.E.length < ((exTouch t p [v.from_, v.to_]).1.E ++ [[]]).length; rw [eE]; simp) ?_ v false (fun _ n hn2 => ?_)
                · have : (vGrowE (exTouch t p [v.from_, v.to_]).1.vs).ec ((p.1.E.length : Int) + 1) = [] := by
                    rw [vGrowE_ec]
                    exact cellOf_none (by show ¬ (1 ≤ _ ∧ _ ≤ ((exTouch t p [v.from_, v.to_]).1.E.length : Int)); rw [eE]; omega)
                  rw [this]
                  rfl
                · have hw : Wrt (exTouch t p [v.from_, v.to_]).1.vs t n := q5 n (.inl (by
                    rcases hn2 with rfl | rfl
                    · exact ⟨by simp, by rw [← readN_vs]; exact hf⟩
                    · exact ⟨by simp, by rw [← readN_vs]; exact ht⟩))
                  exact ⟨hw.rd, hw.own⟩
              · show LinkOk (tieM (growE (exTouch t p [v.from_, v.to_]).1) t p.1.E.length v false)
                rw [← eE]
                exact hlk.tieNew t v
              · have e1 : (tieM (growE (exTouch t p [v.from_, v.to_]).1) t p.1.E.length v false).N = (exTouch t p [v.from_, v.to_]).1.N := linkM_N _ _
                have e2 : (tieM (growE (exTouch t p [v.from_, v.to_]).1) t p.1.E.length v false).Y = (exTouch t p [v.from_, v.to_]).1.Y := (linkM_X _ _).2
                have e3 : (tieM (growE (exTouch t p [v.from_, v.to_]).1) t p.1.E.length v false).E = (p.1.E ++ [[]]).set p.1.E.length [⟨t, v, false⟩] := by
                  have : (tieM (growE (exTouch t p [v.from_, v.to_]).1) t p.1.E.length v false).E = ((exTouch t p [v.from_, v.to_]).1.E ++ [[]]).set p.1.E.length (writeV (exTouch t p [v.from_, v.to_]).1.K t v false (((exTouch t p [v.from_, v.to_]).1.E ++ [[]])[p.1.E.length]?.getD [])) := linkM_E _ _
                  rw [this, eE]
                  have e0 : (p.1.E ++ [([] : List (Ver EdgeV))])[p.1.E.length]?.getD [] = [] := by simp
                  rw [e0]
                  rfl
                have et := tot_set (p.1.E ++ [[]]) p.1.E.length [(⟨t, v, false⟩ : Ver EdgeV)] (by simp)
                have e0 : (p.1.E ++ [([] : List (Ver EdgeV))])[p.1.E.length]?.getD [] = [] := by simp
                rw [e0, tot_snoc] at et
                simp only [List.length_nil, List.length_cons] at et
                have hte := h.rm.te
                have hte2 : tot (exTouch t p [v.from_, v.to_]).1.E = tot p.1.E := by rw [eE]
                rw [hte2] at hF
                refine ⟨by show (tieM _ t _ v false).Y.length = (tieM _ t _ v false).N.length; rw [e1, e2]; exact g2.ny, by show ∀ L ∈ (tieM _ t _ v false).N, _; rw [e1]; exact g2.sm, by show ∀ k, ((tieM _ t _ v false).Y[k]?.getD []).length ≤ costV ((tieM _ t _ v false).N[k]?.getD []); rw [e1, e2]; exact g2.yl, by show (tieM _ t _ v false).N.length ≤ 24; rw [e1]; exact g2.n24, by show (tieM _ t _ v false).E.length ≤ 32; rw [e3]; simp; omega, by show tot (tieM _ t _ v false).N ≤ a + 2; rw [e1]; exact g2.tn, by show tot (tieM _ t _ v false).E ≤ b + 1; rw [e3]; omega, ?_⟩
                show (exTouch t p [v.from_, v.to_]).2 + 3 + 3000 * tot (tieM _ t _ v false).N + 2 * tot (tieM _ t _ v false).E ≤ c + 12000
                rw [e1, e3]
                omega
          · rw [if_neg hn, decide_eq_false hn]
            exact ⟨rfl, hm⟩
theorem GOk.opDropEdge (id : Int) : rmDropEdge p t id = true ∧ GOk (opDropEdge p t id).2 (a + 2) (b + 1) (c + 12000) := by
  unfold Go.Proofs.YtibfpkfpmkghhaaGreatDoor.opDropEdge rmDropEdge
  have hm := h.mono (show a ≤ a + 2 by omega) (show b ≤ b + 1 by omega) (show c ≤ c + 12000 by omega)
  cases hl : p.1.K.live t with
  | false => exact ⟨rfl, by rw [if_neg (by simp)]; exact hm⟩
  | true =>
    rw [if_pos rfl]
    cases hv : readE p.1 t id with
    | none => exact ⟨rfl, hm⟩
    | some v =>
      dsimp only
      cases hmy : mayB p.1 t id [v.from_, v.to_] with
      | true =>
        obtain ⟨h1, h2⟩ := h.abort (by omega) (by omega) hl
        simp only [Option.isSome_some, ↓reduceIte, Bool.and_self, Bool.and_true, Bool.not_true, Bool.not_false, Bool.false_or, Bool.false_eq_true, h1]
        exact ⟨trivial, h2.mono (by omega) (by omega) (by omega)⟩
      | false =>
        obtain ⟨hce, hcn⟩ := mayB_no hmy
        have hp := readE_pos hv
        have hk : (id - 1).toNat < p.1.E.length := by omega
        have e1 : (((id - 1).toNat : Nat) : Int) + 1 = id := by omega
        have eec : p.1.vs.ec id = p.1.E[(id - 1).toNat]?.getD [] := by
          have := cellOf_nat p.1.E (id - 1).toNat
          rw [e1] at this
          exact this
        have hC := h.vj.e id
        have hvj : VJ (tieM p.1 t (id - 1).toNat EdgeV.none true).vs := by
          rw [tieM_vs]
          exact h.vj.tie hl hk (by rw [e1]; exact hce) EdgeV.none true (fun q => by cases q)
        have hlk : LinkOk (tieM p.1 t (id - 1).toNat EdgeV.none true) := h.lk.tieGone hk t EdgeV.none (fun y hy hg => by
          rw [← eec] at hy ⊢
          rcases mem_write hC hl hce EdgeV.none true hy with rfl | ⟨q, -⟩
          · cases hg
          · exact q)
        have f1 : (tieM p.1 t (id - 1).toNat EdgeV.none true).N = p.1.N := linkM_N _ _
        have f2 : (tieM p.1 t (id - 1).toNat EdgeV.none true).Y = p.1.Y := (linkM_X _ _).2
        have f3 : (tieM p.1 t (id - 1).toNat EdgeV.none true).E = p.1.E.set (id - 1).toNat (writeV p.1.K t EdgeV.none true (p.1.E[(id - 1).toNat]?.getD [])) := linkM_E _ _
        have f4 : (tieM p.1 t (id - 1).toNat EdgeV.none true).K = p.1.K := linkM_K _ _
        have et := tot_set p.1.E (id - 1).toNat (writeV p.1.K t EdgeV.none true (p.1.E[(id - 1).toNat]?.getD [])) hk
        have ew := writeV_len p.1.K t EdgeV.none true (p.1.E[(id - 1).toNat]?.getD [])
        have hr := h.rm
        have hF := hr.F
        have hte := hr.te
        have hrm : Room (tieM p.1 t (id - 1).toNat EdgeV.none true, p.2 + 3) a (b + 1) (c + 5) := by
          refine ⟨by show (tieM _ t _ _ true).Y.length = (tieM _ t _ _ true).N.length; rw [f1, f2]; exact hr.ny, by show ∀ L ∈ (tieM _ t _ _ true).N, _; rw [f1]; exact hr.sm, by show ∀ k, ((tieM _ t _ _ true).Y[k]?.getD []).length ≤ costV ((tieM _ t _ _ true).N[k]?.getD []); rw [f1, f2]; exact hr.yl, by show (tieM _ t _ _ true).N.length ≤ 24; rw [f1]; exact hr.n24, by show (tieM _ t _ _ true).E.length ≤ 32; rw [f3, List.length_set]; exact hr.e32, by show tot (tieM _ t _ _ true).N ≤ a; rw [f1]; exact hr.tn, by show tot (tieM _ t _ _ true).E ≤ b + 1; rw [f3]; omega, ?_⟩
          show p.2 + 3 + 3000 * tot (tieM _ t _ _ true).N + 2 * tot (tieM _ t _ _ true).E ≤ c + 5
          rw [f1, f3]
          omega
        obtain ⟨g1, g2⟩ := exTouch_rm t [v.from_, v.to_] (tieM p.1 t (id - 1).toNat EdgeV.none true, p.2 + 3) a (b + 1) (c + 5) hrm (by simp only [List.length_cons, List.length_nil]; omega) (by simp only [List.length_cons, List.length_nil]; omega)
        have enc : ∀ n, (tieM p.1 t (id - 1).toNat EdgeV.none true).vs.nc n = p.1.vs.nc n := fun n => by unfold VS.nc PSt.vs; dsimp only; rw [f1]
        obtain ⟨q1, -⟩ := VJ.touch (t := t) [v.from_, v.to_] (tieM p.1 t (id - 1).toNat EdgeV.none true).vs hvj (by show (tieM p.1 t (id - 1).toNat EdgeV.none true).K.live t = true; rw [f4]; exact hl) (fun n hn => by
          rw [enc]
          show clashV (tieM p.1 t (id - 1).toNat EdgeV.none true).K t _ = false
          rw [f4]
          exact hcn n hn)
        rw [← exTouch_vs t [v.from_, v.to_] (tieM p.1 t (id - 1).toNat EdgeV.none true, p.2 + 3)] at q1
        simp only [Option.isSome_some, ↓reduceIte, Bool.and_self, Bool.and_true, Bool.not_true, Bool.not_false, Bool.false_or, Bool.false_eq_true, g1, Bool.true_and]
        exact ⟨decide_eq_true (by omega), q1, exTouch_lk t _ _ hlk, g2.mono (by simp only [List.length_cons, List.length_nil]; omega) (Nat.le_refl _) (by simp only [List.length_cons, List.length_nil]; omega)⟩
end
theorem spare_some_ok {α : Type} {K : Ck} {L : List (Ver α)} (hC : CellOk K L) (hs : (spareI K.settled L).isSome = true) : SwOk K.settled L (sweepL K.settled L) := by
  rw [spare_eq hC] at hs
  rw [sweep_eq hC]
  obtain ⟨i, hi⟩ := Option.isSome_iff_exists.1 hs
  exact rsweep_ok hi
theorem GOk.opVac {p : PF} {a b c : Nat} (h : GOk p a b c) (ha : a ≤ 160) (hc : c ≤ 980000) : rmVac p = true ∧ GOk (opVac p).2 a b c := by
  obtain ⟨h1, h2⟩ := h.rm.vac ha hc
  refine ⟨h1, ?_, ?_, h2⟩
  · unfold Go.Proofs.YtibfpkfpmkghhaaGreatDoor.opVac
    cases hv : firstB (sparN p.1) p.1.N.length with
    | some i =>
      obtain ⟨hi, hs, -⟩ := firstB_is hv
      have e1 : p.1.vs.nc ((i : Int) + 1) = p.1.N[i]?.getD [] := cellOf_nat _ _
      exact h.vj.vacN hi (spare_some_ok (h.vj.n _) (by rw [e1]; exact hs))
    | none =>
      cases hw : firstB (sparE p.1) p.1.E.length with
      | none => exact h.vj
      | some j =>
        obtain ⟨hj, hs, -⟩ := firstB_is hw
        have e1 : p.1.vs.ec ((j : Int) + 1) = p.1.E[j]?.getD [] := cellOf_nat _ _
        show VJ (linkM (swE p.1 j) j).vs
        rw [linkM_vs]
        exact h.vj.vacE hj (spare_some_ok (h.vj.e _) (by rw [e1]; exact hs))
  · unfold Go.Proofs.YtibfpkfpmkghhaaGreatDoor.opVac
    cases hv : firstB (sparN p.1) p.1.N.length with
    | some i => exact h.lk.same rfl rfl rfl rfl
    | none =>
      cases hw : firstB (sparE p.1) p.1.E.length with
      | none => exact h.lk
      | some j =>
        obtain ⟨hj, -, -⟩ := firstB_is hw
        exact h.lk.swEk hj (sweep_sub _ _)
/-! ### Acts -/
/-- an act -/
def actP (p : PF) (d : ActD) : PF :=
  if d.kind = 1 then (Go.Proofs.YtibfpkfpmkghhaaGreatDoor.opBegin p).2 else if d.kind = 2 then (Go.Proofs.YtibfpkfpmkghhaaGreatDoor.opCommit p d.t).2 else if d.kind = 3 then (Go.Proofs.YtibfpkfpmkghhaaGreatDoor.opAbort p d.t).2 else if d.kind = 4 then (Go.Proofs.YtibfpkfpmkghhaaGreatDoor.opAddNode p d.t (isNodeB d.n) d.n).2 else if d.kind = 5 then (Go.Proofs.YtibfpkfpmkghhaaGreatDoor.opSetNode p d.t d.id (isNodeB d.n) d.n).2
  else if d.kind = 6 then (Go.Proofs.YtibfpkfpmkghhaaGreatDoor.opDropNode p d.t d.id).2 else if d.kind = 7 then (Go.Proofs.YtibfpkfpmkghhaaGreatDoor.opAddEdge p d.t (isEdgeB d.e) d.e).2 else if d.kind = 8 then (Go.Proofs.YtibfpkfpmkghhaaGreatDoor.opDropEdge p d.t d.id).2 else (Go.Proofs.YtibfpkfpmkghhaaGreatDoor.opVac p).2
def actsP (l : List ActD) (i : Nat) : PF := (l.take i).foldl actP (emptyM, 0)
theorem actsP_succ {l : List ActD} {i : Nat} {d : ActD} (h : l[i]? = some d) : actsP l (i + 1) = actP (actsP l i) d := by
  unfold actsP
  rw [List.take_add_one, h, Option.toList_some, List.foldl_append]
  rfl
theorem node_small {d : NodeD} (h : isNodeB d = true) : Small d := by
  unfold isNodeB namesB at h
  simp only [Bool.and_eq_true, decide_eq_true_eq, List.length_map] at h
  exact ⟨h.2.1.2, h.2.2.2⟩
theorem GOk.act {p : PF} {a b c : Nat} (h : GOk p a b c) (ha : a ≤ 150) (hc : c ≤ 960000) (d : ActD) : GOk (actP p d) (a + 2) (b + 1) (c + 12000) := by
  unfold actP
  split
  · exact h.opBegin ha hc
  split
  · exact h.opCommit ha hc d.t
  split
  · exact (h.opAbort ha hc d.t).2
  split
  · exact (h.opAddNode ha hc d.t node_small).2
  split
  · exact (h.opSetNode ha hc d.t d.id node_small).2
  split
  · exact (h.opDropNode ha hc d.t d.id).2
  split
  · exact (h.opAddEdge ha hc d.t).2
  split
  · exact (h.opDropEdge ha hc d.t d.id).2
  · exact (h.opVac (by omega) (by omega)).2.mono (by omega) (by omega) (by omega)
theorem cellOf_nil {α : Type} (id : Int) : Go.Proofs.YtibfpkfpmkghhaaGreatDoor.cellOf ([] : List (List α)) id = [] := by
  unfold Go.Proofs.YtibfpkfpmkghhaaGreatDoor.cellOf
  split <;> simp
theorem GOk.empty : GOk (emptyM, 0) 0 0 0 := by
  have e1 : ∀ id, emptyM.vs.nc id = [] := fun id => cellOf_nil id
  have e2 : ∀ id, emptyM.vs.ec id = [] := fun id => cellOf_nil id
  refine ⟨{ clk := ⟨fun x hx => (by cases hx), by decide, fun x hx => (by cases hx), fun x hx => (by cases hx)⟩, n := fun id => by rw [e1]; exact CellOk.nil, e := fun id => by rw [e2]; exact CellOk.nil, j1 := ?_, j2 := ?_, j3 := ?_, j4 := ?_ }, ⟨rfl, fun k y hy => (by
    have : (emptyM.E[k]?.getD []) = [] := by simp [emptyM]
    rw [this] at hy
    cases hy), fun g id => ⟨fun hm => (by cases hm), fun ⟨k, _, h1, _⟩ => (by cases h1)⟩, fun g id => ⟨fun hm => (by cases hm), fun ⟨k, _, h1, _⟩ => (by cases h1)⟩⟩, ⟨rfl, fun L hL => (by cases hL), fun k => by simp [emptyM], by simp [emptyM], by simp [emptyM], by simp [emptyM, tot], by simp [emptyM, tot], by simp [emptyM, tot]⟩⟩
  · intro id e he; rw [e2] at he; cases he
  · intro t ht id e he; unfold VS.rdE at he; rw [e2] at he; cases he
  · intro t ht id y hy; rw [e2] at hy; cases hy
  · intro id y x hy; rw [e2] at hy; cases hy
theorem GOk.acts (l : List ActD) : ∀ i, i ≤ 50 → GOk (actsP l i) (2 * i) i (12000 * i)
  | 0, _ => GOk.empty
  | i + 1, hi => by
    have ih := GOk.acts l i (by omega)
    by_cases hl : i < l.length
    · rw [actsP_succ (List.getElem?_eq_getElem hl)]
      exact (ih.act (by omega) (by omega) _).mono (by omega) (by omega) (by omega)
    · have e : actsP l (i + 1) = actsP l i := by unfold actsP; rw [List.take_of_length_le (by omega), List.take_of_length_le (by omega)]
      rw [e]
      exact ih.mono (by omega) (by omega) (by omega)
end Go.Proofs.YtibfpkfpmkghhaaGreatDoor

namespace Go.Proofs.YtibfpkfpmkghhaaGreatDoor
open Go.RowKit Go.Lig Go.ChangeShapes Go.WideShapes Go.ChangeAt Go.Deep
section
variable {H : Type} {enc : TypeId × Value → H} {W : World}
set_option maxRecDepth 100000 in
theorem u_node {n : Nat} {v0 v1 : Value} {y : DataW H × List MemPlace} (h : DataW.trod enc Tryz.prog W 0 (fun _ => true) true n 31 [v0, v1] = some y) (hr : RchD Tryz.prog 31 y.1) :
    ∃ (x : NodeV) (d : NodeD), v0 = .slice x.l.a x.l.n x.l.c ∧ v1 = .slice x.p.a x.p.n x.p.c ∧ NodeOf W v0 v1 d ∧ NodeLow d := by
  obtain ⟨xs, k, hk, hxy, _, hxl, hf⟩ := DataW.trod_struct Tryz.underlying31 h
  have c1 : Tryz.prog.cellsOf 28 = 1 := by kernel_rfl
  have c2 : Tryz.prog.cellsOf 29 = 1 := by kernel_rfl
  match xs, hxl with
  | [y0, y1], _ =>
    subst hxy
    have g0 := hf 0 _ rfl
    have g1 := hf 1 _ rfl
    simp [c1, c2] at g0 g1
    obtain ⟨L, l1, l2, l3⟩ := u_strings g0 (hr.part Tryz.underlying31 (i := 0) (d := y0.1) rfl rfl)
    obtain ⟨Q, q1, q2, q3⟩ := u_props g1 (hr.part Tryz.underlying31 (i := 1) (d := y1.1) rfl rfl)
    obtain ⟨ao, c, rfl, -⟩ := rd_len l1
    obtain ⟨po, pc, rfl, -⟩ := rd_len q1
    exact ⟨⟨⟨ao, L.length, c⟩, ⟨po, Q.length, pc⟩⟩, ⟨L, Q⟩, rfl, rfl, ⟨l1, q1, fun q hq => (q2 q hq).1, fun s hs => Nat.le_trans (l2 s hs) (by decide)⟩, ⟨l3, q3, l2, fun q hq => (q2 q hq).2⟩⟩
set_option maxRecDepth 100000 in
theorem u_edge {n : Nat} {v0 v1 v2 v3 : Value} {y : DataW H × List MemPlace} (h : DataW.trod enc Tryz.prog W 0 (fun _ => true) true n 42 [v0, v1, v2, v3] = some y) (hr : RchD Tryz.prog 42 y.1) :
    ∃ d : EdgeV, v0 = .int .i64 d.from_ ∧ v1 = .int .i64 d.to_ ∧ v2 = .string d.type ∧ v3 = .float .f64 d.w ∧ EdgeLow d := by
  obtain ⟨xs, k, hk, hxy, _, hxl, hf⟩ := DataW.trod_struct Tryz.underlying42 h
  have c1 : Tryz.prog.cellsOf 3 = 1 := by kernel_rfl
  have c3 : Tryz.prog.cellsOf 40 = 1 := by kernel_rfl
  have c4 : Tryz.prog.cellsOf 9 = 1 := by kernel_rfl
  match xs, hxl with
  | [y0, y1, y2, y3], _ =>
    subst hxy
    have g0 := hf 0 _ rfl
    have g1 := hf 1 _ rfl
    have g2 := hf 2 _ rfl
    have g3 := hf 3 _ rfl
    simp [c1, c3, c4] at g0 g1 g2 g3
    have r2 := hr.part Tryz.underlying42 (i := 2) (d := y2.1) rfl rfl
    obtain ⟨m0, e0, -, w0⟩ := DataW.trod_int Tryz.underlying3 g0
    obtain ⟨m1, e1, -, w1⟩ := DataW.trod_int Tryz.underlying3 g1
    obtain ⟨s2, e2, x2, -⟩ := DataW.trod_string Tryz.underlying9 g2
    obtain ⟨m3, e3, w3⟩ := trodf Tryz.underlying40 g3
    subst x2
    exact ⟨⟨m0, m1, s2, m3⟩, by simpa using e0, by simpa using e1, by simpa using e2, by simpa using e3, ⟨w0, w1, r2.string, w3⟩⟩
set_option maxRecDepth 100000 in
theorem u_acts {n : Nat} {v : Value} {y : DataW H × List MemPlace} (h : DataW.trod enc Tryz.prog W 0 (fun _ => true) true n 38 [v] = some y) (hr : RchD Tryz.prog 38 y.1) : ∃ l, ActsAt W v l := by
  have c1 : Tryz.prog.cellsOf 3 = 1 := by kernel_rfl
  have cn : Tryz.prog.cellsOf 31 = 2 := by kernel_rfl
  have ce : Tryz.prog.cellsOf 42 = 4 := by kernel_rfl
  obtain ⟨R, r1, r2, r3⟩ := rd_rowU (α := ActV) actcell (m := 9) (by decide) (fun _ => rfl) actcell_one (fun a => ∃ d, ActIn W a d) Tryz.underlying38 (by kernel_rfl) (by decide +kernel) (fun n cs y h hlen hr => by
    obtain ⟨xs, k, hk, hxy, _, hxl, hf⟩ := DataW.trod_struct Tryz.underlying44 h
    match xs, hxl, cs, hlen with
    | [y0, y1, y2, y3, y4], _, [v0, v1, v2, v3, v4, v5, v6, v7, v8], _ =>
      subst hxy
      have g0 := hf 0 _ rfl
      have g1 := hf 1 _ rfl
      have g2 := hf 2 _ rfl
      have g3 := hf 3 _ rfl
      have g4 := hf 4 _ rfl
      simp [c1, cn, ce] at g0 g1 g2 g3 g4
      obtain ⟨m0, e0, -, w0⟩ := DataW.trod_int Tryz.underlying3 g0
      obtain ⟨m1, e1, -, w1⟩ := DataW.trod_int Tryz.underlying3 g1
      obtain ⟨m2, e2, -, w2⟩ := DataW.trod_int Tryz.underlying3 g2
      obtain ⟨x, d, rfl, rfl, hn, hl⟩ := u_node g3 (hr.part Tryz.underlying44 (i := 3) (d := y3.1) rfl rfl)
      obtain ⟨ed, rfl, rfl, rfl, rfl, he⟩ := u_edge g4 (hr.part Tryz.underlying44 (i := 4) (d := y4.1) rfl rfl)
      obtain rfl : v0 = .int .i64 m0 := by simpa using e0
      obtain rfl : v1 = .int .i64 m1 := by simpa using e1
      obtain rfl : v2 = .int .i64 m2 := by simpa using e2
      exact ⟨⟨m0, m1, m2, x, ed⟩, rfl, ⟨m0, m1, m2, d, ed⟩, rfl, rfl, rfl, rfl, hn, hl, he, w0, w1, w2⟩) h hr
  obtain ⟨g, hg⟩ : ∃ g : ActV → ActD, ∀ a ∈ R, ActIn W a (g a) := by
    have : ∀ a : ActV, ∃ d : ActD, a ∈ R → ActIn W a d := fun a => by
      by_cases ha : a ∈ R
      · obtain ⟨d, hd⟩ := r2 a ha
        exact ⟨d, fun _ => hd⟩
      · exact ⟨default, fun h => absurd h ha⟩
    exact ⟨fun a => (this a).choose, fun a ha => (this a).choose_spec ha⟩
  refine ⟨R.map g, ⟨R, by simp, by rw [List.length_map]; exact r1, fun j a d e1 e2 => ?_⟩, by rw [List.length_map]; exact r3⟩
  rw [List.getElem?_map, e1] at e2
  obtain rfl : g a = d := by simpa using e2
  exact hg a (List.mem_of_getElem? e1)
end
end Go.Proofs.YtibfpkfpmkghhaaGreatDoor

namespace Go.Proofs.YtibfpkfpmkghhaaGreatDoor
open Go.RowKit Go.Lig

/-- a node's value: strings, and properties of six cells each -/
structure NodeRd (w : World) (sl sp : Value) (n m : Nat) (xs ys : List Value) : Prop where
  l : Rd w sl n 1 xs
  p : Rd w sp m 6 ys
  ls : ∀ k, k < n → ∃ s, xs[k]? = some (.string s)
  ps : ∀ k, k < m → ∃ s s', ys[k * 6]? = some (.string s) ∧ ys[k * 6 + 5]? = some (.string s')
structure WideEnd (w : World) (e : Ending) (w' : World) : Prop where
  ex : ∃ b, e = .returned (.bool b)
  fr : Fr No w w'
end Go.Proofs.YtibfpkfpmkghhaaGreatDoor

namespace Go.Proofs.YtibfpkfpmkghhaaGreatDoor
open Go.RowKit Go.Lig

theorem NodeOf.rdW {w : World} {sl sp : Value} {d : NodeD} (h : Go.Lig.NodeOf w sl sp d) : NodeRd w sl sp d.L.length d.Q.length (d.L.map Value.string) (d.Q.flatMap pcell) :=
  ⟨h.l, h.p, fun k hk => ⟨d.L[k], by rw [List.getElem?_map, List.getElem?_eq_getElem hk]; rfl⟩, fun k hk => ⟨d.Q[k].key, d.Q[k].v.t, by
    have := flat_get (f := pcell) (m := 6) (fun _ => rfl) d.Q k d.Q[k] (List.getElem?_eq_getElem hk) 0 (by decide)
    rw [Nat.add_zero] at this
    rw [this]; rfl, by
    have := flat_get (f := pcell) (m := 6) (fun _ => rfl) d.Q k d.Q[k] (List.getElem?_eq_getElem hk) 5 (by decide)
    rw [this]; rfl⟩⟩
/-- a node's strings: none too long -/
structure StrLow (n m : Nat) (xs ys : List Value) : Prop where
  ls : ∀ k s, k < n → xs[k]? = some (.string s) → (s.size : Int) ≤ 140737488355328
  ps : ∀ k s s', k < m → ys[k * 6]? = some (.string s) → ys[k * 6 + 5]? = some (.string s') → (s.size : Int) ≤ 140737488355328 ∧ (s'.size : Int) ≤ 140737488355328
structure WideLow (w : World) (s : Nat) (e : Ending) (w' : World) : Prop where
  ex : ∃ b, e = .returned (.bool b) ∧ (b = false → s < 5000)
  fr : Fr No w w'
set_option maxRecDepth 100000 in
set_option maxHeartbeats 4000000 in
theorem wide_low (w : World) (g : Nat) (sl sp : Value) (n m : Nat) (xs ys : List Value) (h : NodeRd w sl sp n m xs ys) (hst : StrLow n m xs ys) (hn47 : (n : Int) ≤ 140737488355328) (hm47 : (m : Int) ≤ 140737488355328)
    (ef et : Int) (ty : ByteArray) (ew : Nat) (ht47 : (ty.size : Int) ≤ 140737488355328)
    (hg : w.heap[g]? = some (.cells #[.bool false, .int .i64 0, .bool false, sl, sp, .int .i64 ef, .int .i64 et, .string ty, .float FloatKind.f64 ew] 71 (0, 0))) :
    Calls Tryz.prog 54 #[.slice (some ⟨g, 0, none⟩) 1 1] w (WideLow w (n + m + ty.size)) := by
  obtain ⟨ao, ca, rfl, hn⟩ := rd_len h.l
  obtain ⟨po, pc, rfl, hm⟩ := rd_len h.p
  have HH := hid (⟨h, hg⟩ : _ ∧ _)
  have HSt := hid hst
  clear h hg hst
  obtain ⟨S, hS⟩ : ∃ S : Int, S = 1 + (ty.size : Int) + (n : Int) + (m : Int) := ⟨_, rfl⟩
  go_enter Tryz.func54, Tryz.ntmps54
  go_wp2_with fail
  go_loopw [3, 4] (fun vx vi wr => ∃ (x : Int) (i : Nat), i ≤ 1 ∧ (i = 0 → x = 0) ∧ (i = 1 → S ≤ x) ∧ vx = .int .i64 x ∧ vi = .int .i64 (i : Int) ∧ Hid (Fr No w wr)) (fun _ vi _ => 1 - (intOf vi).toNat)
  case atStart => exact ⟨0, 0, Nat.zero_le _, fun _ => rfl, fun h => (by cases h), rfl, rfl, Fr.refl _ _⟩
  case round =>
    obtain ⟨x, i, hi, hx0, hx1, rfl, rfl, HF⟩ := hrel
    by_cases hlt : i < 1
    · obtain rfl : i = 0 := by omega
      have hc := Go.Lig.cellOf (HF.out.keep HH.out.2 (fun e => e))
      have c3 := hc 3
      have c4 := hc 4
      have c7 := hc 7
      simp at c3 c4 c7
      clear hc
      obtain rfl := hx0 rfl
      clear hx0 hx1
      by_cases hx : (0 : Int) < 5000
      · go_wp2_with fail
        go_quiet (fail)
        go_wp2_with fail
        go_loopw [3, 5] (fun vx vk wr => ∃ (x : Int) (k : Nat), k ≤ n ∧ S ≤ x ∧ x ≤ 1125899906842624 ∧ vx = .int .i64 x ∧ vk = .int .i64 (k : Int) ∧ Hid (Fr No w wr)) (fun _ vk _ => n - (intOf vk).toNat)
        case atStart => exact ⟨1 + (ty.size : Int) + (n : Int) + (m : Int), 0, Nat.zero_le _, by omega, by omega, rfl, rfl, HF.out.drewN _⟩
        case round =>
          obtain ⟨x, k, hk, hS1, hS2, rfl, rfl, HF2⟩ := hrel
          clear hx c3 c4 c7
          have hc := Go.Lig.cellOf (HF2.out.keep HH.out.2 (fun e => e))
          have c3 := hc 3
          have c4 := hc 4
          simp at c3 c4
          clear hc
          have hw : wrap64 ((k : Int) + 1) = (k : Int) + 1 ∨ k = n := by
            by_cases e : k = n
            · exact .inr e
            · exact .inl (by unfold wrap64; omega)
          by_cases hx : k < n ∧ x < 5000
          · obtain ⟨hkn, hx5⟩ := hx
            have hkn' : (k : Int) < (n : Int) := by omega
            have hw2 : wrap64 ((k : Int) + 1) = (k : Int) + 1 := by rcases hw with h | h; exact h; omega
            obtain ⟨str, hs⟩ := HH.out.1.ls k hkn
            have q1 := HSt.out.ls k str hkn hs
            obtain ⟨ba, oa, ca', hva, hca⟩ := HH.out.1.l.at1 (k := k) hs
            obtain ⟨rfl, rfl⟩ : ao = some ⟨ba, oa, none⟩ ∧ ca = ca' := by simpa using hva
            have c1 : _ = some (Value.string str) := hca _ HF2.out
            clear hva hca hs hw
            go_wp2_with fail
            go_roundw
            case rel => exact ⟨_, k + 1, by omega, by omega, by omega, rfl, by go_num, HF2.out⟩
            case measure => simp [intOf]; omega
          · clear hw
            by_cases hkn : k < n
            · have hkn' : (k : Int) < (n : Int) := by omega
              have hx5 : ¬ x < 5000 := by omega
              clear hx
              go_wp2_with fail
              clear c3 c4
              go_loopw [3, 6] (fun vx vk wr => ∃ (x : Int) (k : Nat), k ≤ m ∧ S ≤ x ∧ x ≤ 1125899906842624 ∧ vx = .int .i64 x ∧ vk = .int .i64 (k : Int) ∧ Hid (Fr No w wr)) (fun _ vk _ => m - (intOf vk).toNat)
              case atStart => exact ⟨x, 0, Nat.zero_le _, hS1, hS2, rfl, rfl, HF2.out⟩
              case round =>
                clear hS1 hS2
                obtain ⟨y, j, hj, hS1, hS2, rfl, rfl, HF3⟩ := hrel
                have hc := Go.Lig.cellOf (HF3.out.keep HH.out.2 (fun e => e))
                have c3 := hc 3
                have c4 := hc 4
                simp at c3 c4
                clear hc
                by_cases hjm : j < m
                · have hjm' : (j : Int) < (m : Int) := by omega
                  by_cases hy : y < 5000
                  · have hw2 : wrap64 ((j : Int) + 1) = (j : Int) + 1 := by unfold wrap64; omega
                    obtain ⟨str, str', hs, hs'⟩ := HH.out.1.ps j hjm
                    obtain ⟨q1, q2⟩ := HSt.out.ps j str str' hjm hs hs'
                    obtain ⟨bp, op, cp, hvp, hcp⟩ := HH.out.1.p.at1 hs
                    obtain ⟨rfl, rfl⟩ : po = some ⟨bp, op, none⟩ ∧ pc = cp := by simpa using hvp
                    obtain ⟨bp', op', cp', hvp', hcp'⟩ := HH.out.1.p.at1 hs'
                    obtain ⟨rfl, rfl⟩ : bp = bp' ∧ op = op' := by simpa using (Value.slice.inj hvp').1
                    have d1 : _ = some (Value.string str) := hcp _ HF3.out
                    have d2 : _ = some (Value.string str') := hcp' _ HF3.out
                    rw [← Nat.add_assoc] at d2
                    clear hvp hcp hs hvp' hcp' hs'
                    go_wp2_with fail
                    go_quiet (fail)
                    go_wp2_with fail
                    go_roundw
                    case rel => exact ⟨_, j + 1, by omega, by omega, by omega, rfl, by go_num, HF3.out.drewN _⟩
                    case measure => simp [intOf]; omega
                  · go_wp2_with fail
                    go_roundw
                    case rel => exact ⟨_, 1, Nat.le_refl _, fun h => (by cases h), fun _ => hS1, rfl, by go_num, HF3.out⟩
                    case measure => simp [intOf]
                · have hjm' : ¬ (j : Int) < (m : Int) := by omega
                  go_wp2_with fail
                  go_roundw
                  case rel => exact ⟨_, 1, Nat.le_refl _, fun h => (by cases h), fun _ => hS1, rfl, by go_num, HF3.out⟩
                  case measure => simp [intOf]
            · have hkn' : ¬ (k : Int) < (n : Int) := by omega
              clear hx
              go_wp2_with fail
              clear c3 c4
              go_loopw [3, 6] (fun vx vk wr => ∃ (x : Int) (k : Nat), k ≤ m ∧ S ≤ x ∧ x ≤ 1125899906842624 ∧ vx = .int .i64 x ∧ vk = .int .i64 (k : Int) ∧ Hid (Fr No w wr)) (fun _ vk _ => m - (intOf vk).toNat)
              case atStart => exact ⟨x, 0, Nat.zero_le _, hS1, hS2, rfl, rfl, HF2.out⟩
              case round =>
                clear hS1 hS2
                obtain ⟨y, j, hj, hS1, hS2, rfl, rfl, HF3⟩ := hrel
                have hc := Go.Lig.cellOf (HF3.out.keep HH.out.2 (fun e => e))
                have c3 := hc 3
                have c4 := hc 4
                simp at c3 c4
                clear hc
                by_cases hjm : j < m
                · have hjm' : (j : Int) < (m : Int) := by omega
                  by_cases hy : y < 5000
                  · have hw2 : wrap64 ((j : Int) + 1) = (j : Int) + 1 := by unfold wrap64; omega
                    obtain ⟨str, str', hs, hs'⟩ := HH.out.1.ps j hjm
                    obtain ⟨q1, q2⟩ := HSt.out.ps j str str' hjm hs hs'
                    obtain ⟨bp, op, cp, hvp, hcp⟩ := HH.out.1.p.at1 hs
                    obtain ⟨rfl, rfl⟩ : po = some ⟨bp, op, none⟩ ∧ pc = cp := by simpa using hvp
                    obtain ⟨bp', op', cp', hvp', hcp'⟩ := HH.out.1.p.at1 hs'
                    obtain ⟨rfl, rfl⟩ : bp = bp' ∧ op = op' := by simpa using (Value.slice.inj hvp').1
                    have d1 : _ = some (Value.string str) := hcp _ HF3.out
                    have d2 : _ = some (Value.string str') := hcp' _ HF3.out
                    rw [← Nat.add_assoc] at d2
                    clear hvp hcp hs hvp' hcp' hs'
                    go_wp2_with fail
                    go_quiet (fail)
                    go_wp2_with fail
                    go_roundw
                    case rel => exact ⟨_, j + 1, by omega, by omega, by omega, rfl, by go_num, HF3.out.drewN _⟩
                    case measure => simp [intOf]; omega
                  · go_wp2_with fail
                    go_roundw
                    case rel => exact ⟨_, 1, Nat.le_refl _, fun h => (by cases h), fun _ => hS1, rfl, by go_num, HF3.out⟩
                    case measure => simp [intOf]
                · have hjm' : ¬ (j : Int) < (m : Int) := by omega
                  go_wp2_with fail
                  go_roundw
                  case rel => exact ⟨_, 1, Nat.le_refl _, fun h => (by cases h), fun _ => hS1, rfl, by go_num, HF3.out⟩
                  case measure => simp [intOf]
      · exact absurd (by decide : (0 : Int) < 5000) hx
    · obtain rfl : i = 1 := by omega
      have hS1 := hx1 rfl
      clear hx0 hx1
      by_cases hx : x < 5000
      · have hx' : ¬ 5000 ≤ x := by omega
        go_wp2_with fail
        go_ret
        exact ⟨⟨_, rfl, fun _ => by omega⟩, HF.out⟩
      · have hx' : 5000 ≤ x := by omega
        go_wp2_with fail
        go_ret
        exact ⟨⟨_, rfl, fun h => (by cases h)⟩, HF.out⟩
end Go.Proofs.YtibfpkfpmkghhaaGreatDoor
