/- A part of the proof: contracts of functions of the program, for the row's text. -/
import Derived.Test.YtibfpkfpmkghhaaGreatDoorJ42
import Derived.Test.YtibfpkfpmkghhaaGreatDoorJ40
import Derived.Test.YtibfpkfpmkghhaaGreatDoorJ36
namespace Go.Proofs.YtibfpkfpmkghhaaGreatDoor
open Go.RowKit Go.Lig

/-- a row made anew -/
structure ROwn (w w' : World) (v : Value) (L : List (Ver Nat)) : Prop where
  row : w'.ownsRow 0 233 3 v L.length (L.flatMap rvcell)
  blk : ∀ k, v.ownBlock = some k → w.heap.size ≤ k
  fr : Fr No w w'
end Go.Proofs.YtibfpkfpmkghhaaGreatDoor

namespace Go.Proofs.YtibfpkfpmkghhaaGreatDoor
open Go.RowKit Go.Lig

/-- is the i-th spare? -/
def spR {α : Type} (st : Int → Bool) (L : List (Ver α)) (i : Nat) : Bool := (match L[i]? with
  | some y => i == 0 && y.gone && st y.by_
  | none => false) || (L.drop (i + 1)).any (fun z => st z.by_)
def rspare {α : Type} (st : Int → Bool) (L : List (Ver α)) : Option Nat := (List.range L.length).find? (spR st L)
end Go.Proofs.YtibfpkfpmkghhaaGreatDoor

namespace Go.Proofs.YtibfpkfpmkghhaaGreatDoor
open Go.RowKit Go.Lig

def rsweep {α : Type} (st : Int → Bool) (L : List (Ver α)) : List (Ver α) := match rspare st L with
  | some i => L.take i ++ L.drop (i + 1)
  | none => L
theorem rspare_lt {α : Type} {st : Int → Bool} {L : List (Ver α)} {i : Nat} (h : rspare st L = some i) : i < L.length := by
  unfold rspare at h
  rw [List.find?_range_eq_some] at h
  simpa using h.2.1
end Go.Proofs.YtibfpkfpmkghhaaGreatDoor

namespace Go.Proofs.YtibfpkfpmkghhaaGreatDoor
open Go.RowKit Go.Lig

/-- a version is swept: one behind it is settled; or it stands first, is gone, and is settled -/
structure SwOk {α : Type} (st : Int → Bool) (L L' : List (Ver α)) : Prop where
  ex : ∃ A y B, L = A ++ y :: B ∧ L' = A ++ B ∧ ((∃ z ∈ B, st z.by_ = true) ∨ (A = [] ∧ y.gone = true ∧ st y.by_ = true))
section
variable {α : Type} {L L' : List (Ver α)} {st : Int → Bool}
theorem split_atV {β : Type} {l : List β} {i : Nat} {y : β} (h : l[i]? = some y) : l = l.take i ++ y :: l.drop (i + 1) := by
  have hi := (List.getElem?_eq_some_iff.1 h).1
  have h1 : l[i] = y := (List.getElem?_eq_some_iff.1 h).2
  rw [← h1, ← List.drop_eq_getElem_cons hi, List.take_append_drop]
theorem rsweep_ok {i : Nat} (h : rspare st L = some i) : SwOk st L (rsweep st L) := by
  have hi := rspare_lt h
  have hs : spR st L i = true := by
    unfold rspare at h
    rw [List.find?_range_eq_some] at h
    exact h.1
  have hy : L[i]? = some L[i] := List.getElem?_eq_getElem hi
  refine ⟨L.take i, L[i], L.drop (i + 1), split_atV hy, by unfold rsweep; rw [h], ?_⟩
  unfold spR at hs
  rw [hy, Bool.or_eq_true, List.any_eq_true] at hs
  rcases hs with hs | hs
  · simp only [Bool.and_eq_true, beq_iff_eq] at hs
    obtain ⟨⟨rfl, h2⟩, h3⟩ := hs
    exact .inr ⟨by simp, h2, h3⟩
  · exact .inl hs
theorem findIdx_nd {K : Ck} (hC : CellOk K L) {i : Nat} {y : Ver α} (hy : L[i]? = some y) : L.findIdx? (fun z => z.by_ == y.by_) = some i := by
  obtain ⟨hi, he⟩ := List.getElem?_eq_some_iff.1 hy
  rw [List.findIdx?_eq_some_iff_getElem]
  refine ⟨hi, by rw [he]; simp, fun j hj => ?_⟩
  have hb := (List.pairwise_iff_getElem.1 hC.bef) j i (by omega) hi hj
  rw [he] at hb
  have := hb.ne
  simpa using this
theorem spareB_at {K : Ck} (hC : CellOk K L) {i : Nat} {y : Ver α} (hy : L[i]? = some y) : spareB st L y = spR st L i := by
  unfold spareB spR
  rw [findIdx_nd hC hy, hy]
  have e1 : (idxZ (some i) + 1).toNat = i + 1 := by show ((i : Int) + 1).toNat = i + 1; omega
  have e2 : (idxZ (some i) == 0) = (i == 0) := by
    show (((i : Nat) : Int) == 0) = (i == 0)
    by_cases h : i = 0
    · subst h; rfl
    · rw [show (i == 0) = false from beq_eq_false_iff_ne.2 h, beq_eq_false_iff_ne]; omega
  rw [e1, e2, Bool.or_comm]
theorem spare_eq {K : Ck} (hC : CellOk K L) : spareI st L = rspare st L := by
  cases hr : rspare st L with
  | some i =>
    have hi := rspare_lt hr
    unfold rspare at hr
    rw [List.find?_range_eq_some] at hr
    unfold spareI
    rw [List.findIdx?_eq_some_iff_getElem]
    refine ⟨hi, by rw [spareB_at hC (List.getElem?_eq_getElem hi)]; exact hr.1, fun j hj => ?_⟩
    rw [spareB_at hC (List.getElem?_eq_getElem (by omega))]
    have := hr.2.2 j hj
    simpa using this
  | none =>
    unfold rspare at hr
    rw [List.find?_range_eq_none] at hr
    unfold spareI
    rw [List.findIdx?_eq_none_iff]
    intro y hy
    obtain ⟨i, hi, rfl⟩ := List.getElem_of_mem hy
    rw [spareB_at hC (List.getElem?_eq_getElem hi)]
    have := hr i hi
    simpa using this
theorem sweep_eq {K : Ck} (hC : CellOk K L) : sweepL st L = rsweep st L := by
  unfold sweepL rsweep
  rw [spare_eq hC]
  cases rspare st L <;> rfl
end
section
variable {α : Type} {K : Ck} {L L' : List (Ver α)}
theorem settled_done {b : Int} (h : K.settled b = true) : K.done b = true := by
  unfold Ck.settled at h
  cases hx : K.tx b with
  | none => rw [hx] at h; cases h
  | some y =>
    rw [hx] at h
    simp only [Bool.and_eq_true, beq_iff_eq] at h
    exact Ck.done_iff.2 ⟨y, hx, h.1⟩
theorem settled_sees {b u : Int} (h : K.settled b = true) (hu : K.live u = true) : K.sees u b = true := by
  obtain ⟨x, hx, h0⟩ := Ck.live_iff.1 hu
  unfold Ck.settled at h
  cases hy : K.tx b with
  | none => rw [hy] at h; cases h
  | some y =>
    rw [hy] at h
    simp only [Bool.and_eq_true, beq_iff_eq, List.all_eq_true] at h
    have := h.2 x (Ck.mem hx)
    rw [sees_of hx hy, h.1]
    simp [h0] at this
    simp [this]
theorem SwOk.read (h : SwOk K.settled L L') {u : Int} (hu : K.live u = true) : readV K u L' = readV K u L := by
  obtain ⟨A, y, B, rfl, rfl, hc⟩ := h.ex
  rw [readV_ver, readV_ver]
  refine lastVer_erase ?_
  rcases hc with ⟨z, hz, hs⟩ | ⟨h1, h2, -⟩
  · exact .inl ⟨z, hz, settled_sees hs hu⟩
  · exact .inr ⟨h1, h2⟩
theorem SwOk.lastC (h : SwOk K.settled L L') : Go.Proofs.YtibfpkfpmkghhaaGreatDoor.lastC K L' = Go.Proofs.YtibfpkfpmkghhaaGreatDoor.lastC K L := by
  obtain ⟨A, y, B, rfl, rfl, hc⟩ := h.ex
  unfold Go.Proofs.YtibfpkfpmkghhaaGreatDoor.lastC
  refine lastVer_erase ?_
  rcases hc with ⟨z, hz, hs⟩ | ⟨h1, h2, -⟩
  · exact .inl ⟨z, hz, settled_done hs⟩
  · exact .inr ⟨h1, h2⟩
theorem SwOk.lastVer (h : SwOk K.settled L L') {y : Ver α} (hy : Go.Proofs.YtibfpkfpmkghhaaGreatDoor.lastVer K.done L' = some y) : Go.Proofs.YtibfpkfpmkghhaaGreatDoor.lastVer K.done L = some y := by
  obtain ⟨A, y0, B, rfl, rfl, hc⟩ := h.ex
  rcases hc with ⟨z, hz, hs⟩ | ⟨rfl, -, -⟩
  · rw [← lastVer_eraseSome ⟨z, hz, settled_done hs⟩]
    exact hy
  · rw [List.nil_append] at hy ⊢
    rw [show y0 :: B = [y0] ++ B from rfl, lastVer_append, hy]
    rfl
theorem SwOk.sub (h : SwOk K.settled L L') : L'.Sublist L := by
  obtain ⟨A, y0, B, rfl, rfl, -⟩ := h.ex
  exact List.Sublist.append (List.Sublist.refl _) (List.sublist_cons_self _ _)
theorem SwOk.done (h : SwOk K.settled L L') (hC : CellOk K L) : ∃ A y B, L = A ++ y :: B ∧ L' = A ++ B ∧ K.done y.by_ = true := by
  obtain ⟨A, y, B, rfl, rfl, hc⟩ := h.ex
  refine ⟨A, y, B, rfl, rfl, ?_⟩
  rcases hc with ⟨z, hz, -⟩ | ⟨-, -, hs⟩
  · have hb := (List.pairwise_append.1 hC.bef).2.1
    obtain ⟨a, b, h1, -, h2, -⟩ := (List.pairwise_cons.1 hb).1 z hz
    exact Ck.done_iff.2 ⟨a, h1, h2⟩
  · exact settled_done hs
theorem SwOk.hasV (h : SwOk K.settled L L') (hC : CellOk K L) {u : Int} (hu : K.live u = true) : Go.Proofs.YtibfpkfpmkghhaaGreatDoor.hasV u L' ↔ Go.Proofs.YtibfpkfpmkghhaaGreatDoor.hasV u L := by
  obtain ⟨A, y, B, rfl, rfl, hd⟩ := h.done hC
  constructor
  · rintro ⟨z, hz, e⟩
    refine ⟨z, ?_, e⟩
    rcases List.mem_append.1 hz with q | q
    · exact List.mem_append_left _ q
    · exact List.mem_append_right _ (List.mem_cons_of_mem _ q)
  · rintro ⟨z, hz, e⟩
    refine ⟨z, ?_, e⟩
    rcases List.mem_append.1 hz with q | q
    · exact List.mem_append_left _ q
    · rcases List.mem_cons.1 q with rfl | q
      · rw [e, done_live hu] at hd
        cases hd
      · exact List.mem_append_right _ q
theorem SwOk.cmax (h : SwOk K.settled L L') (hC : CellOk K L) {c : Int} (hm : Go.Proofs.YtibfpkfpmkghhaaGreatDoor.cmax K c L) : Go.Proofs.YtibfpkfpmkghhaaGreatDoor.cmax K c L' ∨ Go.Proofs.YtibfpkfpmkghhaaGreatDoor.lastC K L = none := by
  obtain ⟨A, y, B, rfl, rfl, hc⟩ := h.ex
  obtain ⟨w, hw, x, hx, h1, h2⟩ := hm
  have keep : w ∈ A ++ B → Go.Proofs.YtibfpkfpmkghhaaGreatDoor.cmax K c (A ++ B) := fun q => ⟨w, q, x, hx, h1, h2⟩
  rcases List.mem_append.1 hw with q | q
  · exact .inl (keep (List.mem_append_left _ q))
  · rcases List.mem_cons.1 q with rfl | q
    · have hb := (List.pairwise_cons.1 (List.pairwise_append.1 hC.bef).2.1).1
      by_cases hz : ∃ z ∈ B, K.done z.by_ = true
      · obtain ⟨z, hz, hd⟩ := hz
        obtain ⟨a, b, e1, e2, e3, e4⟩ := hb z hz
        obtain ⟨x', e5, e6⟩ := Ck.done_iff.1 hd
        obtain rfl := Option.some.inj (e2.symm.trans e5)
        obtain rfl := Option.some.inj (e1.symm.trans hx)
        refine .inl ⟨z, List.mem_append_right _ hz, b, e2, e6, ?_⟩
        rcases e4 with e4 | e4 <;> omega
      · rcases hc with ⟨z, hz2, hs⟩ | ⟨rfl, hg, -⟩
        · exact absurd ⟨z, hz2, settled_done hs⟩ hz
        · refine .inr ?_
          unfold Go.Proofs.YtibfpkfpmkghhaaGreatDoor.lastC
          have e0 : Go.Proofs.YtibfpkfpmkghhaaGreatDoor.lastVer K.done B = none := lastVer_none.2 (fun z hz2 => by
            cases hd : K.done z.by_ with
            | false => rfl
            | true => exact absurd ⟨z, hz2, hd⟩ hz)
          rw [List.nil_append, show w :: B = [w] ++ B from rfl, lastVer_append, e0]
          show valOf (Go.Proofs.YtibfpkfpmkghhaaGreatDoor.lastVer K.done [w]) = none
          unfold Go.Proofs.YtibfpkfpmkghhaaGreatDoor.lastVer
          simp only [List.reverse_singleton, List.find?_cons, List.find?_nil]
          cases K.done w.by_ with
          | true => simp [valOf, hg]
          | false => rfl
    · exact .inl (keep (List.mem_append_right _ q))
end
def vVacN (v : VS) (i : Nat) : VS := { v with N := v.N.set i (sweepL v.K.settled (v.N[i]?.getD [])) }
def vVacE (v : VS) (i : Nat) : VS := { v with E := v.E.set i (sweepL v.K.settled (v.E[i]?.getD [])) }
theorem VJ.vacN {v : VS} (h : VJ v) {k : Nat} (hk : k < v.N.length) (hs : SwOk v.K.settled (v.nc ((k : Int) + 1)) (sweepL v.K.settled (v.nc ((k : Int) + 1)))) : VJ (vVacN v k) := by
  have hC := h.n ((k : Int) + 1)
  have en : ∀ id, (vVacN v k).nc id = if id = (k : Int) + 1 then sweepL v.K.settled (v.nc ((k : Int) + 1)) else v.nc id := fun id => by
    unfold VS.nc vVacN
    dsimp only
    rw [cellOf_set hk, cellOf_nat]
  refine { clk := h.clk, n := fun id => ?_, e := h.e, j1 := ?_, j2 := ?_, j3 := ?_, j4 := ?_ }
  · show CellOk v.K ((vVacN v k).nc id)
    rw [en]
    split
    · exact hC.sub hs.sub
    · exact h.n id
  · intro id e q n hn
    show (lastC v.K ((vVacN v k).nc n)).isSome = true
    have := h.j1 id e q n hn
    rw [en]
    split
    · rename_i e2
      rw [hs.lastC, ← e2]
      exact this
    · exact this
  · intro u hu id e q n hn
    have := h.j2 u hu id e q n hn
    show (readV v.K u ((vVacN v k).nc n)).isSome = true
    rw [en]
    split
    · rename_i e2
      rw [hs.read hu, ← e2]
      exact this
    · exact this
  · intro u hu id y q hb hg n hn
    have := h.j3 u hu id y q hb hg n hn
    rw [en]
    split
    · rename_i e2
      rw [hs.hasV hC hu, ← e2]
      exact this
    · exact this
  · intro id y x q hg hx n hn
    have := h.j4 id y x q hg hx n hn
    show cmax v.K x.commit ((vVacN v k).nc n)
    rw [en]
    split
    · rename_i e2
      rw [e2] at this
      rcases hs.cmax hC this with h1 | h1
      · exact h1
      · have h2 := h.j1 id y.v (by unfold lastC; rw [show lastVer v.K.done (v.ec id) = some y from q]; exact valOf_live hg) n hn
        rw [e2, h1] at h2
        cases h2
    · exact this
theorem VJ.vacE {v : VS} (h : VJ v) {k : Nat} (hk : k < v.E.length) (hs : SwOk v.K.settled (v.ec ((k : Int) + 1)) (sweepL v.K.settled (v.ec ((k : Int) + 1)))) : VJ (vVacE v k) := by
  have hC := h.e ((k : Int) + 1)
  have en : ∀ id, (vVacE v k).ec id = if id = (k : Int) + 1 then sweepL v.K.settled (v.ec ((k : Int) + 1)) else v.ec id := fun id => by
    unfold VS.ec vVacE
    dsimp only
    rw [cellOf_set hk, cellOf_nat]
  refine { clk := h.clk, n := h.n, e := fun id => ?_, j1 := ?_, j2 := ?_, j3 := ?_, j4 := ?_ }
  · show CellOk v.K ((vVacE v k).ec id)
    rw [en]
    split
    · exact hC.sub hs.sub
    · exact h.e id
  · intro id e q n hn
    have q' : lastC v.K ((vVacE v k).ec id) = some e := q
    rw [en] at q'
    split at q'
    · rw [hs.lastC] at q'
      exact h.j1 _ e q' n hn
    · exact h.j1 id e q' n hn
  · intro u hu id e q n hn
    have q' : readV v.K u ((vVacE v k).ec id) = some e := q
    rw [en] at q'
    split at q'
    · rw [hs.read hu] at q'
      exact h.j2 u hu _ e q' n hn
    · exact h.j2 u hu id e q' n hn
  · intro u hu id y q hb hg n hn
    rw [en] at q
    split at q
    · exact h.j3 u hu _ y (hs.sub.subset q) hb hg n hn
    · exact h.j3 u hu id y q hb hg n hn
  · intro id y x q hg hx n hn
    have q' : lastVer v.K.done ((vVacE v k).ec id) = some y := q
    rw [en] at q'
    split at q'
    · exact h.j4 _ y x (hs.lastVer q') hg hx n hn
    · exact h.j4 id y x q' hg hx n hn
end Go.Proofs.YtibfpkfpmkghhaaGreatDoor
