/- What a store's nodes are behind transactions that each add one and are committed or aborted. Plain data. -/
import Derived.Test.YtofjbigojbnmfaaGreatDoorStN
namespace Go.Proofs.YtofjbigojbnmfaaGreatDoor
open Go.RowKit Go.Lig

structure NInv (p : List Bool) (M : PSt) : Prop where
  len : M.K.l.length = p.length
  done : ∀ (j : Nat) (x : Tx), M.K.l[j]? = some x → ∃ b : Bool, p[j]? = some b ∧ x.state = (if b then 1 else 2) ∧ x.commit ≤ M.K.commits
  cm : 0 ≤ M.K.commits ∧ M.K.commits ≤ (p.length : Int)
  nl : M.N.length = min p.length 24
  nd : ∀ (j : Nat) (b : Bool), j < M.N.length → p[j]? = some b → M.N[j]? = some (if b then [⟨(j : Int) + 1, NodeV.none, false⟩] else [])
theorem NInv.zero : NInv [] kM0 := ⟨rfl, fun j x h => by simp [kM0] at h, by simp [kM0], rfl, fun j b h => by simp [kM0] at h⟩
theorem NInv.count {p : List Bool} {M : PSt} (h : NInv p M) : M.K.count = 0 := by
  unfold Ck.count
  rw [List.length_eq_zero_iff, List.filter_eq_nil_iff]
  intro x hx
  obtain ⟨j, hj⟩ := List.mem_iff_getElem?.1 hx
  obtain ⟨b, -, h1, -⟩ := h.done j x hj
  cases b <;> simp_all
theorem begins_tx (K : Ck) : K.begins.tx ((K.l.length : Int) + 1) = some ⟨0, K.commits, 0⟩ := by
  unfold Ck.tx Ck.begins
  rw [if_pos (by omega), show ((K.l.length : Int) + 1 - 1).toNat = K.l.length by omega]
  simp
theorem begins_live (K : Ck) : K.begins.live ((K.l.length : Int) + 1) = true := by
  unfold Ck.live
  rw [begins_tx]
  rfl
theorem begins_commit (K : Ck) : K.begins.commit ((K.l.length : Int) + 1) = ⟨K.l ++ [⟨1, K.commits, K.commits + 1⟩], K.commits + 1⟩ := by
  unfold Ck.commit
  rw [begins_tx]
  simp only [Ck.put, Ck.begins]
  rw [show ((K.l.length : Int) + 1 - 1).toNat = K.l.length by omega]
  simp
theorem begins_abort (K : Ck) : K.begins.abort ((K.l.length : Int) + 1) = ⟨K.l ++ [⟨2, K.commits, 0⟩], K.commits⟩ := by
  unfold Ck.abort
  rw [begins_tx]
  simp only [Ck.put, Ck.begins]
  rw [show ((K.l.length : Int) + 1 - 1).toNat = K.l.length by omega]
  simp
/-- a node more, if there is room -/
def addM (M : PSt) (t : Int) : PSt := if M.N.length < 24 then putM (growM M) t M.N.length false else M
theorem addM_K (M : PSt) (t : Int) : (addM M t).K = M.K := by
  unfold addM
  split <;> rfl
theorem addM_N (M : PSt) (t : Int) : (addM M t).N = if M.N.length < 24 then M.N ++ [[⟨t, NodeV.none, false⟩]] else M.N := by
  unfold addM
  split
  · simp [putM, growM, writeL, clashL]
  · rfl
def stepM (M : PSt) (b : Bool) : PSt :=
  let t := (M.K.l.length : Int) + 1
  let M2 := addM { M with K := M.K.begins } t
  if b then { M2 with K := M2.K.commit t } else abortM t M2
theorem get_snoc {α : Type} {l : List α} {x y : α} {j : Nat} (h : (l ++ [x])[j]? = some y) : l[j]? = some y ∨ (j = l.length ∧ y = x) := by
  by_cases hj : j < l.length
  · rw [List.getElem?_append_left hj] at h
    exact .inl h
  · rw [List.getElem?_append_right (by omega)] at h
    by_cases e : j - l.length = 0
    · rw [e] at h
      exact .inr ⟨by omega, by simpa using h.symm⟩
    · rw [List.getElem?_eq_none (by simp; omega)] at h
      cases h
theorem map_undo {p : List Bool} {M : PSt} (h : NInv p M) : M.N.map (undoL ((p.length : Int) + 1)) = M.N := by
  apply List.ext_getElem?
  intro j
  rw [List.getElem?_map]
  by_cases hj : j < M.N.length
  · obtain ⟨b, hb⟩ : ∃ b, p[j]? = some b := ⟨_, List.getElem?_eq_getElem (by have := h.nl; omega)⟩
    have hjp := (List.getElem?_eq_some_iff.1 hb).1
    rw [h.nd j b hj hb]
    cases b with
    | false => rfl
    | true =>
      have : ((j : Int) + 1 == (p.length : Int) + 1) = false := by
        rw [beq_eq_false_iff_ne]
        omega
      simp [undoL]
      omega
  · rw [List.getElem?_eq_none (by omega)]
    rfl
theorem NInv.step {p : List Bool} {M : PSt} (h : NInv p M) (b : Bool) : NInv (p ++ [b]) (stepM M b) := by
  have hK1 : ∀ t, (addM { M with K := M.K.begins } t).K = M.K.begins := fun t => addM_K _ t
  have hlen := h.len
  have key : (stepM M b).K.l = M.K.l ++ [if b then ⟨1, M.K.commits, M.K.commits + 1⟩ else ⟨2, M.K.commits, 0⟩] ∧ (stepM M b).K.commits = (if b then M.K.commits + 1 else M.K.commits) := by
    unfold stepM
    cases b with
    | true =>
      simp only [if_true, hK1]
      rw [begins_commit]
      simp
    | false =>
      simp only [abortM, hK1, Bool.false_eq_true, if_false]
      rw [begins_abort]
      simp
  have keyN : (stepM M b).N = if M.N.length < 24 then M.N ++ [if b then [⟨(p.length : Int) + 1, NodeV.none, false⟩] else []] else M.N := by
    unfold stepM
    cases b with
    | true =>
      simp only [if_true]
      rw [addM_N, hlen]
    | false =>
      simp only [abortM, Bool.false_eq_true, if_false]
      rw [addM_N, hlen]
      simp only
      split
      · rw [List.map_append, map_undo h]
        simp [undoL]
      · exact map_undo h
  obtain ⟨kl, kc⟩ := key
  refine ⟨by rw [kl]; simp [hlen], fun j x hx => ?_, ?_, ?_, fun j b' hj hb' => ?_⟩
  · rw [kl] at hx
    rcases get_snoc hx with h1 | ⟨h1, h2⟩
    · obtain ⟨b', h3, h4, h5⟩ := h.done j x h1
      refine ⟨b', ?_, h4, ?_⟩
      · rw [List.getElem?_append_left (List.getElem?_eq_some_iff.1 h3).1]
        exact h3
      · rw [kc]
        split <;> omega
    · refine ⟨b, ?_, ?_, ?_⟩
      · rw [h1, hlen]
        simp
      · rw [h2]
        cases b <;> rfl
      · rw [h2, kc]
        have := h.cm
        cases b <;> simp
        omega
  · rw [kc]
    have := h.cm
    simp only [List.length_append, List.length_singleton]
    split <;> constructor <;> omega
  · rw [keyN]
    have := h.nl
    simp only [List.length_append, List.length_singleton]
    split
    · rw [List.length_append, List.length_singleton]
      omega
    · omega
  · rw [keyN] at hj ⊢
    have hnl := h.nl
    by_cases hlt : M.N.length < 24
    · rw [if_pos hlt] at hj ⊢
      rcases get_snoc hb' with h1 | ⟨h1, h2⟩
      · have hjp := (List.getElem?_eq_some_iff.1 h1).1
        have hjn : j < M.N.length := by omega
        rw [List.getElem?_append_left hjn]
        exact h.nd j b' hjn h1
      · have hjn : j = M.N.length := by omega
        rw [hjn, h2]
        rw [List.getElem?_append_right (Nat.le_refl _), Nat.sub_self]
        have : M.N.length = p.length := by omega
        rw [this]
        rfl
    · rw [if_neg hlt] at hj ⊢
      rcases get_snoc hb' with h1 | ⟨h1, h2⟩
      · exact h.nd j b' hj h1
      · omega
/-- the numbers of those that are true, up to i -/
def tl (l : List Bool) (i : Nat) : List Int := ((List.range i).filter fun k => l[k]?.getD false).map fun (k : Nat) => (k : Int) + 1
theorem tl_succ (l : List Bool) (i : Nat) : tl l (i + 1) = tl l i ++ if l[i]?.getD false then [(i : Int) + 1] else [] := by
  unfold tl
  rw [List.range_succ, List.filter_append, List.map_append]
  cases h : l[i]?.getD false <;> simp [h]
theorem tl_len (l : List Bool) (i : Nat) : (tl l i).length ≤ i := by
  unfold tl
  rw [List.length_map]
  have := List.length_filter_le (fun k => l[k]?.getD false) (List.range i)
  rwa [List.length_range] at this
theorem tl_more (l : List Bool) (i : Nat) : ∀ n, ∃ r, tl l (i + n) = tl l i ++ r
  | 0 => ⟨[], by simp⟩
  | n + 1 => by
    obtain ⟨r, hr⟩ := tl_more l i n
    exact ⟨_, by rw [← Nat.add_assoc, tl_succ, hr, List.append_assoc]⟩
theorem tl_at {l : List Bool} {i m : Nat} (hi : i < m) (hb : l[i]? = some true) : (tl l m)[(tl l i).length]? = some ((i : Int) + 1) := by
  obtain ⟨r, hr⟩ := tl_more l (i + 1) (m - (i + 1))
  rw [show i + 1 + (m - (i + 1)) = m by omega] at hr
  rw [hr, tl_succ, hb]
  simp
theorem NInv.reads {p : List Bool} {M : PSt} (h : NInv p M) : ndsTo { M with K := M.K.begins } ((p.length : Int) + 1) M.N.length = tl p M.N.length := by
  unfold ndsTo tl
  congr 1
  apply List.filter_congr
  intro j hj
  have hjn : j < M.N.length := List.mem_range.1 hj
  obtain ⟨b, hb⟩ : ∃ b, p[j]? = some b := ⟨_, List.getElem?_eq_getElem (by have := h.nl; omega)⟩
  have hjp := (List.getElem?_eq_some_iff.1 hb).1
  have hlen := h.len
  obtain ⟨x, hx⟩ : ∃ x, M.K.l[j]? = some x := ⟨_, List.getElem?_eq_getElem (by omega)⟩
  obtain ⟨b', h1, h2, h3⟩ := h.done j x hx
  obtain rfl : b = b' := Option.some.inj (hb.symm.trans h1)
  have hN := h.nd j b hjn hb
  unfold rdB
  rw [if_pos (by simp only; omega), show ((j : Int) + 1 - 1).toNat = j by omega]
  simp only [hN, hb, Option.getD_some]
  cases b with
  | false => rfl
  | true =>
    have e1 := begins_tx M.K
    rw [hlen] at e1
    have e2 : M.K.begins.tx ((j : Int) + 1) = some x := by
      unfold Ck.tx Ck.begins
      rw [if_pos (by omega), show ((j : Int) + 1 - 1).toNat = j by omega]
      simp only
      rw [List.getElem?_append_left (by omega), hx]
    have hs : M.K.begins.sees ((p.length : Int) + 1) ((j : Int) + 1) = true := by
      unfold Ck.sees
      rw [e1, e2]
      simp [h2]
      omega
    simp [readL, lastOf, hs]
end Go.Proofs.YtofjbigojbnmfaaGreatDoor
