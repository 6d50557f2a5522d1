/- Regions that draw their order, walked as a tree: where two operations that change the world may come up, both ways are walked. No program in sight. -/
import Derived.Test.YtofjbigojbnmfaaGreatDoorLib2
namespace Go.Lig
open Go.RowKit

/-- a schedule that branches -/
inductive Sch where
  | done
  | quiet (i : Nat) (r : Sch)
  | one (i : Nat) (r : Sch)
  | two (i : Nat) (r : Sch) (j : Nat) (r' : Sch)
/-- with its operations -/
inductive SchO where
  | done
  | quiet (o : Oper) (r : SchO)
  | one (o : Oper) (r : SchO)
  | two (o : Oper) (r : SchO) (o' : Oper) (r' : SchO)
def fill (l : List Oper) : Sch → SchO
  | .done => .done
  | .quiet i r => .quiet (nth l i) (fill l r)
  | .one i r => .one (nth l i) (fill l r)
  | .two i r j r' => .two (nth l i) (fill l r) (nth l j) (fill l r')
def treeOk (ops : Array Oper) : Sch → Array Bool → Bool
  | .done, listed => (Region.ready .any ops listed).isEmpty
  | .quiet i r, listed => ((Region.ready .any ops listed).contains i && Region.free .any ops listed i) && treeOk ops r (listed.setIfInBounds i true)
  | .one i r, listed => Region.ready .any ops listed == [i] && treeOk ops r (listed.setIfInBounds i true)
  | .two i r j r', listed => Region.ready .any ops listed == [i, j] && treeOk ops r (listed.setIfInBounds i true) && treeOk ops r' (listed.setIfInBounds j true)
def Sch.size : Sch → Nat
  | .done => 0
  | .quiet _ r => r.size + 1
  | .one _ r => r.size + 1
  | .two _ r _ _ => r.size + 1
/-- each way is as long -/
def Sch.even : Sch → Bool
  | .done => true
  | .quiet _ r => r.even
  | .one _ r => r.even
  | .two _ r _ r' => r.even && r'.even && r.size == r'.size
section
variable {P : Program} {ops : Array Oper} {Q : Exit → Act → World → Prop} {S : World → Prop}
def wpTreeR (P : Program) (ops : Array Oper) (Q : Exit → Act → World → Prop) (S : World → Prop) : SchO → Act → World → Prop
  | .done, a, w => Q .normal a w
  | .quiet o r, a, w => if Region.wanted o (yielded ops a.tmps) then yields P o a S (fun a' => Box (wpTreeR P ops Q S r a' w)) else Box (wpTreeR P ops Q S r (a.put o.dst undef) w)
  | .one o r, a, w => wpList P ops (schedQ P Q S True (fun a' w' => Box (wpTreeR P ops Q S r a' w'))) [o] a w
  | .two o r o' r', a, w => Box (wpList P ops (schedQ P Q S True (fun a' w' => Box (wpTreeR P ops Q S r a' w'))) [o] a w) ∧ Box (wpList P ops (schedQ P Q S True (fun a' w' => Box (wpTreeR P ops Q S r' a' w'))) [o'] a w)
abbrev wpTree (P : Program) (ops : Array Oper) (Q : Exit → Act → World → Prop) (S : World → Prop) (t : SchO) (a : Act) (w : World) : Prop := Box (wpTreeR P ops Q S t a w)
theorem tree_nil {a : Act} {w : World} (h : Q .normal a w) : wpTree P ops Q S .done a w := ⟨h⟩
theorem tree_quiet {a : Act} {w : World} {o : Oper} {r : SchO} (h : ∀ K : Act → Prop, (∀ a, wpTree P ops Q S r a w → K a) → if Region.wanted o (yielded ops a.tmps) then yields P o a S K else K (a.put o.dst undef)) : wpTree P ops Q S (.quiet o r) a w :=
  ⟨h _ (fun _ h => h)⟩
theorem tree_one {a : Act} {w : World} {o : Oper} {r : SchO} (h : wpList P ops (schedQ P Q S True (fun a' w' => wpTree P ops Q S r a' w')) [o] a w) : wpTree P ops Q S (.one o r) a w := ⟨h⟩
theorem tree_two {a : Act} {w : World} {o o' : Oper} {r r' : SchO} (h : wpTree P ops Q S (.one o r) a w) (h' : wpTree P ops Q S (.one o' r') a w) : wpTree P ops Q S (.two o r o' r') a w := ⟨⟨h.out⟩, ⟨h'.out⟩⟩
theorem tree_on {a : Act} {w : World} {K : Act → World → Prop} (hS : S w) (h : K a w) : wpList P ops (schedQ P Q S True K) [] a w := wpList_nil ⟨fun _ => hS, h⟩
theorem tree_call {a : Act} {w : World} {o : Oper} {r : SchO} (hgd : Region.wanted o (yielded ops a.tmps) = true) (f : FuncId) (vs : Array Value)
    (hrun : (execOp a.eval o).run P w = .ok (.enter f vs) w) {R} (hc : Calls P f vs w R)
    (h : ∀ e w', R e w' → ∃ v, e = .returned v ∧ S w' ∧ wpTree P ops Q S r (a.put o.dst v) w') : wpTree P ops Q S (.one o r) a w := by
  refine tree_one ?_
  unfold wpList
  rw [if_pos hgd]
  refine .inl ?_
  unfold Oper.wp
  rw [hrun]
  refine hc.mono fun e w' hR => ?_
  obtain ⟨v, rfl, hS, hk⟩ := h e w' hR
  exact tree_on hS hk
theorem wpAnyK_of_tree {l : List Oper} (hops : ops = l.toArray) (hsel : Region.noSelect ops = true) :
    ∀ (σ : Sch) (listed : Array Bool) (fuel : Nat) (a : Act) (w : World), Down ops listed → treeOk ops σ listed = true → σ.even = true → fuel = σ.size → S w →
    wpTree P ops Q S (fill l σ) a w → wpAnyK P ops (NoPanic Q) S ops.size fuel listed a w := by
  have hsink : sinkOk ops ops.size = true := by simp [sinkOk]
  intro σ
  induction σ with
  | done =>
    intro listed fuel a w _ hok _ hf hS h
    subst hf
    exact ⟨by simpa [treeOk] using hok, h.out⟩
  | quiet i r ih =>
    intro listed fuel a w hdown hok hev hf hS h
    subst hf
    simp only [treeOk, Bool.and_eq_true] at hok
    obtain ⟨⟨hr, hfree⟩, h2⟩ := hok
    have hi : i ∈ Region.ready .any ops listed := by simpa using hr
    obtain ⟨_, o, ho, _⟩ := mem_ready.1 hi
    have hn : nth l i = o := nth_get l i o (by rw [hops] at ho; simpa using ho)
    have hil : i ≠ ops.size := by have := (Array.getElem?_eq_some_iff.1 ho).1; omega
    have h := h.out
    simp only [fill, wpTreeR, hn] at h
    by_cases hw : Region.wanted o (yielded ops a.tmps) = true
    · rw [if_pos hw] at h
      obtain ⟨v, hv, hk⟩ := h
      exact wpAnyK_first ho hsel hsink hil (fun _ _ _ h => h) (v := v) _ _ _ _ hdown (Region.free_spec ho hfree) hi (.inl ⟨hw, fun w' hw' => run_of_yields (hv w' hw')⟩) hS (ih _ _ _ w (hdown.set hi) h2 hev rfl hS hk)
    · rw [if_neg hw] at h
      have hw' : Region.wanted o (yielded ops a.tmps) = false := by simpa using hw
      exact wpAnyK_first ho hsel hsink hil (fun _ _ _ h => h) (v := undef) _ _ _ _ hdown (Region.free_spec ho hfree) hi (.inr ⟨hw', rfl⟩) hS (ih _ _ _ w (hdown.set hi) h2 hev rfl hS h)
  | one i r ih =>
    intro listed fuel a w hdown hok hev hf hS h
    subst hf
    simp only [treeOk, Bool.and_eq_true] at hok
    obtain ⟨h1, h2⟩ := hok
    have hr : Region.ready .any ops listed = [i] := by simpa using h1
    have hi : i ∈ Region.ready .any ops listed := by rw [hr]; simp
    obtain ⟨_, o, ho, _⟩ := mem_ready.1 hi
    have hn : nth l i = o := nth_get l i o (by rw [hops] at ho; simpa using ho)
    have hq := h.out
    simp only [fill, wpTreeR, hn] at hq
    refine ⟨fun h0 => (by rw [hr] at h0; cases h0), fun j hj => ?_⟩
    obtain rfl : j = i := by rw [hr] at hj; simpa using hj
    refine wpOp_mono (fun a' w' hh => ?_) (wpOp_of_list ho hq)
    exact ⟨fun _ => hh.1 trivial, ih _ _ a' w' (hdown.set hi) h2 hev rfl (hh.1 trivial) hh.2⟩
  | two i r j r' ih ih' =>
    intro listed fuel a w hdown hok hev hf hS h
    subst hf
    simp only [treeOk, Bool.and_eq_true] at hok
    obtain ⟨⟨h1, h2⟩, h3⟩ := hok
    simp only [Sch.even, Bool.and_eq_true, beq_iff_eq] at hev
    have hr : Region.ready .any ops listed = [i, j] := by simpa using h1
    have hi : i ∈ Region.ready .any ops listed := by rw [hr]; simp
    have hj : j ∈ Region.ready .any ops listed := by rw [hr]; simp
    obtain ⟨_, o, ho, _⟩ := mem_ready.1 hi
    obtain ⟨_, o', ho', _⟩ := mem_ready.1 hj
    have hn : nth l i = o := nth_get l i o (by rw [hops] at ho; simpa using ho)
    have hn' : nth l j = o' := nth_get l j o' (by rw [hops] at ho'; simpa using ho')
    have hq := h.out
    simp only [fill, wpTreeR, hn, hn'] at hq
    refine ⟨fun h0 => (by rw [hr] at h0; cases h0), fun k hk => ?_⟩
    rw [hr] at hk
    rcases List.mem_cons.1 hk with rfl | hk
    · refine wpOp_mono (fun a' w' hh => ?_) (wpOp_of_list ho hq.1.out)
      exact ⟨fun _ => hh.1 trivial, ih _ _ a' w' (hdown.set hi) h2 hev.1.1 rfl (hh.1 trivial) hh.2⟩
    · obtain rfl := List.mem_singleton.1 hk
      refine wpOp_mono (fun a' w' hh => ?_) (wpOp_of_list ho' hq.2.out)
      exact ⟨fun _ => hh.1 trivial, ih' _ _ a' w' (hdown.set hj) h3 hev.1.2 (by rw [← hev.2]) (hh.1 trivial) hh.2⟩
theorem wp_region_tree {id : Nat} {a : Act} {w : World} {l : List Oper} (hm : P.follows .mixedOrders = true) (σ : Sch) (S : World → Prop)
    (hB : (Region.noSelect l.toArray && σ.size == l.length && treeOk l.toArray σ (Array.replicate l.length false) && σ.even) = true) (hS : S w.drew)
    (h : wpTree P l.toArray Q S (fill l σ) a w.drew) : (Code.region id l.toArray true).wp P Q a w := by
  simp only [Bool.and_eq_true, beq_iff_eq] at hB
  obtain ⟨⟨⟨hsel, hlen⟩, hok⟩, hev⟩ := hB
  refine wp_region_noPanic (wp_region_any hm (wpAny_of_K (S := S) (last := l.toArray.size) _ _ _ _ ?_))
  exact wpAnyK_of_tree (ops := l.toArray) rfl hsel σ _ _ a w.drew (Down.start _) (by simpa using hok) hev (by simp [hlen]) hS h
end
end Go.Lig
