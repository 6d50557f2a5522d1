/- What a Cut makes of the lists, once it is known what lies in each block. -/
import Derived.Test.YtdoapfgcjmkfhaaChA1
namespace Go.Proofs.Ytdoapfgcjmkfhaa
open Go.RowKit Go.Lig

theorem nxt_at (l1 l2 : List Int) (x : Int) (h : x ∉ l1) : nxt (l1 ++ x :: l2) x = l2.head? := by
  induction l1 with
  | nil => simp [nxt]
  | cons z l ih =>
    have h1 : ¬ z = x := fun e => h (by simp [e])
    simp only [List.cons_append, nxt, if_neg h1]
    exact ih (fun e => h (by simp [e]))
theorem prv_at (l1 l2 : List Int) (x : Int) (h : x ∉ l2) : prv (l1 ++ x :: l2) x = l1.getLast? := by
  unfold prv
  rw [List.reverse_append, List.reverse_cons, List.append_assoc, List.singleton_append, nxt_at _ _ _ (by simpa using h), List.head?_reverse]
theorem nxt_none (l : List Int) (y : Int) (h : y ∉ l) : nxt l y = none := by
  induction l with
  | nil => rfl
  | cons z l ih =>
    have h1 : ¬ z = y := fun e => h (by simp [e])
    simp only [nxt, if_neg h1]
    exact ih (fun e => h (by simp [e]))
theorem nxt_cut (l2 : List Int) (x y : Int) (hxy : y ≠ x) (h2 : x ∉ l2) : ∀ l1 : List Int, x ∉ l1 → nxt (l1 ++ l2) y = if nxt (l1 ++ x :: l2) y = some x then l2.head? else nxt (l1 ++ x :: l2) y
  | [], _ => by
    have e : nxt (x :: l2) y = nxt l2 y := by simp [nxt, Ne.symm hxy]
    rw [List.nil_append, List.nil_append, e, if_neg (fun e => h2 (nxt_mem _ _ _ e))]
  | [z], h => by
    by_cases e : z = y
    · simp [nxt, e]
    · have e2 : nxt (x :: l2) y = nxt l2 y := by simp [nxt, Ne.symm hxy]
      simp only [List.cons_append, List.nil_append, nxt, if_neg e, if_neg (Ne.symm hxy)]
      rw [if_neg (fun e => h2 (nxt_mem _ _ _ e))]
  | z :: z2 :: l, h => by
    have hz2 : z2 ≠ x := fun e => h (by simp [e])
    by_cases e : z = y
    · simp [nxt, e, hz2]
    · have ih := nxt_cut l2 x y hxy h2 (z2 :: l) (fun e => h (List.mem_cons_of_mem _ e))
      simp only [List.cons_append, nxt, if_neg e] at ih ⊢
      exact ih
theorem prv_cut (l1 l2 : List Int) (x y : Int) (hxy : y ≠ x) (h1 : x ∉ l1) (h2 : x ∉ l2) : prv (l1 ++ l2) y = if prv (l1 ++ x :: l2) y = some x then l1.getLast? else prv (l1 ++ x :: l2) y := by
  have := nxt_cut l1.reverse x y hxy (by simpa using h1) l2.reverse (by simpa using h2)
  unfold prv
  rw [List.reverse_append, List.reverse_append, List.reverse_cons, List.append_assoc, List.singleton_append, this, List.head?_reverse]
theorem nxt_iff (l2 : List Int) (x y : Int) (h2 : x ∉ l2) : ∀ l1 : List Int, (l1 ++ x :: l2).Nodup → (nxt (l1 ++ x :: l2) y = some x ↔ l1.getLast? = some y)
  | [], _ => by
    simp only [List.nil_append, List.getLast?_nil]
    constructor
    · intro e
      by_cases h : x = y
      · subst h
        rw [nxt_cons_same] at e
        exact absurd (List.mem_of_head? e) h2
      · rw [nxt_cons_other _ _ _ h] at e
        exact absurd (nxt_mem _ _ _ e) h2
    · intro e; cases e
  | [z], hn => by
    have hzx : z ∉ x :: l2 := (List.nodup_cons.1 hn).1
    by_cases e : z = y
    · simp [nxt, e]
    · have ih := nxt_iff l2 x y h2 [] (List.nodup_cons.1 hn).2
      simp only [List.cons_append, List.nil_append, nxt, if_neg e, List.getLast?_nil, List.getLast?_singleton, Option.some.injEq] at ih ⊢
      constructor
      · intro e'; exact absurd (ih.1 e') (by simp)
      · intro e'; exact absurd e' e
  | z :: z2 :: l, hn => by
    have hn' := List.nodup_cons.1 hn
    have hz2 : z2 ≠ x := fun e => (List.nodup_cons.1 hn'.2).1 (by rw [e]; simp)
    rw [List.getLast?_cons_cons]
    by_cases e : z = y
    · subst e
      simp only [List.cons_append, nxt, if_true, List.head?_cons, Option.some.injEq]
      constructor
      · intro e'; exact absurd e' hz2
      · intro e'
        have : z ∈ z2 :: l := List.mem_of_getLast? e'
        exact absurd (List.mem_append_left _ this) hn'.1
    · have ih := nxt_iff l2 x y h2 (z2 :: l) hn'.2
      simp only [List.cons_append, nxt, if_neg e] at ih ⊢
      exact ih
theorem prv_iff (l1 l2 : List Int) (x y : Int) (h1 : x ∉ l1) (hn : (l1 ++ x :: l2).Nodup) : prv (l1 ++ x :: l2) y = some x ↔ l2.head? = some y := by
  have hn' : (l2.reverse ++ x :: l1.reverse).Nodup := by
    have h := List.pairwise_reverse.2 (hn.imp Ne.symm)
    rwa [List.reverse_append, List.reverse_cons, List.append_assoc, List.singleton_append] at h
  have := nxt_iff l1.reverse x y (by simpa using h1) l2.reverse hn'
  unfold prv
  rw [List.reverse_append, List.reverse_cons, List.append_assoc, List.singleton_append, this, List.getLast?_reverse]

/-- what a Cut makes of it -/
def cutI (I : List (Int × Int)) (k x : Int) : List (Int × Int) := I.filter fun p => !(p == (k, x))
theorem ids_cut_other (I : List (Int × Int)) (k x j : Int) (h : j ≠ k) : ids (cutI I k x) j = ids I j := by
  unfold ids cutI
  rw [List.filter_filter]
  congr 1
  refine List.filter_congr fun p _ => ?_
  by_cases e : p.1 = j
  · have : ¬ p = (k, x) := fun e' => h (by rw [← e, e'])
    simp [e, this]
  · simp [e]
theorem ids_cut_same (I : List (Int × Int)) (k x : Int) : ids (cutI I k x) k = (ids I k).filter fun y => !(y == x) := by
  unfold ids cutI
  rw [List.filter_map, List.filter_filter, List.filter_filter]
  congr 1
  refine List.filter_congr fun p _ => ?_
  obtain ⟨a, b⟩ := p
  rw [Bool.eq_iff_iff]
  by_cases e : a = k <;> by_cases e2 : b = x <;> simp [e, e2]
theorem split_at {L : List Int} (hn : L.Nodup) {x : Int} (hx : x ∈ L) : ∃ l1 l2, L = l1 ++ x :: l2 ∧ x ∉ l1 ∧ x ∉ l2 ∧ (L.filter fun y => !(y == x)) = l1 ++ l2 := by
  obtain ⟨l1, l2, rfl⟩ := List.append_of_mem hx
  have h := List.nodup_append.1 hn
  have h1 : x ∉ l1 := fun e => h.2.2 x e x (by simp) rfl
  have h2 : x ∉ l2 := (List.nodup_cons.1 h.2.1).1
  refine ⟨l1, l2, rfl, h1, h2, ?_⟩
  rw [List.filter_append, List.filter_cons]
  have e1 : (l1.filter fun y => !(y == x)) = l1 := List.filter_eq_self.2 (fun y hy => by simp; intro e; exact h1 (e ▸ hy))
  have e2 : (l2.filter fun y => !(y == x)) = l2 := List.filter_eq_self.2 (fun y hy => by simp; intro e; exact h2 (e ▸ hy))
  simp [e1, e2]
theorem cut_len {I : List (Int × Int)} (hn : I.Nodup) {k x : Int} (h : (k, x) ∈ I) : (cutI I k x).length + 1 = I.length := by
  unfold cutI
  induction I with
  | nil => cases h
  | cons p I ih =>
    have hn' := List.nodup_cons.1 hn
    by_cases e : p = (k, x)
    · subst e
      have e1 : (I.filter fun q => !(q == (k, x))) = I := List.filter_eq_self.2 (fun q hq => by
        have : q ≠ (k, x) := fun e => hn'.1 (e ▸ hq)
        simp [this])
      simp [e1]
    · have hI : (k, x) ∈ I := by
        rcases List.mem_cons.1 h with h | h
        · exact absurd h.symm e
        · exact h
      have := ih hn'.2 hI
      simp only [List.filter_cons, beq_eq_false_iff_ne.2 e, Bool.not_false, if_true, List.length_cons]
      omega
/-- what lies where behind a Cut of x out of list k, which was l1, x, l2 -/
structure Cutted (w w' : World) (c : Nat) (I : List (Int × Int)) (B : Role → Nat) (m : Nat) (k x : Int) (l1 l2 : List Int) : Prop where
  split : ids I k = l1 ++ x :: l2
  lt : w.heap.size ≤ w'.heap.size
  croot : w'.heap[c]? = some (.cells #[.map (some (B .rmap)), .int .i64 ((I.length : Int) - 1)] 43 (0, 0))
  cmap : MapAt w' Try.prog 3 (B .rmap) m (fun j => if j = k ∧ l1 ++ l2 = [] then .pointer none else if ids I j = [] then .pointer none else .pointer (some ⟨B (.list j), 0, none⟩))
  clist : l1 ++ l2 ≠ [] → w'.heap[B (.list k)]? = some (.cells #[ptrO B k (l1 ++ l2).head?, ptrO B k (l1 ++ l2).getLast?, .map (some (B (.lmap k)))] 48 (0, 0))
  clmap : MapAt w' Try.prog 3 (B (.lmap k)) m (upd (fun y => if y ∈ ids I k then .pointer (some ⟨B (.link k y), 0, none⟩) else .pointer none) x (.pointer none))
  cold : ∀ y, y ∈ ids I k → y ≠ x → w'.heap[B (.link k y)]? = some (.cells #[.int .i64 y, if l2.head? = some y then ptrO B k l1.getLast? else ptrO B k (prv (ids I k) y), if l1.getLast? = some y then ptrO B k l2.head? else ptrO B k (nxt (ids I k) y)] 50 (0, 0))
  keepL : ∀ j, j ≠ k → ids I j ≠ [] → w'.heap[B (.list j)]? = w.heap[B (.list j)]?
  keepM : ∀ j f, j ≠ k → ids I j ≠ [] → MapAt w Try.prog 3 (B (.lmap j)) m f → MapAt w' Try.prog 3 (B (.lmap j)) m f
  keepX : ∀ j y, j ≠ k → y ∈ ids I j → w'.heap[B (.link j y)]? = w.heap[B (.link j y)]?
theorem Cutted.done {w w' : World} {c : Nat} {I : List (Int × Int)} {B : Role → Nat} {ρ : Nat → Option Role} {m : Nat} {k x : Int} {l1 l2 : List Int} (a : Cutted w w' c I B m k x l1 l2) (h : ChAt w c I B ρ m) :
    ChAt w' c (cutI I k x) B ρ m := by
  have hnd := ids_nodup h.nodup k
  have hx : x ∈ ids I k := by rw [a.split]; simp
  have hsp : (ids I k).filter (fun y => !(y == x)) = l1 ++ l2 ∧ x ∉ l1 ∧ x ∉ l2 := by
    have hn := hnd
    rw [a.split] at hn ⊢
    have h' := List.nodup_append.1 hn
    have h1 : x ∉ l1 := fun e => h'.2.2 x e x (by simp) rfl
    have h2 : x ∉ l2 := (List.nodup_cons.1 h'.2.1).1
    have e1 : (l1.filter fun y => !(y == x)) = l1 := List.filter_eq_self.2 (fun y hy => by simp; intro e; exact h1 (e ▸ hy))
    have e2 : (l2.filter fun y => !(y == x)) = l2 := List.filter_eq_self.2 (fun y hy => by simp; intro e; exact h2 (e ▸ hy))
    refine ⟨?_, h1, h2⟩
    rw [List.filter_append, List.filter_cons]
    simp [e1, e2]
  obtain ⟨hf, hx1, hx2⟩ := hsp
  have hsame : ids (cutI I k x) k = l1 ++ l2 := by rw [ids_cut_same, hf]
  have hother : ∀ j, j ≠ k → ids (cutI I k x) j = ids I j := fun j e => ids_cut_other I k x j e
  have hin : (k, x) ∈ I := (mem_ids I k x).1 hx
  have hlen := cut_len h.nodup hin
  have hsub : ∀ j y, y ∈ ids (cutI I k x) j → y ∈ ids I j := fun j y hy => by
    by_cases e : j = k
    · subst e
      rw [hsame] at hy
      rw [a.split]
      rcases List.mem_append.1 hy with h0 | h0
      · exact List.mem_append_left _ h0
      · exact List.mem_append_right _ (List.mem_cons_of_mem _ h0)
    · rwa [hother j e] at hy
  have hne : ∀ j, ids (cutI I k x) j ≠ [] → ids I j ≠ [] := fun j hj e => by
    obtain ⟨y, l, hy⟩ := List.exists_cons_of_ne_nil hj
    have := hsub j y (by rw [hy]; simp)
    rw [e] at this
    cases this
  have hlive : ∀ r, Live (cutI I k x) r → Live I r := fun r hr => by
    cases r with
    | root => trivial
    | rmap => trivial
    | list j => exact hne j hr
    | lmap j => exact hne j hr
    | link j y => exact hsub j y hr
  refine ⟨h.nodup.filter _, h.root, fun r hr => h.rho r (hlive r hr), fun b hb => Nat.lt_of_lt_of_le (h.bound b hb) a.lt, ?_, ?_, ?_, ?_, ?_⟩
  · rw [a.croot, show ((I.length : Int) - 1) = (((cutI I k x).length : Nat) : Int) by omega]
  · have ef : (fun j => if ids (cutI I k x) j = [] then Value.pointer none else .pointer (some ⟨B (.list j), 0, none⟩)) = (fun j => if j = k ∧ l1 ++ l2 = [] then .pointer none else if ids I j = [] then .pointer none else .pointer (some ⟨B (.list j), 0, none⟩)) := by
      funext j
      by_cases e : j = k
      · subst e
        rw [hsame]
        have : ¬ ids I j = [] := fun e => by rw [e] at hx; cases hx
        by_cases e2 : l1 ++ l2 = []
        · rw [if_pos e2, if_pos ⟨rfl, e2⟩]
        · rw [if_neg e2, if_neg (fun e => e2 e.2), if_neg this]
      · have hne' : ¬ (j = k ∧ l1 ++ l2 = []) := fun e' => e e'.1
        rw [hother j e, if_neg hne']
    rw [ef]
    exact a.cmap
  · intro j hj
    by_cases e : j = k
    · subst e
      rw [hsame] at hj ⊢
      exact a.clist hj
    · rw [hother j e] at hj ⊢
      rw [a.keepL j e hj]
      exact h.clist j hj
  · intro j hj
    by_cases e : j = k
    · subst e
      have ef : (fun y => if y ∈ ids (cutI I j x) j then Value.pointer (some ⟨B (.link j y), 0, none⟩) else .pointer none) = upd (fun y => if y ∈ ids I j then .pointer (some ⟨B (.link j y), 0, none⟩) else .pointer none) x (.pointer none) := by
        funext y
        unfold upd
        rw [ids_cut_same]
        by_cases e : y = x
        · simp [e]
        · simp [e]
      rw [ef]
      exact a.clmap
    · rw [hother j e] at hj ⊢
      exact a.keepM j _ e hj (h.clmap j hj)
  · intro j y hy
    have hy' := hsub j y hy
    by_cases e : j = k
    · subst e
      rw [hsame] at hy
      have hyx : y ≠ x := fun e => by
        subst e
        rcases List.mem_append.1 hy with h0 | h0
        · exact hx1 h0
        · exact hx2 h0
      rw [a.cold y hy' hyx, hsame]
      have hnd' := hnd
      rw [a.split] at hnd'
      have i1 := nxt_iff l2 x y hx2 l1 hnd'
      have i2 := prv_iff l1 l2 x y hx1 hnd'
      rw [nxt_cut l2 x y hyx hx2 l1 hx1, prv_cut l1 l2 x y hyx hx1 hx2, a.split]
      by_cases e1 : l1.getLast? = some y
      · rw [if_pos e1, if_pos (i1.2 e1)]
        by_cases e2 : l2.head? = some y
        · rw [if_pos e2, if_pos (i2.2 e2)]
        · rw [if_neg e2, if_neg (fun e => e2 (i2.1 e))]
      · rw [if_neg e1, if_neg (fun e => e1 (i1.1 e))]
        by_cases e2 : l2.head? = some y
        · rw [if_pos e2, if_pos (i2.2 e2)]
        · rw [if_neg e2, if_neg (fun e => e2 (i2.1 e))]
    · rw [hother j e]
      rw [a.keepX j y e hy']
      exact h.clink j y hy'
end Go.Proofs.Ytdoapfgcjmkfhaa
