/- What an Add makes of the lists, once it is known what lies in each block. -/
import Derived.Test.YtdoapfgcjmkfhaaChM
namespace Go.Proofs.Ytdoapfgcjmkfhaa
open Go.RowKit Go.Lig

/-- the blocks of the new roles -/
def newB (B : Role → Nat) (k x : Int) (bl bm bx : Nat) : Role → Nat
  | .list j => if j = k then bl else B (.list j)
  | .lmap j => if j = k then bm else B (.lmap j)
  | .link j y => if j = k ∧ y = x then bx else B (.link j y)
  | r => B r
theorem prv_cons (l : List Int) (x : Int) (h : x ∉ l) : prv (x :: l) x = none := by
  unfold prv
  rw [List.reverse_cons]
  have : ∀ (m : List Int), x ∉ m → nxt (m ++ [x]) x = none := by
    intro m
    induction m with
    | nil => intro _; simp [nxt]
    | cons y m ih =>
      intro hm
      have h1 : ¬ y = x := fun e => hm (by simp [e])
      simp only [List.cons_append, nxt, if_neg h1]
      exact ih (fun e => hm (by simp [e]))
  exact this _ (by simpa using h)
theorem nxt_snoc (x y : Int) : ∀ (l : List Int), l.Nodup → y ∈ l → nxt (l ++ [x]) y = if l.getLast? = some y then some x else nxt l y
  | [], _, h => by cases h
  | [z], _, h => by
    obtain rfl : y = z := by simpa using h
    simp [nxt]
  | z :: z2 :: l, hn, h => by
    have hn' := List.nodup_cons.1 hn
    have hlast : (z :: z2 :: l).getLast? = (z2 :: l).getLast? := by simp [List.getLast?_cons_cons]
    rw [hlast]
    by_cases e : z = y
    · subst e
      have hne : ¬ (z2 :: l).getLast? = some z := fun e => hn'.1 (List.mem_of_getLast? e)
      rw [if_neg hne]
      simp [nxt]
    · have hy : y ∈ z2 :: l := by
        rcases List.mem_cons.1 h with rfl | h
        · exact absurd rfl e
        · exact h
      have ih := nxt_snoc x y (z2 :: l) hn'.2 hy
      simp only [List.cons_append, nxt, if_neg e] at ih ⊢
      exact ih
theorem prv_add (l : List Int) (x y : Int) (hn : l.Nodup) (hy : y ∈ l) : prv (x :: l) y = if l.head? = some y then some x else prv l y := by
  unfold prv
  rw [List.reverse_cons, nxt_snoc x y l.reverse (List.pairwise_reverse.2 (hn.imp Ne.symm)) (by simpa using hy), List.getLast?_reverse]
theorem nxt_cons_same (l : List Int) (x : Int) : nxt (x :: l) x = l.head? := by simp [nxt]
theorem nxt_cons_other (l : List Int) (x y : Int) (h : x ≠ y) : nxt (x :: l) y = nxt l y := by simp [nxt, h]
theorem ids_nodup {I : List (Int × Int)} (h : I.Nodup) (k : Int) : (ids I k).Nodup := by
  unfold ids
  refine List.pairwise_map.2 (List.Pairwise.imp_of_mem (R := (· ≠ ·)) (fun {a b} ha hb hne e => hne ?_) (h.filter _))
  have h1 : a.1 = k := by simpa using (List.mem_filter.1 ha).2
  have h2 : b.1 = k := by simpa using (List.mem_filter.1 hb).2
  exact Prod.ext (h1.trans h2.symm) e
def newR (ρ : Nat → Option Role) (k x : Int) (bl bm bx : Nat) : Nat → Option Role := fun b => if b = bl then some (.list k) else if b = bm then some (.lmap k) else if b = bx then some (.link k x) else ρ b
theorem ids_add (I : List (Int × Int)) (k x j : Int) : ids ((k, x) :: I) j = if j = k then x :: ids I k else ids I j := by
  split
  · rename_i e; subst e; exact ids_cons_same I j x
  · rename_i e; exact ids_cons_other I k x j e
structure Added (w w' : World) (c : Nat) (I : List (Int × Int)) (B : Role → Nat) (ρ : Nat → Option Role) (m : Nat) (k x : Int) (bl bm bx : Nat) : Prop where
  old : ids I k ≠ [] → bl = B (.list k) ∧ bm = B (.lmap k)
  new : ids I k = [] → w.heap.size ≤ bl ∧ w.heap.size ≤ bm ∧ bl ≠ bm
  fresh : w.heap.size ≤ bx ∧ bx ≠ bl ∧ bx ≠ bm
  lt : bl < w'.heap.size ∧ bm < w'.heap.size ∧ bx < w'.heap.size ∧ w.heap.size ≤ w'.heap.size
  croot : w'.heap[c]? = some (.cells #[.map (some (B .rmap)), .int .i64 ((I.length + 1 : Nat) : Int)] 43 (0, 0))
  cmap : MapAt w' Try.prog 3 (B .rmap) (m + 1) (fun j => if j = k then .pointer (some ⟨bl, 0, none⟩) else if ids I j = [] then .pointer none else .pointer (some ⟨B (.list j), 0, none⟩))
  clist : w'.heap[bl]? = some (.cells #[.pointer (some ⟨bx, 0, none⟩), if ids I k = [] then .pointer (some ⟨bx, 0, none⟩) else ptrO B k (ids I k).getLast?, .map (some bm)] 48 (0, 0))
  clmap : MapAt w' Try.prog 3 bm (m + 1) (fun y => if y = x then .pointer (some ⟨bx, 0, none⟩) else if y ∈ ids I k then .pointer (some ⟨B (.link k y), 0, none⟩) else .pointer none)
  clink : w'.heap[bx]? = some (.cells #[.int .i64 x, .pointer none, ptrO B k (ids I k).head?] 50 (0, 0))
  cold : ∀ y, y ∈ ids I k → w'.heap[B (.link k y)]? = some (.cells #[.int .i64 y, if (ids I k).head? = some y then .pointer (some ⟨bx, 0, none⟩) else ptrO B k (prv (ids I k) y), ptrO B k (nxt (ids I k) y)] 50 (0, 0))
  keepL : ∀ j, j ≠ k → ids I j ≠ [] → w'.heap[B (.list j)]? = w.heap[B (.list j)]?
  keepM : ∀ j f, j ≠ k → ids I j ≠ [] → MapAt w Try.prog 3 (B (.lmap j)) m f → MapAt w' Try.prog 3 (B (.lmap j)) (m + 1) f
  keepX : ∀ j y, j ≠ k → y ∈ ids I j → w'.heap[B (.link j y)]? = w.heap[B (.link j y)]?
theorem Added.ne {w w' : World} {c : Nat} {I : List (Int × Int)} {B : Role → Nat} {ρ : Nat → Option Role} {m : Nat} {k x : Int} {bl bm bx : Nat} (a : Added w w' c I B ρ m k x bl bm bx) (h : ChAt w c I B ρ m) {r : Role} (hr : Live I r) (h1 : r ≠ .list k) (h2 : r ≠ .lmap k) :
    B r ≠ bl ∧ B r ≠ bm ∧ B r ≠ bx := by
  have hb := h.bound (B r) (by rw [h.rho r hr]; simp)
  have hf := a.fresh
  by_cases hn : ids I k = []
  · have := a.new hn
    omega
  · obtain ⟨e1, e2⟩ := a.old hn
    refine ⟨fun e => ?_, fun e => ?_, by omega⟩
    · have := h.rho r hr
      rw [e, e1, h.rho (.list k) hn] at this
      exact h1 (Option.some.inj this).symm
    · have := h.rho r hr
      rw [e, e2, h.rho (.lmap k) hn] at this
      exact h2 (Option.some.inj this).symm
theorem Added.lm {w w' : World} {c : Nat} {I : List (Int × Int)} {B : Role → Nat} {ρ : Nat → Option Role} {m : Nat} {k x : Int} {bl bm bx : Nat} (a : Added w w' c I B ρ m k x bl bm bx) (h : ChAt w c I B ρ m) : bl ≠ bm := by
  by_cases hn : ids I k = []
  · exact (a.new hn).2.2
  · obtain ⟨e1, e2⟩ := a.old hn
    intro e
    have h1 := h.rho (.list k) hn
    rw [← e1, e, e2, h.rho (.lmap k) hn] at h1
    cases h1
theorem ptrO_other (B : Role → Nat) (k x j : Int) (bl bm bx : Nat) (e : j ≠ k) (o : Option Int) : ptrO (newB B k x bl bm bx) j o = ptrO B j o := by
  cases o <;> simp [ptrO, newB, e]
theorem ptrO_same (B : Role → Nat) (k x : Int) (bl bm bx : Nat) (o : Option Int) (ho : o ≠ some x) : ptrO (newB B k x bl bm bx) k o = ptrO B k o := by
  cases o with
  | none => rfl
  | some y =>
    have hy : ¬ y = x := fun e => ho (by rw [e])
    simp [ptrO, newB, hy]
theorem ptrO_x (B : Role → Nat) (k x : Int) (bl bm bx : Nat) : ptrO (newB B k x bl bm bx) k (some x) = .pointer (some ⟨bx, 0, none⟩) := by simp [ptrO, newB]
theorem nxt_mem : ∀ (l : List Int) (y z : Int), nxt l y = some z → z ∈ l
  | [], _, _, h => by cases h
  | a :: l, y, z, h => by
    simp only [nxt] at h
    split at h
    · exact List.mem_cons_of_mem _ (List.mem_of_head? h)
    · exact List.mem_cons_of_mem _ (nxt_mem l y z h)
theorem prv_mem (l : List Int) (y z : Int) (h : prv l y = some z) : z ∈ l := by simpa using nxt_mem _ _ _ h
theorem Added.done {w w' : World} {c : Nat} {I : List (Int × Int)} {B : Role → Nat} {ρ : Nat → Option Role} {m : Nat} {k x : Int} {bl bm bx : Nat} (a : Added w w' c I B ρ m k x bl bm bx) (h : ChAt w c I B ρ m) (hx : x ∉ ids I k) :
    ChAt w' c ((k, x) :: I) (newB B k x bl bm bx) (newR ρ k x bl bm bx) (m + 1) := by
  have hlm := a.lm h
  have hfr := a.fresh
  have hlt := a.lt
  refine ⟨List.nodup_cons.2 ⟨fun e => hx ((mem_ids I k x).2 e), h.nodup⟩, h.root, ?_, ?_, a.croot, ?_, ?_, ?_, ?_⟩
  · have old : ∀ r, Live I r → r ≠ .list k → r ≠ .lmap k → newR ρ k x bl bm bx (B r) = some r := fun r hr h1 h2 => by
      obtain ⟨n1, n2, n3⟩ := a.ne h hr h1 h2
      simp only [newR, if_neg n1, if_neg n2, if_neg n3]
      exact h.rho r hr
    intro r hr
    cases r with
    | root => exact old .root trivial (by simp) (by simp)
    | rmap => exact old .rmap trivial (by simp) (by simp)
    | list j =>
      by_cases e : j = k
      · subst e; simp [newB, newR]
      · have hr' : ids I j ≠ [] := by rw [← ids_cons_other I k x j e]; exact hr
        simp only [newB, if_neg e]
        exact old (.list j) hr' (by simp [e]) (by simp)
    | lmap j =>
      by_cases e : j = k
      · subst e; simp [newB, newR, Ne.symm hlm]
      · have hr' : ids I j ≠ [] := by rw [← ids_cons_other I k x j e]; exact hr
        simp only [newB, if_neg e]
        exact old (.lmap j) hr' (by simp) (by simp [e])
    | link j y =>
      by_cases e : j = k ∧ y = x
      · obtain ⟨rfl, rfl⟩ := e; simp [newB, newR, hfr.2.1, hfr.2.2]
      · have hr0 : y ∈ ids ((k, x) :: I) j := hr
        have hr' : y ∈ ids I j := by
          rw [ids_add] at hr0
          split at hr0
          · rename_i ej
            rcases List.mem_cons.1 hr0 with rfl | h0
            · exact absurd ⟨ej, rfl⟩ e
            · rw [ej]; exact h0
          · exact hr0
        simp only [newB, if_neg e]
        exact old (.link j y) hr' (by simp) (by simp)
  · intro b hb
    unfold newR at hb
    split at hb
    · omega
    · split at hb
      · omega
      · split at hb
        · omega
        · have := h.bound b hb
          omega
  · have e : (fun j => if ids ((k, x) :: I) j = [] then Value.pointer none else .pointer (some ⟨newB B k x bl bm bx (.list j), 0, none⟩)) = (fun j => if j = k then .pointer (some ⟨bl, 0, none⟩) else if ids I j = [] then .pointer none else .pointer (some ⟨B (.list j), 0, none⟩)) := by
      funext j
      rw [ids_add]
      by_cases e : j = k
      · simp [newB, e]
      · simp [newB, e]
    rw [e]
    exact a.cmap
  · intro j hj
    by_cases e : j = k
    · subst e
      rw [ids_cons_same, List.head?_cons, ptrO_x]
      have h1 : newB B j x bl bm bx (.list j) = bl := by simp [newB]
      have h2 : newB B j x bl bm bx (.lmap j) = bm := by simp [newB]
      rw [h1, h2, a.clist]
      by_cases hn : ids I j = []
      · rw [if_pos hn, hn, List.getLast?_singleton, ptrO_x]
      · obtain ⟨y, l, hyl⟩ := List.exists_cons_of_ne_nil hn
        rw [if_neg hn]
        have hg : (x :: ids I j).getLast? = (ids I j).getLast? := by rw [hyl, List.getLast?_cons_cons]
        rw [hg, ptrO_same _ _ _ _ _ _ _ (fun e => hx (List.mem_of_getLast? e))]
    · rw [ids_cons_other I k x j e] at hj ⊢
      have h1 : newB B k x bl bm bx (.list j) = B (.list j) := by simp [newB, e]
      have h2 : newB B k x bl bm bx (.lmap j) = B (.lmap j) := by simp [newB, e]
      rw [h1, h2, a.keepL j e hj, ptrO_other _ _ _ _ _ _ _ e, ptrO_other _ _ _ _ _ _ _ e]
      exact h.clist j hj
  · intro j hj
    by_cases e : j = k
    · subst e
      have h2 : newB B j x bl bm bx (.lmap j) = bm := by simp [newB]
      rw [h2, ids_cons_same]
      have ef : (fun y => if y ∈ x :: ids I j then Value.pointer (some ⟨newB B j x bl bm bx (.link j y), 0, none⟩) else .pointer none) = (fun y => if y = x then .pointer (some ⟨bx, 0, none⟩) else if y ∈ ids I j then .pointer (some ⟨B (.link j y), 0, none⟩) else .pointer none) := by
        funext y
        by_cases ey : y = x
        · simp [ey, newB]
        · simp [ey, newB]
      rw [ef]
      exact a.clmap
    · rw [ids_cons_other I k x j e] at hj ⊢
      have h2 : newB B k x bl bm bx (.lmap j) = B (.lmap j) := by simp [newB, e]
      have ef : (fun y => if y ∈ ids I j then Value.pointer (some ⟨newB B k x bl bm bx (.link j y), 0, none⟩) else .pointer none) = (fun y => if y ∈ ids I j then .pointer (some ⟨B (.link j y), 0, none⟩) else .pointer none) := by
        funext y
        simp [newB, e]
      rw [h2, ef]
      exact a.keepM j _ e hj (h.clmap j hj)
  · intro j y hy
    by_cases e : j = k
    · subst e
      rw [ids_cons_same] at hy ⊢
      by_cases ey : y = x
      · subst ey
        have h1 : newB B j y bl bm bx (.link j y) = bx := by simp [newB]
        rw [h1, prv_cons _ _ hx, nxt_cons_same, a.clink, ptrO_same _ _ _ _ _ _ _ (fun e => hx (List.mem_of_head? e))]
        rfl
      · have hy' : y ∈ ids I j := by
          rcases List.mem_cons.1 hy with h0 | h0
          · exact absurd h0 ey
          · exact h0
        have h1 : newB B j x bl bm bx (.link j y) = B (.link j y) := by simp [newB, ey]
        rw [h1, a.cold y hy', prv_add _ _ _ (ids_nodup h.nodup j) hy', nxt_cons_other _ _ _ (Ne.symm ey), ptrO_same _ _ _ _ _ _ _ (fun e => hx (nxt_mem _ _ _ e))]
        split
        · rw [ptrO_x]
        · rw [ptrO_same _ _ _ _ _ _ _ (fun e => hx (prv_mem _ _ _ e))]
    · rw [ids_cons_other I k x j e] at hy ⊢
      have h1 : newB B k x bl bm bx (.link j y) = B (.link j y) := by simp [newB, e]
      rw [h1, a.keepX j y e hy, ptrO_other _ _ _ _ _ _ _ e, ptrO_other _ _ _ _ _ _ _ e]
      exact h.clink j y hy
end Go.Proofs.Ytdoapfgcjmkfhaa
