/- More of what no program shows: classes of worlds, owned rows, slices of structs. -/
import Derived.Test.YtofjbigojbnmfaaGreatDoorSched
import Derived.Test.YtofjbigojbnmfaaGreatDoorLawF
namespace Go.Lig
open Go.RowKit Go.ChangeShapes Go.WideShapes Go.ChangeAt Go.Deep

theorem rd_len {w : World} {v : Value} {n size : Nat} {xs : List Value} (h : Rd w v n size xs) : ∃ ao c, v = .slice ao n c ∧ n ≤ 9223372036854775807 := by
  obtain ⟨ao, c, rfl, _, _, _, _, h1, h2⟩ := h
  exact ⟨ao, c, rfl, by unfold maxLen at h2; omega⟩
theorem Rd.frameE {w w' : World} {S : Nat → Prop} {v : Value} {n size : Nat} {xs : List Value} (h : Rd w v n size xs) (hf : Fr S w w') (hn : ∀ k, slBlock v = some k → xs ≠ [] → ¬ S k) : Rd w' v n size xs := by
  cases hx : xs with
  | nil =>
    subst hx
    obtain ⟨ao, c, rfl, hl, h0, _, r⟩ := h
    exact ⟨ao, c, rfl, hl, h0, fun _ _ j u hu => (by simp at hu), r⟩
  | cons x l => exact hx ▸ h.frame hf (fun k hk => hn k hk (by rw [hx]; exact List.cons_ne_nil _ _))
theorem rd_block {w : World} {v : Value} {n size : Nat} {xs : List Value} (h : Rd w v n size xs) {k : Nat} (hk : slBlock v = some k) (hn : xs ≠ []) : k < w.heap.size := by
  obtain ⟨ao, c, rfl, hl, h0, h1, r⟩ := h
  cases xs with
  | nil => exact absurd rfl hn
  | cons x l =>
    cases ao with
    | none => cases hk
    | some ad =>
      obtain rfl : ad.block = k := Option.some.inj hk
      have := World.block_lt_of_cell? w _ (h1 ad rfl 0 x rfl)
      have hb : (ad.add 0).block = ad.block := by unfold Addr.add; split <;> rfl
      rwa [hb] at this
/-! ### Owned rows -/
theorem ownsRow_slice {w : World} {base : Nat} {e : TypeId} {size : Nat} {v : Value} {n : Nat} {xs : List Value} (h : w.ownsRow base e size v n xs) : ∃ a c, v = .slice a n c := by
  rcases h.2 with ⟨rfl, rfl⟩ | ⟨g, cap, cur, e, _⟩
  · exact ⟨none, 0, rfl⟩
  · exact ⟨_, _, e⟩
theorem fd_owns {w w' : World} {base : Nat} {e : TypeId} {size : Nat} {v : Value} {n : Nat} {xs : List Value} (h : w.ownsRow base e size v n xs) (hf : Fr No w w') : w'.ownsRow base e size v n xs := hf.owns h (fun _ _ e => e)
theorem owns_at {w : World} {base : Nat} {e : TypeId} {size : Nat} {a : Option Addr} {c n : Nat} {xs : List Value} (h : w.ownsRow base e size (.slice a n c) n xs) (hn : 0 < n) : ∃ g cur, a = some ⟨g, 0, none⟩ ∧ base ≤ g ∧ w.heap[g]? = some (.cells cur e (0, 0)) ∧ n ≤ c ∧ cur.size = c * size ∧ cur.toList.take (n * size) = xs := by
  rcases h.2 with ⟨_, e⟩ | ⟨g, cap, cur, e, hb, hg, hnc, hcm, hcs, ht⟩
  · omega
  · simp only [Value.slice.injEq] at e
    obtain ⟨rfl, -, rfl⟩ := e
    exact ⟨g, cur, rfl, hb, hg, hnc, hcs, ht⟩
theorem owns_cell {w : World} {base : Nat} {e : TypeId} {size : Nat} {a : Option Addr} {c n : Nat} {xs : List Value} (h : w.ownsRow base e size (.slice a n c) n xs) {g : Nat} (ha : a = some ⟨g, 0, none⟩) {j : Nat} {u : Value} (hj : xs[j]? = some u) : w.cell? ⟨g, j, none⟩ = some u := by
  subst ha
  have := h.cells (g := g) rfl j u hj
  rwa [Addr.add_mid, Nat.zero_add] at this
theorem owns_put {w w' : World} {base : Nat} {e : TypeId} {g c n : Nat} {xs : List Value} (h : w.ownsRow base e 1 (.slice (some ⟨g, 0, none⟩) n c) n xs) {cur : Array Value} (hg : w.heap[g]? = some (.cells cur e (0, 0))) {k : Nat} {v : Value}
    (p : Put g (cur.setIfInBounds k v) e w w') : w'.ownsRow base e 1 (.slice (some ⟨g, 0, none⟩) n c) n (xs.set k v) := by
  obtain ⟨hl, ⟨e', _⟩ | ⟨g', cap, cur', e', hb, hg', hnc, hcm, hcs, ht⟩⟩ := h
  · cases e'
  · simp only [Value.slice.injEq, Option.some.injEq, Addr.mk.injEq, and_true, true_and] at e'
    obtain ⟨rfl, rfl⟩ := e'
    rw [hg] at hg'
    obtain rfl : cur = cur' := by simpa using hg'
    refine ⟨by simpa using hl, .inr ⟨g, c, _, rfl, hb, p.at_, hnc, hcm, by simpa using hcs, ?_⟩⟩
    rw [Array.toList_setIfInBounds, List.take_set, ht]
theorem flat_get {α β : Type} {f : α → List β} {m : Nat} (hf : ∀ x, (f x).length = m) (l : List α) (k : Nat) (x : α) (hx : l[k]? = some x) (j : Nat) (hj : j < m) : (l.flatMap f)[k * m + j]? = (f x)[j]? := by
  induction l generalizing k with
  | nil => simp at hx
  | cons y l ih =>
    rw [List.flatMap_cons]
    cases k with
    | zero =>
      obtain rfl : y = x := by simpa using hx
      rw [Nat.zero_mul, Nat.zero_add, List.getElem?_append_left (by rw [hf]; exact hj)]
    | succ k =>
      have : (k + 1) * m + j = (f y).length + (k * m + j) := by rw [hf, Nat.succ_mul]; omega
      rw [this, List.getElem?_append_right (by omega), Nat.add_sub_cancel_left]
      exact ih k (by simpa using hx)
theorem flat_len {α β : Type} {f : α → List β} {m : Nat} (hf : ∀ x, (f x).length = m) (l : List α) : (l.flatMap f).length = l.length * m := by
  induction l with
  | nil => simp
  | cons y l ih => rw [List.flatMap_cons, List.length_append, hf, ih, List.length_cons, Nat.succ_mul]; omega
/-! ### Classes of worlds, frames -/
/-- The worlds that come behind w, and touch nothing of it. -/
def Frr (w : World) : Type := { u : World // Fr No w u }
def Frr.val {w : World} (u : Frr w) : World := Subtype.val u
instance {w : World} : Nonempty (Frr w) := ⟨⟨w, Fr.refl _ _⟩⟩
def FrC (w : World) : World → Prop := fun w' => ∃ u : Frr w, w' = u.val
attribute [go_sem] FrC
theorem FrC.mk {w w' : World} (h : Fr No w w') : FrC w w' := ⟨⟨w', h⟩, rfl⟩
theorem FrC.fr {w w' : World} (h : FrC w w') : Fr No w w' := by
  obtain ⟨u, rfl⟩ := h
  exact u.2
theorem FrC.refl (w : World) : FrC w w := FrC.mk (Fr.refl _ _)
theorem FrC.sub {w w1 : World} (h : Fr No w w1) (u : World) (hu : FrC w1 u) : FrC w u := FrC.mk (h.thenNo hu.fr)
section
variable {P : Program} {ops : Array Oper} {o : Oper} {a : Act} {w : World} {i last : Nat} {S : World → Prop} {Q : Exit → Act → World → Prop}
/-- the frame written out anew, the rest out of reach -/
theorem sched_hide {rest : List (Bool × Nat × Oper)} (h : ∀ K : Act → Prop, (∀ a, wpSched P ops Q S last rest a w → K a) → K a) : wpSched P ops Q S last rest a w := h _ (fun _ h => h)
theorem sched_build {rest : List (Bool × Nat × Oper)} (hgd : o.guard = none) (t : TypeId) (parts : List (Nat × Operand)) (ho : o.op = .build t parts.toArray) (vs : List (Nat × Value))
    (hev : parts.map (fun (i, x) => (i, a.eval x)) = vs) (cells : Array Value) (hb : P.built t vs = some cells) (h : wpSched P ops Q S last rest (a.put o.dst (.agg cells)) w) : wpSched P ops Q S last ((false, i, o) :: rest) a w := by
  subst hev
  refine sched_run hgd (v := .agg cells) (fun w' _ => ?_) h
  have e : (parts.toArray.map fun (i, x) => (i, a.eval x)).toList = parts.map (fun (i, x) => (i, a.eval x)) := by simp
  unfold execOp
  simp only [ho, Sem.run_bind, run_build w' t _ cells (by rw [e]; exact hb), Result.andThen_ok]
  rfl
end
/-! ### Arguments -/
section
variable {H : Type} {enc : TypeId × Value → H} {P : Program} {W : World}
theorem cells_of_trod {t e : TypeId} (ht : P.underlying t = some (.slice e)) {n : Nat} {v : Value} {y : DataW H × List MemPlace} (h : DataW.trod enc P W 0 (fun _ => true) true n t [v] = some y) : v.cells.toList = [v] := by
  rcases open_slice ht h with ⟨e, _⟩ | ⟨a, len, cap, m, n, D, Pl, e, _⟩
  · obtain rfl : v = .slice none 0 0 := by simpa using e
    rfl
  · obtain rfl : v = .slice (some a) len cap := by simpa using e
    rfl
/-- A slice of ints. -/
theorem rd_ints {t e : TypeId} (ht : P.underlying t = some (.slice e)) (he : P.underlying e = some (.int .i64)) (hc : P.cellsOf e = 1) {v : Value} {d : DataW H} {p : List MemPlace} (hv : v.cells.toList = [v]) (h : DataW.Trod enc P W 0 (fun _ => true) true t v d p) :
    ∃ l : List Int, Rd W v l.length 1 (l.map (Value.int .i64)) ∧ ∀ x ∈ l, (Lit.int .i64 x).wf = true := by
  have : Inhabited { x : Int // (Lit.int .i64 x).wf = true } := ⟨⟨0, by decide⟩⟩
  obtain ⟨l, hl⟩ := rd_slice1 (α := { x : Int // (Lit.int .i64 x).wf = true }) (fun x => Value.int .i64 x.1) (fun _ => rfl) ht hc (fun n v y h => by
    obtain ⟨m, e, -, hw⟩ := DataW.trod_int he h
    exact ⟨⟨m, hw⟩, by simpa using e⟩) hv h
  refine ⟨l.map (·.1), by simpa [List.map_map, Function.comp_def] using hl, fun x hx => ?_⟩
  obtain ⟨y, _, rfl⟩ := List.mem_map.1 hx
  exact y.2
end
end Go.Lig
