/- A cell of nodes: versions as plain data, and how they lie in memory. -/
import Derived.Test.YtofjbigojbnmfaaGreatDoorClk9
namespace Go.Lig
/-- a slice's header -/
structure Sl where
  a : Option Addr
  n : Nat
  c : Nat
def Sl.v (s : Sl) : Value := .slice s.a s.n s.c
def Sl.nil : Sl := ⟨none, 0, 0⟩
instance : Inhabited Sl := ⟨Sl.nil⟩
/-- a node as a value -/
structure NodeV where
  l : Sl
  p : Sl
instance : Inhabited NodeV := ⟨⟨Sl.nil, Sl.nil⟩⟩
def NodeV.cells (x : NodeV) : List Value := [x.l.v, x.p.v]
def NodeV.none : NodeV := ⟨Sl.nil, Sl.nil⟩
structure Ver (α : Type) where
  by_ : Int
  v : α
  gone : Bool
instance {α : Type} [Inhabited α] : Inhabited (Ver α) := ⟨⟨0, default, false⟩⟩
def ncell (y : Ver NodeV) : List Value := [.int .i64 y.by_, .slice y.v.l.a y.v.l.n y.v.l.c, .slice y.v.p.a y.v.p.n y.v.p.c, .bool y.gone]
/-- the first that is meant (the last version stands first): its value; none: there is none, or it is gone -/
def lastOf {α : Type} (meant : Int → Bool) : List (Ver α) → Option α
  | [] => Option.none
  | y :: l => if meant y.by_ then (if y.gone then Option.none else some y.v) else lastOf meant l
end Go.Lig
namespace Go.Proofs.YtofjbigojbnmfaaGreatDoor
open Go.RowKit Go.Lig
/-- the cell at x holds the versions L; T its blocks -/
structure CellAt (w : World) (T : Nat → Prop) (x : Nat) (L : List (Ver NodeV)) : Prop where
  ex : ∃ v, w.heap[x]? = some (.cells #[v] 144 (0, 0)) ∧ w.ownsRow 0 142 4 v L.length (L.flatMap ncell) ∧ ∀ k, v.ownBlock = some k → T k ∧ k ≠ x
  root : T x
  bound : ∀ k, T k → k < w.heap.size
  small : L.length ≤ 1000000
theorem CellAt.frame {w w' : World} {T U : Nat → Prop} {x : Nat} {L : List (Ver NodeV)} (h : CellAt w T x L) (hf : Fr U w w') (hd : ∀ k, T k → ¬ U k) : CellAt w' T x L := by
  obtain ⟨v, h1, h2, h3⟩ := h.ex
  exact ⟨⟨v, hf.keep h1 (hd x h.root), hf.owns h2 (fun k hk => hd k (h3 k hk).1), h3⟩, h.root, fun k hk => Nat.lt_of_lt_of_le (h.bound k hk) hf.size, h.small⟩
/-- the cell's row: g its block, if it has any -/
structure CelRow (w : World) (x g : Nat) (L : List (Ver NodeV)) : Prop where
  ex : ∃ a n, w.heap[x]? = some (.cells #[.slice a L.length n] 144 (0, 0)) ∧ w.ownsRow 0 142 4 (.slice a L.length n) L.length (L.flatMap ncell) ∧ (0 < L.length → a = some ⟨g, 0, none⟩) ∧ g ≠ x
theorem CellAt.row {w : World} {T : Nat → Prop} {x : Nat} {L : List (Ver NodeV)} (h : CellAt w T x L) : ∃ g, CelRow w x g L ∧ (0 < L.length → T g) := by
  obtain ⟨v, h1, h2, h3⟩ := h.ex
  obtain ⟨a, n, rfl⟩ := ownsRow_slice h2
  by_cases hl : 0 < L.length
  · obtain ⟨g, cur, rfl, -, -⟩ := owns_at h2 hl
    exact ⟨g, ⟨_, n, h1, h2, fun _ => rfl, (h3 g rfl).2⟩, fun _ => (h3 g rfl).1⟩
  · exact ⟨x + 1, ⟨a, n, h1, h2, fun e => absurd e hl, by omega⟩, fun e => absurd e hl⟩
theorem CelRow.frame {w w' : World} {x g : Nat} {L : List (Ver NodeV)} (h : CelRow w x g L) (hf : Fr No w w') : CelRow w' x g L := by
  obtain ⟨a, n, h1, h2, h3, h4⟩ := h.ex
  exact ⟨a, n, hf.keep h1 (fun e => e), fd_owns h2 hf, h3, h4⟩
theorem ncell_len (y : Ver NodeV) : (ncell y).length = 4 := rfl
/-- version j's cells -/
def NcAt (w : World) (g j : Nat) (y : Ver NodeV) : Prop := w.cell? ⟨g, j * 4, none⟩ = some (.int .i64 y.by_) ∧ w.cell? ⟨g, j * 4 + 1, none⟩ = some (.slice y.v.l.a y.v.l.n y.v.l.c) ∧ w.cell? ⟨g, j * 4 + 2, none⟩ = some (.slice y.v.p.a y.v.p.n y.v.p.c) ∧ w.cell? ⟨g, j * 4 + 3, none⟩ = some (.bool y.gone)
theorem CelRow.cell {w : World} {x g : Nat} {L : List (Ver NodeV)} (h : CelRow w x g L) {j : Nat} {y : Ver NodeV} (hy : L[j]? = some y) : NcAt w g j y := by
  obtain ⟨a, n, h1, h2, h3, _⟩ := h.ex
  have hl := (List.getElem?_eq_some_iff.1 hy).1
  obtain rfl := h3 (by omega)
  have g0 : ∀ t, t < 4 → (L.flatMap ncell)[j * 4 + t]? = (ncell y)[t]? := fun t ht => flat_get (f := ncell) (m := 4) (fun _ => rfl) _ _ _ hy t ht
  exact ⟨owns_cell h2 rfl (by rw [← Nat.add_zero (j * 4), g0 0 (by decide)]; rfl), owns_cell h2 rfl (by rw [g0 1 (by decide)]; rfl), owns_cell h2 rfl (by rw [g0 2 (by decide)]; rfl), owns_cell h2 rfl (by rw [g0 3 (by decide)]; rfl)⟩
end Go.Proofs.YtofjbigojbnmfaaGreatDoor
