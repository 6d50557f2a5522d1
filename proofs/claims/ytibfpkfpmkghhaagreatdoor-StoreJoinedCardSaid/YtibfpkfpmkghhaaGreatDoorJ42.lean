/- A part of the proof: contracts of functions of the program, for the row's text. -/
import Derived.Test.YtibfpkfpmkghhaaGreatDoorJ41
import Derived.Test.YtibfpkfpmkghhaaGreatDoorJ16
namespace Go.Proofs.YtibfpkfpmkghhaaGreatDoor
open Go.RowKit Go.Lig

def rvcell (y : Ver Nat) : List Value := [.int .i64 y.by_, .int .i64 (y.v : Int), .bool y.gone]
/-- the reference's cell at x holds the versions L; T its blocks -/
structure RCellAt (w : World) (T : Nat → Prop) (x : Nat) (L : List (Ver Nat)) : Prop where
  ex : ∃ v, w.heap[x]? = some (.cells #[v] 208 (0, 0)) ∧ w.ownsRow 0 233 3 v L.length (L.flatMap rvcell) ∧ ∀ k, v.ownBlock = some k → T k ∧ k ≠ x
  root : T x
  bound : ∀ k, T k → k < w.heap.size
  small : L.length ≤ 1000000
  vs : ∀ y ∈ L, y.v ≤ 1000000
theorem RCellAt.frame {w w' : World} {T U : Nat → Prop} {x : Nat} {L : List (Ver Nat)} (h : RCellAt w T x L) (hf : Fr U w w') (hd : ∀ k, T k → ¬ U k) : RCellAt w' T x L := by
  obtain ⟨v, h1, h2, h3⟩ := h.ex
  exact ⟨⟨v, hf.keep h1 (hd x h.root), hf.owns h2 (fun k hk => hd k (h3 k hk).1), h3⟩, h.root, fun k hk => Nat.lt_of_lt_of_le (h.bound k hk) hf.size, h.small, h.vs⟩
/-- the cell's row: g its block, if it has any -/
structure RCelRow (w : World) (x g : Nat) (L : List (Ver Nat)) : Prop where
  ex : ∃ a n, w.heap[x]? = some (.cells #[.slice a L.length n] 208 (0, 0)) ∧ w.ownsRow 0 233 3 (.slice a L.length n) L.length (L.flatMap rvcell) ∧ (0 < L.length → a = some ⟨g, 0, none⟩) ∧ g ≠ x
  few : L.length ≤ 1000000
  vs : ∀ y ∈ L, y.v ≤ 1000000
theorem RCellAt.row {w : World} {T : Nat → Prop} {x : Nat} {L : List (Ver Nat)} (h : RCellAt w T x L) : ∃ g, RCelRow w x g L ∧ (0 < L.length → T g) := by
  obtain ⟨v, h1, h2, h3⟩ := h.ex
  obtain ⟨a, n, rfl⟩ := ownsRow_slice h2
  by_cases hl : 0 < L.length
  · obtain ⟨g, cur, rfl, -, -⟩ := owns_at h2 hl
    exact ⟨g, ⟨⟨_, n, h1, h2, fun _ => rfl, (h3 g rfl).2⟩, h.small, h.vs⟩, fun _ => (h3 g rfl).1⟩
  · exact ⟨x + 1, ⟨⟨a, n, h1, h2, fun e => absurd e hl, by omega⟩, h.small, h.vs⟩, fun e => absurd e hl⟩
theorem RCelRow.frame {w w' : World} {x g : Nat} {L : List (Ver Nat)} (h : RCelRow w x g L) (hf : Fr No w w') : RCelRow w' x g L := by
  obtain ⟨a, n, h1, h2, h3, h4⟩ := h.ex
  exact ⟨⟨a, n, hf.keep h1 (fun e => e), fd_owns h2 hf, h3, h4⟩, h.few, h.vs⟩
/-- version j: where it lies -/
structure RvAt (w : World) (x g j n m : Nat) (y : Ver Nat) : Prop where
  c0 : w.cell? ⟨x, 0, none⟩ = some (.slice (some ⟨g, 0, none⟩) m n)
  y0 : w.cell? ⟨g, j * 3, none⟩ = some (.int .i64 y.by_)
  y1 : w.cell? ⟨g, j * 3 + 1, none⟩ = some (.int .i64 (y.v : Int))
  y2 : w.cell? ⟨g, j * 3 + 2, none⟩ = some (.bool y.gone)
theorem RCelRow.cell {w : World} {x g : Nat} {L : List (Ver Nat)} (h : RCelRow w x g L) {j : Nat} {y : Ver Nat} (hy : L[j]? = some y) : ∃ n, RvAt w x g j n L.length y := by
  obtain ⟨a, n, h1, h2, h3, _⟩ := h.ex
  have hl := (List.getElem?_eq_some_iff.1 hy).1
  obtain rfl := h3 (by omega)
  have g0 : ∀ t, t < 3 → (L.flatMap rvcell)[j * 3 + t]? = (rvcell y)[t]? := fun t ht => flat_get (f := rvcell) (m := 3) (fun _ => rfl) _ _ _ hy t ht
  exact ⟨n, cells1 h1, owns_cell h2 rfl (by rw [← Nat.add_zero (j * 3), g0 0 (by decide)]; rfl), owns_cell h2 rfl (by rw [g0 1 (by decide)]; rfl), owns_cell h2 rfl (by rw [g0 2 (by decide)]; rfl)⟩
theorem RCelRow.c0 {w : World} {x g : Nat} {L : List (Ver Nat)} (h : RCelRow w x g L) : ∃ a n, w.cell? ⟨x, 0, none⟩ = some (.slice a L.length n) := by
  obtain ⟨a, n, h1, -⟩ := h.ex
  exact ⟨a, n, cells1 h1⟩
end Go.Proofs.YtibfpkfpmkghhaaGreatDoor

namespace Go.Proofs.YtibfpkfpmkghhaaGreatDoor
open Go.RowKit Go.Lig

/-- the cell points at a row that tells B -/
structure RPre (w w2 : World) (x : Nat) (u : Value) (B : List (Ver Nat)) : Prop where
  at_ : w2.heap[x]? = some (.cells #[u] 208 (0, 0))
  rd : Rd w2 u B.length 3 (B.flatMap rvcell)
  fr : Fr (fun k => k = x) w w2
end Go.Proofs.YtibfpkfpmkghhaaGreatDoor
