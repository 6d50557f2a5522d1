/- A part of the proof: contracts of functions of the program, for the row's text. -/
import Derived.Test.YtibfpkfpmkghhaaGreatDoorJ40
import Derived.Test.YtibfpkfpmkghhaaGreatDoorJ34
import Derived.Test.YtibfpkfpmkghhaaGreatDoorJ04
namespace Go.Proofs.YtibfpkfpmkghhaaGreatDoor
open Go.RowKit Go.Lig

/-- both rows of cells, at one block -/
structure RTwo (w : World) (c g i j n m : Nat) (x y : Tx) : Prop where
  c0 : w.cell? ⟨c, 0, none⟩ = some (.slice (some ⟨g, 0, none⟩) m n)
  x0 : w.cell? ⟨g, i * 3, none⟩ = some (.int .i64 x.mark)
  y1 : w.cell? ⟨g, j * 3 + 1, none⟩ = some (.int .i64 (txAs y))
  y2 : w.cell? ⟨g, j * 3 + 2, none⟩ = some (.bool (y.state == 0))
  hi : i < m
  hj : j < m
theorem RClkRow.two {w : World} {c g : Nat} {K : Ck} (h : RClkRow w c g K) {t b : Int} {x y : Tx} (hx : K.tx t = some x) (hy : K.tx b = some y) : ∃ i j n : Nat, t = (i : Int) + 1 ∧ b = (j : Int) + 1 ∧ RTwo w c g i j n K.l.length x y := by
  obtain ⟨i, n, e1, hi, c0, d0, -, -⟩ := h.ix hx
  obtain ⟨j, n', e2, hj, c0', -, d1, d2⟩ := h.ix hy
  exact ⟨i, j, n, e1, e2, c0, d0, d1, d2, hi, hj⟩
end Go.Proofs.YtibfpkfpmkghhaaGreatDoor

namespace Go.Proofs.YtibfpkfpmkghhaaGreatDoor
open Go.RowKit Go.Lig

theorem RClkRow.at_ {w : World} {c g : Nat} {K : Ck} (h : RClkRow w c g K) {i : Nat} {x : Tx} (hx : K.l[i]? = some x) : ∃ n : Nat, w.cell? ⟨c, 0, none⟩ = some (.slice (some ⟨g, 0, none⟩) K.l.length n) ∧
    w.cell? ⟨g, i * 3, none⟩ = some (.int .i64 x.mark) ∧ w.cell? ⟨g, i * 3 + 1, none⟩ = some (.int .i64 (txAs x)) ∧ w.cell? ⟨g, i * 3 + 2, none⟩ = some (.bool (x.state == 0)) := by
  have htx : K.tx ((i : Int) + 1) = some x := by unfold Ck.tx; rw [if_pos (by omega), show ((i : Int) + 1 - 1).toNat = i by omega]; exact hx
  obtain ⟨j, n, e, hj, c0, d0, d1, d2⟩ := h.ix htx
  obtain rfl : i = j := by omega
  exact ⟨n, c0, d0, d1, d2⟩
theorem RClkRow.c0 {w : World} {c g : Nat} {K : Ck} (h : RClkRow w c g K) : ∃ a n, w.cell? ⟨c, 0, none⟩ = some (.slice a K.l.length n) := by
  obtain ⟨a, n, h1, -⟩ := h.ex
  exact ⟨a, n, (cells2 h1).1⟩
end Go.Proofs.YtibfpkfpmkghhaaGreatDoor

namespace Go.Proofs.YtibfpkfpmkghhaaGreatDoor
open Go.RowKit Go.Lig

/-- the row, and one of its transactions turned -/
theorem RClkAt.set {w w' : World} {T : Nat → Prop} {c g n : Nat} {K K' : Ck} {t : Int} {x x' : Tx} (h : RClkAt w T c K) (hx : K.tx t = some x) (hl : K'.l = K.l.set (t - 1).toNat x') (hc : 0 ≤ K'.commits ∧ K'.commits ≤ 1000000) (ho : TxOk x')
    (h1 : w'.heap[c]? = some (.cells #[.slice (some ⟨g, 0, none⟩) K.l.length n, .int .i64 K'.commits] 113 (0, 0))) (h2 : w'.ownsRow 0 213 3 (.slice (some ⟨g, 0, none⟩) K.l.length n) K.l.length ((K.l.set (t - 1).toNat x').flatMap rtcell))
    (hz : w.heap.size ≤ w'.heap.size) (hg : T g) (hgc : g ≠ c) : RClkAt w' T c K' := by
  refine ⟨⟨.slice (some ⟨g, 0, none⟩) K.l.length n, h1, ?_, fun k hk => ?_⟩, h.root, fun k hk => Nat.lt_of_lt_of_le (h.bound k hk) hz, ?_, fun y hy => ?_⟩
  · rw [hl]; simpa using h2
  · obtain rfl : g = k := Option.some.inj hk
    exact ⟨hg, hgc⟩
  · have := h.small
    rw [hl, List.length_set]
    omega
  · rw [hl] at hy
    rcases List.mem_or_eq_of_mem_set hy with e | rfl
    · exact h.ok y e
    · exact ho
end Go.Proofs.YtibfpkfpmkghhaaGreatDoor
