/- The clock: at, Live, Aborted, Sees, Clashes. -/
import Derived.Test.YtofjbigojbnmfaaGreatDoorClkM
namespace Go.Proofs.YtofjbigojbnmfaaGreatDoor
open Go.RowKit Go.Lig

/-- where transaction t lies -/
def atV (g : Nat) (K : Ck) (t : Int) : Value := match K.tx t with
  | some _ => .pointer (some ⟨g, (t - 1).toNat * 3, none⟩)
  | none => .pointer none
/-- the clock's row: g its block, if it has any -/
structure ClkRow (w : World) (c g : Nat) (K : Ck) : Prop where
  ex : ∃ a n, w.heap[c]? = some (.cells #[.slice a K.l.length n, .int .i64 K.commits] 125 (0, 0)) ∧ w.ownsRow 0 130 3 (.slice a K.l.length n) K.l.length (K.l.flatMap tcell) ∧ (0 < K.l.length → a = some ⟨g, 0, none⟩) ∧ g ≠ c
theorem ClockAt.row {w : World} {T : Nat → Prop} {c : Nat} {K : Ck} (h : ClockAt w T c K) : ∃ g, ClkRow w c g K ∧ (0 < K.l.length → T g) := by
  obtain ⟨v, h1, h2, h3⟩ := h.ex
  obtain ⟨a, n, rfl⟩ := ownsRow_slice h2
  by_cases hl : 0 < K.l.length
  · obtain ⟨g, cur, rfl, -, -⟩ := owns_at h2 hl
    exact ⟨g, ⟨_, n, h1, h2, fun _ => rfl, (h3 g rfl).2⟩, fun _ => (h3 g rfl).1⟩
  · exact ⟨c + 1, ⟨a, n, h1, h2, fun e => absurd e hl, by omega⟩, fun e => absurd e hl⟩
theorem ClkRow.cell {w : World} {c g : Nat} {K : Ck} (h : ClkRow w c g K) {t : Int} {x : Tx} (hx : K.tx t = some x) :
    w.cell? ⟨g, (t - 1).toNat * 3, none⟩ = some (.int .i64 x.state) ∧ w.cell? ⟨g, (t - 1).toNat * 3 + 1, none⟩ = some (.int .i64 x.mark) ∧ w.cell? ⟨g, (t - 1).toNat * 3 + 2, none⟩ = some (.int .i64 x.commit) := by
  obtain ⟨a, n, h1, h2, h3, _⟩ := h.ex
  obtain ⟨t1, t2, t3, t4⟩ := Ck.tx_some hx
  obtain rfl := h3 (by omega)
  have g0 : ∀ j, j < 3 → (K.l.flatMap tcell)[(t - 1).toNat * 3 + j]? = (tcell x)[j]? := fun j hj => flat_get (f := tcell) (m := 3) (fun _ => rfl) _ _ _ t3 j hj
  exact ⟨owns_cell h2 rfl (by rw [← Nat.add_zero ((t - 1).toNat * 3), g0 0 (by decide)]; rfl), owns_cell h2 rfl (by rw [g0 1 (by decide)]; rfl), owns_cell h2 rfl (by rw [g0 2 (by decide)]; rfl)⟩
theorem clkat_any (w : World) (c g : Nat) (K : Ck) (h : ClkRow w c g K) (hs : K.l.length ≤ 1000000) (t : Int) :
    Calls Tryz.prog 94 #[.pointer (some ⟨c, 0, none⟩), .int .i64 t] w fun e w' => e = .returned (atV g K t) ∧ w = w' := by
  obtain ⟨a, n, h1, h2, h3, _⟩ := h.ex
  obtain ⟨c0, c1⟩ := cells2 h1
  cases hx : K.tx t with
  | none =>
    have hr : atV g K t = .pointer none := by unfold atV; rw [hx]
    rw [hr]
    have hn := Ck.tx_none hx
    clear h h1 h2 h3 c1 hr hx
    by_cases h1 : t < 1
    · clear hn
      go_enter Tryz.func94, Tryz.ntmps94
      go_wp2
      go_ret
      exact ⟨rfl, rfl⟩
    · have h2 : (K.l.length : Int) < t := by omega
      clear hn
      go_enter Tryz.func94, Tryz.ntmps94
      go_wp2
      go_ret
      exact ⟨rfl, rfl⟩
  | some x =>
    have hr : atV g K t = .pointer (some ⟨g, (t - 1).toNat * 3, none⟩) := by unfold atV; rw [hx]
    rw [hr]
    obtain ⟨t1, t2, t3, t4⟩ := Ck.tx_some hx
    obtain rfl := h3 (by omega)
    obtain ⟨i, hi⟩ : ∃ i : Nat, t = (i : Int) + 1 := ⟨(t - 1).toNat, by omega⟩
    subst hi
    have hit : ((i : Int) + 1 - 1).toNat = i := by omega
    rw [hit] at t2 ⊢
    have n1 : ¬ (i : Int) + 1 < 1 := by omega
    have n2 : ¬ (K.l.length : Int) < (i : Int) + 1 := by omega
    have hil : i < K.l.length := t2
    clear h h1 h2 h3 c1 hr hx t1 t2 t3 t4 hit
    go_enter Tryz.func94, Tryz.ntmps94
    go_wp2
    go_ret
    exact ⟨rfl, rfl⟩
end Go.Proofs.YtofjbigojbnmfaaGreatDoor
