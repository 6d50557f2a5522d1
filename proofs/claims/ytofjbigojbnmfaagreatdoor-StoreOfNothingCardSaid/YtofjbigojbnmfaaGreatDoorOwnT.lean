/- Slices of ints of one's own. -/
import Derived.Test.YtofjbigojbnmfaaGreatDoorRows
import Derived.Test.YtofjbigojbnmfaaGreatDoorLib2
namespace Go.Proofs.YtofjbigojbnmfaaGreatDoor
open Go.RowKit Go.Lig

theorem infoInt : (Tryz.prog.info? 3).map (fun i => (i.zero, i.size, i.bytes)) = some (some (.int .i64 0), 1, 8) := by kernel_rfl
def iv (x : Int) : Value := .int .i64 x
theorem iv_one (l : List Int) : ∀ u ∈ l.map iv, u.oneCell' = true := by
  intro u hu
  obtain ⟨x, _, rfl⟩ := List.mem_map.1 hu
  rfl
/-- v is a slice of ints of its own, made since w -/
structure OwnI (w w' : World) (v : Value) (l : List Int) : Prop where
  row : w'.ownsRow 0 3 1 v l.length (l.map iv)
  blk : ∀ j, v.ownBlock = some j → w.heap.size ≤ j
  fr : Fr No w w'
theorem OwnI.nil (w : World) : OwnI w w (.slice none 0 0) [] := ⟨World.ownsRow_nil _ _ _ _, fun _ e => (by cases e), Fr.refl _ _⟩
theorem OwnI.rd {w w' : World} {v : Value} {l : List Int} (h : OwnI w w' v l) : Rd w' v l.length 1 (l.map iv) := Rd.of_owns h.row (iv_one l)
theorem OwnI.next {w w1 w2 : World} {v : Value} {l : List Int} (h : OwnI w w1 v l) (hf : Fr No w1 w2) : OwnI w w2 v l := ⟨fd_owns h.row hf, h.blk, h.fr.thenNo hf⟩
theorem OwnI.ahead {w0 w w1 : World} {v : Value} {l : List Int} (h : OwnI w w1 v l) (hf : Fr No w0 w) : OwnI w0 w1 v l := ⟨h.row, fun j hj => Nat.le_trans hf.size (h.blk j hj), hf.thenNo h.fr⟩
theorem OwnI.app {w w1 w2 w3 : World} {v v' : Value} {l : List Int} {x : Int} {cs : Array Value} {t : TypeId} (h : OwnI w w1 v l) (p2 : New cs t w1 w2) (o : w3.ownsRow 0 3 1 v' (l.length + 1) (l.map iv ++ [iv x])) (f : Fr (fun k => v.ownBlock = some k) w2 w3)
    (b : ∀ k, v'.ownBlock = some k → v.ownBlock = some k ∨ w2.heap.size ≤ k) : OwnI w w3 v' (l ++ [x]) := by
  refine ⟨by simpa using o, fun j hj => ?_, (h.fr.thenNo p2.fr).trans f (fun k hk e => by have := h.blk k e; omega)⟩
  rcases b j hj with e | e
  · exact h.blk j e
  · have := h.fr.size
    have := p2.fr.size
    omega
end Go.Proofs.YtofjbigojbnmfaaGreatDoor
