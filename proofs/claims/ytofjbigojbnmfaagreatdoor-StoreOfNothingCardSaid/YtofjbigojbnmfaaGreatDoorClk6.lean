/- The clock: New. -/
import Derived.Test.YtofjbigojbnmfaaGreatDoorClk5
namespace Go.Proofs.YtofjbigojbnmfaaGreatDoor
open Go.RowKit Go.Lig

theorem clknew_any (w : World) : Calls Tryz.prog 30 #[] w fun e w' => ∃ c, e = .returned (.pointer (some ⟨c, 0, none⟩)) ∧ ClockAt w' (fun b => b = c) c ⟨[], 0⟩ ∧ Fr No w w' ∧ w.heap.size ≤ c := by
  go_enter Tryz.func30, Tryz.ntmps30
  go_wp2
  go_ret
  exact ⟨_, rfl, ⟨⟨_, heap1 w _, World.ownsRow_nil _ _ _ _, fun _ e => (by cases e)⟩, rfl, fun k hk => by subst hk; simp, by simp⟩, (Fr.refl No w).alloc _, Nat.le_refl _⟩
end Go.Proofs.YtofjbigojbnmfaaGreatDoor
