/- The clock: Begin where it is full. -/
import Derived.Test.YtofjbigojbnmfaaGreatDoorClk6
namespace Go.Proofs.YtofjbigojbnmfaaGreatDoor
open Go.RowKit Go.Lig

set_option maxHeartbeats 1000000 in
theorem begin_full (w : World) (T : Nat → Prop) (c : Nat) (K : Ck) (h : ClockAt w T c K) (hc : 4 ≤ K.count) :
    Calls Tryz.prog 32 #[.pointer (some ⟨c, 0, none⟩)] w fun e w' => e = .returned (.tuple #[.int .i64 0, .int .i64 3]) ∧ Fr No w w' := by
  obtain ⟨g, hr, -⟩ := h.row
  have HC := hid (count_any w c g K hr h.small.1)
  have h4 : (4 : Int) ≤ (K.count : Int) := by omega
  clear h hr hc
  go_enter Tryz.func32, Tryz.ntmps32
  go_wp2_with (go_at_call 71; refine HC.out.mono ?_; rintro e w1 ⟨rfl, f1⟩; have H1 := hid f1; clear f1)
  go_ret2
  exact ⟨rfl, H1.out⟩
end Go.Proofs.YtofjbigojbnmfaaGreatDoor
