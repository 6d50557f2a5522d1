/- The clock: Live, Aborted, Sees. -/
import Derived.Test.YtofjbigojbnmfaaGreatDoorClk
namespace Go.Proofs.YtofjbigojbnmfaaGreatDoor
open Go.RowKit Go.Lig

theorem atV_some {g : Nat} {K : Ck} {t : Int} {x : Tx} (h : K.tx t = some x) : atV g K t = .pointer (some ⟨g, (t - 1).toNat * 3, none⟩) := by unfold atV; rw [h]
theorem atV_none {g : Nat} {K : Ck} {t : Int} (h : K.tx t = none) : atV g K t = .pointer none := by unfold atV; rw [h]
theorem live_any (w : World) (c g : Nat) (K : Ck) (h : ClkRow w c g K) (hs : K.l.length ≤ 1000000) (t : Int) :
    Calls Tryz.prog 89 #[.pointer (some ⟨c, 0, none⟩), .int .i64 t] w fun e w' => e = .returned (.bool (K.live t)) ∧ w = w' := by
  have HA := hid (clkat_any w c g K h hs t)
  cases hx : K.tx t with
  | none =>
    have hr : K.live t = false := by unfold Ck.live; rw [hx]
    rw [hr]
    rw [atV_none hx] at HA
    clear h hr hx
    go_enter Tryz.func89, Tryz.ntmps89
    go_wp2_with (go_at_call 94; refine HA.out.mono ?_; rintro e w' ⟨rfl, rfl⟩)
    go_ret
    exact ⟨rfl, rfl⟩
  | some x =>
    obtain ⟨c0, c1, c2⟩ := h.cell hx
    rw [atV_some hx] at HA
    generalize (t - 1).toNat * 3 = o at *
    by_cases hz : x.state = 0
    · have hr : K.live t = true := by unfold Ck.live; rw [hx]; simp [hz]
      have n1 : ((x.state : Int) == 0) = true := by rw [beq_iff_eq]; exact hz
      rw [hr]
      clear h hr hx hz c1 c2
      go_enter Tryz.func89, Tryz.ntmps89
      go_wp2_with (go_at_call 94; refine HA.out.mono ?_; rintro e w' ⟨rfl, rfl⟩)
      go_ret
      exact ⟨rfl, rfl⟩
    · have hr : K.live t = false := by unfold Ck.live; rw [hx]; simp [hz]
      have n1 : ((x.state : Int) == 0) = false := by rw [beq_eq_false_iff_ne]; exact hz
      rw [hr]
      clear h hr hx hz c1 c2
      go_enter Tryz.func89, Tryz.ntmps89
      go_wp2_with (go_at_call 94; refine HA.out.mono ?_; rintro e w' ⟨rfl, rfl⟩)
      go_ret
      exact ⟨rfl, rfl⟩
end Go.Proofs.YtofjbigojbnmfaaGreatDoor
