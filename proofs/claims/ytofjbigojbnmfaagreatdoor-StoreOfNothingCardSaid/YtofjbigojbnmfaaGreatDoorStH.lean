/- The plain store: Nodes. -/
import Derived.Test.YtofjbigojbnmfaaGreatDoorStG
import Derived.Test.YtofjbigojbnmfaaGreatDoorOwnT
namespace Go.Proofs.YtofjbigojbnmfaaGreatDoor
open Go.RowKit Go.Lig

/-- the numbers that t reads, up to i -/
def ndsTo (M : PSt) (t : Int) (i : Nat) : List Int := ((List.range i).filter fun (k : Nat) => rdB M t ((k : Int) + 1)).map fun (k : Nat) => (k : Int) + 1
theorem ndsTo_succ (M : PSt) (t : Int) (i : Nat) : ndsTo M t (i + 1) = ndsTo M t i ++ if rdB M t ((i : Int) + 1) then [(i : Int) + 1] else [] := by
  unfold ndsTo
  rw [List.range_succ, List.filter_append, List.map_append]
  cases h : rdB M t ((i : Int) + 1) <;> simp [h]
theorem ndsTo_len (M : PSt) (t : Int) (i : Nat) : (ndsTo M t i).length ≤ i := by
  unfold ndsTo
  rw [List.length_map]
  have := List.length_filter_le (fun (k : Nat) => rdB M t ((k : Int) + 1)) (List.range i)
  rwa [List.length_range] at this
set_option maxRecDepth 100000 in
set_option maxHeartbeats 4000000 in
theorem nodes_any (w : World) (ρ : Nat → Option Pt) (s : Nat) (A : Ad) (M : PSt) (h : StAt w ρ s A M) (t : Int) (hl : M.K.live t = true) :
    Calls Tryz.prog 10 #[.pointer (some ⟨s, 0, none⟩), .int .i64 t] w fun e w' => ∃ v, e = .returned v ∧ OwnI w w' v (ndsTo M t M.N.length) := by
  have HI := hid (islive_any w ρ s A M h t)
  rw [hl] at HI
  obtain ⟨a1, c1, hnv⟩ := ownsRow_slice h.nrow
  have x1 := h.cells.2.1
  rw [hnv] at x1
  have hn6 := h.small
  have HH := hid h
  clear h hl hnv
  go_enter Tryz.func10, Tryz.ntmps10
  go_wp2_with (go_at_call 33; refine HI.out.mono ?_; rintro e w1 ⟨rfl, rfl⟩)
  generalize hNe : M.N.length = n at *
  have HNe := hid hNe
  clear hNe
  go_loopw [5, 16] (fun v5 vi wr => ∃ (i : Nat) (a : Option Addr) (c m : Nat), i ≤ n ∧ m ≤ i ∧ v5 = .slice a m c ∧ vi = .int .i64 (i : Int) ∧ Hid (m = (ndsTo M t i).length ∧ OwnI w wr (.slice a m c) (ndsTo M t i))) (fun _ vi _ => n - (intOf vi).toNat)
  case atStart => exact ⟨0, none, 0, 0, Nat.zero_le _, Nat.zero_le _, rfl, rfl, rfl, OwnI.nil w⟩
  case round =>
    obtain ⟨i, a, c, m, hi, hmi, rfl, rfl, HO⟩ := hrel
    by_cases hlt : i < n
    · have HR := hid (reads_any wr ρ s A M (HH.out.frame HO.out.2.fr) t ((i : Int) + 1))
      have hw : wrap64 ((i : Int) + 1) = (i : Int) + 1 := by unfold wrap64; omega
      have hw2 : IntKind.i64.wrap ((i : Int) + 1) = (i : Int) + 1 := IntWalk.i64_in _ (by omega)
      cases hb : rdB M t ((i : Int) + 1) with
      | false =>
        rw [hb] at HR
        go_wp2_with (go_at_call 43; refine HR.out.mono ?_; rintro e w2 ⟨rfl, f2⟩; have F2 := hid f2; clear f2)
        go_roundw
        case rel => exact ⟨i + 1, a, c, m, by omega, by omega, rfl, by go_num, by rw [ndsTo_succ, hb]; simpa using HO.out.1, by rw [ndsTo_succ, hb]; simpa using HO.out.2.next F2.out⟩
        case measure => simp [intOf]; omega
      | true =>
        rw [hb] at HR
        go_wp2_with (first | (go_at_call 43; refine HR.out.mono ?_; rintro e w2 ⟨rfl, f2⟩; have F2 := hid f2; clear f2) | (refine wpList_buildSlice1 rfl 34 3 (.tmp 26) rfl _ 1 8 Tryz.underlying34 infoInt (by decide) (by decide) (.int .i64 ((i : Int) + 1)) rfl rfl ?_; intro w3 p3; have P3 := hid (show New [iv ((i : Int) + 1)].toArray 3 w2 w3 from p3); clear p3) | (refine wpList_app rfl (.tmp 24) (.tmp 27) 34 rfl 3 _ 1 8 Tryz.underlying34 infoInt rfl (by decide) (.slice a m c) m ((ndsTo M t i).map iv) rfl (by have := (HO.out.2.next F2.out).row; rw [← HO.out.1] at this; exact fd_owns this P3.out.fr) (.slice (some ⟨w2.heap.size, 0, none⟩) 1 1) 1 [iv ((i : Int) + 1)] rfl (Rd.block P3.out.at_ 1 1 1 rfl (by simp [iv, Value.oneCell']) (Nat.le_refl _) (by simp [maxLen])) (by unfold maxLen; omega) (by omega) ?_; intro v4 w4 o4 f4 b4 _; obtain ⟨a4, c4, rfl⟩ := ownsRow_slice o4; have O4 := hid (OwnI.app (HO.out.2.next F2.out) P3.out (by rw [← HO.out.1]; exact o4) f4 b4); clear o4 f4 b4))
        go_roundw
        case rel => exact ⟨i + 1, a4, c4, m + 1, by omega, by omega, rfl, by go_num, by rw [ndsTo_succ, hb, List.length_append, ← HO.out.1]; rfl, by rw [ndsTo_succ, hb]; exact O4.out⟩
        case measure => simp [intOf]; omega
    · obtain rfl : i = n := by omega
      go_wp2_with fail
      go_ret
      exact ⟨_, rfl, by rw [HNe.out]; exact HO.out.2⟩
end Go.Proofs.YtofjbigojbnmfaaGreatDoor
