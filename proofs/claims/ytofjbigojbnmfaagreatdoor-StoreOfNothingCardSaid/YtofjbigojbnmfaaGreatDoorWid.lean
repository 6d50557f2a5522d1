/- wide, of one write of a node. -/
import Derived.Test.YtofjbigojbnmfaaGreatDoorRows
import Derived.Test.YtofjbigojbnmfaaGreatDoorLib3
namespace Go.Proofs.YtofjbigojbnmfaaGreatDoor
open Go.RowKit Go.Lig

/-- a node's value: strings, and properties of six cells each -/
structure NodeRd (w : World) (sl sp : Value) (n m : Nat) (xs ys : List Value) : Prop where
  l : Rd w sl n 1 xs
  p : Rd w sp m 6 ys
  ls : ∀ k, k < n → ∃ s, xs[k]? = some (.string s)
  ps : ∀ k, k < m → ∃ s s', ys[k * 6]? = some (.string s) ∧ ys[k * 6 + 5]? = some (.string s')
structure WideEnd (w : World) (e : Ending) (w' : World) : Prop where
  ex : ∃ b, e = .returned (.bool b)
  fr : Fr No w w'
set_option maxRecDepth 100000 in
set_option maxHeartbeats 4000000 in
theorem wide_any (w : World) (g : Nat) (sl sp : Value) (n m : Nat) (xs ys : List Value) (h : NodeRd w sl sp n m xs ys)
    (hg : w.heap[g]? = some (.cells #[.bool false, .int .i64 0, .bool false, sl, sp, .int .i64 0, .int .i64 0, .string ⟨#[]⟩, .float FloatKind.f64 0] 43 (0, 0))) :
    Calls Tryz.prog 12 #[.slice (some ⟨g, 0, none⟩) 1 1] w (WideEnd w) := by
  obtain ⟨ao, ca, rfl, hn⟩ := rd_len h.l
  obtain ⟨po, pc, rfl, hm⟩ := rd_len h.p
  have HH := hid (⟨h, hg⟩ : _ ∧ _)
  clear h hg
  go_enter Tryz.func12, Tryz.ntmps12
  go_wp2_with fail
  go_loopw [3, 4] (fun vx vi wr => ∃ (x : Int) (i : Nat), i ≤ 1 ∧ vx = .int .i64 x ∧ vi = .int .i64 (i : Int) ∧ Hid (Fr No w wr)) (fun _ vi _ => 1 - (intOf vi).toNat)
  case atStart => exact ⟨0, 0, Nat.zero_le _, rfl, rfl, Fr.refl _ _⟩
  case round =>
    obtain ⟨x, i, hi, rfl, rfl, HF⟩ := hrel
    by_cases hlt : i < 1
    · obtain rfl : i = 0 := by omega
      have hc := cellOf (HF.out.keep HH.out.2 (fun e => e))
      have c3 := hc 3
      have c4 := hc 4
      have c7 := hc 7
      simp at c3 c4 c7
      clear hc
      by_cases hx : x < 5000
      · go_wp2_with fail
        go_quiet (fail)
        go_wp2_with fail
        generalize wrap64 (wrap64 (wrap64 (wrap64 (x + 1)) + (n : Int)) + (m : Int)) = x1
        go_loopw [3, 5] (fun vx vk wr => ∃ (x : Int) (k : Nat), k ≤ n ∧ vx = .int .i64 x ∧ vk = .int .i64 (k : Int) ∧ Hid (Fr No w wr)) (fun _ vk _ => n - (intOf vk).toNat)
        case atStart => exact ⟨x1, 0, Nat.zero_le _, rfl, rfl, HF.out.drewN _⟩
        case round =>
          obtain ⟨x, k, hk, rfl, rfl, HF2⟩ := hrel
          clear hx c3 c4 c7
          have hc := cellOf (HF2.out.keep HH.out.2 (fun e => e))
          have c3 := hc 3
          have c4 := hc 4
          simp at c3 c4
          clear hc
          have hw : wrap64 ((k : Int) + 1) = (k : Int) + 1 ∨ k = n := by
            by_cases e : k = n
            · exact .inr e
            · exact .inl (by unfold wrap64; omega)
          by_cases hx : k < n ∧ x < 5000
          · obtain ⟨hkn, hx5⟩ := hx
            have hkn' : (k : Int) < (n : Int) := by omega
            have hw2 : wrap64 ((k : Int) + 1) = (k : Int) + 1 := by rcases hw with h | h; exact h; omega
            obtain ⟨str, hs⟩ := HH.out.1.ls k hkn
            obtain ⟨ba, oa, ca', hva, hca⟩ := HH.out.1.l.at1 (k := k) hs
            obtain ⟨rfl, rfl⟩ : ao = some ⟨ba, oa, none⟩ ∧ ca = ca' := by simpa using hva
            have c1 : _ = some (Value.string str) := hca _ HF2.out
            clear hva hca hs hw
            go_wp2_with fail
            go_roundw
            case rel => exact ⟨_, k + 1, by omega, rfl, by go_num, HF2.out⟩
            case measure => simp [intOf]; omega
          · clear hw
            by_cases hkn : k < n
            · have hkn' : (k : Int) < (n : Int) := by omega
              have hx5 : ¬ x < 5000 := by omega
              clear hx
              go_wp2_with fail
              clear c3 c4
              go_loopw [3, 6] (fun vx vk wr => ∃ (x : Int) (k : Nat), k ≤ m ∧ vx = .int .i64 x ∧ vk = .int .i64 (k : Int) ∧ Hid (Fr No w wr)) (fun _ vk _ => m - (intOf vk).toNat)
              case atStart => exact ⟨x, 0, Nat.zero_le _, rfl, rfl, HF2.out⟩
              case round =>
                obtain ⟨y, j, hj, rfl, rfl, HF3⟩ := hrel
                have hc := cellOf (HF3.out.keep HH.out.2 (fun e => e))
                have c3 := hc 3
                have c4 := hc 4
                simp at c3 c4
                clear hc
                by_cases hjm : j < m
                · have hjm' : (j : Int) < (m : Int) := by omega
                  by_cases hy : y < 5000
                  · have hw2 : wrap64 ((j : Int) + 1) = (j : Int) + 1 := by unfold wrap64; omega
                    obtain ⟨str, str', hs, hs'⟩ := HH.out.1.ps j hjm
                    obtain ⟨bp, op, cp, hvp, hcp⟩ := HH.out.1.p.at1 hs
                    obtain ⟨rfl, rfl⟩ : po = some ⟨bp, op, none⟩ ∧ pc = cp := by simpa using hvp
                    obtain ⟨bp', op', cp', hvp', hcp'⟩ := HH.out.1.p.at1 hs'
                    obtain ⟨rfl, rfl⟩ : bp = bp' ∧ op = op' := by simpa using (Value.slice.inj hvp').1
                    have d1 : _ = some (Value.string str) := hcp _ HF3.out
                    have d2 : _ = some (Value.string str') := hcp' _ HF3.out
                    rw [← Nat.add_assoc] at d2
                    clear hvp hcp hs hvp' hcp' hs'
                    go_wp2_with fail
                    go_quiet (fail)
                    go_wp2_with fail
                    go_roundw
                    case rel => exact ⟨_, j + 1, by omega, rfl, by go_num, HF3.out.drewN _⟩
                    case measure => simp [intOf]; omega
                  · go_wp2_with fail
                    go_roundw
                    case rel => exact ⟨_, 1, Nat.le_refl _, rfl, by go_num, HF3.out⟩
                    case measure => simp [intOf]
                · have hjm' : ¬ (j : Int) < (m : Int) := by omega
                  go_wp2_with fail
                  go_roundw
                  case rel => exact ⟨_, 1, Nat.le_refl _, rfl, by go_num, HF3.out⟩
                  case measure => simp [intOf]
            · have hkn' : ¬ (k : Int) < (n : Int) := by omega
              clear hx
              go_wp2_with fail
              clear c3 c4
              go_loopw [3, 6] (fun vx vk wr => ∃ (x : Int) (k : Nat), k ≤ m ∧ vx = .int .i64 x ∧ vk = .int .i64 (k : Int) ∧ Hid (Fr No w wr)) (fun _ vk _ => m - (intOf vk).toNat)
              case atStart => exact ⟨x, 0, Nat.zero_le _, rfl, rfl, HF2.out⟩
              case round =>
                obtain ⟨y, j, hj, rfl, rfl, HF3⟩ := hrel
                have hc := cellOf (HF3.out.keep HH.out.2 (fun e => e))
                have c3 := hc 3
                have c4 := hc 4
                simp at c3 c4
                clear hc
                by_cases hjm : j < m
                · have hjm' : (j : Int) < (m : Int) := by omega
                  by_cases hy : y < 5000
                  · have hw2 : wrap64 ((j : Int) + 1) = (j : Int) + 1 := by unfold wrap64; omega
                    obtain ⟨str, str', hs, hs'⟩ := HH.out.1.ps j hjm
                    obtain ⟨bp, op, cp, hvp, hcp⟩ := HH.out.1.p.at1 hs
                    obtain ⟨rfl, rfl⟩ : po = some ⟨bp, op, none⟩ ∧ pc = cp := by simpa using hvp
                    obtain ⟨bp', op', cp', hvp', hcp'⟩ := HH.out.1.p.at1 hs'
                    obtain ⟨rfl, rfl⟩ : bp = bp' ∧ op = op' := by simpa using (Value.slice.inj hvp').1
                    have d1 : _ = some (Value.string str) := hcp _ HF3.out
                    have d2 : _ = some (Value.string str') := hcp' _ HF3.out
                    rw [← Nat.add_assoc] at d2
                    clear hvp hcp hs hvp' hcp' hs'
                    go_wp2_with fail
                    go_quiet (fail)
                    go_wp2_with fail
                    go_roundw
                    case rel => exact ⟨_, j + 1, by omega, rfl, by go_num, HF3.out.drewN _⟩
                    case measure => simp [intOf]; omega
                  · go_wp2_with fail
                    go_roundw
                    case rel => exact ⟨_, 1, Nat.le_refl _, rfl, by go_num, HF3.out⟩
                    case measure => simp [intOf]
                · have hjm' : ¬ (j : Int) < (m : Int) := by omega
                  go_wp2_with fail
                  go_roundw
                  case rel => exact ⟨_, 1, Nat.le_refl _, rfl, by go_num, HF3.out⟩
                  case measure => simp [intOf]
      · have hx' : ¬ x < 5000 := hx
        go_wp2_with fail
        go_ret
        exact ⟨⟨_, rfl⟩, HF.out⟩
    · obtain rfl : i = 1 := by omega
      go_wp2_with fail
      go_ret
      exact ⟨⟨_, rfl⟩, HF.out⟩
end Go.Proofs.YtofjbigojbnmfaaGreatDoor
