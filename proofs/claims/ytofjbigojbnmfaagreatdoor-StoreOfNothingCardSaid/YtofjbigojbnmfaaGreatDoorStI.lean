/- The plain store: New, edge, Out, In where there are no edges. -/
import Derived.Test.YtofjbigojbnmfaaGreatDoorStH
namespace Go.Proofs.YtofjbigojbnmfaaGreatDoor
open Go.RowKit Go.Lig

theorem wpList_mraw {P : Program} {ops : Array Oper} {rest : List Oper} {o : Oper} {a : Act} {w : World} {Q : Exit → Act → World → Prop} (hgd : o.guard = none) (t : TypeId) (ho : o.op = .makeMap t none)
    (hQ : wpList P ops Q rest (a.put o.dst (.map (some w.heap.size))) (w.alloc (.map #[] 0))) : wpList P ops Q (o :: rest) a w :=
  wpList_run hgd (v := .map (some w.heap.size)) (w' := w.alloc (.map #[] 0)) (by
    have hr : (Instr.makeMap t none).run P w = .ok (.map (some w.heap.size)) (w.alloc (.map #[] 0)) := rfl
    simp [execOp, ho, hr, Result.andThen]) hQ
def newPt (s c m : Nat) (r r' : Nat → Option Role) (b : Nat) : Option Pt :=
  if b = s then some .root else if b = c then some .clock else if b = m then some .index else if (r b).isSome then some .out else if (r' b).isSome then some .inn else none
theorem newPt_clock {s c m : Nat} {r r' : Nat → Option Role} (h : c ≠ s) : At (newPt s c m r r') .clock = fun b => b = c := by
  funext b
  refine propext ⟨fun e => ?_, fun e => ?_⟩
  · unfold At newPt at e
    by_cases h1 : b = s
    · simp [h1] at e
    · by_cases h2 : b = c
      · exact h2
      · exfalso
        rw [if_neg h1, if_neg h2] at e
        split at e
        · cases e
        · split at e
          · cases e
          · split at e <;> cases e
  · subst e
    simp [At, newPt, h]
theorem newPt_some {s c m : Nat} {r r' : Nat → Option Role} {b : Nat} (h : newPt s c m r r' b ≠ none) : b = s ∨ b = c ∨ b = m ∨ r b ≠ none ∨ r' b ≠ none := by
  unfold newPt at h
  by_cases h1 : b = s
  · exact .inl h1
  · by_cases h2 : b = c
    · exact .inr (.inl h2)
    · by_cases h3 : b = m
      · exact .inr (.inr (.inl h3))
      · rw [if_neg h1, if_neg h2, if_neg h3] at h
        by_cases h4 : (r b).isSome
        · exact .inr (.inr (.inr (.inl (by intro e; rw [e] at h4; cases h4))))
        · rw [if_neg h4] at h
          by_cases h5 : (r' b).isSome
          · exact .inr (.inr (.inr (.inr (by intro e; rw [e] at h5; cases h5))))
          · rw [if_neg h5] at h
            exact absurd rfl h
theorem stnew_any (w : World) : Calls Tryz.prog 5 #[] w fun e w' => ∃ s ρ A, e = .returned (.pointer (some ⟨s, 0, none⟩)) ∧ StAt w' ρ s A ⟨⟨[], 0⟩, []⟩ ∧ Fr No w w' ∧ ∀ b, ρ b ≠ none → w.heap.size ≤ b := by
  go_enter Tryz.func5, Tryz.ntmps5
  go_wp2_with fail
  refine (clknew_any _).mono ?_
  rintro e w1 ⟨c, rfl, k1, f1, n1⟩
  have H1 := hid (⟨k1, f1, n1⟩ : _ ∧ _ ∧ _)
  clear k1 f1 n1
  go_wp2_with fail
  refine (chnew_any _).mono ?_
  rintro e w2 ⟨o, B, r, rfl, k2, f2, n2⟩
  have H2 := hid (⟨k2, f2, n2⟩ : _ ∧ _ ∧ _)
  clear k2 f2 n2
  go_wp2_with fail
  refine (chnew_any _).mono ?_
  rintro e w3 ⟨i, B', r', rfl, k3, f3, n3⟩
  have H3 := hid (⟨k3, f3, n3⟩ : _ ∧ _ ∧ _)
  clear k3 f3 n3
  go_wp2_with (refine wpList_mraw rfl 68 rfl ?_)
  go_ret
  have hfa : Fr No w3 (w3.alloc (.map #[] 0)) := (Fr.refl No w3).alloc _
  obtain ⟨k1, f1, n1⟩ := H1.out
  obtain ⟨k2, f2, n2⟩ := H2.out
  obtain ⟨k3, f3, n3⟩ := H3.out
  have b1 := k1.bound c rfl
  have z1 := f1.size
  have z2 := f2.size
  have z3 := f3.size
  have hb2 := k2.bound
  have hb3 := k3.bound
  refine ⟨_, newPt (w3.heap.size + 1) c w3.heap.size r r', ⟨c, o, i, w3.heap.size, .slice none 0 0, .slice none 0 0, fun _ => 0, B, B', r, r'⟩, rfl, ?_, ((f1.thenNo f2).thenNo f3).thenNo (hfa.alloc _), ?_⟩
  · refine ⟨by simp [At, newPt], fun b hb => ?_, (heap2 w3 _ _).2, ?_, World.ownsRow_nil _ _ _ _, (fun k e => by cases e), World.ownsRow_nil _ _ _ _, (fun k e => by cases e), fun j L hL => by simp at hL, ?_, fun b hb => ?_, ?_, fun b hb => ?_, (heap2 w3 _ _).1, ?_, fun L hL => by simp at hL, by simp⟩
    · simp only [hp_alloc, Array.size_push]
      rcases newPt_some hb with h1 | h1 | h1 | h1 | h1
      · omega
      · omega
      · omega
      · have := hb2 b h1; omega
      · have := hb3 b h1; omega
    · rw [newPt_clock (by omega)]
      exact k1.frame ((f2.thenNo f3).thenNo (hfa.alloc _)) (fun _ _ e => e)
    · exact k2.frame (f3.thenNo (hfa.alloc _)) (fun _ _ e => e)
    · have h1 := hb2 b hb
      have h2 := n2 b hb
      have h4 : (r b).isSome = true := by cases e : r b with | none => exact absurd e hb | some _ => rfl
      show newPt _ _ _ _ _ _ = _
      unfold newPt
      rw [if_neg (by omega), if_neg (by omega), if_neg (by omega), if_pos h4]
    · exact k3.frame (hfa.alloc _) (fun _ _ e => e)
    · have h1 := hb3 b hb
      have h2 := n3 b hb
      have h4 : (r' b).isSome = true := by cases e : r' b with | none => exact absurd e hb | some _ => rfl
      have h5 : ¬ (r b).isSome = true := fun e => by
        have h6 : r b ≠ none := by intro e'; rw [e'] at e; cases e
        have := hb2 b h6
        omega
      show newPt _ _ _ _ _ _ = _
      unfold newPt
      rw [if_neg (by omega), if_neg (by omega), if_neg (by omega), if_neg h5, if_pos h4]
    · show newPt _ _ w3.heap.size _ _ w3.heap.size = _
      unfold newPt
      rw [if_neg (by omega), if_neg (by omega), if_pos rfl]
  · intro b hb
    rcases newPt_some hb with h1 | h1 | h1 | h1 | h1
    · omega
    · omega
    · omega
    · have := n2 b h1; omega
    · have := n3 b h1; omega
theorem edge_none (w : World) (s : Nat) (x2 : w.cell? ⟨s, 2, none⟩ = some (.slice none 0 0)) (id : Int) :
    Calls Tryz.prog 51 #[.pointer (some ⟨s, 0, none⟩), .int .i64 id] w fun e w' => e = .returned (.pointer none) ∧ w = w' := by
  by_cases h1 : id < 1
  · go_enter Tryz.func51, Tryz.ntmps51
    go_wp2
    go_ret
    exact ⟨rfl, rfl⟩
  · have h2 : (0 : Int) < id := by omega
    go_enter Tryz.func51, Tryz.ntmps51
    go_wp2
    go_ret
    exact ⟨rfl, rfl⟩
theorem ixint_nil (w : World) (f : Value) : Calls Tryz.prog 177 #[.slice none 0 0, f] w fun e w' => e = .returned (.int .i64 (-1)) ∧ w = w' := by
  go_enter Tryz.func177, Tryz.ntmps177
  go_wp2
  go_loopw [8] (fun vi wr => vi = .int .i64 0 ∧ w = wr) (fun _ _ => 0)
  case atStart => exact ⟨rfl, rfl⟩
  case round =>
    obtain ⟨rfl, rfl⟩ := hrel
    go_wp2
    go_ret
    exact ⟨rfl, rfl⟩
theorem delint_nil (w : World) (f : Value) : Calls Tryz.prog 142 #[.slice none 0 0, f] w fun e w' => e = .returned (.slice none 0 0) ∧ w = w' := by
  go_enter Tryz.func142, Tryz.ntmps142
  go_wp2_with (go_at_call 177; refine (ixint_nil _ _).mono ?_; rintro e w' ⟨rfl, rfl⟩)
  go_ret
  exact ⟨rfl, rfl⟩
theorem walk_none (w : World) (c : Nat) (B : Role → Nat) (ρ : Nat → Option Role) (m : Nat) (h : ChAt w c [] B ρ m) (k : Int) (hk : keyOk k) :
    Calls Tryz.prog 78 #[.pointer (some ⟨c, 0, none⟩), .int .i64 k] w fun e w' => e = .returned (.slice none 0 0) ∧ w = w' := by
  have HA := hid (at_any w c [] B ρ m h k hk)
  rw [show listPtr [] B k = .pointer none from if_pos rfl] at HA
  clear h
  go_enter Tryz.func78, Tryz.ntmps78
  go_wp2_with (go_at_call 145; refine HA.out.mono ?_; rintro e w' ⟨rfl, rfl⟩)
  go_ret
  exact ⟨rfl, rfl⟩
end Go.Proofs.YtofjbigojbnmfaaGreatDoor
