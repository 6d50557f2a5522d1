/- Memory in parts: each block belongs to at most one. No program in sight. -/
import Derived.Test.YtofjbigojbnmfaaGreatDoorLib3
namespace Go.Lig
open Go.RowKit

section
variable {ι : Type}
/-- the blocks of a part -/
def At (ρ : Nat → Option ι) (p : ι) : Nat → Prop := fun b => ρ b = some p
/-- the blocks of all parts -/
def Own (ρ : Nat → Option ι) : Nat → Prop := fun b => ρ b ≠ none
/-- part p has the blocks T now -/
noncomputable def turn (ρ : Nat → Option ι) (p : ι) (T : Nat → Prop) : Nat → Option ι := fun b => by
  classical exact if T b then some p else if ρ b = some p then none else ρ b
theorem at_turn_same (ρ : Nat → Option ι) (p : ι) (T : Nat → Prop) : At (turn ρ p T) p = T := by
  classical
  funext b
  unfold At turn
  by_cases h1 : T b
  · simp [h1]
  · by_cases h2 : ρ b = some p
    · simp [h1, h2]
    · simp [h1, h2]
/-- T: blocks that were p's, or that are new -/
def Grown (w : World) (T T' : Nat → Prop) : Prop := ∀ b, T' b → T b ∨ w.heap.size ≤ b
theorem at_turn_other {w : World} {ρ : Nat → Option ι} {p q : ι} {T : Nat → Prop} (hq : q ≠ p) (hT : Grown w (At ρ p) T) (hb : ∀ b, ρ b ≠ none → b < w.heap.size) : At (turn ρ p T) q = At ρ q := by
  classical
  funext b
  unfold At turn
  refine propext ?_
  by_cases h1 : T b
  · rw [if_pos h1]
    constructor
    · intro e; exact absurd (Option.some.inj e).symm hq
    · intro e
      rcases hT b h1 with h2 | h2
      · rw [show ρ b = some p from h2] at e
        exact absurd (Option.some.inj e).symm hq
      · have := hb b (by rw [e]; simp)
        omega
  · rw [if_neg h1]
    by_cases h2 : ρ b = some p
    · rw [if_pos h2]
      constructor
      · intro e; cases e
      · intro e; rw [h2] at e; exact absurd (Option.some.inj e).symm hq
    · rw [if_neg h2]
theorem own_turn {w : World} {ρ : Nat → Option ι} {p : ι} {T : Nat → Prop} (hT : Grown w (At ρ p) T) : Grown w (Own ρ) (Own (turn ρ p T)) := by
  classical
  intro b hb
  unfold Own turn at hb
  by_cases h1 : T b
  · rcases hT b h1 with h2 | h2
    · exact .inl (by unfold Own; rw [show ρ b = some p from h2]; simp)
    · exact .inr h2
  · rw [if_neg h1] at hb
    by_cases h2 : ρ b = some p
    · rw [if_pos h2] at hb; exact absurd rfl hb
    · rw [if_neg h2] at hb; exact .inl hb
theorem bound_turn {w w' : World} {ρ : Nat → Option ι} {p : ι} {T : Nat → Prop} (hb : ∀ b, ρ b ≠ none → b < w.heap.size) (hz : w.heap.size ≤ w'.heap.size) (hT : ∀ b, T b → b < w'.heap.size) : ∀ b, turn ρ p T b ≠ none → b < w'.heap.size := by
  classical
  intro b h
  unfold turn at h
  by_cases h1 : T b
  · exact hT b h1
  · rw [if_neg h1] at h
    by_cases h2 : ρ b = some p
    · rw [if_pos h2] at h; exact absurd rfl h
    · rw [if_neg h2] at h; exact Nat.lt_of_lt_of_le (hb b h) hz
theorem at_apart {ρ : Nat → Option ι} {p q : ι} (h : q ≠ p) : ∀ b, At ρ q b → ¬ At ρ p b := fun b h1 h2 => h (Option.some.inj ((show ρ b = some q from h1).symm.trans h2))
theorem at_own {ρ : Nat → Option ι} {p : ι} : ∀ b, At ρ p b → Own ρ b := fun b h => by unfold Own; rw [show ρ b = some p from h]; simp
theorem Grown.refl (w : World) (T : Nat → Prop) : Grown w T T := fun _ h => .inl h
theorem Grown.trans {w w' : World} {T T' T'' : Nat → Prop} (h : Grown w T T') (h' : Grown w' T' T'') (hz : w.heap.size ≤ w'.heap.size) : Grown w T T'' := fun b hb => by
  rcases h' b hb with h1 | h1
  · exact h b h1
  · exact .inr (by omega)
end
end Go.Lig
