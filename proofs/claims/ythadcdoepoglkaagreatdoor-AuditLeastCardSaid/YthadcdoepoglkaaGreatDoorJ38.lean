/- A part of the proof: contracts of functions of the program, for the row's text. -/
import Derived.Test.YthadcdoepoglkaaGreatDoorJ37
import Derived.Test.YthadcdoepoglkaaGreatDoorJ10
import Derived.Test.YthadcdoepoglkaaGreatDoorJ07
namespace Go.Proofs.YthadcdoepoglkaaGreatDoor
open Go.RowKit Go.Lig
theorem WrsO.cat {w0 wa wb w3 : World} {va vb v' : Value} {la lb : List WrD} {Ha Hb : List WrV} {Ja Jb : Nat → Prop} (ha : WrsO w0 wa va la) (hha : WrsH w0 wa va la Ha Ja) (hb : WrsO wa wb vb lb) (hhb : WrsH wa wb vb lb Hb Jb) (o : w3.ownsRow 0 89 9 v' (la.length + lb.length) (Ha.flatMap wrcell ++ Hb.flatMap wrcell)) (f : Fr (fun k => va.ownBlock = some k) wb w3)
  (bk : ∀ k, v'.ownBlock = some k → va.ownBlock = some k ∨ wb.heap.size ≤ k) : WrsO w0 w3 v' (la ++ lb) := by
 have hz := hb.fr.size
 have hz3 := f.size
 have hva : ∀ k, va.ownBlock = some k → k < wa.heap.size := fun k hk => (hha.row.lt k hk).2
 refine ⟨⟨Ha ++ Hb, fun k => Ja k ∨ Jb k, ⟨by simp [hha.len, hhb.len], ?_, ?_, ?_⟩⟩, ?_, ?_⟩
 ·rw [List.length_append, List.flatMap_append]
  exact o
 ·intro j x y e1 e2
  rcases Nat.lt_or_ge j Ha.length with hj | hj
  ·rw [List.getElem?_append_left hj] at e1
   rw [List.getElem?_append_left (by rw [← hha.len]; exact hj)] at e2
   exact (((hha.ins j x y e1 e2).frame hb.fr (fun _ _ e => e)).frame f (fun k hk e => (hha.jb k hk).2.2 e)).mono (fun _ e => .inl e)
  ·rw [List.getElem?_append_right hj] at e1
   rw [List.getElem?_append_right (by rw [← hha.len]; exact hj), ← hha.len] at e2
   exact ((hhb.ins _ x y e1 e2).frame f (fun k hk e => by have := hva k e; have := (hhb.jb k hk).1; omega)).mono (fun _ e => .inr e)
 ·intro k hk
  rcases hk with hk | hk
  ·have h1 := hha.jb k hk
   exact ⟨h1.1, by omega, fun e => by
    rcases bk k e with e1 | e1
    ·exact h1.2.2 e1
    ·omega⟩
  ·have h1 := hhb.jb k hk
   exact ⟨by have := ha.fr.size; omega, by omega, fun e => by
    rcases bk k e with e1 | e1
    ·have := hva k e1; omega
    ·omega⟩
 ·intro k hk
  rcases bk k hk with e | e
  ·exact ha.blk k e
  ·have := ha.fr.size; omega
 ·exact (ha.fr.thenNo hb.fr).trans f (fun k hk e => by have := ha.blk k e; omega)
end Go.Proofs.YthadcdoepoglkaaGreatDoor
namespace Go.Proofs.YthadcdoepoglkaaGreatDoor
open Go.RowKit Go.Lig
theorem wrsN_len (m : Nat → Bool) (r : Nat → Option NodeD) : ∀ n, (wrsN m r n).length ≤ n
 | 0 => Nat.le_refl _
 | n + 1 => by
  have := wrsN_len m r n
  unfold wrsN
  rw [List.length_append]
  split <;> simp <;> omega
theorem wrsE_len (m : Nat → Bool) (r : Nat → Option EdgeV) : ∀ n, (wrsE m r n).length ≤ n
 | 0 => Nat.le_refl _
 | n + 1 => by
  have := wrsE_len m r n
  unfold wrsE
  rw [List.length_append]
  split <;> simp <;> omega
theorem ptrs_one (x : Nat → Nat) (n : Nat) : ∀ u ∈ ptrs x n, u.oneCell' = true := fun u hu => by
 obtain ⟨i, _, rfl⟩ := List.mem_map.1 hu
 rfl
section
variable (w : World) (ρ : Nat → Option Pt) (s : Nat) (A : Ad) (M : PSt) (F : Nat) (h : StAt w ρ s A M F) (t : Int)
include h
end
end Go.Proofs.YthadcdoepoglkaaGreatDoor
