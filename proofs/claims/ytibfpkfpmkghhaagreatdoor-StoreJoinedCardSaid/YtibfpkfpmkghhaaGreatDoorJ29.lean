/- A part of the proof: contracts of functions of the program, for the row's text. -/
import Derived.Test.YtibfpkfpmkghhaaGreatDoorJ28
import Derived.Test.YtibfpkfpmkghhaaGreatDoorJ24
namespace Go.Proofs.YtibfpkfpmkghhaaGreatDoor
open Go.RowKit Go.Lig

theorem WrsO.app {w0 w1 w2 w3 : World} {v v' : Value} {l : List WrD} {h : WrV} {d : WrD} {cs : Array Value} {t : TypeId} {H : List WrV} {J : Nat → Prop} (hw : WrsO w0 w1 v l) (hh : WrsH w0 w1 v l H J) (p2 : New cs t w1 w2) (o : w3.ownsRow 0 71 9 v' (l.length + 1) (H.flatMap wrcell ++ wrcell h)) (f : Fr (fun k => v.ownBlock = some k) w2 w3)
    (b : ∀ k, v'.ownBlock = some k → v.ownBlock = some k ∨ w2.heap.size ≤ k) (I : Nat → Prop) (hI : ∀ k, I k → w0.heap.size ≤ k ∧ k < w1.heap.size ∧ v.ownBlock ≠ some k) (hin : WrIn w1 I h d) : WrsO w0 w3 v' (l ++ [d]) := by
  obtain ⟨h1, h2, h3, h4⟩ := hh
  have fr3 : Fr No w0 w3 := (hw.fr.thenNo p2.fr).trans f (fun k hk e => by have := hw.blk k e; omega)
  have hz := p2.fr.size
  have hz3 := f.size
  have hkeep : ∀ {J' : Nat → Prop} {x : WrV} {y : WrD}, (∀ k, J' k → v.ownBlock ≠ some k) → WrIn w1 J' x y → WrIn w3 J' x y := fun hj e => (e.frame p2.fr (fun _ _ e => e)).frame f (fun k hk e => hj k hk e)
  refine ⟨⟨H ++ [h], fun k => J k ∨ I k, ⟨by simp [h1], ?_, ?_, ?_⟩⟩, ?_, fr3⟩
  · rw [List.length_append, List.flatMap_append]
    simpa using o
  · intro j x y e1 e2
    rcases Nat.lt_or_ge j H.length with hj | hj
    · rw [List.getElem?_append_left hj] at e1
      rw [List.getElem?_append_left (by omega)] at e2
      exact (hkeep (fun k hk => (h4 k hk).2.2) (h3 j x y e1 e2)).mono (fun _ e => .inl e)
    · have hj2 : j = H.length := by
        have := (List.getElem?_eq_some_iff.1 e1).1
        simp at this
        omega
      subst hj2
      rw [List.getElem?_append_right (Nat.le_refl _), Nat.sub_self] at e1
      rw [List.getElem?_append_right (by omega), h1, Nat.sub_self] at e2
      simp only [List.getElem?_cons_zero, Option.some.injEq] at e1 e2
      subst e1 e2
      exact (hkeep (fun k hk => (hI k hk).2.2) hin).mono (fun _ e => .inr e)
  · intro k hk
    rcases hk with hk | hk
    · exact ⟨(h4 k hk).1, by have := (h4 k hk).2.1; omega, fun e => by
        rcases b k e with e1 | e1
        · exact (h4 k hk).2.2 e1
        · have := (h4 k hk).2.1; omega⟩
    · exact ⟨(hI k hk).1, by have := (hI k hk).2.1; omega, fun e => by
        rcases b k e with e1 | e1
        · exact (hI k hk).2.2 e1
        · have := (hI k hk).2.1; omega⟩
  · intro k hk
    rcases b k hk with e | e
    · exact hw.blk k e
    · have := hw.fr.size; omega
end Go.Proofs.YtibfpkfpmkghhaaGreatDoor

namespace Go.Lig
/-- it is of an edge -/
def WrD.mark (d : WrD) : WrD := { d with edge := true }
end Go.Lig
namespace Go.Proofs.YtibfpkfpmkghhaaGreatDoor
open Go.RowKit Go.Lig

end Go.Proofs.YtibfpkfpmkghhaaGreatDoor
