/- A part of the proof: contracts of functions of the program, for the row's text. -/
import Derived.Test.YthadcdoepoglkaaGreatDoorJ10
import Derived.Test.YthadcdoepoglkaaGreatDoorJ14
namespace Go.Proofs.YthadcdoepoglkaaGreatDoor.Di
open Go.RowKit Go.Lig
theorem filt_step {p : Int → Bool} {L : List (Int)} {j : Nat} {y : Int} (h : L[j]? = some y) : (L.take (j + 1)).filter (fun z => !p z) = (L.take j).filter (fun z => !p z) ++ if p y then [] else [y] := by
 rw [List.take_add_one, h, Option.toList_some, List.filter_append]
 cases hp : p y <;> simp [hp]
def midL (p : Int → Bool) (L : List (Int)) (j : Nat) : List (Int) := (L.take j).filter (fun z => !p z) ++ L.drop ((L.take j).filter (fun z => !p z)).length
theorem filt_le (p : Int → Bool) (L : List (Int)) (j : Nat) : ((L.take j).filter (fun z => !p z)).length ≤ j := by
 have h1 := List.length_filter_le (fun z => !p z) (L.take j)
 have h2 := List.length_take_le j L
 omega
theorem midL_len (p : Int → Bool) (L : List (Int)) (j : Nat) (hj : j ≤ L.length) : (midL p L j).length = L.length := by
 have := filt_le p L j
 simp [midL]
 omega
theorem midL_get {p : Int → Bool} {L : List (Int)} {j k : Nat} (hk : j ≤ k) : (midL p L j)[k]? = L[k]? := by
 have := filt_le p L j
 unfold midL
 rw [List.getElem?_append_right (by omega), List.getElem?_drop]
 congr 1
 omega
theorem midL_keep {p : Int → Bool} {L : List (Int)} {j : Nat} {y : Int} (h : L[j]? = some y) (hp : p y = true) : midL p L (j + 1) = midL p L j := by
 unfold midL
 rw [filt_step h, hp]
 simp
theorem midL_put {p : Int → Bool} {L : List (Int)} {j : Nat} {y : Int} (h : L[j]? = some y) (hp : p y = false) : (midL p L j).set ((L.take j).filter (fun z => !p z)).length y = midL p L (j + 1) := by
 have hl := filt_le p L j
 have hj := (List.getElem?_eq_some_iff.1 h).1
 unfold midL
 rw [filt_step h, hp]
 generalize hF : (L.take j).filter (fun z => !p z) = F at *
 simp only [Bool.false_eq_true, if_false, List.length_append, List.length_cons, List.length_nil]
 rw [List.set_append_right _ _ (Nat.le_refl _), Nat.sub_self, List.drop_eq_getElem_cons (by omega), List.set_cons_zero, List.append_assoc]
 rfl
theorem filt_first {p : Int → Bool} {L : List (Int)} {i : Nat} {y : Int} (hy : L[i]? = some y) (hp : p y = true) (hk : ∀ k z, k < i → L[k]? = some z → p z = false) : (L.take (i + 1)).filter (fun z => !p z) = L.take i := by
 rw [filt_step hy, hp, if_pos rfl, List.append_nil]
 refine List.filter_eq_self.2 (fun z hz => ?_)
 obtain ⟨k, hk1⟩ := List.getElem?_of_mem hz
 rw [List.getElem?_take] at hk1
 split at hk1
 ·rename_i h; simp [hk k z h hk1]
 ·cases hk1
end Go.Proofs.YthadcdoepoglkaaGreatDoor.Di
