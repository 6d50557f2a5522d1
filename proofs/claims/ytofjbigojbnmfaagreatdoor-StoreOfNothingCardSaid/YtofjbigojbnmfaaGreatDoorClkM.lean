/- Transactions as plain data, and how they lie in memory. -/
import Derived.Test.YtofjbigojbnmfaaGreatDoorRows
import Derived.Test.YtofjbigojbnmfaaGreatDoorParts
import Derived.IntWalk
namespace Go.Proofs.YtofjbigojbnmfaaGreatDoor
open Go.RowKit Go.Lig

structure Tx where
  state : Int
  mark : Int
  commit : Int
  deriving DecidableEq
def tcell (x : Tx) : List Value := [.int .i64 x.state, .int .i64 x.mark, .int .i64 x.commit]
theorem tcell_len (x : Tx) : (tcell x).length = 3 := rfl
theorem tcell_one (l : List Tx) : ∀ u ∈ l.flatMap tcell, u.oneCell' = true := by
  intro u hu
  obtain ⟨p, _, hp⟩ := List.mem_flatMap.1 hu
  simp only [tcell, List.mem_cons, List.not_mem_nil, or_false] at hp
  rcases hp with rfl | rfl | rfl <;> rfl
structure Ck where
  l : List Tx
  commits : Int
/-- transaction t -/
def Ck.tx (K : Ck) (t : Int) : Option Tx := if 1 ≤ t then K.l[(t - 1).toNat]? else none
def Ck.live (K : Ck) (t : Int) : Bool := match K.tx t with
  | some x => x.state == 0
  | none => false
def Ck.aborted (K : Ck) (t : Int) : Bool := match K.tx t with
  | some x => x.state == 2
  | none => false
def Ck.count (K : Ck) : Nat := (K.l.filter fun x => x.state == 0).length
def Ck.sees (K : Ck) (t b : Int) : Bool := match K.tx t, K.tx b with
  | some x, some y => t == b || (y.state == 1 && decide (y.commit ≤ x.mark))
  | _, _ => false
def Ck.clashes (K : Ck) (t b : Int) : Bool := match K.tx t, K.tx b with
  | some x, some y => !(t == b) && (y.state == 0 || (y.state == 1 && decide (x.mark < y.commit)))
  | _, _ => false
def Ck.settled (K : Ck) (b : Int) : Bool := match K.tx b with
  | some y => y.state == 1 && K.l.all fun x => !(x.state == 0 && decide (x.mark < y.commit))
  | none => false
def Ck.begins (K : Ck) : Ck := { K with l := K.l ++ [⟨0, K.commits, 0⟩] }
def Ck.put (K : Ck) (t : Int) (x : Tx) : Ck := { K with l := K.l.set (t - 1).toNat x }
def Ck.commit (K : Ck) (t : Int) : Ck := match K.tx t with
  | some x => { (K.put t { x with state := 1, commit := K.commits + 1 }) with commits := K.commits + 1 }
  | none => K
def Ck.abort (K : Ck) (t : Int) : Ck := match K.tx t with
  | some x => K.put t { x with state := 2 }
  | none => K
/-- the clock at c; T its blocks -/
structure ClockAt (w : World) (T : Nat → Prop) (c : Nat) (K : Ck) : Prop where
  ex : ∃ v, w.heap[c]? = some (.cells #[v, .int .i64 K.commits] 125 (0, 0)) ∧ w.ownsRow 0 130 3 v K.l.length (K.l.flatMap tcell) ∧ ∀ k, v.ownBlock = some k → T k ∧ k ≠ c
  root : T c
  bound : ∀ k, T k → k < w.heap.size
  small : K.l.length ≤ 1000000 ∧ 0 ≤ K.commits ∧ K.commits ≤ 1000000
theorem ClockAt.frame {w w' : World} {T U : Nat → Prop} {c : Nat} {K : Ck} (h : ClockAt w T c K) (hf : Fr U w w') (hd : ∀ k, T k → ¬ U k) : ClockAt w' T c K := by
  obtain ⟨v, h1, h2, h3⟩ := h.ex
  exact ⟨⟨v, hf.keep h1 (hd c h.root), hf.owns h2 (fun k hk => hd k (h3 k hk).1), h3⟩, h.root, fun k hk => Nat.lt_of_lt_of_le (h.bound k hk) hf.size, h.small⟩
theorem Ck.tx_some {K : Ck} {t : Int} {x : Tx} (h : K.tx t = some x) : 1 ≤ t ∧ (t - 1).toNat < K.l.length ∧ K.l[(t - 1).toNat]? = some x ∧ t ≤ (K.l.length : Int) := by
  unfold Ck.tx at h
  split at h
  · rename_i h1
    have := (List.getElem?_eq_some_iff.1 h).1
    exact ⟨h1, this, h, by omega⟩
  · cases h
theorem Ck.tx_none {K : Ck} {t : Int} (h : K.tx t = none) : t < 1 ∨ (K.l.length : Int) < t := by
  unfold Ck.tx at h
  split at h
  · have := List.getElem?_eq_none_iff.1 h
    omega
  · omega
end Go.Proofs.YtofjbigojbnmfaaGreatDoor
