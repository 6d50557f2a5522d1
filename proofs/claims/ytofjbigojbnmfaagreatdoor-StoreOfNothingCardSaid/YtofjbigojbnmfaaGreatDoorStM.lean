/- A store of nodes that have nothing in them, and no edges: as plain data, and how it lies in memory. -/
import Derived.Test.YtofjbigojbnmfaaGreatDoorCellE
import Derived.Test.YtofjbigojbnmfaaGreatDoorChM0
import Derived.Test.YtofjbigojbnmfaaGreatDoorTree
namespace Go.Proofs.YtofjbigojbnmfaaGreatDoor
open Go.RowKit Go.Lig

inductive Pt
  | root
  | clock
  | nrow
  | erow
  | out
  | inn
  | index
  | node (i : Nat)
  deriving DecidableEq
structure PSt where
  K : Ck
  N : List (List (Ver NodeV))
/-- where its things lie -/
structure Ad where
  c : Nat
  o : Nat
  i : Nat
  m : Nat
  nv : Value
  ev : Value
  x : Nat → Nat
  B : Role → Nat
  B' : Role → Nat
  r : Nat → Option Role
  r' : Nat → Option Role
def ptrs (x : Nat → Nat) (n : Nat) : List Value := (List.range n).map fun i => .pointer (some ⟨x i, 0, none⟩)
theorem ptrs_get (x : Nat → Nat) (n i : Nat) (h : i < n) : (ptrs x n)[i]? = some (.pointer (some ⟨x i, 0, none⟩)) := by
  simp [ptrs, h]
theorem ptrs_succ (x : Nat → Nat) (n : Nat) : ptrs x (n + 1) = ptrs x n ++ [.pointer (some ⟨x n, 0, none⟩)] := by simp [ptrs, List.range_succ]
def nils (n : Nat) : List Value := List.replicate n (.slice none 0 0)
structure StAt (w : World) (ρ : Nat → Option Pt) (s : Nat) (A : Ad) (M : PSt) : Prop where
  root : At ρ .root s
  bound : ∀ b, ρ b ≠ none → b < w.heap.size
  heap : w.heap[s]? = some (.cells #[.pointer (some ⟨A.c, 0, none⟩), A.nv, .slice none 0 0, .slice none 0 0, .pointer (some ⟨A.o, 0, none⟩), .pointer (some ⟨A.i, 0, none⟩), .map (some A.m), A.ev] 74 (0, 0))
  clock : ClockAt w (At ρ .clock) A.c M.K
  nrow : w.ownsRow 0 79 1 A.nv M.N.length (ptrs A.x M.N.length)
  nblk : ∀ k, A.nv.ownBlock = some k → At ρ .nrow k
  erow : w.ownsRow 0 146 1 A.ev M.N.length (nils M.N.length)
  eblk : ∀ k, A.ev.ownBlock = some k → At ρ .erow k
  cell : ∀ i L, M.N[i]? = some L → CellAt w (At ρ (.node i)) (A.x i) L
  out : ChAt w A.o [] A.B A.r 0
  oblk : ∀ b, A.r b ≠ none → At ρ .out b
  inn : ChAt w A.i [] A.B' A.r' 0
  iblk : ∀ b, A.r' b ≠ none → At ρ .inn b
  index : w.heap[A.m]? = some (.map #[] 0)
  mblk : At ρ .index A.m
  plain : ∀ L ∈ M.N, ∀ y ∈ L, y.v = NodeV.none
  small : M.N.length ≤ 1000000
/-- what a turn of one part leaves -/
structure Trn (w w' : World) (ρ : Nat → Option Pt) (p : Pt) (T : Nat → Prop) : Prop where
  fr : Fr (At ρ p) w w'
  gr : Grown w (At ρ p) T
  bd : ∀ b, T b → b < w'.heap.size
section
variable {w w' : World} {ρ : Nat → Option Pt} {s : Nat} {A : Ad} {M : PSt} {p : Pt} {T : Nat → Prop}
theorem Trn.at_ (t : Trn w w' ρ p T) (h : StAt w ρ s A M) {q : Pt} (hq : q ≠ p) : At (turn ρ p T) q = At ρ q := at_turn_other hq t.gr h.bound
theorem Trn.keep (t : Trn w w' ρ p T) {q : Pt} (hq : q ≠ p) : ∀ b, At ρ q b → ¬ At ρ p b := at_apart hq
theorem StAt.clock_ (h : StAt w ρ s A M) (t : Trn w w' ρ .clock T) {K' : Ck} (hk : ClockAt w' T A.c K') : StAt w' (turn ρ .clock T) s A { M with K := K' } := by
  refine ⟨?_, bound_turn h.bound t.fr.size t.bd, t.fr.keep h.heap (t.keep (q := .root) (by simp) s h.root), by rw [at_turn_same]; exact hk, t.fr.owns h.nrow (fun k hk => t.keep (by simp) k (h.nblk k hk)), fun k hk => ?_, t.fr.owns h.erow (fun k hk => t.keep (by simp) k (h.eblk k hk)), fun k hk => ?_, fun i L hL => ?_, h.out.frame t.fr (fun b hb => t.keep (by simp) b (h.oblk b hb)), fun b hb => ?_, h.inn.frame t.fr (fun b hb => t.keep (by simp) b (h.iblk b hb)), fun b hb => ?_, t.fr.keep h.index (t.keep (q := .index) (by simp) _ h.mblk), ?_, h.plain, h.small⟩
  · rw [t.at_ h (by simp)]; exact h.root
  · rw [t.at_ h (by simp)]; exact h.nblk k hk
  · rw [t.at_ h (by simp)]; exact h.eblk k hk
  · rw [t.at_ h (by simp)]; exact (h.cell i L hL).frame t.fr (t.keep (by simp))
  · rw [t.at_ h (by simp)]; exact h.oblk b hb
  · rw [t.at_ h (by simp)]; exact h.iblk b hb
  · rw [t.at_ h (by simp)]; exact h.mblk
theorem StAt.node_ (h : StAt w ρ s A M) {j : Nat} (t : Trn w w' ρ (.node j) T) {L' : List (Ver NodeV)} (hj : j < M.N.length) (hk : CellAt w' T (A.x j) L') (hp : ∀ y ∈ L', y.v = NodeV.none) : StAt w' (turn ρ (.node j) T) s A { M with N := M.N.set j L' } := by
  refine ⟨?_, bound_turn h.bound t.fr.size t.bd, t.fr.keep h.heap (t.keep (q := .root) (by simp) s h.root), ?_, by simpa using t.fr.owns h.nrow (fun k hk => t.keep (by simp) k (h.nblk k hk)), fun k hk => ?_, by simpa using t.fr.owns h.erow (fun k hk => t.keep (by simp) k (h.eblk k hk)), fun k hk => ?_, fun i L hL => ?_, h.out.frame t.fr (fun b hb => t.keep (by simp) b (h.oblk b hb)), fun b hb => ?_, h.inn.frame t.fr (fun b hb => t.keep (by simp) b (h.iblk b hb)), fun b hb => ?_, t.fr.keep h.index (t.keep (q := .index) (by simp) _ h.mblk), ?_, fun L hL y hy => ?_, by simpa using h.small⟩
  · rw [t.at_ h (by simp)]; exact h.root
  · rw [t.at_ h (by simp)]; exact h.clock.frame t.fr (t.keep (by simp))
  · rw [t.at_ h (by simp)]; exact h.nblk k hk
  · rw [t.at_ h (by simp)]; exact h.eblk k hk
  · by_cases e : i = j
    · subst e
      rw [at_turn_same]
      have : (M.N.set i L')[i]? = some L' := List.getElem?_set_self hj
      rw [this] at hL
      obtain rfl := Option.some.inj hL
      exact hk
    · have : (M.N.set j L')[i]? = M.N[i]? := List.getElem?_set_ne (fun e' => e e'.symm)
      rw [this] at hL
      have hne : (Pt.node i) ≠ .node j := fun e' => e (by injection e')
      rw [t.at_ h hne]
      exact (h.cell i L hL).frame t.fr (t.keep hne)
  · rw [t.at_ h (by simp)]; exact h.oblk b hb
  · rw [t.at_ h (by simp)]; exact h.iblk b hb
  · rw [t.at_ h (by simp)]; exact h.mblk
  · rcases List.mem_or_eq_of_mem_set hL with h1 | rfl
    · exact h.plain L h1 y hy
    · exact hp y hy
theorem StAt.frame (h : StAt w ρ s A M) (hf : Fr No w w') : StAt w' ρ s A M :=
  ⟨h.root, fun b hb => Nat.lt_of_lt_of_le (h.bound b hb) hf.size, hf.keep h.heap id, h.clock.frame hf (fun _ _ e => e), fd_owns h.nrow hf, h.nblk, fd_owns h.erow hf, h.eblk, fun i L hL => (h.cell i L hL).frame hf (fun _ _ e => e), h.out.frame hf (fun _ _ e => e), h.oblk, h.inn.frame hf (fun _ _ e => e), h.iblk, hf.keep h.index id, h.mblk, h.plain, h.small⟩
end
/-- the store at s is M; U its blocks -/
structure StS (U : Nat → Prop) (w : World) (s : Nat) (M : PSt) : Prop where
  ex : ∃ ρ A, StAt w ρ s A M ∧ Go.Lig.Own ρ = U
theorem StS.frame {U : Nat → Prop} {w w' : World} {s : Nat} {M : PSt} (h : StS U w s M) (hf : Fr No w w') : StS U w' s M := by
  obtain ⟨ρ, A, h1, h2⟩ := h.ex
  exact ⟨ρ, A, h1.frame hf, h2⟩
theorem StS.bound {U : Nat → Prop} {w : World} {s : Nat} {M : PSt} (h : StS U w s M) : ∀ b, U b → b < w.heap.size := by
  obtain ⟨ρ, A, h1, rfl⟩ := h.ex
  exact h1.bound
/-- what a store's function leaves -/
structure Gone (U : Nat → Prop) (w : World) (U' : Nat → Prop) (w' : World) : Prop where
  fr : Fr U w w'
  gr : Grown w U U'
theorem Gone.refl (U : Nat → Prop) (w : World) : Gone U w U w := ⟨Fr.refl _ _, Grown.refl _ _⟩
theorem Gone.no {U : Nat → Prop} {w w' : World} (h : Fr No w w') : Gone U w U w' := ⟨h.mono (fun _ _ e => e.elim), Grown.refl _ _⟩
theorem Gone.trans {U U' U'' : Nat → Prop} {a b c : World} (h : Gone U a U' b) (h' : Gone U' b U'' c) : Gone U a U'' c :=
  ⟨h.fr.trans h'.fr (fun k hk e => by rcases h.gr k e with h1 | h1; exact h1; omega), h.gr.trans h'.gr h.fr.size⟩
theorem Gone.nextNo {U U' : Nat → Prop} {a b c : World} (h : Gone U a U' b) (h' : Fr No b c) : Gone U a U' c := h.trans (Gone.no h')
/-- what lies elsewhere stays -/
theorem Gone.keep {U U' : Nat → Prop} {w w' : World} (h : Gone U w U' w') {b : Nat} {o : Obj} (hb : w.heap[b]? = some o) (hn : ¬ U b) : w'.heap[b]? = some o ∧ ¬ U' b :=
  ⟨h.fr.keep hb hn, fun e => by rcases h.gr b e with h1 | h1; exact hn h1; have := lt_of_block hb; omega⟩
end Go.Proofs.YtofjbigojbnmfaaGreatDoor
