/- A part of the proof: contracts of functions of the program, for the row's text. -/
import Derived.Test.YthadcdoepoglkaaGreatDoorJ10
import Derived.Test.YthadcdoepoglkaaGreatDoorJ13
import Derived.Test.YthadcdoepoglkaaGreatDoorJ14
import Derived.Test.YthadcdoepoglkaaGreatDoorJ07
import Derived.Test.YthadcdoepoglkaaGreatDoorJ03
namespace Go.Proofs.YthadcdoepoglkaaGreatDoor
open Go.RowKit Go.Lig
inductive Pt
 | root
 | clock
 | nrow
 | erow
 | edrow
 | enrow
 | out
 | inn
 | index
 | imm
 | node (i : Nat)
 | edge (i : Nat)
 deriving DecidableEq
structure PSt where
 K : Ck
 N : List (List (Ver NodeD))
 E : List (List (Ver EdgeV))
 D : List (Int × Int)
 O : List (Int × Int)
 I : List (Int × Int)
 X : List (ByteArray × List EntR)
 Y : List (List IxR)
structure Ad where
 c : Nat
 o : Nat
 i : Nat
 m : Nat
 nv : Value
 ev : Value
 dv : Value
 fv : Value
 x : Nat → Nat
 z : Nat → Nat
def ptrs (x : Nat → Nat) (n : Nat) : List Value := (List.range n).map fun i => .pointer (some ⟨x i, 0, none⟩)
theorem ptrs_get (x : Nat → Nat) (n i : Nat) (h : i < n) : (ptrs x n)[i]? = some (.pointer (some ⟨x i, 0, none⟩)) := by
 simp [ptrs, h]
theorem ptrs_succ (x : Nat → Nat) (n : Nat) : ptrs x (n + 1) = ptrs x n ++ [.pointer (some ⟨x n, 0, none⟩)] := by simp [ptrs, List.range_succ]
theorem ptrs_congr {x y : Nat → Nat} {n : Nat} (h : ∀ i, i < n → x i = y i) : ptrs x n = ptrs y n := by
 unfold ptrs
 refine List.map_congr_left fun i hi => ?_
 rw [h i (List.mem_range.1 hi)]
structure VerIn (w : World) (I : Nat → Prop) (h : Ver NodeV) (d : Ver NodeD) : Prop where
 by_ : h.by_ = d.by_
 gone : h.gone = d.gone
 v : NodeIn w I (.slice h.v.l.a h.v.l.n h.v.l.c) (.slice h.v.p.a h.v.p.n h.v.p.c) d.v
structure VersIn (w : World) (I : Nat → Prop) (H : List (Ver NodeV)) (L : List (Ver NodeD)) : Prop where
 len : H.length = L.length
 at_ : ∀ (j : Nat) (h : Ver NodeV) (d : Ver NodeD), H[j]? = some h → L[j]? = some d → VerIn w I h d
structure NCell (w : World) (T I : Nat → Prop) (x : Nat) (L : List (Ver NodeD)) : Prop where
 ex : ∃ H, CellAt w T x H ∧ VersIn w I H L
theorem VerIn.frame {w w' : World} {I S : Nat → Prop} {h : Ver NodeV} {d : Ver NodeD} (v : VerIn w I h d) (hf : Fr S w w') (hd : ∀ k, I k → ¬ S k) : VerIn w' I h d := ⟨v.by_, v.gone, v.v.frame hf hd⟩
theorem VerIn.mono {w : World} {I J : Nat → Prop} {h : Ver NodeV} {d : Ver NodeD} (v : VerIn w I h d) (hj : ∀ k, I k → J k) : VerIn w J h d := ⟨v.by_, v.gone, v.v.mono hj⟩
theorem VersIn.frame {w w' : World} {I S : Nat → Prop} {H : List (Ver NodeV)} {L : List (Ver NodeD)} (v : VersIn w I H L) (hf : Fr S w w') (hd : ∀ k, I k → ¬ S k) : VersIn w' I H L := ⟨v.len, fun j h d e1 e2 => (v.at_ j h d e1 e2).frame hf hd⟩
theorem VersIn.mono {w : World} {I J : Nat → Prop} {H : List (Ver NodeV)} {L : List (Ver NodeD)} (v : VersIn w I H L) (hj : ∀ k, I k → J k) : VersIn w J H L := ⟨v.len, fun j h d e1 e2 => (v.at_ j h d e1 e2).mono hj⟩
theorem NCell.frame {w w' : World} {T I S : Nat → Prop} {x : Nat} {L : List (Ver NodeD)} (h : NCell w T I x L) (hf : Fr S w w') (hd : ∀ k, T k → ¬ S k) (hi : ∀ k, I k → ¬ S k) : NCell w' T I x L := by
 obtain ⟨H, h1, h2⟩ := h.ex
 exact ⟨H, h1.frame hf hd, h2.frame hf hi⟩
theorem NCell.mono {w : World} {T I J : Nat → Prop} {x : Nat} {L : List (Ver NodeD)} (h : NCell w T I x L) (hj : ∀ k, I k → J k) : NCell w T J x L := by
 obtain ⟨H, h1, h2⟩ := h.ex
 exact ⟨H, h1, h2.mono hj⟩
structure ChP (w : World) (T : Nat → Prop) (c : Nat) (I : List (Int × Int)) (F : Nat) : Prop where
 ex : ∃ B r m, ChAt w c I B r m ∧ (∀ b, r b ≠ none → T b) ∧ m ≤ F
 len : I.length ≤ F
theorem ChP.frame {w w' : World} {T S : Nat → Prop} {c F : Nat} {I : List (Int × Int)} (h : ChP w T c I F) (hf : Fr S w w') (hd : ∀ k, T k → ¬ S k) : ChP w' T c I F := by
 obtain ⟨B, r, m, h1, h2, h3⟩ := h.ex
 exact ⟨⟨B, r, m, h1.frame hf (fun b hb => hd b (h2 b hb)), h2, h3⟩, h.len⟩
theorem ChP.more {w : World} {T : Nat → Prop} {c F G : Nat} {I : List (Int × Int)} (h : ChP w T c I F) (hg : F ≤ G) : ChP w T c I G := by
 obtain ⟨B, r, m, h1, h2, h3⟩ := h.ex
 exact ⟨⟨B, r, m, h1, h2, Nat.le_trans h3 hg⟩, Nat.le_trans h.len hg⟩
structure TreeAt (w : World) (T : Nat → Prop) (x : Nat) (l : List EntR) : Prop where
 ex : ∃ v, w.heap[x]? = some (.cells #[v] 191 (0, 0)) ∧ w.ownsRow 0 165 6 v l.length (l.flatMap ncellE) ∧ ∀ k, v.ownBlock = some k → T k ∧ k ≠ x
 root : T x
 ok : ∀ y ∈ l, ValOk y.v ∧ (Lit.int .i64 y.id).wf = true
theorem TreeAt.frame {w w' : World} {T S : Nat → Prop} {x : Nat} {l : List EntR} (h : TreeAt w T x l) (hf : Fr S w w') (hd : ∀ k, T k → ¬ S k) : TreeAt w' T x l := by
 obtain ⟨v, h1, h2, h3⟩ := h.ex
 exact ⟨⟨v, hf.keep h1 (hd x h.root), hf.owns h2 (fun k hk => hd k (h3 k hk).1), h3⟩, h.root, h.ok⟩
inductive Xp
 | mp
 | tree (j : Nat)
 deriving DecidableEq
def kvs (a : Nat → Nat) (X : List (ByteArray × List EntR)) : List (ByteArray × Value) := X.zipIdx.map fun p => (p.1.1, .pointer (some ⟨a p.2, 0, none⟩))
structure IxAt (w : World) (T : Nat → Prop) (m : Nat) (X : List (ByteArray × List EntR)) (F : Nat) : Prop where
 ex : ∃ (q : Nat → Option Xp) (a : Nat → Nat), At q .mp m ∧ MapS w Tryz.prog 9 m F (kvs a X) ∧ (∀ j key l, X[j]? = some (key, l) → TreeAt w (At q (.tree j)) (a j) l ∧ l.length ≤ F) ∧ (∀ b, q b ≠ none → T b ∧ b < w.heap.size)
 keys : ∀ p ∈ X, p.1.size ≤ maxLen
theorem IxAt.frame {w w' : World} {T S : Nat → Prop} {m F : Nat} {X : List (ByteArray × List EntR)} (h : IxAt w T m X F) (hf : Fr S w w') (hd : ∀ k, T k → ¬ S k) : IxAt w' T m X F := by
 obtain ⟨q, a, h1, h2, h3, h4⟩ := h.ex
 have hq : ∀ p b, At q p b → ¬ S b := fun p b hb => hd b (h4 b (by rw [show q b = some p from hb]; simp)).1
 exact ⟨⟨q, a, h1, h2.frame hf (hq _ _ h1), fun j key l e => ⟨(h3 j key l e).1.frame hf (hq _), (h3 j key l e).2⟩, fun b hb => ⟨(h4 b hb).1, Nat.lt_of_lt_of_le (h4 b hb).2 hf.size⟩⟩, h.keys⟩
theorem IxAt.more {w : World} {T : Nat → Prop} {m F G : Nat} {X : List (ByteArray × List EntR)} (h : IxAt w T m X F) (hg : F ≤ G) : IxAt w T m X G := by
 obtain ⟨q, a, h1, h2, h3, h4⟩ := h.ex
 exact ⟨⟨q, a, h1, h2.more hg, fun j key l e => ⟨(h3 j key l e).1, Nat.le_trans (h3 j key l e).2 hg⟩, h4⟩, h.keys⟩
structure EnAt (w : World) (T I : Nat → Prop) (v : Value) (Y : List (List IxR)) : Prop where
 ex : ∃ hs : List Value, hs.length = Y.length ∧ w.ownsRow 0 163 1 v Y.length hs ∧ ∀ (i : Nat) (hv : Value) (l : List IxR), hs[i]? = some hv → Y[i]? = some l → RdI w I hv l.length 7 (l.flatMap ixcell)
 blk : ∀ k, v.ownBlock = some k → T k
 one : ∀ l ∈ Y, ∀ y ∈ l, y.key.size ≤ maxLen ∧ ValOk y.x.v ∧ (Lit.int .i64 y.x.id).wf = true
theorem EnAt.frame {w w' : World} {T I S : Nat → Prop} {v : Value} {Y : List (List IxR)} (h : EnAt w T I v Y) (hf : Fr S w w') (hd : ∀ k, T k → ¬ S k) (hi : ∀ k, I k → ¬ S k) : EnAt w' T I v Y := by
 obtain ⟨hs, h1, h2, h3⟩ := h.ex
 exact ⟨⟨hs, h1, hf.owns h2 (fun k hk => hd k (h.blk k hk)), fun i hv l e1 e2 => (h3 i hv l e1 e2).frame hf hi⟩, h.blk, h.one⟩
theorem EnAt.mono {w : World} {T I J : Nat → Prop} {v : Value} {Y : List (List IxR)} (h : EnAt w T I v Y) (hj : ∀ k, I k → J k) : EnAt w T J v Y := by
 obtain ⟨hs, h1, h2, h3⟩ := h.ex
 exact ⟨⟨hs, h1, h2, fun i hv l e1 e2 => (h3 i hv l e1 e2).mono hj⟩, h.blk, h.one⟩
def ecells (D : List (Int × Int)) : List Value := D.flatMap fun p => [.int .i64 p.1, .int .i64 p.2]
def rootCells (A : Ad) : Array Value := #[.pointer (some ⟨A.c, 0, none⟩), A.nv, A.dv, A.fv, .pointer (some ⟨A.o, 0, none⟩), .pointer (some ⟨A.i, 0, none⟩), .map (some A.m), A.ev]
def PartAt (w : World) (R I : Nat → Prop) (s : Nat) (A : Ad) (M : PSt) (F : Nat) : Pt → Prop
 | .root => R s ∧ w.heap[s]? = some (.cells (rootCells A) 84 (0, 0))
 | .clock => ClockAt w R A.c M.K ∧ M.K.l.length ≤ F ∧ M.K.commits ≤ (F : Int)
 | .nrow => w.ownsRow 0 100 1 A.nv M.N.length (ptrs A.x M.N.length) ∧ (∀ k, A.nv.ownBlock = some k → R k) ∧ M.N.length ≤ 1000
 | .erow => EnAt w R I A.ev M.Y ∧ M.Y.length = M.N.length
 | .edrow => w.ownsRow 0 103 1 A.dv M.E.length (ptrs A.z M.E.length) ∧ (∀ k, A.dv.ownBlock = some k → R k) ∧ M.E.length ≤ 1000
 | .enrow => w.ownsRow 0 182 2 A.fv M.D.length (ecells M.D) ∧ (∀ k, A.fv.ownBlock = some k → R k) ∧ M.D.length = M.E.length ∧ ∀ p ∈ M.D, keyOk p.1 ∧ keyOk p.2
 | .out => ChP w R A.o M.O F
 | .inn => ChP w R A.i M.I F
 | .index => IxAt w R A.m M.X F
 | .imm => True
 | .node i => ∀ L, M.N[i]? = some L → NCell w R I (A.x i) L ∧ L.length ≤ F
 | .edge i => ∀ L, M.E[i]? = some L → Ec.CellAt w R (A.z i) L ∧ L.length ≤ F
theorem PartAt.frame {w w' : World} {R I S : Nat → Prop} {s : Nat} {A : Ad} {M : PSt} {F : Nat} {p : Pt} (h : PartAt w R I s A M F p) (hf : Fr S w w') (hd : ∀ k, R k → ¬ S k) (hi : ∀ k, I k → ¬ S k) : PartAt w' R I s A M F p := by
 cases p with
 | root => exact ⟨h.1, hf.keep h.2 (hd s h.1)⟩
 | clock => exact ⟨h.1.frame hf hd, h.2⟩
 | nrow => exact ⟨hf.owns h.1 (fun k hk => hd k (h.2.1 k hk)), h.2⟩
 | erow => exact ⟨h.1.frame hf hd hi, h.2⟩
 | edrow => exact ⟨hf.owns h.1 (fun k hk => hd k (h.2.1 k hk)), h.2⟩
 | enrow => exact ⟨hf.owns h.1 (fun k hk => hd k (h.2.1 k hk)), h.2⟩
 | out => exact ChP.frame h hf hd
 | inn => exact ChP.frame h hf hd
 | index => exact IxAt.frame h hf hd
 | imm => trivial
 | node i => exact fun L hL => ⟨(h L hL).1.frame hf hd hi, (h L hL).2⟩
 | edge i => exact fun L hL => ⟨(h L hL).1.frame hf hd, (h L hL).2⟩
theorem PartAt.mono {w : World} {R I J : Nat → Prop} {s : Nat} {A : Ad} {M : PSt} {F G : Nat} {p : Pt} (h : PartAt w R I s A M F p) (hj : ∀ k, I k → J k) (hg : F ≤ G) : PartAt w R J s A M G p := by
 cases p with
 | root => exact h
 | clock => exact ⟨h.1, Nat.le_trans h.2.1 hg, by have := h.2.2; omega⟩
 | nrow => exact h
 | erow => exact ⟨h.1.mono hj, h.2⟩
 | edrow => exact h
 | enrow => exact h
 | out => exact ChP.more h hg
 | inn => exact ChP.more h hg
 | index => exact IxAt.more h hg
 | imm => trivial
 | node i => exact fun L hL => ⟨(h L hL).1.mono hj, Nat.le_trans (h L hL).2 hg⟩
 | edge i => exact fun L hL => ⟨(h L hL).1, Nat.le_trans (h L hL).2 hg⟩
structure StAt (w : World) (ρ : Nat → Option Pt) (s : Nat) (A : Ad) (M : PSt) (F : Nat) : Prop where
 bound : ∀ b, ρ b ≠ none → b < w.heap.size
 at_ : ∀ p, PartAt w (At ρ p) (At ρ .imm) s A M F p
structure Trn (w w' : World) (ρ : Nat → Option Pt) (p : Pt) (T : Nat → Prop) : Prop where
 fr : Fr (At ρ p) w w'
 gr : Grown w (At ρ p) T
 bd : ∀ b, T b → b < w'.heap.size
section
variable {w w' : World} {ρ : Nat → Option Pt} {s : Nat} {A A' : Ad} {M M' : PSt} {p : Pt} {T : Nat → Prop} {F F' : Nat}
theorem Trn.at_ (t : Trn w w' ρ p T) (h : StAt w ρ s A M F) {q : Pt} (hq : q ≠ p) : At (turn ρ p T) q = At ρ q := at_turn_other hq t.gr h.bound
theorem StAt.frame (h : StAt w ρ s A M F) (hf : Fr No w w') : StAt w' ρ s A M F :=
 ⟨fun b hb => Nat.lt_of_lt_of_le (h.bound b hb) hf.size, fun p => (h.at_ p).frame hf (fun _ _ e => e) (fun _ _ e => e)⟩
theorem StAt.more (h : StAt w ρ s A M F) (hg : F ≤ F') : StAt w ρ s A M F' := ⟨h.bound, fun p => (h.at_ p).mono (fun _ e => e) hg⟩
theorem StAt.upd (h : StAt w ρ s A M F) (t : Trn w w' ρ p T) (hp : p ≠ .imm) (hk : PartAt w' T (At ρ .imm) s A' M' F' p)
  (ho : ∀ q, q ≠ p → ∀ R, PartAt w' R (At ρ .imm) s A M F q → PartAt w' R (At ρ .imm) s A' M' F' q) : StAt w' (turn ρ p T) s A' M' F' := by
 have hi : At (turn ρ p T) .imm = At ρ .imm := t.at_ h (fun e => hp e.symm)
 refine ⟨bound_turn h.bound t.fr.size t.bd, fun q => ?_⟩
 rw [hi]
 by_cases hq : q = p
 ·subst hq
  rw [at_turn_same]
  exact hk
 ·rw [t.at_ h hq]
  exact ho q hq _ ((h.at_ q).frame t.fr (at_apart hq) (at_apart (fun e => hp e.symm)))
theorem StAt.addImm (h : StAt w ρ s A M F) (hf : Fr No w w') {J : Nat → Prop} (hJ : ∀ b, J b → w.heap.size ≤ b ∧ b < w'.heap.size) :
  StAt w' (turn ρ .imm (fun b => At ρ .imm b ∨ J b)) s A M F := by
 have gr : Grown w (At ρ .imm) (fun b => At ρ .imm b ∨ J b) := fun b hb => hb.imp id (fun e => (hJ b e).1)
 have hb : ∀ b, At ρ .imm b ∨ J b → b < w'.heap.size := fun b hb => hb.elim (fun e => Nat.lt_of_lt_of_le (h.bound b (by rw [show ρ b = _ from e]; simp)) hf.size) (fun e => (hJ b e).2)
 refine ⟨bound_turn h.bound hf.size hb, fun q => ?_⟩
 rw [at_turn_same]
 by_cases hq : q = .imm
 ·subst hq; trivial
 ·rw [at_turn_other hq gr h.bound]
  exact ((h.at_ q).frame hf (fun _ _ e => e) (fun _ _ e => e)).mono (fun _ e => .inl e) (Nat.le_refl _)
end
structure Gone (U : Nat → Prop) (w : World) (U' : Nat → Prop) (w' : World) : Prop where
 fr : Fr U w w'
 gr : Grown w U U'
theorem Gone.refl (U : Nat → Prop) (w : World) : Gone U w U w := ⟨Fr.refl _ _, Grown.refl _ _⟩
theorem Gone.no {U : Nat → Prop} {w w' : World} (h : Fr No w w') : Gone U w U w' := ⟨h.mono (fun _ _ e => e.elim), Grown.refl _ _⟩
theorem Gone.trans {U U' U'' : Nat → Prop} {a b c : World} (h : Gone U a U' b) (h' : Gone U' b U'' c) : Gone U a U'' c :=
 ⟨h.fr.trans h'.fr (fun k hk e => by rcases h.gr k e with h1 | h1; exact h1; omega), h.gr.trans h'.gr h.fr.size⟩
theorem Gone.nextNo {U U' : Nat → Prop} {a b c : World} (h : Gone U a U' b) (h' : Fr No b c) : Gone U a U' c := h.trans (Gone.no h')
theorem Gone.keep {U U' : Nat → Prop} {w w' : World} (h : Gone U w U' w') {b : Nat} {o : Obj} (hb : w.heap[b]? = some o) (hn : ¬ U b) : w'.heap[b]? = some o ∧ ¬ U' b :=
 ⟨h.fr.keep hb hn, fun e => by rcases h.gr b e with h1 | h1; exact hn h1; have := lt_of_block hb; omega⟩
theorem gone_turn {w w' : World} {ρ : Nat → Option Pt} {p : Pt} {T : Nat → Prop} (t : Trn w w' ρ p T) : Gone (Go.Lig.Own ρ) w (Go.Lig.Own (turn ρ p T)) w' :=
 ⟨t.fr.mono (fun b _ hb => at_own b hb), own_turn t.gr⟩
theorem gone_imm {w w' : World} {ρ : Nat → Option Pt} {J : Nat → Prop} (hf : Fr No w w') (hJ : ∀ b, J b → w.heap.size ≤ b ∧ b < w'.heap.size) : Gone (Go.Lig.Own ρ) w (Go.Lig.Own (turn ρ .imm (fun b => At ρ .imm b ∨ J b))) w' :=
 ⟨hf.mono (fun _ _ e => e.elim), own_turn (fun b hb => hb.imp id (fun e => (hJ b e).1))⟩
end Go.Proofs.YthadcdoepoglkaaGreatDoor
namespace Go.Lig
open Go.RowKit
section
variable {P : Program} {ops : Array Oper} {Q : Exit → Act → World → Prop} {S : World → Prop} {i : Nat}
theorem sched_callL {a : Act} {w : World} {o : Oper} {rest : List (Bool × Nat × Oper)} (hgd : Region.wanted o (yielded ops a.tmps) = true) (f : FuncId) (vs : Array Value)
  (hrun : (execOp a.eval o).run P w = .ok (.enter f vs) w) {R} (hc : Calls P f vs w R)
  (h : ∀ e w', R e w' → ∃ v, e = .returned v ∧ wpSched P ops Q S i rest (a.put o.dst v) w') : wpSched P ops Q S i ((true, i, o) :: rest) a w := by
 refine sched_loud ?_
 unfold wpList
 rw [if_pos hgd]
 refine .inl ?_
 unfold Oper.wp
 rw [hrun]
 refine hc.mono fun e w' hR => ?_
 obtain ⟨v, rfl, hk⟩ := h e w' hR
 exact sched_last hk
end
end Go.Lig
namespace Go.Proofs.YthadcdoepoglkaaGreatDoor
open Go.RowKit Go.Lig
def Turns (w : World) (ρ : Nat → Option Pt) (s : Nat) (M' : PSt) (F' : Nat) (w' : World) : Prop := ∃ ρ' A', StAt w' ρ' s A' M' F' ∧ Gone (Go.Lig.Own ρ) w (Go.Lig.Own ρ') w'
def TurnsA (w : World) (ρ : Nat → Option Pt) (s : Nat) (A : Ad) (M' : PSt) (F' : Nat) (w' : World) : Prop := ∃ ρ', StAt w' ρ' s A M' F' ∧ Gone (Go.Lig.Own ρ) w (Go.Lig.Own ρ') w'
section
variable {w w' : World} {ρ : Nat → Option Pt} {s : Nat} {A : Ad} {M : PSt} {F : Nat}
theorem TurnsA.turns {M' : PSt} {F' : Nat} (h : TurnsA w ρ s A M' F' w') : Turns w ρ s M' F' w' := by
 obtain ⟨ρ', h1, h2⟩ := h
 exact ⟨ρ', A, h1, h2⟩
theorem TurnsA.trans {w1 w2 : World} {ρ1 : Nat → Option Pt} {M1 : PSt} {F1 : Nat} (g : Gone (Go.Lig.Own ρ) w (Go.Lig.Own ρ1) w1) (t : TurnsA w1 ρ1 s A M1 F1 w2) : TurnsA w ρ s A M1 F1 w2 := by
 obtain ⟨ρ2, h1, h2⟩ := t
 exact ⟨ρ2, h1, g.trans h2⟩
theorem StAt.heap (h : StAt w ρ s A M F) : w.heap[s]? = some (.cells (rootCells A) 84 (0, 0)) := (h.at_ .root).2
theorem StAt.root (h : StAt w ρ s A M F) : At ρ .root s := (h.at_ .root).1
theorem StAt.cells (h : StAt w ρ s A M F) : w.cell? ⟨s, 0, none⟩ = some (.pointer (some ⟨A.c, 0, none⟩)) ∧ w.cell? ⟨s, 1, none⟩ = some A.nv ∧ w.cell? ⟨s, 2, none⟩ = some A.dv ∧ w.cell? ⟨s, 3, none⟩ = some A.fv ∧ w.cell? ⟨s, 4, none⟩ = some (.pointer (some ⟨A.o, 0, none⟩)) ∧ w.cell? ⟨s, 5, none⟩ = some (.pointer (some ⟨A.i, 0, none⟩)) ∧ w.cell? ⟨s, 6, none⟩ = some (.map (some A.m)) ∧ w.cell? ⟨s, 7, none⟩ = some A.ev := by
 have := cellOf h.heap
 exact ⟨this 0, this 1, this 2, this 3, this 4, this 5, this 6, this 7⟩
theorem StAt.lt (h : StAt w ρ s A M F) : s < w.heap.size := lt_of_block h.heap
theorem StAt.clock (h : StAt w ρ s A M F) : ClockAt w (At ρ .clock) A.c M.K := (h.at_ .clock).1
theorem StAt.ncell (h : StAt w ρ s A M F) {i : Nat} {L : List (Ver NodeD)} (hL : M.N[i]? = some L) : NCell w (At ρ (.node i)) (At ρ .imm) (A.x i) L := (h.at_ (.node i) L hL).1
theorem StAt.ecell (h : StAt w ρ s A M F) {i : Nat} {L : List (Ver EdgeV)} (hL : M.E[i]? = some L) : Ec.CellAt w (At ρ (.edge i)) (A.z i) L := (h.at_ (.edge i) L hL).1
theorem StAt.nlen (h : StAt w ρ s A M F) : M.N.length ≤ 1000 := (h.at_ .nrow).2.2
theorem StAt.elen (h : StAt w ρ s A M F) : M.E.length ≤ 1000 := (h.at_ .edrow).2.2
theorem StAt.rho {b : Nat} {p : Pt} (h : StAt w ρ s A M F) (hb : At ρ p b) : b < w.heap.size := h.bound b (by rw [show ρ b = _ from hb]; simp)
theorem StAt.clock_ {K' : Ck} {T : Nat → Prop} {F' : Nat} (h : StAt w ρ s A M F) (k : ClockAt w' T A.c K') (f : Fr (At ρ .clock) w w') (g : Grown w (At ρ .clock) T) (hF : F ≤ F') (h1 : K'.l.length ≤ F') (h2 : K'.commits ≤ (F' : Int)) : TurnsA w ρ s A { M with K := K' } F' w' := by
 have t : Trn w w' ρ .clock T := ⟨f, g, k.bound⟩
 refine ⟨_, (h.more hF).upd t (by simp) ⟨k, h1, h2⟩ (fun q hq R hr => ?_), gone_turn t⟩
 cases q <;> first | exact hr | exact absurd rfl hq
end
theorem islive_any (w : World) (ρ : Nat → Option Pt) (s : Nat) (A : Ad) (M : PSt) (F : Nat) (h : StAt w ρ s A M F) (t : Int) :
  Calls Tryz.prog 51 #[.pointer (some ⟨s, 0, none⟩), .int .i64 t] w fun e w' => e = .returned (.bool (M.K.live t)) ∧ w = w' := by
 obtain ⟨g, hr, -⟩ := h.clock.row
 have HL := hid (live_any w A.c g M.K hr h.clock.small.1 t)
 obtain ⟨x0, -⟩ := h.cells
 generalize M.K.live t = b at *
 clear h hr
 go_enter Tryz.func51, Tryz.ntmps51
 go_wp2_with (go_at_call 78; refine HL.out.mono ?_; rintro e w1 ⟨rfl, rfl⟩)
 go_ret
 exact ⟨rfl, rfl⟩
def ndP (A : Ad) (M : PSt) (id : Int) : Option Addr := if 1 ≤ id ∧ id ≤ (M.N.length : Int) then some ⟨A.x (id - 1).toNat, 0, none⟩ else none
def edP (A : Ad) (M : PSt) (id : Int) : Option Addr := if 1 ≤ id ∧ id ≤ (M.E.length : Int) then some ⟨A.z (id - 1).toNat, 0, none⟩ else none
theorem ndP_some (A : Ad) (M : PSt) (k : Nat) (hk : k < M.N.length) : ndP A M ((k : Int) + 1) = some ⟨A.x k, 0, none⟩ := by
 unfold ndP
 rw [if_pos (by omega), show ((k : Int) + 1 - 1).toNat = k by omega]
theorem edP_some (A : Ad) (M : PSt) (k : Nat) (hk : k < M.E.length) : edP A M ((k : Int) + 1) = some ⟨A.z k, 0, none⟩ := by
 unfold edP
 rw [if_pos (by omega), show ((k : Int) + 1 - 1).toNat = k by omega]
theorem node_any (w : World) (ρ : Nat → Option Pt) (s : Nat) (A : Ad) (M : PSt) (F : Nat) (h : StAt w ρ s A M F) (id : Int) :
  Calls Tryz.prog 100 #[.pointer (some ⟨s, 0, none⟩), .int .i64 id] w fun e w' => e = .returned (.pointer (ndP A M id)) ∧ w = w' := by
 have x1 := h.cells.2.1
 have hrow := (h.at_ .nrow).1
 obtain ⟨a, cap, hnv⟩ := ownsRow_slice hrow
 rw [hnv] at x1 hrow
 have hsm := h.nlen
 by_cases hv : 1 ≤ id ∧ id ≤ (M.N.length : Int)
 ·have hp : ndP A M id = some ⟨A.x (id - 1).toNat, 0, none⟩ := if_pos hv
  rw [hp]
  obtain ⟨k, hk⟩ : ∃ k : Nat, id = (k : Int) + 1 := ⟨(id - 1).toNat, by omega⟩
  subst hk
  have hkt : ((k : Int) + 1 - 1).toNat = k := by omega
  rw [hkt]
  have hkl : k < M.N.length := by omega
  obtain ⟨g, cur, rfl, -, -⟩ := owns_at hrow (by omega)
  have hc := owns_cell hrow rfl (ptrs_get A.x M.N.length k hkl)
  have n1 : ¬ (k : Int) + 1 < 1 := by omega
  have n2 : ¬ (M.N.length : Int) < (k : Int) + 1 := by omega
  generalize A.x k = xb at *
  generalize M.N.length = n at *
  clear h hrow hp hv hnv
  go_enter Tryz.func100, Tryz.ntmps100
  go_wp2
  go_ret
  exact ⟨rfl, rfl⟩
 ·have hp : ndP A M id = none := if_neg hv
  rw [hp]
  generalize M.N.length = n at *
  clear h hp hnv hrow
  by_cases h1 : id < 1
  ·clear hv
   go_enter Tryz.func100, Tryz.ntmps100
   go_wp2
   go_ret
   exact ⟨rfl, rfl⟩
  ·have h2 : (n : Int) < id := by omega
   clear hv
   go_enter Tryz.func100, Tryz.ntmps100
   go_wp2
   go_ret
   exact ⟨rfl, rfl⟩
theorem edge_any (w : World) (ρ : Nat → Option Pt) (s : Nat) (A : Ad) (M : PSt) (F : Nat) (h : StAt w ρ s A M F) (id : Int) :
  Calls Tryz.prog 106 #[.pointer (some ⟨s, 0, none⟩), .int .i64 id] w fun e w' => e = .returned (.pointer (edP A M id)) ∧ w = w' := by
 have x1 := h.cells.2.2.1
 have hrow := (h.at_ .edrow).1
 obtain ⟨a, cap, hnv⟩ := ownsRow_slice hrow
 rw [hnv] at x1 hrow
 have hsm := h.elen
 by_cases hv : 1 ≤ id ∧ id ≤ (M.E.length : Int)
 ·have hp : edP A M id = some ⟨A.z (id - 1).toNat, 0, none⟩ := if_pos hv
  rw [hp]
  obtain ⟨k, hk⟩ : ∃ k : Nat, id = (k : Int) + 1 := ⟨(id - 1).toNat, by omega⟩
  subst hk
  have hkt : ((k : Int) + 1 - 1).toNat = k := by omega
  rw [hkt]
  have hkl : k < M.E.length := by omega
  obtain ⟨g, cur, rfl, -, -⟩ := owns_at hrow (by omega)
  have hc := owns_cell hrow rfl (ptrs_get A.z M.E.length k hkl)
  have n1 : ¬ (k : Int) + 1 < 1 := by omega
  have n2 : ¬ (M.E.length : Int) < (k : Int) + 1 := by omega
  generalize A.z k = xb at *
  generalize M.E.length = n at *
  clear h hrow hp hv hnv
  go_enter Tryz.func106, Tryz.ntmps106
  go_wp2
  go_ret
  exact ⟨rfl, rfl⟩
 ·have hp : edP A M id = none := if_neg hv
  rw [hp]
  generalize M.E.length = n at *
  clear h hp hnv hrow
  by_cases h1 : id < 1
  ·clear hv
   go_enter Tryz.func106, Tryz.ntmps106
   go_wp2
   go_ret
   exact ⟨rfl, rfl⟩
  ·have h2 : (n : Int) < id := by omega
   clear hv
   go_enter Tryz.func106, Tryz.ntmps106
   go_wp2
   go_ret
   exact ⟨rfl, rfl⟩
theorem stbegin_any (w : World) (ρ : Nat → Option Pt) (s : Nat) (A : Ad) (M : PSt) (F : Nat) (h : StAt w ρ s A M F) (hc : M.K.count < 4) (hs : F < 1000000) :
  Calls Tryz.prog 20 #[.pointer (some ⟨s, 0, none⟩)] w fun e w' => e = .returned (.tuple #[.int .i64 ((M.K.l.length + 1 : Nat) : Int), .int .i64 0]) ∧ TurnsA w ρ s A { M with K := M.K.begins } (F + 1) w' := by
 have hF := (h.at_ .clock).2
 have HC := hid (begin_ok w (At ρ .clock) A.c M.K h.clock hc (by omega))
 obtain ⟨x0, -⟩ := h.cells
 have HH := hid (⟨h, hF⟩ : _ ∧ _)
 clear h hc hs hF
 go_enter Tryz.func20, Tryz.ntmps20
 go_wp2_with (go_at_call 50; refine HC.out.mono ?_; rintro e w1 ⟨rfl, T', k1, f1, g1⟩; have H1 := hid (⟨k1, f1, g1⟩ : _ ∧ _ ∧ _); clear k1 f1 g1)
 go_ret2
 obtain ⟨k1, f1, g1⟩ := H1.out
 obtain ⟨h, h1, h2⟩ := HH.out
 exact ⟨rfl, h.clock_ k1 f1 g1 (Nat.le_succ _) (by simp [Ck.begins]; omega) (by simp [Ck.begins]; omega)⟩
theorem ck_commit_len (K : Ck) (t : Int) : (K.commit t).l.length = K.l.length := by
 unfold Ck.commit
 split <;> simp [Ck.put]
theorem ck_abort_len (K : Ck) (t : Int) : (K.abort t).l.length = K.l.length := by
 unfold Ck.abort
 split <;> simp [Ck.put]
theorem ck_commit_commits (K : Ck) (t : Int) : (K.commit t).commits ≤ K.commits + 1 := by
 unfold Ck.commit
 split
 ·exact Int.le_refl _
 ·omega
theorem ck_abort_commits (K : Ck) (t : Int) : (K.abort t).commits = K.commits := by
 unfold Ck.abort
 split <;> simp [Ck.put]
theorem stcommit_any (w : World) (ρ : Nat → Option Pt) (s : Nat) (A : Ad) (M : PSt) (F : Nat) (h : StAt w ρ s A M F) (t : Int) (hl : M.K.live t = true) (hs : F < 1000000) :
  Calls Tryz.prog 12 #[.pointer (some ⟨s, 0, none⟩), .int .i64 t] w fun e w' => e = .returned (.int .i64 0) ∧ TurnsA w ρ s A { M with K := M.K.commit t } (F + 1) w' := by
 have hF := (h.at_ .clock).2
 have HC := hid (commit_ok w (At ρ .clock) A.c M.K h.clock t hl (by omega))
 obtain ⟨x0, -⟩ := h.cells
 have HH := hid (⟨h, hF⟩ : _ ∧ _)
 clear h hl hs hF
 go_enter Tryz.func12, Tryz.ntmps12
 go_wp2_with (go_at_call 36; refine HC.out.mono ?_; rintro e w1 ⟨rfl, k1, f1⟩; have H1 := hid (⟨k1, f1⟩ : _ ∧ _); clear k1 f1)
 go_ret
 obtain ⟨k1, f1⟩ := H1.out
 obtain ⟨h, h1, h2⟩ := HH.out
 exact ⟨rfl, h.clock_ k1 f1 (Grown.refl _ _) (Nat.le_succ _) (by rw [ck_commit_len]; omega) (by have := ck_commit_commits M.K t; omega)⟩
theorem stcommit_no (w : World) (ρ : Nat → Option Pt) (s : Nat) (A : Ad) (M : PSt) (F : Nat) (h : StAt w ρ s A M F) (t : Int) (hl : M.K.live t = false) :
  Calls Tryz.prog 12 #[.pointer (some ⟨s, 0, none⟩), .int .i64 t] w fun e w' => e = .returned (.int .i64 5) ∧ w = w' := by
 have HC := hid (commit_no w (At ρ .clock) A.c M.K h.clock t hl)
 obtain ⟨x0, -⟩ := h.cells
 clear h hl
 go_enter Tryz.func12, Tryz.ntmps12
 go_wp2_with (go_at_call 36; refine HC.out.mono ?_; rintro e w1 ⟨rfl, rfl⟩)
 go_ret
 exact ⟨rfl, rfl⟩
end Go.Proofs.YthadcdoepoglkaaGreatDoor
