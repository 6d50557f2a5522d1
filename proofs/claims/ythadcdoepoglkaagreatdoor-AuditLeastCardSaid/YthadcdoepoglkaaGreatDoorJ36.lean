/- A part of the proof: contracts of functions of the program, for the row's text. -/
import Derived.Test.YthadcdoepoglkaaGreatDoorJ15
import Derived.Test.YthadcdoepoglkaaGreatDoorJ34
import Derived.Test.YthadcdoepoglkaaGreatDoorJ29
import Derived.Test.YthadcdoepoglkaaGreatDoorJ35
import Derived.Test.YthadcdoepoglkaaGreatDoorJ24
import Derived.Test.YthadcdoepoglkaaGreatDoorJ22
namespace Go.Proofs.YthadcdoepoglkaaGreatDoor
open Go.RowKit Go.Lig
theorem wpList_mraw {P : Program} {ops : Array Oper} {rest : List Oper} {o : Oper} {a : Act} {w : World} {Q : Exit → Act → World → Prop} (hgd : o.guard = none) (t : TypeId) (ho : o.op = .makeMap t none)
  (hQ : wpList P ops Q rest (a.put o.dst (.map (some w.heap.size))) (w.alloc (.map #[] 0))) : wpList P ops Q (o :: rest) a w :=
 wpList_run hgd (v := .map (some w.heap.size)) (w' := w.alloc (.map #[] 0)) (by
  have hr : (Instr.makeMap t none).run P w = .ok (.map (some w.heap.size)) (w.alloc (.map #[] 0)) := rfl
  simp [execOp, ho, hr, Result.andThen]) hQ
def newPt (s c m : Nat) (r r' : Nat → Option Role) (b : Nat) : Option Pt :=
 if b = s then some .root else if b = c then some .clock else if b = m then some .index else if (r b).isSome then some .out else if (r' b).isSome then some .inn else none
theorem newPt_clock {s c m : Nat} {r r' : Nat → Option Role} (h : c ≠ s) : At (newPt s c m r r') .clock = fun b => b = c := by
 funext b
 refine propext ⟨fun e => ?_, fun e => ?_⟩
 ·unfold At newPt at e
  by_cases h1 : b = s
  ·simp [h1] at e
  ·by_cases h2 : b = c
   ·exact h2
   ·exfalso
    rw [if_neg h1, if_neg h2] at e
    split at e
    ·cases e
    ·split at e
     ·cases e
     ·split at e <;> cases e
 ·subst e
  simp [At, newPt, h]
theorem newPt_some {s c m : Nat} {r r' : Nat → Option Role} {b : Nat} (h : newPt s c m r r' b ≠ none) : b = s ∨ b = c ∨ b = m ∨ r b ≠ none ∨ r' b ≠ none := by
 unfold newPt at h
 by_cases h1 : b = s
 ·exact .inl h1
 ·by_cases h2 : b = c
  ·exact .inr (.inl h2)
  ·by_cases h3 : b = m
   ·exact .inr (.inr (.inl h3))
   ·rw [if_neg h1, if_neg h2, if_neg h3] at h
    by_cases h4 : (r b).isSome
    ·exact .inr (.inr (.inr (.inl (by intro e; rw [e] at h4; cases h4))))
    ·rw [if_neg h4] at h
     by_cases h5 : (r' b).isSome
     ·exact .inr (.inr (.inr (.inr (by intro e; rw [e] at h5; cases h5))))
     ·rw [if_neg h5] at h
      exact absurd rfl h
def emptyM : PSt := ⟨⟨[], 0⟩, [], [], [], [], [], [], []⟩
theorem stnew_any (w : World) : Calls Tryz.prog 33 #[] w fun e w' => ∃ s ρ A, e = .returned (.pointer (some ⟨s, 0, none⟩)) ∧ StAt w' ρ s A emptyM 0 ∧ Fr No w w' ∧ ∀ b, ρ b ≠ none → w.heap.size ≤ b := by
 go_enter Tryz.func33, Tryz.ntmps33
 go_wp2_with fail
 refine (clknew_any _).mono ?_
 rintro e w1 ⟨c, rfl, k1, f1, n1⟩
 have H1 := hid (⟨k1, f1, n1⟩ : _ ∧ _ ∧ _)
 clear k1 f1 n1
 go_wp2_with fail
 refine (chnew_any _).mono ?_
 rintro e w2 ⟨o, B, r, rfl, k2, f2, n2⟩
 have H2 := hid (⟨k2, f2, n2⟩ : _ ∧ _ ∧ _)
 clear k2 f2 n2
 go_wp2_with fail
 refine (chnew_any _).mono ?_
 rintro e w3 ⟨i, B', r', rfl, k3, f3, n3⟩
 have H3 := hid (⟨k3, f3, n3⟩ : _ ∧ _ ∧ _)
 clear k3 f3 n3
 go_wp2_with (refine wpList_mraw rfl 81 rfl ?_)
 go_ret
 have hfa : Fr No w3 (w3.alloc (.map #[] 0)) := (Fr.refl No w3).alloc _
 obtain ⟨k1, f1, n1⟩ := H1.out
 obtain ⟨k2, f2, n2⟩ := H2.out
 obtain ⟨k3, f3, n3⟩ := H3.out
 have b1 := k1.bound c rfl
 have z1 := f1.size
 have z2 := f2.size
 have z3 := f3.size
 have hb2 := k2.bound
 have hb3 := k3.bound
 have hout : ∀ b, r b ≠ none → At (newPt (w3.heap.size + 1) c w3.heap.size r r') .out b := fun b hb => by
  have h1 := hb2 b hb
  have h2 := n2 b hb
  have h4 : (r b).isSome = true := by cases e : r b with | none => exact absurd e hb | some _ => rfl
  show newPt _ _ _ _ _ _ = _
  unfold newPt
  rw [if_neg (by omega), if_neg (by omega), if_neg (by omega), if_pos h4]
 have hinn : ∀ b, r' b ≠ none → At (newPt (w3.heap.size + 1) c w3.heap.size r r') .inn b := fun b hb => by
  have h1 := hb3 b hb
  have h2 := n3 b hb
  have h4 : (r' b).isSome = true := by cases e : r' b with | none => exact absurd e hb | some _ => rfl
  have h5 : ¬ (r b).isSome = true := fun e => by
   have h6 : r b ≠ none := by intro e'; rw [e'] at e; cases e
   have := hb2 b h6
   omega
  show newPt _ _ _ _ _ _ = _
  unfold newPt
  rw [if_neg (by omega), if_neg (by omega), if_neg (by omega), if_neg h5, if_pos h4]
 have hidx : At (newPt (w3.heap.size + 1) c w3.heap.size r r') .index w3.heap.size := by
  show newPt _ _ w3.heap.size _ _ w3.heap.size = _
  unfold newPt
  rw [if_neg (by omega), if_neg (by omega), if_pos rfl]
 have hsz : ((w3.alloc (.map #[] 0)).alloc (.cells #[.pointer (some ⟨c, 0, none⟩), .slice none 0 0, .slice none 0 0, .slice none 0 0, .pointer (some ⟨o, 0, none⟩), .pointer (some ⟨i, 0, none⟩), .map (some w3.heap.size), .slice none 0 0] 84)).heap.size = w3.heap.size + 2 := by simp
 refine ⟨_, newPt (w3.heap.size + 1) c w3.heap.size r r', ⟨c, o, i, w3.heap.size, .slice none 0 0, .slice none 0 0, .slice none 0 0, .slice none 0 0, fun _ => 0, fun _ => 0⟩, rfl, ⟨fun b hb => ?_, fun q => ?_⟩, ((f1.thenNo f2).thenNo f3).thenNo (hfa.alloc _), ?_⟩
 ·simp only [hp_alloc, Array.size_push]
  rcases newPt_some hb with h1 | h1 | h1 | h1 | h1
  ·omega
  ·omega
  ·omega
  ·have := hb2 b h1; omega
  ·have := hb3 b h1; omega
 ·cases q with
  | root => exact ⟨by simp [At, newPt], (heap2 w3 _ _).2⟩
  | clock =>
   rw [newPt_clock (by omega)]
   exact ⟨k1.frame ((f2.thenNo f3).thenNo (hfa.alloc _)) (fun _ _ e => e), Nat.le_refl _, Int.le_refl _⟩
  | nrow => exact ⟨World.ownsRow_nil _ _ _ _, (fun k e => by cases e), Nat.zero_le _⟩
  | edrow => exact ⟨World.ownsRow_nil _ _ _ _, (fun k e => by cases e), Nat.zero_le _⟩
  | erow => exact ⟨⟨⟨[], rfl, World.ownsRow_nil _ _ _ _, fun i hv l e => by simp at e⟩, fun k e => (by cases e), fun l hl => (by cases hl)⟩, rfl⟩
  | enrow => exact ⟨World.ownsRow_nil _ _ _ _, (fun k e => by cases e), rfl, fun p hp => by cases hp⟩
  | out => exact ⟨⟨B, r, 0, k2.frame (f3.thenNo (hfa.alloc _)) (fun _ _ e => e), hout, Nat.le_refl _⟩, Nat.le_refl _⟩
  | inn => exact ⟨⟨B', r', 0, k3.frame (hfa.alloc _) (fun _ _ e => e), hinn, Nat.le_refl _⟩, Nat.le_refl _⟩
  | index =>
   refine ⟨⟨fun b => if b = w3.heap.size then some .mp else none, fun _ => 0, by simp [At], ?_, fun j key l e => by simp [emptyM] at e, fun b hb => ?_⟩, fun p hp => by cases hp⟩
   ·exact (MapS.made w3 Tryz.prog 9).frame ((Fr.refl No _).alloc _) (fun e => e)
   ·by_cases e : b = w3.heap.size
    ·subst e
     exact ⟨hidx, by rw [hsz]; omega⟩
    ·simp [e] at hb
  | imm => trivial
  | node i => exact fun L hL => by simp [emptyM] at hL
  | edge i => exact fun L hL => by simp [emptyM] at hL
 ·intro b hb
  rcases newPt_some hb with h1 | h1 | h1 | h1 | h1
  ·omega
  ·omega
  ·omega
  ·have := n2 b h1; omega
  ·have := n3 b h1; omega
end Go.Proofs.YthadcdoepoglkaaGreatDoor
namespace Go.Proofs.YthadcdoepoglkaaGreatDoor
open Go.RowKit Go.Lig
abbrev PF := PSt × Nat
def finF (M : PSt) (k F : Nat) : Nat := F + (M.Y[k]?.getD []).length + 2 * costV (M.N[k]?.getD [])
theorem finds_go {M : PSt} {k F : Nat} (h1 : k < M.Y.length) (h2 : k < M.N.length) (h3 : finF M k F < 999990) : FindsTo M (findsM M k) F (finF M k F) k := by
 have e1 : M.Y[k]? = some M.Y[k] := List.getElem?_eq_getElem h1
 have e2 : M.N[k]? = some M.N[k] := List.getElem?_eq_getElem h2
 unfold finF at h3 ⊢
 rw [e1, e2] at h3 ⊢
 exact finds_any (k := k) _ e1 _ e2 F h3
def exPut (p : PF) (t : Int) (k : Nat) (d : NodeD) (g : Bool) : PF := (findsM (putM p.1 t k d g) k, finF (putM p.1 t k d g) k (p.2 + 1))
def okPut (p : PF) (t : Int) (k : Nat) (d : NodeD) (g : Bool) : Bool := decide (k < p.1.N.length) && decide (k < p.1.Y.length) && decide (finF (putM p.1 t k d g) k (p.2 + 1) < 999990)
theorem okPut_iff {p : PF} {t : Int} {k : Nat} {d : NodeD} {g : Bool} (h : okPut p t k d g = true) : k < p.1.N.length ∧ p.2 + 1 < 999990 ∧ FindsTo (putM p.1 t k d g) (exPut p t k d g).1 (p.2 + 1) (exPut p t k d g).2 k := by
 unfold okPut at h
 simp only [Bool.and_eq_true, decide_eq_true_eq] at h
 obtain ⟨⟨h1, h2⟩, h3⟩ := h
 exact ⟨h1, by unfold finF at h3; omega, finds_go (by simpa [putM] using h2) (by simpa [putM] using h1) h3⟩
def exTouch1 (t : Int) (p : PF) (id : Int) : PF := match readN p.1 t id with
 | none => p
 | some d => exPut p t (id - 1).toNat d false
def exTouch (t : Int) (p : PF) (l : List Int) : PF := l.foldl (exTouch1 t) p
def okTouch (t : Int) : PF → List Int → Bool
 | _, [] => true
 | p, id :: l => (match readN p.1 t id with
  | none => true
  | some d => okPut p t (id - 1).toNat d false) && okTouch t (exTouch1 t p id) l
theorem readN_pos {M : PSt} {t id : Int} {d : NodeD} (h : readN M t id = some d) : 1 ≤ id ∧ id ≤ (M.N.length : Int) := by
 unfold readN at h
 split at h
 ·assumption
 ·cases h
theorem touch_of {t : Int} : ∀ (l : List Int) (p : PF), okTouch t p l = true → TouchTo t (exTouch t p l).1 (exTouch t p l).2 p.1 p.2 l
 | [], p, _ => TouchTo.nil
 | id :: l, p, h => by
  unfold okTouch at h
  rw [Bool.and_eq_true] at h
  have ih := touch_of l (exTouch1 t p id) h.2
  show TouchTo t (exTouch t (exTouch1 t p id) l).1 _ p.1 p.2 (id :: l)
  cases hr : readN p.1 t id with
  | none =>
   have e : exTouch1 t p id = p := by unfold exTouch1; rw [hr]
   rw [e] at ih ⊢
   refine TouchTo.skip hr ?_
   have : exTouch t p (id :: l) = exTouch t p l := by unfold exTouch; rw [List.foldl_cons, e]
   rw [this]
   exact ih
  | some d =>
   have h1 := h.1
   rw [hr] at h1
   have e : exTouch1 t p id = exPut p t (id - 1).toNat d false := by unfold exTouch1; rw [hr]
   obtain ⟨k1, k2, k3⟩ := okPut_iff h1
   have hp := readN_pos hr
   have hid : id = ((id - 1).toNat : Int) + 1 := by omega
   have ex2 : exTouch t p (id :: l) = exTouch t (exTouch1 t p id) l := by unfold exTouch; rw [List.foldl_cons]
   rw [ex2]
   generalize hk : (id - 1).toNat = k at *
   subst hid
   refine TouchTo.put k1 hr (by omega) k3 ?_
   rw [← e]
   exact ih
def exUndo1 (t : Int) (p : PF) (i : Nat) : PF := (findsM (undoNM p.1 t i) i, finF (undoNM p.1 t i) i p.2)
def exUndo (t : Int) : Nat → Nat → PF → PF
 | 0, _, p => p
 | n + 1, i, p => exUndo t n (i + 1) (exUndo1 t p i)
def okUndo (t : Int) : Nat → Nat → PF → Bool
 | 0, _, _ => true
 | n + 1, i, p => decide (i < p.1.Y.length) && decide (finF (undoNM p.1 t i) i p.2 < 999990) && okUndo t n (i + 1) (exUndo1 t p i)
theorem findsM_N (M : PSt) (k : Nat) : (findsM M k).N = M.N := rfl
theorem findsM_E (M : PSt) (k : Nat) : (findsM M k).E = M.E := rfl
theorem undo_of {t : Int} : ∀ (n i : Nat) (p : PF), p.1.N.length = i + n → okUndo t n i p = true → UndoTo t (exUndo t n i p).1 (exUndo t n i p).2 p.1 p.2 i ∧ (exUndo t n i p).1.N.length = p.1.N.length ∧ (exUndo t n i p).1.E = p.1.E
 | 0, i, p, hl, _ => ⟨UndoTo.done (by show p.1.N.length ≤ i; omega), rfl, rfl⟩
 | n + 1, i, p, hl, h => by
  unfold okUndo at h
  simp only [Bool.and_eq_true, decide_eq_true_eq] at h
  have hN : (exUndo1 t p i).1.N.length = p.1.N.length := by simp [exUndo1, findsM_N, undoNM]
  have hE : (exUndo1 t p i).1.E = p.1.E := by simp [exUndo1, findsM_E, undoNM]
  obtain ⟨h1, h2, h3⟩ := undo_of n (i + 1) (exUndo1 t p i) (by omega) h.2
  refine ⟨UndoTo.step (by omega) (finds_go (by simpa [undoNM] using h.1.1) (by simp [undoNM]; omega) h.1.2) h1, ?_, ?_⟩
  ·show (exUndo t n (i + 1) (exUndo1 t p i)).1.N.length = _
   omega
  ·show (exUndo t n (i + 1) (exUndo1 t p i)).1.E = _
   rw [h3, hE]
def exAb0 (p : PF) (t : Int) : PF := exUndo t p.1.N.length 0 ({ p.1 with K := p.1.K.abort t }, p.2)
def exAbort (p : PF) (t : Int) : PF := (undoEs t (exAb0 p t).1 (exAb0 p t).1.E.length, (exAb0 p t).2 + 2 * (exAb0 p t).1.E.length)
def okAbort (p : PF) (t : Int) : Bool := okUndo t p.1.N.length 0 ({ p.1 with K := p.1.K.abort t }, p.2) && decide ((exAb0 p t).2 + 3000 < 1000000)
theorem okAbort_iff {p : PF} {t : Int} (h : okAbort p t = true) : UndoTo t (exAb0 p t).1 (exAb0 p t).2 { p.1 with K := p.1.K.abort t } p.2 0 ∧ (exAb0 p t).2 + 3000 < 1000000 := by
 unfold okAbort at h
 simp only [Bool.and_eq_true, decide_eq_true_eq] at h
 exact ⟨(undo_of p.1.N.length 0 ({ p.1 with K := p.1.K.abort t }, p.2) (by simp) h.1).1, h.2⟩
def opBegin (p : PF) : (Int × Int) × PF := if p.1.K.count < 4 then (((p.1.K.l.length + 1 : Nat), 0), ({ p.1 with K := p.1.K.begins }, p.2 + 1)) else ((0, 3), p)
def opCommit (p : PF) (t : Int) : Int × PF := if p.1.K.live t then (0, ({ p.1 with K := p.1.K.commit t }, p.2 + 1)) else (5, p)
def opAddNode (p : PF) (t : Int) (b : Bool) (d : NodeD) : (Int × Int) × PF :=
 if p.1.K.live t then (if b then (if p.1.N.length < 24 then ((p.1.N.length + 1, 0), exPut (growN p.1, p.2) t p.1.N.length d false) else ((0, 3), p)) else ((0, 1), p)) else ((0, 5), p)
def rmAddNode (p : PF) (t : Int) (b : Bool) (d : NodeD) : Bool := !(p.1.K.live t && b && decide (p.1.N.length < 24)) || okPut (growN p.1, p.2) t p.1.N.length d false
def opAddEdge (p : PF) (t : Int) (b : Bool) (v : EdgeV) : (Int × Int) × PF :=
 if p.1.K.live t then (if b then (if (readN p.1 t v.from_).isSome && (readN p.1 t v.to_).isSome then (if p.1.E.length < 32 then (if mayB p.1 t 0 [v.from_, v.to_] then ((0, 6), exAbort p t) else ((p.1.E.length + 1, 0), (tieM (growE (exTouch t p [v.from_, v.to_]).1) t p.1.E.length v false, (exTouch t p [v.from_, v.to_]).2 + 3))) else ((0, 3), p)) else ((0, 4), p)) else ((0, 1), p)) else ((0, 5), p)
def rmAddEdge (p : PF) (t : Int) (b : Bool) (v : EdgeV) : Bool := !(p.1.K.live t && b && (readN p.1 t v.from_).isSome && (readN p.1 t v.to_).isSome && decide (p.1.E.length < 32)) || (if mayB p.1 t 0 [v.from_, v.to_] then okAbort p t else okTouch t p [v.from_, v.to_] && decide ((exTouch t p [v.from_, v.to_]).2 + 1 < 1000000))
end Go.Proofs.YthadcdoepoglkaaGreatDoor
namespace Go.Lig
open Go.RowKit
structure WrD where
 edge : Bool
 id : Int
 gone : Bool
 n : NodeD
 e : EdgeV
structure WrV where
 edge : Bool
 id : Int
 gone : Bool
 n : NodeV
 e : EdgeV
def wrcell (h : WrV) : List Value := [.bool h.edge, .int .i64 h.id, .bool h.gone, .slice h.n.l.a h.n.l.n h.n.l.c, .slice h.n.p.a h.n.p.n h.n.p.c, .int .i64 h.e.from_, .int .i64 h.e.to_, .string h.e.type, .float .f64 h.e.w]
theorem wrcell_one {H : List WrV} : ∀ u ∈ H.flatMap wrcell, u.oneCell' = true := fun u hu => by
 obtain ⟨x, _, hx⟩ := List.mem_flatMap.1 hu
 simp only [wrcell, List.mem_cons, List.not_mem_nil, or_false] at hx
 rcases hx with rfl | rfl | rfl | rfl | rfl | rfl | rfl | rfl | rfl <;> rfl
structure WrIn (w : World) (J : Nat → Prop) (h : WrV) (d : WrD) : Prop where
 edge : h.edge = d.edge
 id : h.id = d.id
 gone : h.gone = d.gone
 e : h.e = d.e
 n : NodeIn w J (.slice h.n.l.a h.n.l.n h.n.l.c) (.slice h.n.p.a h.n.p.n h.n.p.c) d.n
theorem WrIn.frame {w w' : World} {J S : Nat → Prop} {h : WrV} {d : WrD} (v : WrIn w J h d) (hf : Fr S w w') (hd : ∀ k, J k → ¬ S k) : WrIn w' J h d := ⟨v.edge, v.id, v.gone, v.e, v.n.frame hf hd⟩
theorem WrIn.mono {w : World} {I J : Nat → Prop} {h : WrV} {d : WrD} (v : WrIn w I h d) (hj : ∀ k, I k → J k) : WrIn w J h d := ⟨v.edge, v.id, v.gone, v.e, v.n.mono hj⟩
theorem cells9 {w : World} {b : Nat} {t : TypeId} {fr : Nat × Nat} {v0 v1 v2 v3 v4 v5 v6 v7 v8 : Value} (h : w.heap[b]? = some (.cells #[v0, v1, v2, v3, v4, v5, v6, v7, v8] t fr)) :
  w.cell? ⟨b, 0, none⟩ = some v0 ∧ w.cell? ⟨b, 1, none⟩ = some v1 ∧ w.cell? ⟨b, 2, none⟩ = some v2 ∧ w.cell? ⟨b, 3, none⟩ = some v3 ∧ w.cell? ⟨b, 4, none⟩ = some v4 ∧ w.cell? ⟨b, 5, none⟩ = some v5 ∧ w.cell? ⟨b, 6, none⟩ = some v6 ∧ w.cell? ⟨b, 7, none⟩ = some v7 ∧ w.cell? ⟨b, 8, none⟩ = some v8 := by
 have := cellOf h
 exact ⟨this 0, this 1, this 2, this 3, this 4, this 5, this 6, this 7, this 8⟩
end Go.Lig
namespace Go.Proofs.YthadcdoepoglkaaGreatDoor
open Go.RowKit Go.Lig
structure WrsH (w0 w : World) (v : Value) (l : List WrD) (H : List WrV) (J : Nat → Prop) : Prop where
 len : H.length = l.length
 row : w.ownsRow 0 89 9 v l.length (H.flatMap wrcell)
 ins : ∀ (j : Nat) (h : WrV) (d : WrD), H[j]? = some h → l[j]? = some d → WrIn w J h d
 jb : ∀ k, J k → w0.heap.size ≤ k ∧ k < w.heap.size ∧ v.ownBlock ≠ some k
structure WrsO (w0 w : World) (v : Value) (l : List WrD) : Prop where
 ex : ∃ (H : List WrV) (J : Nat → Prop), WrsH w0 w v l H J
 blk : ∀ k, v.ownBlock = some k → w0.heap.size ≤ k
 fr : Fr No w0 w
theorem WrsO.nil (w : World) : WrsO w w (.slice none 0 0) [] := ⟨⟨[], fun _ => False, ⟨rfl, World.ownsRow_nil _ _ _ _, fun j h d e => by simp at e, fun _ h => h.elim⟩⟩, fun _ e => by (cases e), Fr.refl _ _⟩
theorem WrsO.next {w0 w w' : World} {v : Value} {l : List WrD} (h : WrsO w0 w v l) (hf : Fr No w w') : WrsO w0 w' v l := by
 obtain ⟨H, J, ⟨h1, h2, h3, h4⟩⟩ := h.ex
 exact ⟨⟨H, J, ⟨h1, fd_owns h2 hf, fun j x d e1 e2 => (h3 j x d e1 e2).frame hf (fun _ _ e => e), fun k hk => ⟨(h4 k hk).1, Nat.lt_of_lt_of_le (h4 k hk).2.1 hf.size, (h4 k hk).2.2⟩⟩⟩, h.blk, h.fr.thenNo hf⟩
theorem WrsO.ahead {w0 w1 w : World} {v : Value} {l : List WrD} (h : WrsO w1 w v l) (hf : Fr No w0 w1) : WrsO w0 w v l := by
 obtain ⟨H, J, ⟨h1, h2, h3, h4⟩⟩ := h.ex
 exact ⟨⟨H, J, ⟨h1, h2, h3, fun k hk => ⟨Nat.le_trans hf.size (h4 k hk).1, (h4 k hk).2⟩⟩⟩, fun k hk => Nat.le_trans hf.size (h.blk k hk), hf.thenNo h.fr⟩
theorem infoWr : (Tryz.prog.info? 89).map (fun i => (i.zero, i.size, i.bytes)) = some (some (.agg #[.bool false, .int .i64 0, .bool false, .slice none 0 0, .slice none 0 0, .int .i64 0, .int .i64 0, .string ⟨#[]⟩, .float .f64 0]), 9, 112) := by kernel_rfl
theorem built_wn (la pa : Option Addr) (ln lc pn pc : Nat) : Tryz.prog.built 89 [(3, .agg #[.slice la ln lc, .slice pa pn pc])] = some #[.bool false, .int .i64 0, .bool false, .slice la ln lc, .slice pa pn pc, .int .i64 0, .int .i64 0, .string ⟨#[]⟩, .float .f64 0] := by kernel_rfl
theorem built_we (ef et : Int) (ey : ByteArray) (ew : Nat) : Tryz.prog.built 89 [(4, .agg #[.int .i64 ef, .int .i64 et, .string ey, .float .f64 ew])] = some #[.bool false, .int .i64 0, .bool false, .slice none 0 0, .slice none 0 0, .int .i64 ef, .int .i64 et, .string ey, .float .f64 ew] := by kernel_rfl
set_option maxRecDepth 100000 in
theorem ofedge_any (w : World) (ef et : Int) (ey : ByteArray) (ew : Nat) : Calls Tryz.prog 89 #[.agg #[.int .i64 ef, .int .i64 et, .string ey, .float .f64 ew]] w fun e w' => e = .returned (.agg #[.bool false, .int .i64 0, .bool false, .slice none 0 0, .slice none 0 0, .int .i64 ef, .int .i64 et, .string ey, .float .f64 ew]) ∧ Fr No w w' := by
 obtain ⟨k1, k2⟩ := heap2 w (.cells #[.int .i64 ef, .int .i64 et, .string ey, .float .f64 ew] 48) (.cells #[.bool false, .int .i64 0, .bool false, .slice none 0 0, .slice none 0 0, .int .i64 0, .int .i64 0, .string ⟨#[]⟩, .float .f64 0] 89)
 have hf : Fr No w ((w.alloc (.cells #[.int .i64 ef, .int .i64 et, .string ey, .float .f64 ew] 48)).alloc (.cells #[.bool false, .int .i64 0, .bool false, .slice none 0 0, .slice none 0 0, .int .i64 0, .int .i64 0, .string ⟨#[]⟩, .float .f64 0] 89)) := ((Fr.refl No w).alloc _).alloc _
 obtain ⟨c0, c1, c2, c3⟩ := cells4 k1
 have HF := hid (⟨hf, k2⟩ : _ ∧ _)
 clear hf k1 k2
 go_enter Tryz.func89, Tryz.ntmps89
 go_wp2_with (first | (refine wpList_build' rfl 89 [(4, .tmp 3)] rfl [(4, .agg #[.int .i64 ef, .int .i64 et, .string ey, .float .f64 ew])] rfl _ (built_we ..) ?_) | (refine wpList_storeO rfl 89 (.tmp 2) (.tmp 4) rfl (w.heap.size + 1) 0 rfl [.bool false, .int .i64 0, .bool false, .slice none 0 0, .slice none 0 0, .int .i64 0, .int .i64 0, .string ⟨#[]⟩, .float .f64 0] 89 [.bool false, .int .i64 0, .bool false, .slice none 0 0, .slice none 0 0, .int .i64 ef, .int .i64 et, .string ey, .float .f64 ew] rfl (by kernel_rfl) HF.out.2 (by simp) (by simp [Value.oneCell']) ?_; intro w3 p3; have P3 := hid (show Put (w.heap.size + 1) #[.bool false, .int .i64 0, .bool false, .slice none 0 0, .slice none 0 0, .int .i64 ef, .int .i64 et, .string ey, .float .f64 ew] 89 _ w3 from p3); clear p3))
 obtain ⟨r0, r1, r2, r3, r4, r5, r6, r7, r8⟩ := cells9 P3.out.at_
 refine bodyPost_ret (v := .agg #[.bool false, .int .i64 0, .bool false, .slice none 0 0, .slice none 0 0, .int .i64 ef, .int .i64 et, .string ey, .float .f64 ew]) ?_ rfl ⟨rfl, HF.out.1.fresh' P3.out.fr (fun k e => by omega)⟩
 simp [results, Tryz.f89, go_sem, r0, r1, r2, r3, r4, r5, r6, r7, r8]
set_option maxRecDepth 100000 in
set_option maxHeartbeats 1000000 in
theorem ofnode_any (w : World) (la pa : Option Addr) (ln lc pn pc : Nat) (d : NodeD) (h : NodeOf w (.slice la ln lc) (.slice pa pn pc) d) (hl : d.L.length ≤ 1000000) (hp : d.Q.length ≤ 1000000) :
  Calls Tryz.prog 86 #[.agg #[.slice la ln lc, .slice pa pn pc]] w fun e w' => ∃ la' ln' lc' pa' pn' pc', e = .returned (.agg #[.bool false, .int .i64 0, .bool false, .slice la' ln' lc', .slice pa' pn' pc', .int .i64 0, .int .i64 0, .string ⟨#[]⟩, .float .f64 0]) ∧ OwnN w w' la' ln' lc' pa' pn' pc' d := by
 obtain ⟨k1, k2⟩ := heap2 w (.cells #[.slice la ln lc, .slice pa pn pc] 34) (.cells #[.bool false, .int .i64 0, .bool false, .slice none 0 0, .slice none 0 0, .int .i64 0, .int .i64 0, .string ⟨#[]⟩, .float .f64 0] 89)
 have hf : Fr No w ((w.alloc (.cells #[.slice la ln lc, .slice pa pn pc] 34)).alloc (.cells #[.bool false, .int .i64 0, .bool false, .slice none 0 0, .slice none 0 0, .int .i64 0, .int .i64 0, .string ⟨#[]⟩, .float .f64 0] 89)) := ((Fr.refl No w).alloc _).alloc _
 obtain ⟨c0, c1⟩ := cells2 k1
 have HC := hid (copied_any _ la pa ln lc pn pc d (h.frame hf) hl hp)
 have HF := hid (⟨hf, k2⟩ : _ ∧ _)
 have HZ := hid (lt_of_block k2)
 clear hf k1 k2 h hl hp
 go_enter Tryz.func86, Tryz.ntmps86
 go_wp2_with (first | (go_at_call 117; refine HC.out.mono ?_; rintro e w2 ⟨la', ln', lc', pa', pn', pc', rfl, o2⟩; have O2 := hid (⟨o2, o2.l.fr.keep HF.out.2 (fun e => e)⟩ : _ ∧ _); clear o2) | (refine wpList_build' rfl 89 [(3, .tmp 4)] rfl [(3, .agg #[.slice la' ln' lc', .slice pa' pn' pc'])] rfl _ (built_wn ..) ?_) | (refine wpList_storeO rfl 89 (.tmp 2) (.tmp 5) rfl (w.heap.size + 1) 0 rfl [.bool false, .int .i64 0, .bool false, .slice none 0 0, .slice none 0 0, .int .i64 0, .int .i64 0, .string ⟨#[]⟩, .float .f64 0] 89 [.bool false, .int .i64 0, .bool false, .slice la' ln' lc', .slice pa' pn' pc', .int .i64 0, .int .i64 0, .string ⟨#[]⟩, .float .f64 0] rfl (by kernel_rfl) O2.out.2 (by simp) (by simp [Value.oneCell']) ?_; intro w3 p3; have P3 := hid (show Put (w.heap.size + 1) #[.bool false, .int .i64 0, .bool false, .slice la' ln' lc', .slice pa' pn' pc', .int .i64 0, .int .i64 0, .string ⟨#[]⟩, .float .f64 0] 89 w2 w3 from p3); clear p3))
 obtain ⟨r0, r1, r2, r3, r4, r5, r6, r7, r8⟩ := cells9 P3.out.at_
 have hq : ∀ k, k = w.heap.size + 1 → w.heap.size ≤ k := fun k e => by omega
 have hne : ∀ {u : World} {sz : Nat} {e : TypeId} {v : Value} {n : Nat} {xs : List Value}, w.heap.size + 1 < u.heap.size → OwnR u w2 e sz v n xs → ∀ k, v.ownBlock = some k → ¬ k = w.heap.size + 1 := fun hu o k hk e => by have := o.blk k hk; omega
 have f2 := HF.out.1.thenNo O2.out.1.l.fr
 refine bodyPost_ret (v := .agg #[.bool false, .int .i64 0, .bool false, .slice la' ln' lc', .slice pa' pn' pc', .int .i64 0, .int .i64 0, .string ⟨#[]⟩, .float .f64 0]) ?_ rfl ⟨la', ln', lc', pa', pn', pc', rfl, ?_, ?_⟩
 ·simp [results, Tryz.f86, go_sem, r0, r1, r2, r3, r4, r5, r6, r7, r8]
 ·exact ⟨P3.out.fr.owns O2.out.1.l.row (hne HZ.out O2.out.1.l), fun j hj => Nat.le_trans HF.out.1.size (O2.out.1.l.blk j hj), f2.fresh' P3.out.fr hq⟩
 ·exact ⟨P3.out.fr.owns O2.out.1.p.row (hne HZ.out O2.out.1.p), fun j hj => Nat.le_trans HF.out.1.size (O2.out.1.p.blk j hj), f2.fresh' P3.out.fr hq⟩
end Go.Proofs.YthadcdoepoglkaaGreatDoor
