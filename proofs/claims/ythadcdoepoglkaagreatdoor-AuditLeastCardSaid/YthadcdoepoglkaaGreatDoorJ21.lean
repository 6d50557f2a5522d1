/- A part of the proof: contracts of functions of the program, for the row's text. -/
import Derived.Test.YthadcdoepoglkaaGreatDoorJ20
namespace Go.Proofs.YthadcdoepoglkaaGreatDoor
open Go.RowKit Go.Lig
theorem own_turn_or {ρ : Nat → Option Pt} {p : Pt} {T : Nat → Prop} {b : Nat} (h : Go.Lig.Own (turn ρ p T) b) : T b ∨ Go.Lig.Own ρ b := by
 unfold Go.Lig.Own turn at h
 by_cases h1 : T b
 ·exact .inl h1
 ·rw [if_neg h1] at h
  split at h
  ·exact absurd rfl h
  ·exact .inr h
def Gs (s : Nat) (va vb : Value) : Nat → Prop := fun k => k = s ∨ va.ownBlock = some k ∨ vb.ownBlock = some k
structure Grow (w w1 w7 : World) (ρ ρ' : Nat → Option Pt) (s c : Nat) (pa pb pn : Pt) (va vb v3 v6 : Value) : Prop where
 bound : ∀ b, ρ' b ≠ none → b < w7.heap.size
 other : ∀ q : Pt, q ≠ pa → q ≠ pb → q ≠ pn → At ρ' q = At ρ q
 ra : At ρ' pa = fun k => v3.ownBlock = some k
 rb : At ρ' pb = fun k => v6.ownBlock = some k
 rn : At ρ' pn = fun b => b = c
 gone : Gone (Go.Lig.Own ρ) w (Go.Lig.Own ρ') w7
 fr : Fr (Gs s va vb) w w7
 fr1 : Fr (Gs s va vb) w1 w7
 nc : ¬ Gs s va vb c
 apart : ∀ q : Pt, q ≠ .root → q ≠ pa → q ≠ pb → ∀ b, At ρ q b → ¬ Gs s va vb b
theorem grow_raw {w w1 w2 w3 w4 w5 w6 w7 : World} {ρ : Nat → Option Pt} {s : Nat} {A : Ad} {M : PSt} {F : Nat} (h : StAt w ρ s A M F) (hroot : At ρ .root s) (pa pb pn : Pt) (h1 : pa ≠ .root) (h2 : pb ≠ .root) (h4 : pa ≠ pb) (h5 : pn ≠ pa) (h6 : pn ≠ pb)
  {va vb v3 v6 : Value} (hva : ∀ k, va.ownBlock = some k → At ρ pa k) (hvb : ∀ k, vb.ownBlock = some k → At ρ pb k) {c : Nat} (f1 : Fr No w w1) (hc : w.heap.size ≤ c) (hcl : c < w1.heap.size) (f2 : Fr No w1 w2)
  {e3 : TypeId} {z3 n3 : Nat} {xs3 : List Value} (o3 : w3.ownsRow 0 e3 z3 v3 n3 xs3) (f3 : Fr (fun k => va.ownBlock = some k) w2 w3) (b3 : ∀ k, v3.ownBlock = some k → va.ownBlock = some k ∨ w2.heap.size ≤ k)
  {cs4 cs7 : Array Value} {ts : TypeId} (q4 : Put s cs4 ts w3 w4) (f5 : Fr No w4 w5)
  {e6 : TypeId} {z6 n6 : Nat} {xs6 : List Value} (o6 : w6.ownsRow 0 e6 z6 v6 n6 xs6) (f6 : Fr (fun k => vb.ownBlock = some k) w5 w6) (b6 : ∀ k, v6.ownBlock = some k → vb.ownBlock = some k ∨ w5.heap.size ≤ k) (q7 : Put s cs7 ts w6 w7) :
  ∃ ρ', Grow w w1 w7 ρ ρ' s c pa pb pn va vb v3 v6 ∧ w7.ownsRow 0 e3 z3 v3 n3 xs3 ∧ w7.ownsRow 0 e6 z6 v6 n6 xs6 := by
 have z2 := f2.size
 have z3' := f3.size
 have z4 := q4.fr.size
 have z5 := f5.size
 have z6' := f6.size
 have z7 := q7.fr.size
 have z1 := f1.size
 have hsl := h.rho hroot
 let T1 : Nat → Prop := fun b => b = c
 let T2 : Nat → Prop := fun k => v3.ownBlock = some k
 let T3 : Nat → Prop := fun k => v6.ownBlock = some k
 have hnl : ∀ k, va.ownBlock = some k → k < w.heap.size := fun k hk => h.rho (hva k hk)
 have hel : ∀ k, vb.ownBlock = some k → k < w.heap.size := fun k hk => h.rho (hvb k hk)
 have g1 : Grown w (At ρ pn) T1 := fun b hb => .inr (by have : b = c := hb; omega)
 have bd1 : ∀ b, turn ρ pn T1 b ≠ none → b < w2.heap.size := bound_turn h.bound (by omega) (fun b hb => by have : b = c := hb; omega)
 have a1 : ∀ q : Pt, q ≠ pn → At (turn ρ pn T1) q = At ρ q := fun q hq => at_turn_other hq g1 h.bound
 have g2 : Grown w2 (At (turn ρ pn T1) pa) T2 := fun b hb => by
  rw [a1 pa (fun e => h5 e.symm)]
  exact (b3 b hb).imp (hva b) id
 have bd2 : ∀ b, turn (turn ρ pn T1) pa T2 b ≠ none → b < w5.heap.size := bound_turn bd1 (by omega) (fun b hb => by have := (o3.lt b hb).2; omega)
 have a2 : ∀ q : Pt, q ≠ pa → At (turn (turn ρ pn T1) pa T2) q = At (turn ρ pn T1) q := fun q hq => at_turn_other hq g2 bd1
 have g3 : Grown w5 (At (turn (turn ρ pn T1) pa T2) pb) T3 := fun b hb => by
  rw [a2 pb (fun e => h4 e.symm), a1 pb (fun e => h6 e.symm)]
  exact (b6 b hb).imp (hvb b) id
 have bd3 : ∀ b, turn (turn (turn ρ pn T1) pa T2) pb T3 b ≠ none → b < w7.heap.size := bound_turn bd2 (by omega) (fun b hb => by have := (o6.lt b hb).2; omega)
 have a3 : ∀ q : Pt, q ≠ pb → At (turn (turn (turn ρ pn T1) pa T2) pb T3) q = At (turn (turn ρ pn T1) pa T2) q := fun q hq => at_turn_other hq g3 bd2
 have fS : ∀ {a b : World}, Fr No a b → Fr (Gs s va vb) a b := fun f => f.mono (fun _ _ e => e.elim)
 have fr1 : Fr (Gs s va vb) w1 w7 := (((((fS f2).thenS (f3.mono (fun k _ e => .inr (.inl e)))).thenS (q4.fr.mono (fun k _ e => .inl e))).thenS (fS f5)).thenS (f6.mono (fun k _ e => .inr (.inr e)))).thenS (q7.fr.mono (fun k _ e => .inl e))
 have hap : ∀ q : Pt, q ≠ .root → q ≠ pa → q ≠ pb → ∀ b, At ρ q b → ¬ Gs s va vb b := fun q e1 e2 e3 b hb hs' => by
  rcases hs' with rfl | hs' | hs'
  ·exact at_apart e1 b hb hroot
  ·exact at_apart e2 b hb (hva b hs')
  ·exact at_apart e3 b hb (hvb b hs')
 have hsn : ∀ k, T2 k → k ≠ s := fun k hk e => by
  subst e
  rcases b3 k hk with e | e
  ·exact at_apart (p := pa) (q := Pt.root) (fun e => h1 e.symm) k hroot (hva k e)
  ·omega
 have hse : ∀ k, T3 k → k ≠ s := fun k hk e => by
  subst e
  rcases b6 k hk with e | e
  ·exact at_apart (p := pb) (q := Pt.root) (fun e => h2 e.symm) k hroot (hvb k e)
  ·omega
 have hne : ∀ k, T2 k → ¬ vb.ownBlock = some k := fun k hk e => by
  rcases b3 k hk with e1 | e1
  ·exact at_apart h4 k (hva k e1) (hvb k e)
  ·have := hel k e; omega
 refine ⟨turn (turn (turn ρ pn T1) pa T2) pb T3, ⟨bd3, fun q e1 e2 e3 => by rw [a3 q e2, a2 q e1, a1 q e3], by rw [a3 pa h4, at_turn_same], at_turn_same _ _ _, by rw [a3 pn h6, a2 pn h5, at_turn_same], ⟨((fS f1).thenS fr1).mono (fun k _ e => ?_), fun b hb => ?_⟩, (fS f1).thenS fr1, fr1, fun e => ?_, hap⟩, ?_, ?_⟩
 ·rcases e with rfl | e | e
  ·exact at_own _ hroot
  ·exact at_own _ (hva k e)
  ·exact at_own _ (hvb k e)
 ·rcases own_turn_or hb with e3 | hb3
  ·rcases b6 b e3 with e | e
   ·exact .inl (at_own _ (hvb b e))
   ·exact .inr (by omega)
  ·rcases own_turn_or hb3 with e2 | hb2
   ·rcases b3 b e2 with e | e
    ·exact .inl (at_own _ (hva b e))
    ·exact .inr (by omega)
   ·rcases own_turn_or hb2 with e1 | hb1
    ·exact .inr (by have : b = c := e1; omega)
    ·exact .inl hb1
 ·rcases e with rfl | e | e
  ·omega
  ·have := hnl c e; omega
  ·have := hel c e; omega
 ·exact q7.fr.owns (f6.owns (f5.owns (q4.fr.owns o3 (fun k hk => hsn k hk)) (fun _ _ e => e)) hne) (fun k hk => hsn k hk)
 ·exact q7.fr.owns o6 (fun k hk => hse k hk)
def growN (M : PSt) : PSt := { M with N := M.N ++ [[]], Y := M.Y ++ [[]] }
def growE (M : PSt) : PSt := { M with E := M.E ++ [[]], D := M.D ++ [(0, 0)] }
theorem ptrs_grow (x : Nat → Nat) (n c : Nat) : ptrs (fun i => if i = n then c else x i) (n + 1) = ptrs x n ++ [.pointer (some ⟨c, 0, none⟩)] := by
 rw [ptrs_succ]
 simp only [if_true]
 congr 1
 unfold ptrs
 refine List.map_congr_left (fun i hi => ?_)
 have hi' : ¬ i = n := by have := List.mem_range.1 hi; omega
 simp only [if_neg hi']
theorem get_snoc {α : Type} {l : List α} {x y : α} {j : Nat} (h : (l ++ [x])[j]? = some y) : l[j]? = some y ∨ (j = l.length ∧ y = x) := by
 by_cases hj : j < l.length
 ·rw [List.getElem?_append_left hj] at h
  exact .inl h
 ·rw [List.getElem?_append_right (by omega)] at h
  have : j - l.length = 0 := by
   rcases Nat.eq_zero_or_pos (j - l.length) with e | e
   ·exact e
   ·rw [List.getElem?_eq_none (by simp; omega)] at h; cases h
  rw [this] at h
  exact .inr ⟨by omega, by simpa using h.symm⟩
theorem growN_at {w w1 w7 : World} {ρ ρ' : Nat → Option Pt} {s c : Nat} {A : Ad} {M : PSt} {F : Nat} {v3 v6 : Value} {hs : List Value} (h : StAt w ρ s A M F) (g : Grow w w1 w7 ρ ρ' s c .nrow .erow (.node M.N.length) A.nv A.ev v3 v6) (hlt : M.N.length < 1000)
  (k1 : NCell w1 (fun b => b = c) No c []) (o7 : w7.ownsRow 0 100 1 v3 (M.N.length + 1) (ptrs A.x M.N.length ++ [.pointer (some ⟨c, 0, none⟩)])) (o8 : w7.ownsRow 0 163 1 v6 (M.Y.length + 1) (hs ++ [.slice none 0 0]))
  (hh : hs.length = M.Y.length ∧ ∀ (i : Nat) (hv : Value) (l : List IxR), hs[i]? = some hv → M.Y[i]? = some l → RdI w (At ρ .imm) hv l.length 7 (l.flatMap ixcell)) (hr : w7.heap[s]? = some (.cells (rootCells { A with nv := v3, ev := v6 }) 84 (0, 0))) :
  StAt w7 ρ' s { A with nv := v3, ev := v6, x := fun i => if i = M.N.length then c else A.x i } (growN M) F := by
 have him : At ρ' .imm = At ρ .imm := g.other _ (by simp) (by simp) (by simp)
 have fi : ∀ b, At ρ .imm b → ¬ Gs s A.nv A.ev b := g.apart .imm (by simp) (by simp) (by simp)
 have old : ∀ q : Pt, q ≠ .root → q ≠ .nrow → q ≠ .erow → PartAt w7 (At ρ q) (At ρ .imm) s A M F q := fun q e1 e2 e3 => (h.at_ q).frame g.fr (g.apart q e1 e2 e3) fi
 refine ⟨g.bound, fun q => ?_⟩
 rw [him]
 cases q with
 | root => rw [g.other .root (by simp) (by simp) (by simp)]; exact ⟨(h.at_ .root).1, hr⟩
 | nrow =>
  rw [g.ra]
  refine ⟨?_, fun k hk => hk, ?_⟩
  ·rw [show (growN M).N.length = M.N.length + 1 by simp [growN], ptrs_grow]
   exact o7
  ·simp [growN]; omega
 | erow =>
  rw [g.rb]
  refine ⟨⟨⟨hs ++ [.slice none 0 0], by simp [growN, hh.1], by simpa [growN] using o8, fun i hv l e1 e2 => ?_⟩, fun k hk => hk, fun l hl y hy => ?_⟩, ?_⟩
  ·rcases get_snoc (show (M.Y ++ [[]])[i]? = some l from e2) with e3 | ⟨e3, rfl⟩
   ·have hi := (List.getElem?_eq_some_iff.1 e3).1
    rw [List.getElem?_append_left (by rw [hh.1]; exact hi)] at e1
    exact (hh.2 i hv l e1 e3).frame g.fr fi
   ·rcases get_snoc e1 with e4 | ⟨e4, rfl⟩
    ·have := (List.getElem?_eq_some_iff.1 e4).1
     have := hh.1
     omega
    ·exact RdI.nil _ _ _
  ·rcases List.mem_append.1 (show l ∈ M.Y ++ [[]] from hl) with e | e
   ·exact (h.at_ .erow).1.one l e y hy
   ·rw [List.mem_singleton.1 e] at hy; cases hy
  ·have := (h.at_ .erow).2
   simp [growN, this]
 | node i =>
  intro L hL
  rcases get_snoc (show (M.N ++ [[]])[i]? = some L from hL) with e | ⟨rfl, rfl⟩
  ·have hi := (List.getElem?_eq_some_iff.1 e).1
   have hne : Pt.node i ≠ .node M.N.length := fun e' => by injection e' with e'; omega
   rw [g.other _ (by simp) (by simp) hne]
   have := old (.node i) (by simp) (by simp) (by simp) L e
   simp only [show ¬ i = M.N.length by omega, if_false]
   exact this
  ·rw [g.rn]
   simp only [if_true]
   exact ⟨(k1.frame g.fr1 (fun k hk => by subst hk; exact g.nc) (fun _ e => e.elim)).mono (fun _ e => e.elim), Nat.zero_le _⟩
 | clock => rw [g.other _ (by simp) (by simp) (by simp)]; exact old .clock (by simp) (by simp) (by simp)
 | edrow => rw [g.other _ (by simp) (by simp) (by simp)]; exact old .edrow (by simp) (by simp) (by simp)
 | enrow => rw [g.other _ (by simp) (by simp) (by simp)]; exact old .enrow (by simp) (by simp) (by simp)
 | out => rw [g.other _ (by simp) (by simp) (by simp)]; exact old .out (by simp) (by simp) (by simp)
 | inn => rw [g.other _ (by simp) (by simp) (by simp)]; exact old .inn (by simp) (by simp) (by simp)
 | index => rw [g.other _ (by simp) (by simp) (by simp)]; exact old .index (by simp) (by simp) (by simp)
 | imm => trivial
 | edge i => rw [g.other _ (by simp) (by simp) (by simp)]; exact old (.edge i) (by simp) (by simp) (by simp)
theorem growE_at {w w1 w7 : World} {ρ ρ' : Nat → Option Pt} {s c : Nat} {A : Ad} {M : PSt} {F : Nat} {v3 v6 : Value} (h : StAt w ρ s A M F) (g : Grow w w1 w7 ρ ρ' s c .edrow .enrow (.edge M.E.length) A.dv A.fv v3 v6) (hlt : M.E.length < 1000)
  (k1 : Ec.CellAt w1 (fun b => b = c) c []) (o7 : w7.ownsRow 0 103 1 v3 (M.E.length + 1) (ptrs A.z M.E.length ++ [.pointer (some ⟨c, 0, none⟩)])) (o8 : w7.ownsRow 0 182 2 v6 (M.D.length + 1) (ecells M.D ++ [.int .i64 0, .int .i64 0]))
  (hr : w7.heap[s]? = some (.cells (rootCells { A with dv := v3, fv := v6 }) 84 (0, 0))) :
  StAt w7 ρ' s { A with dv := v3, fv := v6, z := fun i => if i = M.E.length then c else A.z i } (growE M) F := by
 have him : At ρ' .imm = At ρ .imm := g.other _ (by simp) (by simp) (by simp)
 have fi : ∀ b, At ρ .imm b → ¬ Gs s A.dv A.fv b := g.apart .imm (by simp) (by simp) (by simp)
 have old : ∀ q : Pt, q ≠ .root → q ≠ .edrow → q ≠ .enrow → PartAt w7 (At ρ q) (At ρ .imm) s A M F q := fun q e1 e2 e3 => (h.at_ q).frame g.fr (g.apart q e1 e2 e3) fi
 refine ⟨g.bound, fun q => ?_⟩
 rw [him]
 cases q with
 | root => rw [g.other .root (by simp) (by simp) (by simp)]; exact ⟨(h.at_ .root).1, hr⟩
 | edrow =>
  rw [g.ra]
  refine ⟨?_, fun k hk => hk, ?_⟩
  ·rw [show (growE M).E.length = M.E.length + 1 by simp [growE], ptrs_grow]
   exact o7
  ·simp [growE]; omega
 | enrow =>
  rw [g.rb]
  refine ⟨?_, fun k hk => hk, ?_⟩
  ·have e : ecells (growE M).D = ecells M.D ++ [.int .i64 0, .int .i64 0] := by simp [growE, ecells]
   rw [e, show (growE M).D.length = M.D.length + 1 by simp [growE]]
   exact o8
  ·have := (h.at_ .enrow).2.2
   refine ⟨by simp [growE, this.1], fun p hp => ?_⟩
   rcases List.mem_append.1 (show p ∈ M.D ++ [(0, 0)] from hp) with e | e
   ·exact this.2 p e
   ·rw [List.mem_singleton.1 e]
    exact ⟨by show (Lit.int .i64 0).wf = true; decide, by show (Lit.int .i64 0).wf = true; decide⟩
 | edge i =>
  intro L hL
  rcases get_snoc (show (M.E ++ [[]])[i]? = some L from hL) with e | ⟨rfl, rfl⟩
  ·have hi := (List.getElem?_eq_some_iff.1 e).1
   have hne : Pt.edge i ≠ .edge M.E.length := fun e' => by injection e' with e'; omega
   rw [g.other _ (by simp) (by simp) hne]
   have := old (.edge i) (by simp) (by simp) (by simp) L e
   simp only [show ¬ i = M.E.length by omega, if_false]
   exact this
  ·rw [g.rn]
   simp only [if_true]
   exact ⟨k1.frame g.fr1 (fun k hk => by subst hk; exact g.nc), Nat.zero_le _⟩
 | clock => rw [g.other _ (by simp) (by simp) (by simp)]; exact old .clock (by simp) (by simp) (by simp)
 | nrow => rw [g.other _ (by simp) (by simp) (by simp)]; exact old .nrow (by simp) (by simp) (by simp)
 | erow => rw [g.other _ (by simp) (by simp) (by simp)]; exact old .erow (by simp) (by simp) (by simp)
 | out => rw [g.other _ (by simp) (by simp) (by simp)]; exact old .out (by simp) (by simp) (by simp)
 | inn => rw [g.other _ (by simp) (by simp) (by simp)]; exact old .inn (by simp) (by simp) (by simp)
 | index => rw [g.other _ (by simp) (by simp) (by simp)]; exact old .index (by simp) (by simp) (by simp)
 | imm => trivial
 | node i => rw [g.other _ (by simp) (by simp) (by simp)]; exact old (.node i) (by simp) (by simp) (by simp)
end Go.Proofs.YthadcdoepoglkaaGreatDoor
namespace Go.Proofs.YthadcdoepoglkaaGreatDoor
open Go.RowKit Go.Lig
def growNs (M : PSt) (j : Nat) : PSt := { M with N := M.N ++ List.replicate j [], Y := M.Y ++ List.replicate j [] }
def growEs (M : PSt) (j : Nat) : PSt := { M with E := M.E ++ List.replicate j [], D := M.D ++ List.replicate j (0, 0) }
theorem growNs_zero (M : PSt) : growNs M 0 = M := by simp [growNs]
theorem growEs_zero (M : PSt) : growEs M 0 = M := by simp [growEs]
theorem growNs_succ (M : PSt) (j : Nat) : growN (growNs M j) = growNs M (j + 1) := by simp [growNs, growN, List.replicate_succ', List.append_assoc]
theorem growEs_succ (M : PSt) (j : Nat) : growE (growEs M j) = growEs M (j + 1) := by simp [growEs, growE, List.replicate_succ', List.append_assoc]
theorem growNs_len (M : PSt) (j : Nat) : (growNs M j).N.length = M.N.length + j := by simp [growNs]
theorem growEs_len (M : PSt) (j : Nat) : (growEs M j).E.length = M.E.length + j := by simp [growEs]
def lenAt (w : World) (s k : Nat) : Nat := match w.cell? ⟨s, k, none⟩ with
 | some (.slice _ n _) => n
 | _ => 0
theorem lenAt_of {w : World} {s k n c : Nat} {a : Option Addr} (h : w.cell? ⟨s, k, none⟩ = some (.slice a n c)) : lenAt w s k = n := by
 unfold lenAt
 rw [h]
theorem infoPC : (Tryz.prog.info? 100).map (fun i => (i.zero, i.size, i.bytes)) = some (some (.pointer none), 1, 8) := by kernel_rfl
theorem infoPE : (Tryz.prog.info? 103).map (fun i => (i.zero, i.size, i.bytes)) = some (some (.pointer none), 1, 8) := by kernel_rfl
theorem infoEn : (Tryz.prog.info? 163).map (fun i => (i.zero, i.size, i.bytes)) = some (some (.slice none 0 0), 1, 24) := by kernel_rfl
theorem infoEnd : (Tryz.prog.info? 182).map (fun i => (i.zero, i.size, i.bytes)) = some (some (.agg #[.int .i64 0, .int .i64 0]), 2, 16) := by kernel_rfl
theorem StAt.nlenAt {w : World} {ρ : Nat → Option Pt} {s : Nat} {A : Ad} {M : PSt} {F : Nat} (h : StAt w ρ s A M F) : lenAt w s 1 = M.N.length := by
 obtain ⟨a, c, e⟩ := ownsRow_slice (h.at_ .nrow).1
 have := h.cells.2.1
 rw [e] at this
 exact lenAt_of this
theorem StAt.elenAt {w : World} {ρ : Nat → Option Pt} {s : Nat} {A : Ad} {M : PSt} {F : Nat} (h : StAt w ρ s A M F) : lenAt w s 2 = M.E.length := by
 obtain ⟨a, c, e⟩ := ownsRow_slice (h.at_ .edrow).1
 have := h.cells.2.2.1
 rw [e] at this
 exact lenAt_of this
set_option maxRecDepth 100000 in
set_option maxHeartbeats 1000000 in
theorem grows_any (w : World) (ρ : Nat → Option Pt) (s : Nat) (A : Ad) (M : PSt) (F : Nat) (h : StAt w ρ s A M F) (gn ge : Nat) (hgn : gn ≤ 1000) (hge : ge ≤ 1000) :
  Calls Tryz.prog 56 #[.pointer (some ⟨s, 0, none⟩), .int .i64 (gn : Int), .int .i64 (ge : Int)] w fun e w' => e = .returned (.tuple #[]) ∧ Turns w ρ s (growEs (growNs M (gn - M.N.length)) (ge - M.E.length)) F w' := by
 have HH := hid h
 clear h
 go_enter Tryz.func56, Tryz.ntmps56
 go_wp2_with fail
 go_loopw [] (fun wr => Hid (∃ j, (j = 0 ∨ M.N.length + j ≤ gn) ∧ Turns w ρ s (growNs M j) F wr)) (fun wr => gn - lenAt wr s 1)
 case atStart => exact ⟨0, .inl rfl, by rw [growNs_zero]; exact ⟨ρ, A, HH.out, Gone.refl _ _⟩⟩
 case round =>
  obtain ⟨j, hj, ρ1, A1, h1, g1⟩ := hrel.out
  have hla := h1.nlenAt
  obtain ⟨a1, c1, hnv⟩ := ownsRow_slice (h1.at_ .nrow).1
  have hn1 := (h1.at_ .nrow).2.2
  have hlj := growNs_len M j
  have x1 := h1.cells.2.1
  rw [hnv] at x1
  have H1 := hid (⟨hnv, hj, g1, hla, hlj, h1⟩ : _ ∧ _ ∧ _ ∧ _ ∧ _ ∧ _)
  generalize hM1 : growNs M j = M1 at *
  have HM := hid hM1
  clear hM1
  generalize hNe : M1.N.length = n at *
  have HNe := hid hNe
  clear hNe hj hla hlj
  by_cases hlt : n < gn
  ·have hlti : (n : Int) < (gn : Int) := by omega
   obtain ⟨hs, hs1, hs2, hs3⟩ := (h1.at_ .erow).1.ex
   obtain ⟨a2, c2, hev⟩ := ownsRow_slice hs2
   have hheap := h1.heap
   have hO1 := (h1.at_ .nrow).1
   have hb1 : ∀ k, A1.nv.ownBlock = some k → k ≠ s := fun k hk e => by
    subst e
    exact at_apart (p := Pt.nrow) (q := Pt.root) (by simp) k h1.root ((h1.at_ .nrow).2.1 k hk)
   have hb2 : ∀ k, A1.ev.ownBlock = some k → k ≠ s := fun k hk e => by
    subst e
    exact at_apart (p := Pt.erow) (q := Pt.root) (by simp) k h1.root ((h1.at_ .erow).1.blk k hk)
   have hb3 : ∀ k, A1.ev.ownBlock = some k → ¬ A1.nv.ownBlock = some k := fun k hk e => at_apart (p := Pt.nrow) (q := Pt.erow) (by simp) k ((h1.at_ .erow).1.blk k hk) ((h1.at_ .nrow).2.1 k e)
   have hyl := (h1.at_ .erow).2
   rw [HNe.out] at hO1 hyl
   rw [hyl] at hs2 hev
   unfold rootCells at hheap
   rw [hnv, hev] at hheap
   rw [hnv] at hO1 hb1 hb3
   rw [hev] at hs2 hb2 hb3
   have HE := hid (⟨hev, hs1, hs3, hyl⟩ : _ ∧ _ ∧ _ ∧ _)
   have HO := hid (⟨hheap, hO1, hs2, hb1, hb2, hb3⟩ : _ ∧ _ ∧ _ ∧ _ ∧ _ ∧ _)
   have hsl := h1.lt
   clear hheap hO1 hs2 hb1 hb2 hb3 hnv hev h1 g1 hs1 hs3 hyl
   go_wp2_with fail
   refine wp_region_sched (by kernel_rfl) 10 [5, 6, 7, 10] [0, 1, 2, 3, 4, 5, 6, 7, 8, 9, 10] (AgC [s] wr.drew) (by kernel_rfl) (AgC.refl _ _) ?_
   simp only [List.map_cons, List.map_nil, List.contains_cons, List.contains_nil, nth_zero, nth_succ, Nat.reduceBEq, Bool.or_false, Bool.or_true]
   repeat (refine sched_quiet (fun K hK => ?_); go_simp; refine hK _ ?_; clear hK K)
   refine sched_call (by first | rfl | go_simp) 118 #[] (by first | kernel_rfl | go_simp) (celnew_any _) ?_
   rintro e w1 ⟨c, rfl, k1, f1, hc⟩
   have hsc : ∀ (U : Nat → Prop), ¬ U s → ∀ j ∈ [s], j < wr.drew.heap.size ∧ ¬ U j := fun U hU j hj => by rw [List.mem_singleton.1 hj]; exact ⟨hsl, hU⟩
   have a1' := (AgC.refl [s] wr.drew).fr f1 (hsc No (fun e => e))
   refine ⟨_, rfl, a1', ?_⟩
   refine sched_loud (wpList_buildSlice1 rfl 77 100 (.tmp 18) rfl _ 1 8 Tryz.underlying77 infoPC (by decide) (by decide) (.pointer (some ⟨c, 0, none⟩)) rfl rfl ?_)
   intro w2 p2
   have p2' : New [Value.pointer (some ⟨c, 0, none⟩)].toArray 100 w1 w2 := p2
   have a2' := a1'.fr p2.fr (hsc No (fun e => e))
   refine sched_on a2' ?_
   refine sched_loud (wpList_app rfl (.tmp 17) (.tmp 19) 77 rfl 100 _ 1 8 Tryz.underlying77 infoPC rfl (by decide) (.slice a1 n c1) n (ptrs A1.x n) rfl (fd_owns (fd_owns (w := wr.drew) HO.out.2.1 f1) p2.fr) (.slice (some ⟨w1.heap.size, 0, none⟩) 1 1) 1 [.pointer (some ⟨c, 0, none⟩)] rfl (Rd.block p2'.at_ 1 1 1 rfl (by simp [Value.oneCell']) (Nat.le_refl _) (by simp [maxLen])) (by unfold maxLen; omega) (by omega) ?_)
   intro v3 w3 o3 f3 b3 _
   have hcv : ¬ (Value.slice a1 n c1).ownBlock = some s := fun e => HO.out.2.2.2.1 s e rfl
   refine sched_on (a2'.fr f3 (hsc _ hcv)) ?_
   have hg3 := f3.keep (p2.keep (f1.keep (w := wr.drew) HO.out.1 (fun e => e))) hcv
   obtain ⟨p3, n3, rfl⟩ := ownsRow_slice o3
   have H3 := hid (⟨k1, (Fr.refl No wr).drew.thenNo f1, hc, p2.fr, o3, f3, b3, hg3⟩ : _ ∧ _ ∧ _ ∧ _ ∧ _ ∧ _ ∧ _ ∧ _)
   clear k1 f1 hc p2 p2' a2' a1' o3 f3 b3 hg3 hcv hsc
   repeat (refine sched_quiet (fun K hK => ?_); go_simp; refine hK _ ?_; clear hK K)
   refine sched_loud (wpList_store1 rfl 77 (.tmp 22) (.tmp 20) rfl s 1 rfl _ _ (.slice p3 (n + 1) n3) rfl (by kernel_rfl) H3.out.2.2.2.2.2.2.2 (by simp) rfl ?_)
   intro w4 q4
   have Q4 := hid (show Put s #[.pointer (some ⟨A1.c, 0, none⟩), .slice p3 (n + 1) n3, A1.dv, A1.fv, .pointer (some ⟨A1.o, 0, none⟩), .pointer (some ⟨A1.i, 0, none⟩), .map (some A1.m), .slice a2 n c2] 84 w3 w4 from q4)
   clear q4
   refine sched_last ?_
   refine sched_nil ?_
   have O2 : Hid (w4.ownsRow 0 163 1 (.slice a2 n c2) n hs) := hid (Q4.out.fr.owns (H3.out.2.2.2.2.2.1.owns (fd_owns (fd_owns HO.out.2.2.1 H3.out.2.1) H3.out.2.2.2.1) HO.out.2.2.2.2.2) HO.out.2.2.2.2.1)
   have x7 := cellOf Q4.out.at_ 7
   simp at x7
   go_wp2_with (first | (refine wpList_buildSlice1 rfl 82 163 (.const (.slice none 0 0)) rfl _ 1 24 Tryz.underlying82 infoEn (by decide) (by decide) (.slice none 0 0) rfl rfl ?_; intro w5 p5; have P5 := hid (⟨p5.fr, show w5.heap[w4.heap.size]? = some (.cells [Value.slice none 0 0].toArray 163 (0, 0)) from p5.at_⟩ : _ ∧ _); clear p5) | (refine wpList_app rfl (.tmp 27) (.tmp 28) 82 rfl 163 _ 1 24 Tryz.underlying82 infoEn rfl (by decide) (.slice a2 n c2) n hs rfl (fd_owns O2.out P5.out.1) (.slice (some ⟨w4.heap.size, 0, none⟩) 1 1) 1 [.slice none 0 0] rfl (Rd.block P5.out.2 1 1 1 rfl (by simp [Value.oneCell']) (Nat.le_refl _) (by simp [maxLen])) (by unfold maxLen; omega) (by omega) ?_; intro v6 w6 o6 f6 b6 _; have hcv : ¬ (Value.slice a2 n c2).ownBlock = some s := (fun e => HO.out.2.2.2.2.1 s e rfl); have hg6 := f6.keep (P5.out.1.keep Q4.out.at_ (fun e => e)) hcv; obtain ⟨p6, n6, rfl⟩ := ownsRow_slice o6; have H6 := hid (⟨o6, f6, b6, hg6⟩ : _ ∧ _ ∧ _ ∧ _); clear o6 f6 b6 hg6 hcv) | (refine wpList_store1 rfl 82 (.tmp 31) (.tmp 29) rfl s 7 rfl _ _ (.slice p6 (n + 1) n6) rfl (by kernel_rfl) H6.out.2.2.2 (by simp) rfl ?_; intro w7 q7; have Q7 := hid (show Put s #[.pointer (some ⟨A1.c, 0, none⟩), .slice p3 (n + 1) n3, A1.dv, A1.fv, .pointer (some ⟨A1.o, 0, none⟩), .pointer (some ⟨A1.i, 0, none⟩), .map (some A1.m), .slice p6 (n + 1) n6] 84 w6 w7 from q7); clear q7))
   have HD : Hid (Turns w ρ s (growNs M (j + 1)) F w7 ∧ lenAt w7 s 1 = n + 1) := hid (by
    obtain ⟨hnv, hj, g1, hla, hlj, h1⟩ := H1.out
    obtain ⟨hev, hs1, hs3, hyl⟩ := HE.out
    have hn := HNe.out
    have hm := HM.out
    obtain ⟨k1, f1, hc, p2f, o3, f3, b3, -⟩ := H3.out
    obtain ⟨o6, f6, b6, -⟩ := H6.out
    have hcl := k1.bound c rfl
    obtain ⟨ρ7, gg, o7, o8⟩ := grow_raw h1 h1.root .nrow .erow (.node M1.N.length) (by simp) (by simp) (by simp) (by simp) (by simp) (fun k hk => (h1.at_ .nrow).2.1 k (by rw [hnv]; exact hk)) (fun k hk => (h1.at_ .erow).1.blk k (by rw [hev]; exact hk)) f1 hc hcl p2f o3 f3 b3 Q4.out P5.out.1 o6 f6 b6 Q7.out
    rw [← hnv, ← hev] at gg
    have h7 := growN_at (hs := hs) h1 gg (by omega) ⟨[], k1, VersIn.nil _ _⟩ (by rw [hn]; exact o7) (by rw [hyl]; exact o8) ⟨by omega, hs3⟩ Q7.out.at_
    rw [← hm, growNs_succ] at h7
    have hl7 := h7.nlenAt
    rw [growNs_len] at hl7
    exact ⟨⟨_, _, h7, g1.trans gg.gone⟩, by omega⟩)
   go_roundw
   case rel =>
    (repeat apply Exists.intro)
    exact ⟨hid ⟨j + 1, .inr (by have := H1.out.2.2.2.2.1; omega), HD.out.1⟩, rfl⟩
   case measure =>
    have e1 := HD.out.2
    have e2 := H1.out.2.2.2.1
    omega
  ·have hlti : ¬ (n : Int) < (gn : Int) := by omega
   have hjj : j = gn - M.N.length := by have := H1.out.2.1; have := H1.out.2.2.2.2.1; omega
   subst hjj
   have HG := hid (⟨ρ1, A1, h1, g1⟩ : Turns w ρ s M1 F wr)
   obtain ⟨wo, hwo⟩ : ∃ wo : World, wo = wr := ⟨_, rfl⟩
   have HW := hid hwo
   clear h1 g1 hnv hwo hn1 H1 HNe
   go_wp2_with fail
   have hma : growNs M (gn - M.N.length) = M1 := HM.out
   generalize hMb : M1 = Ma at *
   have HMa := hid hma
   clear hma hMb HM
   go_loopw [] (fun wr => Hid (∃ j, (j = 0 ∨ Ma.E.length + j ≤ ge) ∧ Turns w ρ s (growEs Ma j) F wr)) (fun wr => ge - lenAt wr s 2)
   case atStart => exact ⟨0, .inl rfl, by rw [growEs_zero]; exact HG.out⟩
   case round =>
    obtain ⟨j, hj, ρ1, A1, h1, g1⟩ := hrel.out
    have hla := h1.elenAt
    obtain ⟨a1, c1, hnv⟩ := ownsRow_slice (h1.at_ .edrow).1
    have hn1 := (h1.at_ .edrow).2.2
    have hlj := growEs_len Ma j
    have x1 := h1.cells.2.2.1
    rw [hnv] at x1
    have H1 := hid (⟨hnv, hj, g1, hla, hlj, h1⟩ : _ ∧ _ ∧ _ ∧ _ ∧ _ ∧ _)
    generalize hM1 : growEs Ma j = M1 at *
    have HM := hid hM1
    clear hM1
    generalize hNe : M1.E.length = n at *
    have HNe := hid hNe
    clear hNe hj hla hlj
    by_cases hlt : n < ge
    ·have hlti : (n : Int) < (ge : Int) := by omega
     have hs2 := (h1.at_ .enrow).1
     obtain ⟨a2, c2, hev⟩ := ownsRow_slice hs2
     have hheap := h1.heap
     have hO1 := (h1.at_ .edrow).1
     have hb1 : ∀ k, A1.dv.ownBlock = some k → k ≠ s := fun k hk e => by
      subst e
      exact at_apart (p := Pt.edrow) (q := Pt.root) (by simp) k h1.root ((h1.at_ .edrow).2.1 k hk)
     have hb2 : ∀ k, A1.fv.ownBlock = some k → k ≠ s := fun k hk e => by
      subst e
      exact at_apart (p := Pt.enrow) (q := Pt.root) (by simp) k h1.root ((h1.at_ .enrow).2.1 k hk)
     have hb3 : ∀ k, A1.fv.ownBlock = some k → ¬ A1.dv.ownBlock = some k := fun k hk e => at_apart (p := Pt.edrow) (q := Pt.enrow) (by simp) k ((h1.at_ .enrow).2.1 k hk) ((h1.at_ .edrow).2.1 k e)
     have hyl := (h1.at_ .enrow).2.2.1
     rw [HNe.out] at hO1 hyl
     rw [hyl] at hs2 hev
     unfold rootCells at hheap
     rw [hnv, hev] at hheap
     rw [hnv] at hO1 hb1 hb3
     rw [hev] at hs2 hb2 hb3
     have HE := hid (⟨hev, hyl⟩ : _ ∧ _)
     have HO := hid (⟨hheap, hO1, hs2, hb1, hb2, hb3⟩ : _ ∧ _ ∧ _ ∧ _ ∧ _ ∧ _)
     have hsl := h1.lt
     clear hheap hO1 hs2 hb1 hb2 hb3 hnv hev h1 g1 hyl
     go_wp2_with fail
     refine wp_region_sched (by kernel_rfl) 10 [5, 6, 7, 10] [0, 1, 2, 3, 4, 5, 6, 7, 8, 9, 10] (AgC [s] wr.drew) (by kernel_rfl) (AgC.refl _ _) ?_
     simp only [List.map_cons, List.map_nil, List.contains_cons, List.contains_nil, nth_zero, nth_succ, Nat.reduceBEq, Bool.or_false, Bool.or_true]
     repeat (refine sched_quiet (fun K hK => ?_); go_simp; refine hK _ ?_; clear hK K)
     refine sched_call (by first | rfl | go_simp) 119 #[] (by first | kernel_rfl | go_simp) (Ec.celnew_any _) ?_
     rintro e w1 ⟨c, rfl, k1, f1, hc⟩
     have hsc : ∀ (U : Nat → Prop), ¬ U s → ∀ j ∈ [s], j < wr.drew.heap.size ∧ ¬ U j := fun U hU j hj => by rw [List.mem_singleton.1 hj]; exact ⟨hsl, hU⟩
     have a1' := (AgC.refl [s] wr.drew).fr f1 (hsc No (fun e => e))
     refine ⟨_, rfl, a1', ?_⟩
     refine sched_loud (wpList_buildSlice1 rfl 78 103 (.tmp 44) rfl _ 1 8 Tryz.underlying78 infoPE (by decide) (by decide) (.pointer (some ⟨c, 0, none⟩)) rfl rfl ?_)
     intro w2 p2
     have p2' : New [Value.pointer (some ⟨c, 0, none⟩)].toArray 103 w1 w2 := p2
     have a2' := a1'.fr p2.fr (hsc No (fun e => e))
     refine sched_on a2' ?_
     refine sched_loud (wpList_app rfl (.tmp 43) (.tmp 45) 78 rfl 103 _ 1 8 Tryz.underlying78 infoPE rfl (by decide) (.slice a1 n c1) n (ptrs A1.z n) rfl (fd_owns (fd_owns (w := wr.drew) HO.out.2.1 f1) p2.fr) (.slice (some ⟨w1.heap.size, 0, none⟩) 1 1) 1 [.pointer (some ⟨c, 0, none⟩)] rfl (Rd.block p2'.at_ 1 1 1 rfl (by simp [Value.oneCell']) (Nat.le_refl _) (by simp [maxLen])) (by unfold maxLen; omega) (by omega) ?_)
     intro v3 w3 o3 f3 b3 _
     have hcv : ¬ (Value.slice a1 n c1).ownBlock = some s := fun e => HO.out.2.2.2.1 s e rfl
     refine sched_on (a2'.fr f3 (hsc _ hcv)) ?_
     have hg3 := f3.keep (p2.keep (f1.keep (w := wr.drew) HO.out.1 (fun e => e))) hcv
     obtain ⟨p3, n3, rfl⟩ := ownsRow_slice o3
     have H3 := hid (⟨k1, (Fr.refl No wr).drew.thenNo f1, hc, p2.fr, o3, f3, b3, hg3⟩ : _ ∧ _ ∧ _ ∧ _ ∧ _ ∧ _ ∧ _ ∧ _)
     clear k1 f1 hc p2 p2' a2' a1' o3 f3 b3 hg3 hcv hsc
     repeat (refine sched_quiet (fun K hK => ?_); go_simp; refine hK _ ?_; clear hK K)
     refine sched_loud (wpList_store1 rfl 78 (.tmp 48) (.tmp 46) rfl s 2 rfl _ _ (.slice p3 (n + 1) n3) rfl (by kernel_rfl) H3.out.2.2.2.2.2.2.2 (by simp) rfl ?_)
     intro w4 q4
     have Q4 := hid (show Put s #[.pointer (some ⟨A1.c, 0, none⟩), A1.nv, .slice p3 (n + 1) n3, .slice a2 n c2, .pointer (some ⟨A1.o, 0, none⟩), .pointer (some ⟨A1.i, 0, none⟩), .map (some A1.m), A1.ev] 84 w3 w4 from q4)
     clear q4
     refine sched_last ?_
     refine sched_nil ?_
     have O2 : Hid (w4.ownsRow 0 182 2 (.slice a2 n c2) n (ecells M1.D)) := hid (Q4.out.fr.owns (H3.out.2.2.2.2.2.1.owns (fd_owns (fd_owns HO.out.2.2.1 H3.out.2.1) H3.out.2.2.2.1) HO.out.2.2.2.2.2) HO.out.2.2.2.2.1)
     have x7 := cellOf Q4.out.at_ 3
     simp at x7
     go_wp2_with (first | (refine wpList_buildSlice1 rfl 79 182 (.tmp 54) rfl _ 2 16 Tryz.underlying79 infoEnd (by decide) (by decide) (.agg #[.int .i64 0, .int .i64 0]) rfl rfl ?_; intro w5 p5; have P5 := hid (⟨p5.fr, show w5.heap[w4.heap.size]? = some (.cells [Value.int .i64 0, .int .i64 0].toArray 182 (0, 0)) from p5.at_⟩ : _ ∧ _); clear p5) | (refine wpList_app rfl (.tmp 53) (.tmp 55) 79 rfl 182 _ 2 16 Tryz.underlying79 infoEnd rfl (by decide) (.slice a2 n c2) n (ecells M1.D) rfl (fd_owns O2.out P5.out.1) (.slice (some ⟨w4.heap.size, 0, none⟩) 1 1) 1 [.int .i64 0, .int .i64 0] rfl (Rd.block P5.out.2 1 2 1 rfl (by simp [Value.oneCell']) (Nat.le_refl _) (by simp [maxLen])) (by unfold maxLen; omega) (by omega) ?_; intro v6 w6 o6 f6 b6 _; have hcv : ¬ (Value.slice a2 n c2).ownBlock = some s := (fun e => HO.out.2.2.2.2.1 s e rfl); have hg6 := f6.keep (P5.out.1.keep Q4.out.at_ (fun e => e)) hcv; obtain ⟨p6, n6, rfl⟩ := ownsRow_slice o6; have H6 := hid (⟨o6, f6, b6, hg6⟩ : _ ∧ _ ∧ _ ∧ _); clear o6 f6 b6 hg6 hcv) | (refine wpList_store1 rfl 79 (.tmp 58) (.tmp 56) rfl s 3 rfl _ _ (.slice p6 (n + 1) n6) rfl (by kernel_rfl) H6.out.2.2.2 (by simp) rfl ?_; intro w7 q7; have Q7 := hid (show Put s #[.pointer (some ⟨A1.c, 0, none⟩), A1.nv, .slice p3 (n + 1) n3, .slice p6 (n + 1) n6, .pointer (some ⟨A1.o, 0, none⟩), .pointer (some ⟨A1.i, 0, none⟩), .map (some A1.m), A1.ev] 84 w6 w7 from q7); clear q7))
     have HD : Hid (Turns w ρ s (growEs Ma (j + 1)) F w7 ∧ lenAt w7 s 2 = n + 1) := hid (by
      obtain ⟨hnv, hj, g1, hla, hlj, h1⟩ := H1.out
      obtain ⟨hev, hyl⟩ := HE.out
      have hn := HNe.out
      have hm := HM.out
      obtain ⟨k1, f1, hc, p2f, o3, f3, b3, -⟩ := H3.out
      obtain ⟨o6, f6, b6, -⟩ := H6.out
      have hcl := k1.bound c rfl
      obtain ⟨ρ7, gg, o7, o8⟩ := grow_raw h1 h1.root .edrow .enrow (.edge M1.E.length) (by simp) (by simp) (by simp) (by simp) (by simp) (fun k hk => (h1.at_ .edrow).2.1 k (by rw [hnv]; exact hk)) (fun k hk => (h1.at_ .enrow).2.1 k (by rw [hev]; exact hk)) f1 hc hcl p2f o3 f3 b3 Q4.out P5.out.1 o6 f6 b6 Q7.out
      rw [← hnv, ← hev] at gg
      have h7 := growE_at h1 gg (by omega) k1 (by rw [hn]; exact o7) (by rw [hyl]; exact o8) Q7.out.at_
      rw [← hm, growEs_succ] at h7
      have hl7 := h7.elenAt
      rw [growEs_len] at hl7
      exact ⟨⟨_, _, h7, g1.trans gg.gone⟩, by omega⟩)
     go_roundw
     case rel =>
      (repeat apply Exists.intro)
      exact ⟨hid ⟨j + 1, .inr (by have := H1.out.2.2.2.2.1; omega), HD.out.1⟩, rfl⟩
     case measure =>
      have e1 := HD.out.2
      have e2 := H1.out.2.2.2.1
      omega
    ·have hlti : ¬ (n : Int) < (ge : Int) := by omega
     have hjj : j = ge - Ma.E.length := by have := H1.out.2.1; have := H1.out.2.2.2.2.1; omega
     subst hjj
     have HF := hid (⟨ρ1, A1, h1, g1⟩ : Turns w ρ s M1 F wr)
     clear h1 g1 hnv hn1 H1 HNe
     go_wp2_with fail
     go_end0
     refine ⟨rfl, ?_⟩
     have e := HF.out
     rw [← HM.out, ← HMa.out] at e
     exact e
end Go.Proofs.YthadcdoepoglkaaGreatDoor
