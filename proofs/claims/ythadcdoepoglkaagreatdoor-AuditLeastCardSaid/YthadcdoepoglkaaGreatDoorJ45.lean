/- A part of the proof: contracts of functions of the program, for the row's text. -/
import Derived.Test.YthadcdoepoglkaaGreatDoorJ44
import Derived.Test.YthadcdoepoglkaaGreatDoorJ07
import Derived.Test.YthadcdoepoglkaaGreatDoorJ31
import Derived.Test.YthadcdoepoglkaaGreatDoorJ26
import Derived.Test.YthadcdoepoglkaaGreatDoorJ43
namespace Go.Proofs.YthadcdoepoglkaaGreatDoor
open Go.RowKit Go.Lig
theorem tieM_vs (M : PSt) (t : Int) (k : Nat) (v : EdgeV) (g : Bool) : (tieM M t k v g).vs = vTie M.vs t k v g := by
 unfold tieM
 rw [linkM_vs]
 unfold writeE endsM
 cases g <;> rfl
section
variable {p : PF} {a b c : Nat} (h : GOk p a b c) (ha : a ≤ 150) (hc : c ≤ 960000) (t : Int)
include h ha hc
theorem GOk.opAddEdge {bb : Bool} {v : EdgeV} : rmAddEdge p t bb v = true ∧ GOk (opAddEdge p t bb v).2 (a + 2) (b + 1) (c + 12000) := by
 unfold Go.Proofs.YthadcdoepoglkaaGreatDoor.opAddEdge rmAddEdge
 have hm := h.mono (show a ≤ a + 2 by omega) (show b ≤ b + 1 by omega) (show c ≤ c + 12000 by omega)
 cases hl : p.1.K.live t with
 | false => exact ⟨rfl, by rw [if_neg (by simp)]; exact hm⟩
 | true =>
  rw [if_pos rfl]
  cases bb with
  | false => exact ⟨rfl, by rw [if_neg (by simp)]; exact hm⟩
  | true =>
   rw [if_pos rfl]
   cases hf : (readN p.1 t v.from_).isSome with
   | false => exact ⟨rfl, by rw [if_neg (by simp)]; exact hm⟩
   | true =>
    cases ht : (readN p.1 t v.to_).isSome with
    | false => exact ⟨rfl, by rw [if_neg (by simp)]; exact hm⟩
    | true =>
     by_cases hn : p.1.E.length < 32
     ·rw [if_pos hn, decide_eq_true hn]
      cases hmy : mayB p.1 t 0 [v.from_, v.to_] with
      | true =>
       obtain ⟨h1, h2⟩ := h.abort (by omega) (by omega) hl
       simp only [Option.isSome_some, ↓reduceIte, Bool.and_self, Bool.and_true, Bool.not_true, Bool.not_false, Bool.false_or, Bool.false_eq_true, h1]
       exact ⟨trivial, h2.mono (by omega) (by omega) (by omega)⟩
      | false =>
       have hcl := (mayB_no hmy).2
       obtain ⟨g1, g2⟩ := exTouch_rm t [v.from_, v.to_] p a b c h.rm (by simp; omega) (by simp; omega)
       obtain ⟨q1, q2, q3, q4, q5⟩ := VJ.touch (t := t) [v.from_, v.to_] p.1.vs h.vj hl hcl
       have evs := exTouch_vs t [v.from_, v.to_] p
       have hlk := exTouch_lk t [v.from_, v.to_] p h.lk
       rw [← evs] at q1 q2 q3 q4 q5
       have eE : (exTouch t p [v.from_, v.to_]).1.E = p.1.E := q3
       have eK : (exTouch t p [v.from_, v.to_]).1.K = p.1.K := q2
       simp only [Option.isSome_some, ↓reduceIte, Bool.and_self, Bool.and_true, Bool.not_true, Bool.not_false, Bool.false_or, Bool.false_eq_true, Bool.true_and, g1]
       have hF := g2.F
       simp only [List.length_cons, List.length_nil] at g2 hF
       refine ⟨decide_eq_true (by omega), ?_, ?_, ?_⟩
       ·show VJ (tieM (growE (exTouch t p [v.from_, v.to_]).1) t p.1.E.length v false).vs
        rw [tieM_vs]
        have hq := q1.growE
        refine hq.tie (t := t) (k := p.1.E.length) (by show (exTouch t p [v.from_, v.to_]).1.K.live t = true; rw [eK]; exact hl) (by show p.1.E.length < ((exTouch t p [v.from_, v.to_]).1.E ++ [[]]).length; rw [eE]; simp) ?_ v false (fun _ n hn2 => ?_)
        ·have : (vGrowE (exTouch t p [v.from_, v.to_]).1.vs).ec ((p.1.E.length : Int) + 1) = [] := by
          rw [vGrowE_ec]
          exact cellOf_none (by show ¬ (1 ≤ _ ∧ _ ≤ ((exTouch t p [v.from_, v.to_]).1.E.length : Int)); rw [eE]; omega)
         rw [this]
         rfl
        ·have hw : Wrt (exTouch t p [v.from_, v.to_]).1.vs t n := q5 n (.inl (by
          rcases hn2 with rfl | rfl
          ·exact ⟨by simp, by rw [← readN_vs]; exact hf⟩
          ·exact ⟨by simp, by rw [← readN_vs]; exact ht⟩))
         exact ⟨hw.rd, hw.own⟩
       ·show LinkOk (tieM (growE (exTouch t p [v.from_, v.to_]).1) t p.1.E.length v false)
        rw [← eE]
        exact hlk.tieNew t v
       ·have e1 : (tieM (growE (exTouch t p [v.from_, v.to_]).1) t p.1.E.length v false).N = (exTouch t p [v.from_, v.to_]).1.N := linkM_N _ _
        have e2 : (tieM (growE (exTouch t p [v.from_, v.to_]).1) t p.1.E.length v false).Y = (exTouch t p [v.from_, v.to_]).1.Y := (linkM_X _ _).2
        have e3 : (tieM (growE (exTouch t p [v.from_, v.to_]).1) t p.1.E.length v false).E = (p.1.E ++ [[]]).set p.1.E.length [⟨t, v, false⟩] := by
         have : (tieM (growE (exTouch t p [v.from_, v.to_]).1) t p.1.E.length v false).E = ((exTouch t p [v.from_, v.to_]).1.E ++ [[]]).set p.1.E.length (writeV (exTouch t p [v.from_, v.to_]).1.K t v false (((exTouch t p [v.from_, v.to_]).1.E ++ [[]])[p.1.E.length]?.getD [])) := linkM_E _ _
         rw [this, eE]
         have e0 : (p.1.E ++ [([] : List (Ver EdgeV))])[p.1.E.length]?.getD [] = [] := by simp
         rw [e0]
         rfl
        have et := tot_set (p.1.E ++ [[]]) p.1.E.length [(⟨t, v, false⟩ : Ver EdgeV)] (by simp)
        have e0 : (p.1.E ++ [([] : List (Ver EdgeV))])[p.1.E.length]?.getD [] = [] := by simp
        rw [e0, tot_snoc] at et
        simp only [List.length_nil, List.length_cons] at et
        have hte := h.rm.te
        have hte2 : tot (exTouch t p [v.from_, v.to_]).1.E = tot p.1.E := by rw [eE]
        rw [hte2] at hF
        refine ⟨by show (tieM _ t _ v false).Y.length = (tieM _ t _ v false).N.length; rw [e1, e2]; exact g2.ny, by show ∀ L ∈ (tieM _ t _ v false).N, _; rw [e1]; exact g2.sm, by show ∀ k, ((tieM _ t _ v false).Y[k]?.getD []).length ≤ costV ((tieM _ t _ v false).N[k]?.getD []); rw [e1, e2]; exact g2.yl, by show (tieM _ t _ v false).N.length ≤ 24; rw [e1]; exact g2.n24, by show (tieM _ t _ v false).E.length ≤ 32; rw [e3]; simp; omega, by show tot (tieM _ t _ v false).N ≤ a + 2; rw [e1]; exact g2.tn, by show tot (tieM _ t _ v false).E ≤ b + 1; rw [e3]; omega, ?_⟩
        show (exTouch t p [v.from_, v.to_]).2 + 3 + 3000 * tot (tieM _ t _ v false).N + 2 * tot (tieM _ t _ v false).E ≤ c + 12000
        rw [e1, e3]
        omega
     ·rw [if_neg hn, decide_eq_false hn]
      exact ⟨rfl, hm⟩
end
theorem node_small {d : NodeD} (h : isNodeB d = true) : Small d := by
 unfold isNodeB namesB at h
 simp only [Bool.and_eq_true, decide_eq_true_eq, List.length_map] at h
 exact ⟨h.2.1.2, h.2.2.2⟩
theorem cellOf_nil {α : Type} (id : Int) : Go.Proofs.YthadcdoepoglkaaGreatDoor.cellOf ([] : List (List α)) id = [] := by
 unfold Go.Proofs.YthadcdoepoglkaaGreatDoor.cellOf
 split <;> simp
theorem GOk.empty : GOk (emptyM, 0) 0 0 0 := by
 have e1 : ∀ id, emptyM.vs.nc id = [] := fun id => cellOf_nil id
 have e2 : ∀ id, emptyM.vs.ec id = [] := fun id => cellOf_nil id
 refine ⟨{ clk := ⟨fun x hx => (by cases hx), by decide, fun x hx => (by cases hx), fun x hx => (by cases hx)⟩, n := fun id => by rw [e1]; exact CellOk.nil, e := fun id => by rw [e2]; exact CellOk.nil, j1 := ?_, j2 := ?_, j3 := ?_, j4 := ?_ }, ⟨rfl, fun k y hy => (by
  have : (emptyM.E[k]?.getD []) = [] := by simp [emptyM]
  rw [this] at hy
  cases hy), fun g id => ⟨fun hm => (by cases hm), fun ⟨k, _, h1, _⟩ => (by cases h1)⟩, fun g id => ⟨fun hm => (by cases hm), fun ⟨k, _, h1, _⟩ => (by cases h1)⟩⟩, ⟨rfl, fun L hL => (by cases hL), fun k => by simp [emptyM], by simp [emptyM], by simp [emptyM], by simp [emptyM, tot], by simp [emptyM, tot], by simp [emptyM, tot]⟩⟩
 ·intro id e he; rw [e2] at he; cases he
 ·intro t ht id e he; unfold VS.rdE at he; rw [e2] at he; cases he
 ·intro t ht id y hy; rw [e2] at hy; cases hy
 ·intro id y x hy; rw [e2] at hy; cases hy
end Go.Proofs.YthadcdoepoglkaaGreatDoor
namespace Go.Proofs.YthadcdoepoglkaaGreatDoor
open Go.RowKit Go.Lig
def emptyV : VS := ⟨⟨[], 0⟩, [], []⟩
theorem rsnew_any (w : World) (J : Nat → Prop) (hJ : Old w J) : Calls Tryz.prog 31 #[] w fun e w' => ∃ s ρ A, e = .returned (.pointer (some ⟨s, 0, none⟩)) ∧ RfAt w' J ρ s A emptyV 0 ∧ Fr No w w' ∧ ∀ b, Go.Lig.Own ρ b → w.heap.size ≤ b := by
 have h2 := heap2 w (.cells #[.slice none 0 0, .int .i64 0] 123) (.cells #[.pointer (some ⟨w.heap.size, 0, none⟩), .slice none 0 0, .slice none 0 0, .slice none 0 0, .slice none 0 0] 93)
 have hf : Fr No w ((w.alloc (.cells #[.slice none 0 0, .int .i64 0] 123)).alloc (.cells #[.pointer (some ⟨w.heap.size, 0, none⟩), .slice none 0 0, .slice none 0 0, .slice none 0 0, .slice none 0 0] 93)) := ((Fr.refl No w).alloc _).alloc _
 have hsz : ((w.alloc (.cells #[.slice none 0 0, .int .i64 0] 123)).alloc (.cells #[.pointer (some ⟨w.heap.size, 0, none⟩), .slice none 0 0, .slice none 0 0, .slice none 0 0, .slice none 0 0] 93)).heap.size = w.heap.size + 2 := by simp
 have HH := hid (⟨h2, hf, hsz⟩ : _ ∧ _ ∧ _)
 clear h2 hf hsz
 go_enter Tryz.func31, Tryz.ntmps31
 go_wp2_with fail
 go_ret
 obtain ⟨⟨h1, h2⟩, hf, hsz⟩ := HH.out
 generalize ((w.alloc (.cells #[.slice none 0 0, .int .i64 0] 123)).alloc (.cells #[.pointer (some ⟨w.heap.size, 0, none⟩), .slice none 0 0, .slice none 0 0, .slice none 0 0, .slice none 0 0] 93)) = W at *
 have r1 : ∀ b, (fun b => if b = w.heap.size then some Rp.clock else if b = w.heap.size + 1 then some Rp.root else none : Nat → Option Rp) b ≠ none → b = w.heap.size ∨ b = w.heap.size + 1 := fun b hb => by
  by_cases e : b = w.heap.size
  ·exact .inl e
  ·by_cases e2 : b = w.heap.size + 1
   ·exact .inr e2
   ·simp [e, e2] at hb
 refine ⟨w.heap.size + 1, (fun b => if b = w.heap.size then some Rp.clock else if b = w.heap.size + 1 then some Rp.root else none), ⟨w.heap.size, .slice none 0 0, .slice none 0 0, .slice none 0 0, .slice none 0 0, fun _ => 0, fun _ => 0, [], [], []⟩, rfl, ⟨fun b hb => ?_, fun p => ?_, fun b hb => ?_⟩, hf, fun b hb => ?_⟩
 ·rcases r1 b hb with e | e <;> omega
 ·cases p with
  | root => exact ⟨by unfold At; simp, h2⟩
  | clock =>
   refine ⟨⟨⟨.slice none 0 0, h1, World.ownsRow_nil _ _ _ _, fun _ e => (by cases e)⟩, by unfold At; simp, fun k hk => ?_, by simp [emptyV], fun x hx => (by cases hx)⟩, by simp [emptyV], by simp [emptyV]⟩
   have : k = w.heap.size ∨ k = w.heap.size + 1 := r1 k (by rw [show _ = some Rp.clock from hk]; simp)
   omega
  | nrow => exact ⟨World.ownsRow_nil _ _ _ _, fun _ e => (by cases e), by simp [emptyV]⟩
  | erow => exact ⟨World.ownsRow_nil _ _ _ _, fun _ e => (by cases e), by simp [emptyV]⟩
  | nds => exact ⟨World.ownsRow_nil _ _ _ _, fun _ e => (by cases e), rfl, Nat.le_refl _, fun j h d e => by simp at e⟩
  | eds => exact ⟨World.ownsRow_nil _ _ _ _, fun _ e => (by cases e), Nat.le_refl _⟩
  | node i => exact fun L hL => by simp [emptyV] at hL
  | edge i => exact fun L hL => by simp [emptyV] at hL
 ·have := hJ b hb
  have e1 : b ≠ w.heap.size := by omega
  have e2 : b ≠ w.heap.size + 1 := by omega
  simp [e1, e2]
 ·rcases r1 b hb with e | e <;> omega
section
variable {w w' : World} {J : Nat → Prop} {ρ : Nat → Option Rp} {s : Nat} {A : RAd} {v : VS} {F F' : Nat} {T' : Nat → Prop}
theorem RfAt.clock_ (h : RfAt w J ρ s A v F) (ho : Old w J) {K' : Ck} (kc : RClkAt w' T' A.c K') (f : Fr (At ρ .clock) w w') (g : Grown w (At ρ .clock) T') (hF : F ≤ F') (hl : K'.l.length ≤ F') (hc : K'.commits ≤ (F' : Int)) : ∃ ρ', RfAt w' J ρ' s A { v with K := K' } F' ∧ Gone (Go.Lig.Own ρ) w (Go.Lig.Own ρ') w' := by
 have t : RTrn w w' ρ .clock T' := ⟨f, g, kc.bound⟩
 refine ⟨_, (h.more hF).upd ho t ⟨kc, hl, hc⟩ (fun q hq R hr => ?_), rgone_turn t⟩
 cases q with
 | clock => exact absurd rfl hq
 | _ => exact hr
end
theorem RTurns.ofNo {w w' : World} {J : Nat → Prop} {ρ : Nat → Option Rp} {s : Nat} {A : RAd} {v : VS} {F : Nat} (h : RfAt w J ρ s A v F) (hf : Fr No w w') : RTurns w J ρ s v F w' := ⟨ρ, A, h.no hf, Gone.no hf⟩
def vBegin (v : VS) : (Int × Int) × VS := if v.K.count < 4 then (((v.K.l.length + 1 : Nat), 0), { v with K := v.K.begins }) else ((0, 3), v)
section
variable (w : World) (J : Nat → Prop) (ρ : Nat → Option Rp) (s : Nat) (A : RAd) (v : VS) (F : Nat) (h : RfAt w J ρ s A v F) (ho : Old w J)
include h ho
theorem rsbegin_any (hF : F < 1000000) : Calls Tryz.prog 32 #[.pointer (some ⟨s, 0, none⟩)] w fun e w' => e = .returned (.tuple #[.int .i64 (vBegin v).1.1, .int .i64 (vBegin v).1.2]) ∧ RTurns w J ρ s (vBegin v).2 (F + 1) w' := by
 obtain ⟨x0, -⟩ := h.cells
 have hk := h.at_ .clock
 unfold vBegin
 by_cases hc : v.K.count < 4
 ·rw [if_pos hc]
  have HB := hid (rbegin_ok w (At ρ .clock) A.c v.K h.clock hc (by have := hk.2.1; omega))
  have HH := hid (⟨h, hk⟩ : _ ∧ _)
  dsimp only
  generalize ((v.K.l.length + 1 : Nat) : Int) = z at *
  clear h hk hc
  go_enter Tryz.func32, Tryz.ntmps32
  go_wp2_with (go_at_call 69; refine HB.out.mono ?_; rintro e w1 ⟨rfl, T', k1, f1, g1⟩; have H1 := hid (⟨k1, f1, g1⟩ : _ ∧ _ ∧ _); clear k1 f1 g1)
  go_ret2
  obtain ⟨ρ', q1, q2⟩ := HH.out.1.clock_ ho H1.out.1 H1.out.2.1 H1.out.2.2 (Nat.le_succ F) (by have := HH.out.2.2.1; simp [Ck.begins]; omega) (by have := HH.out.2.2.2; show v.K.commits ≤ _; omega)
  exact ⟨rfl, ρ', A, q1, q2⟩
 ·rw [if_neg hc]
  have HB := hid (rbegin_full w (At ρ .clock) A.c v.K h.clock (by omega))
  have HH := hid h
  clear h hk hc
  go_enter Tryz.func32, Tryz.ntmps32
  go_wp2_with (go_at_call 69; refine HB.out.mono ?_; rintro e w1 ⟨rfl, f1⟩; have H1 := hid f1; clear f1)
  go_ret2
  exact ⟨rfl, RTurns.ofNo (HH.out.more (Nat.le_succ F)) H1.out⟩
end
end Go.Proofs.YthadcdoepoglkaaGreatDoor
