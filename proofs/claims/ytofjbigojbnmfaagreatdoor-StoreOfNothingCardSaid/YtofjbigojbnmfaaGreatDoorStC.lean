/- The plain store: New, Begin, Commit, Live, reads, puts. -/
import Derived.Test.YtofjbigojbnmfaaGreatDoorStB
import Derived.Test.YtofjbigojbnmfaaGreatDoorClk6b
namespace Go.Lig
open Go.RowKit
section
variable {P : Program} {ops : Array Oper} {Q : Exit → Act → World → Prop} {S : World → Prop} {i : Nat}
/-- a call as the last operation -/
theorem sched_callL {a : Act} {w : World} {o : Oper} {rest : List (Bool × Nat × Oper)} (hgd : Region.wanted o (yielded ops a.tmps) = true) (f : FuncId) (vs : Array Value)
    (hrun : (execOp a.eval o).run P w = .ok (.enter f vs) w) {R} (hc : Calls P f vs w R)
    (h : ∀ e w', R e w' → ∃ v, e = .returned v ∧ wpSched P ops Q S i rest (a.put o.dst v) w') : wpSched P ops Q S i ((true, i, o) :: rest) a w := by
  refine sched_loud ?_
  unfold wpList
  rw [if_pos hgd]
  refine .inl ?_
  unfold Oper.wp
  rw [hrun]
  refine hc.mono fun e w' hR => ?_
  obtain ⟨v, rfl, hk⟩ := h e w' hR
  exact sched_last hk
end
end Go.Lig
namespace Go.Proofs.YtofjbigojbnmfaaGreatDoor
open Go.RowKit Go.Lig

def rdB (M : PSt) (t id : Int) : Bool := if 1 ≤ id ∧ id ≤ (M.N.length : Int) then (readL M.K t (M.N[(id - 1).toNat]?.getD [])).isSome else false
theorem reads_any (w : World) (ρ : Nat → Option Pt) (s : Nat) (A : Ad) (M : PSt) (h : StAt w ρ s A M) (t id : Int) :
    Calls Tryz.prog 43 #[.pointer (some ⟨s, 0, none⟩), .int .i64 t, .int .i64 id] w fun e w' => e = .returned (.bool (rdB M t id)) ∧ Fr No w w' := by
  obtain ⟨gk, hk, -⟩ := h.clock.row
  by_cases hv : 1 ≤ id ∧ id ≤ (M.N.length : Int)
  · obtain ⟨k, rfl⟩ : ∃ k : Nat, id = (k : Int) + 1 := ⟨(id - 1).toNat, by omega⟩
    have hkl : k < M.N.length := by omega
    obtain ⟨L, hL⟩ : ∃ L, M.N[k]? = some L := ⟨_, List.getElem?_eq_getElem hkl⟩
    obtain ⟨g, hr, -⟩ := (h.cell k L hL).row
    have e1 : rdB M t ((k : Int) + 1) = (readL M.K t L).isSome := by unfold rdB; rw [if_pos hv, show ((k : Int) + 1 - 1).toNat = k by omega, hL]; rfl
    rw [e1]
    refine reads_of w s A.c t _ (ndP A M ((k : Int) + 1)) (readL M.K t L) h.cells.1 (fun u hu => node_any u ρ s A M (h.frame hu) _) (fun u hu => ?_)
    rw [ndP_some A M k hkl]
    exact read_any u (A.x k) g A.c gk M.K L (hr.frame hu) (h.cell k L hL).small (hk.frame hu) h.clock.small.1 t
  · have e1 : rdB M t id = false := if_neg hv
    rw [e1]
    refine reads_of w s A.c t _ (ndP A M id) none h.cells.1 (fun u hu => node_any u ρ s A M (h.frame hu) _) (fun u _ => ?_)
    rw [show ndP A M id = none from if_neg hv]
    exact read_nil u A.c t
theorem stlive_any (w : World) (ρ : Nat → Option Pt) (s : Nat) (A : Ad) (M : PSt) (h : StAt w ρ s A M) :
    Calls Tryz.prog 29 #[.pointer (some ⟨s, 0, none⟩)] w fun e w' => e = .returned (.int .i64 (M.K.count : Int)) ∧ Fr No w w' := by
  obtain ⟨g, hr, -⟩ := h.clock.row
  have HC := hid (count_any w A.c g M.K hr h.clock.small.1)
  obtain ⟨x0, -⟩ := h.cells
  clear h hr
  go_enter Tryz.func29, Tryz.ntmps29
  go_wp2_with (go_at_call 71; refine HC.out.mono ?_; rintro e w1 ⟨rfl, f1⟩; have H1 := hid f1; clear f1)
  go_ret
  exact ⟨rfl, H1.out⟩
theorem gone_turn {w w' : World} {ρ : Nat → Option Pt} {p : Pt} {T : Nat → Prop} (t : Trn w w' ρ p T) : Gone (Go.Lig.Own ρ) w (Go.Lig.Own (turn ρ p T)) w' :=
  ⟨t.fr.mono (fun b _ hb => at_own b hb), own_turn t.gr⟩
theorem stbegin_any (w : World) (ρ : Nat → Option Pt) (s : Nat) (A : Ad) (M : PSt) (h : StAt w ρ s A M) (hc : M.K.count < 4) (hs : M.K.l.length < 1000000) :
    Calls Tryz.prog 6 #[.pointer (some ⟨s, 0, none⟩)] w fun e w' => e = .returned (.tuple #[.int .i64 ((M.K.l.length + 1 : Nat) : Int), .int .i64 0]) ∧ ∃ ρ', StAt w' ρ' s A { M with K := M.K.begins } ∧ Gone (Go.Lig.Own ρ) w (Go.Lig.Own ρ') w' := by
  have HC := hid (begin_ok w (At ρ .clock) A.c M.K h.clock hc hs)
  obtain ⟨x0, -⟩ := h.cells
  have HH := hid h
  clear h hc hs
  go_enter Tryz.func6, Tryz.ntmps6
  go_wp2_with (go_at_call 32; refine HC.out.mono ?_; rintro e w1 ⟨rfl, T', k1, f1, g1⟩; have H1 := hid (⟨k1, f1, g1⟩ : _ ∧ _ ∧ _); clear k1 f1 g1)
  go_ret2
  obtain ⟨k1, f1, g1⟩ := H1.out
  have t : Trn w w1 ρ .clock T' := ⟨f1, g1, k1.bound⟩
  exact ⟨rfl, _, HH.out.clock_ t k1, gone_turn t⟩
theorem stcommit_any (w : World) (ρ : Nat → Option Pt) (s : Nat) (A : Ad) (M : PSt) (h : StAt w ρ s A M) (t : Int) (hl : M.K.live t = true) (hc : M.K.commits < 1000000) :
    Calls Tryz.prog 8 #[.pointer (some ⟨s, 0, none⟩), .int .i64 t] w fun e w' => e = .returned (.int .i64 0) ∧ ∃ ρ', StAt w' ρ' s A { M with K := M.K.commit t } ∧ Gone (Go.Lig.Own ρ) w (Go.Lig.Own ρ') w' := by
  have HC := hid (commit_ok w (At ρ .clock) A.c M.K h.clock t hl hc)
  obtain ⟨x0, -⟩ := h.cells
  have HH := hid h
  clear h hl hc
  go_enter Tryz.func8, Tryz.ntmps8
  go_wp2_with (go_at_call 37; refine HC.out.mono ?_; rintro e w1 ⟨rfl, k1, f1⟩; have H1 := hid (⟨k1, f1⟩ : _ ∧ _); clear k1 f1)
  go_ret
  obtain ⟨k1, f1⟩ := H1.out
  have t : Trn w w1 ρ .clock (At ρ .clock) := ⟨f1, Grown.refl _ _, k1.bound⟩
  exact ⟨rfl, _, HH.out.clock_ t k1, gone_turn t⟩
end Go.Proofs.YtofjbigojbnmfaaGreatDoor
