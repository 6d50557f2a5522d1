/- A part of the proof: contracts of functions of the program, for the row's text. -/
import Derived.Test.YtibfpkfpmkghhaaGreatDoorJ15
import Derived.Test.YtibfpkfpmkghhaaGreatDoorJ04
import Derived.Test.YtibfpkfpmkghhaaGreatDoorJ03
namespace Go.Lig
open Go.RowKit
section
variable {P : Program} {ops : Array Oper} {Q : Exit → Act → World → Prop} {S : World → Prop} {i : Nat}
/-- a call as the last operation -/
theorem sched_callL {a : Act} {w : World} {o : Oper} {rest : List (Bool × Nat × Oper)} (hgd : Region.wanted o (yielded ops a.tmps) = true) (f : FuncId) (vs : Array Value)
    (hrun : (execOp a.eval o).run P w = .ok (.enter f vs) w) {R} (hc : Calls P f vs w R)
    (h : ∀ e w', R e w' → ∃ v, e = .returned v ∧ wpSched P ops Q S i rest (a.put o.dst v) w') : wpSched P ops Q S i ((true, i, o) :: rest) a w := by
  refine sched_loud ?_
  unfold wpList
  rw [if_pos hgd]
  refine .inl ?_
  unfold Oper.wp
  rw [hrun]
  refine hc.mono fun e w' hR => ?_
  obtain ⟨v, rfl, hk⟩ := h e w' hR
  exact sched_last hk
end
end Go.Lig
namespace Go.Proofs.YtibfpkfpmkghhaaGreatDoor
open Go.RowKit Go.Lig

/-- the store at s is M' now -/
def Turns (w : World) (ρ : Nat → Option Pt) (s : Nat) (M' : PSt) (F' : Nat) (w' : World) : Prop := ∃ ρ' A', StAt w' ρ' s A' M' F' ∧ Gone (Go.Lig.Own ρ) w (Go.Lig.Own ρ') w'
/-- .. and its rows lie where they lay -/
def TurnsA (w : World) (ρ : Nat → Option Pt) (s : Nat) (A : Ad) (M' : PSt) (F' : Nat) (w' : World) : Prop := ∃ ρ', StAt w' ρ' s A M' F' ∧ Gone (Go.Lig.Own ρ) w (Go.Lig.Own ρ') w'
section
variable {w w' : World} {ρ : Nat → Option Pt} {s : Nat} {A : Ad} {M : PSt} {F : Nat}
theorem TurnsA.turns {M' : PSt} {F' : Nat} (h : TurnsA w ρ s A M' F' w') : Turns w ρ s M' F' w' := by
  obtain ⟨ρ', h1, h2⟩ := h
  exact ⟨ρ', A, h1, h2⟩
theorem TurnsA.next {w2 : World} {M' : PSt} {F' : Nat} (t : TurnsA w ρ s A M' F' w') (hf : Fr No w' w2) : TurnsA w ρ s A M' F' w2 := by
  obtain ⟨ρ', h1, h2⟩ := t
  exact ⟨ρ', h1.frame hf, h2.nextNo hf⟩
theorem TurnsA.more {M' : PSt} {F' G : Nat} (t : TurnsA w ρ s A M' F' w') (hg : F' ≤ G) : TurnsA w ρ s A M' G w' := by
  obtain ⟨ρ', h1, h2⟩ := t
  exact ⟨ρ', h1.more hg, h2⟩
theorem TurnsA.trans {w1 w2 : World} {ρ1 : Nat → Option Pt} {M1 : PSt} {F1 : Nat} (g : Gone (Go.Lig.Own ρ) w (Go.Lig.Own ρ1) w1) (t : TurnsA w1 ρ1 s A M1 F1 w2) : TurnsA w ρ s A M1 F1 w2 := by
  obtain ⟨ρ2, h1, h2⟩ := t
  exact ⟨ρ2, h1, g.trans h2⟩
theorem StAt.heap (h : StAt w ρ s A M F) : w.heap[s]? = some (.cells (rootCells A) 80 (0, 0)) := (h.at_ .root).2
theorem StAt.root (h : StAt w ρ s A M F) : At ρ .root s := (h.at_ .root).1
theorem StAt.cells (h : StAt w ρ s A M F) : w.cell? ⟨s, 0, none⟩ = some (.pointer (some ⟨A.c, 0, none⟩)) ∧ w.cell? ⟨s, 1, none⟩ = some A.nv ∧ w.cell? ⟨s, 2, none⟩ = some A.dv ∧ w.cell? ⟨s, 3, none⟩ = some A.fv ∧ w.cell? ⟨s, 4, none⟩ = some (.pointer (some ⟨A.o, 0, none⟩)) ∧ w.cell? ⟨s, 5, none⟩ = some (.pointer (some ⟨A.i, 0, none⟩)) ∧ w.cell? ⟨s, 6, none⟩ = some (.map (some A.m)) ∧ w.cell? ⟨s, 7, none⟩ = some A.ev := by
  have := cellOf h.heap
  exact ⟨this 0, this 1, this 2, this 3, this 4, this 5, this 6, this 7⟩
theorem StAt.lt (h : StAt w ρ s A M F) : s < w.heap.size := lt_of_block h.heap
theorem StAt.clock (h : StAt w ρ s A M F) : ClockAt w (At ρ .clock) A.c M.K := (h.at_ .clock).1
theorem StAt.ncell (h : StAt w ρ s A M F) {i : Nat} {L : List (Ver NodeD)} (hL : M.N[i]? = some L) : NCell w (At ρ (.node i)) (At ρ .imm) (A.x i) L := (h.at_ (.node i) L hL).1
theorem StAt.ecell (h : StAt w ρ s A M F) {i : Nat} {L : List (Ver EdgeV)} (hL : M.E[i]? = some L) : Ec.CellAt w (At ρ (.edge i)) (A.z i) L := (h.at_ (.edge i) L hL).1
theorem StAt.nlen (h : StAt w ρ s A M F) : M.N.length ≤ 1000 := (h.at_ .nrow).2.2
theorem StAt.elen (h : StAt w ρ s A M F) : M.E.length ≤ 1000 := (h.at_ .edrow).2.2
theorem StAt.rho {b : Nat} {p : Pt} (h : StAt w ρ s A M F) (hb : At ρ p b) : b < w.heap.size := h.bound b (by rw [show ρ b = _ from hb]; simp)
theorem Turns.ahead {w0 : World} {M' : PSt} {F' : Nat} (t : Turns w ρ s M' F' w') (hf : Fr No w0 w) : Turns w0 ρ s M' F' w' := by
  obtain ⟨ρ', A', h1, h2⟩ := t
  exact ⟨ρ', A', h1, (Gone.no hf).trans h2⟩
theorem Turns.next {w2 : World} {M' : PSt} {F' : Nat} (t : Turns w ρ s M' F' w') (hf : Fr No w' w2) : Turns w ρ s M' F' w2 := by
  obtain ⟨ρ', A', h1, h2⟩ := t
  exact ⟨ρ', A', h1.frame hf, h2.nextNo hf⟩
theorem Turns.more {M' : PSt} {F' G : Nat} (t : Turns w ρ s M' F' w') (hg : F' ≤ G) : Turns w ρ s M' G w' := by
  obtain ⟨ρ', A', h1, h2⟩ := t
  exact ⟨ρ', A', h1.more hg, h2⟩
/-- a clock's turn -/
theorem StAt.clock_ {K' : Ck} {T : Nat → Prop} {F' : Nat} (h : StAt w ρ s A M F) (k : ClockAt w' T A.c K') (f : Fr (At ρ .clock) w w') (g : Grown w (At ρ .clock) T) (hF : F ≤ F') (h1 : K'.l.length ≤ F') (h2 : K'.commits ≤ (F' : Int)) : TurnsA w ρ s A { M with K := K' } F' w' := by
  have t : Trn w w' ρ .clock T := ⟨f, g, k.bound⟩
  refine ⟨_, (h.more hF).upd t (by simp) ⟨k, h1, h2⟩ (fun q hq R hr => ?_), gone_turn t⟩
  cases q <;> first | exact hr | exact absurd rfl hq
end
theorem islive_any (w : World) (ρ : Nat → Option Pt) (s : Nat) (A : Ad) (M : PSt) (F : Nat) (h : StAt w ρ s A M F) (t : Int) :
    Calls Tryz.prog 43 #[.pointer (some ⟨s, 0, none⟩), .int .i64 t] w fun e w' => e = .returned (.bool (M.K.live t)) ∧ w = w' := by
  obtain ⟨g, hr, -⟩ := h.clock.row
  have HL := hid (live_any w A.c g M.K hr h.clock.small.1 t)
  obtain ⟨x0, -⟩ := h.cells
  generalize M.K.live t = b at *
  clear h hr
  go_enter Tryz.func43, Tryz.ntmps43
  go_wp2_with (go_at_call 104; refine HL.out.mono ?_; rintro e w1 ⟨rfl, rfl⟩)
  go_ret
  exact ⟨rfl, rfl⟩
/-- the cell of a number -/
def ndP (A : Ad) (M : PSt) (id : Int) : Option Addr := if 1 ≤ id ∧ id ≤ (M.N.length : Int) then some ⟨A.x (id - 1).toNat, 0, none⟩ else none
def edP (A : Ad) (M : PSt) (id : Int) : Option Addr := if 1 ≤ id ∧ id ≤ (M.E.length : Int) then some ⟨A.z (id - 1).toNat, 0, none⟩ else none
theorem ndP_some (A : Ad) (M : PSt) (k : Nat) (hk : k < M.N.length) : ndP A M ((k : Int) + 1) = some ⟨A.x k, 0, none⟩ := by
  unfold ndP
  rw [if_pos (by omega), show ((k : Int) + 1 - 1).toNat = k by omega]
theorem edP_some (A : Ad) (M : PSt) (k : Nat) (hk : k < M.E.length) : edP A M ((k : Int) + 1) = some ⟨A.z k, 0, none⟩ := by
  unfold edP
  rw [if_pos (by omega), show ((k : Int) + 1 - 1).toNat = k by omega]
theorem node_any (w : World) (ρ : Nat → Option Pt) (s : Nat) (A : Ad) (M : PSt) (F : Nat) (h : StAt w ρ s A M F) (id : Int) :
    Calls Tryz.prog 51 #[.pointer (some ⟨s, 0, none⟩), .int .i64 id] w fun e w' => e = .returned (.pointer (ndP A M id)) ∧ w = w' := by
  have x1 := h.cells.2.1
  have hrow := (h.at_ .nrow).1
  obtain ⟨a, cap, hnv⟩ := ownsRow_slice hrow
  rw [hnv] at x1 hrow
  have hsm := h.nlen
  by_cases hv : 1 ≤ id ∧ id ≤ (M.N.length : Int)
  · have hp : ndP A M id = some ⟨A.x (id - 1).toNat, 0, none⟩ := if_pos hv
    rw [hp]
    obtain ⟨k, hk⟩ : ∃ k : Nat, id = (k : Int) + 1 := ⟨(id - 1).toNat, by omega⟩
    subst hk
    have hkt : ((k : Int) + 1 - 1).toNat = k := by omega
    rw [hkt]
    have hkl : k < M.N.length := by omega
    obtain ⟨g, cur, rfl, -, -⟩ := owns_at hrow (by omega)
    have hc := owns_cell hrow rfl (ptrs_get A.x M.N.length k hkl)
    have n1 : ¬ (k : Int) + 1 < 1 := by omega
    have n2 : ¬ (M.N.length : Int) < (k : Int) + 1 := by omega
    generalize A.x k = xb at *
    generalize M.N.length = n at *
    clear h hrow hp hv hnv
    go_enter Tryz.func51, Tryz.ntmps51
    go_wp2
    go_ret
    exact ⟨rfl, rfl⟩
  · have hp : ndP A M id = none := if_neg hv
    rw [hp]
    generalize M.N.length = n at *
    clear h hp hnv hrow
    by_cases h1 : id < 1
    · clear hv
      go_enter Tryz.func51, Tryz.ntmps51
      go_wp2
      go_ret
      exact ⟨rfl, rfl⟩
    · have h2 : (n : Int) < id := by omega
      clear hv
      go_enter Tryz.func51, Tryz.ntmps51
      go_wp2
      go_ret
      exact ⟨rfl, rfl⟩
theorem edge_any (w : World) (ρ : Nat → Option Pt) (s : Nat) (A : Ad) (M : PSt) (F : Nat) (h : StAt w ρ s A M F) (id : Int) :
    Calls Tryz.prog 66 #[.pointer (some ⟨s, 0, none⟩), .int .i64 id] w fun e w' => e = .returned (.pointer (edP A M id)) ∧ w = w' := by
  have x1 := h.cells.2.2.1
  have hrow := (h.at_ .edrow).1
  obtain ⟨a, cap, hnv⟩ := ownsRow_slice hrow
  rw [hnv] at x1 hrow
  have hsm := h.elen
  by_cases hv : 1 ≤ id ∧ id ≤ (M.E.length : Int)
  · have hp : edP A M id = some ⟨A.z (id - 1).toNat, 0, none⟩ := if_pos hv
    rw [hp]
    obtain ⟨k, hk⟩ : ∃ k : Nat, id = (k : Int) + 1 := ⟨(id - 1).toNat, by omega⟩
    subst hk
    have hkt : ((k : Int) + 1 - 1).toNat = k := by omega
    rw [hkt]
    have hkl : k < M.E.length := by omega
    obtain ⟨g, cur, rfl, -, -⟩ := owns_at hrow (by omega)
    have hc := owns_cell hrow rfl (ptrs_get A.z M.E.length k hkl)
    have n1 : ¬ (k : Int) + 1 < 1 := by omega
    have n2 : ¬ (M.E.length : Int) < (k : Int) + 1 := by omega
    generalize A.z k = xb at *
    generalize M.E.length = n at *
    clear h hrow hp hv hnv
    go_enter Tryz.func66, Tryz.ntmps66
    go_wp2
    go_ret
    exact ⟨rfl, rfl⟩
  · have hp : edP A M id = none := if_neg hv
    rw [hp]
    generalize M.E.length = n at *
    clear h hp hnv hrow
    by_cases h1 : id < 1
    · clear hv
      go_enter Tryz.func66, Tryz.ntmps66
      go_wp2
      go_ret
      exact ⟨rfl, rfl⟩
    · have h2 : (n : Int) < id := by omega
      clear hv
      go_enter Tryz.func66, Tryz.ntmps66
      go_wp2
      go_ret
      exact ⟨rfl, rfl⟩
theorem stlive_any (w : World) (ρ : Nat → Option Pt) (s : Nat) (A : Ad) (M : PSt) (F : Nat) (h : StAt w ρ s A M F) :
    Calls Tryz.prog 41 #[.pointer (some ⟨s, 0, none⟩)] w fun e w' => e = .returned (.int .i64 (M.K.count : Int)) ∧ Fr No w w' := by
  obtain ⟨g, hr, -⟩ := h.clock.row
  have HC := hid (count_any w A.c g M.K hr h.clock.small.1)
  obtain ⟨x0, -⟩ := h.cells
  clear h hr
  go_enter Tryz.func41, Tryz.ntmps41
  go_wp2_with (go_at_call 103; refine HC.out.mono ?_; rintro e w1 ⟨rfl, f1⟩; have H1 := hid f1; clear f1)
  go_ret
  exact ⟨rfl, H1.out⟩
theorem stbegin_any (w : World) (ρ : Nat → Option Pt) (s : Nat) (A : Ad) (M : PSt) (F : Nat) (h : StAt w ρ s A M F) (hc : M.K.count < 4) (hs : F < 1000000) :
    Calls Tryz.prog 10 #[.pointer (some ⟨s, 0, none⟩)] w fun e w' => e = .returned (.tuple #[.int .i64 ((M.K.l.length + 1 : Nat) : Int), .int .i64 0]) ∧ TurnsA w ρ s A { M with K := M.K.begins } (F + 1) w' := by
  have hF := (h.at_ .clock).2
  have HC := hid (begin_ok w (At ρ .clock) A.c M.K h.clock hc (by omega))
  obtain ⟨x0, -⟩ := h.cells
  have HH := hid (⟨h, hF⟩ : _ ∧ _)
  clear h hc hs hF
  go_enter Tryz.func10, Tryz.ntmps10
  go_wp2_with (go_at_call 42; refine HC.out.mono ?_; rintro e w1 ⟨rfl, T', k1, f1, g1⟩; have H1 := hid (⟨k1, f1, g1⟩ : _ ∧ _ ∧ _); clear k1 f1 g1)
  go_ret2
  obtain ⟨k1, f1, g1⟩ := H1.out
  obtain ⟨h, h1, h2⟩ := HH.out
  exact ⟨rfl, h.clock_ k1 f1 g1 (Nat.le_succ _) (by simp [Ck.begins]; omega) (by simp [Ck.begins]; omega)⟩
theorem ck_commit_len (K : Ck) (t : Int) : (K.commit t).l.length = K.l.length := by
  unfold Ck.commit
  split <;> simp [Ck.put]
theorem ck_abort_len (K : Ck) (t : Int) : (K.abort t).l.length = K.l.length := by
  unfold Ck.abort
  split <;> simp [Ck.put]
theorem ck_commit_commits (K : Ck) (t : Int) : (K.commit t).commits ≤ K.commits + 1 := by
  unfold Ck.commit
  split
  · exact Int.le_refl _
  · omega
theorem ck_abort_commits (K : Ck) (t : Int) : (K.abort t).commits = K.commits := by
  unfold Ck.abort
  split <;> simp [Ck.put]
theorem stcommit_any (w : World) (ρ : Nat → Option Pt) (s : Nat) (A : Ad) (M : PSt) (F : Nat) (h : StAt w ρ s A M F) (t : Int) (hl : M.K.live t = true) (hs : F < 1000000) :
    Calls Tryz.prog 12 #[.pointer (some ⟨s, 0, none⟩), .int .i64 t] w fun e w' => e = .returned (.int .i64 0) ∧ TurnsA w ρ s A { M with K := M.K.commit t } (F + 1) w' := by
  have hF := (h.at_ .clock).2
  have HC := hid (commit_ok w (At ρ .clock) A.c M.K h.clock t hl (by omega))
  obtain ⟨x0, -⟩ := h.cells
  have HH := hid (⟨h, hF⟩ : _ ∧ _)
  clear h hl hs hF
  go_enter Tryz.func12, Tryz.ntmps12
  go_wp2_with (go_at_call 48; refine HC.out.mono ?_; rintro e w1 ⟨rfl, k1, f1⟩; have H1 := hid (⟨k1, f1⟩ : _ ∧ _); clear k1 f1)
  go_ret
  obtain ⟨k1, f1⟩ := H1.out
  obtain ⟨h, h1, h2⟩ := HH.out
  exact ⟨rfl, h.clock_ k1 f1 (Grown.refl _ _) (Nat.le_succ _) (by rw [ck_commit_len]; omega) (by have := ck_commit_commits M.K t; omega)⟩
theorem stcommit_no (w : World) (ρ : Nat → Option Pt) (s : Nat) (A : Ad) (M : PSt) (F : Nat) (h : StAt w ρ s A M F) (t : Int) (hl : M.K.live t = false) :
    Calls Tryz.prog 12 #[.pointer (some ⟨s, 0, none⟩), .int .i64 t] w fun e w' => e = .returned (.int .i64 5) ∧ w = w' := by
  have HC := hid (commit_no w (At ρ .clock) A.c M.K h.clock t hl)
  obtain ⟨x0, -⟩ := h.cells
  clear h hl
  go_enter Tryz.func12, Tryz.ntmps12
  go_wp2_with (go_at_call 48; refine HC.out.mono ?_; rintro e w1 ⟨rfl, rfl⟩)
  go_ret
  exact ⟨rfl, rfl⟩
end Go.Proofs.YtibfpkfpmkghhaaGreatDoor

namespace Go.Proofs.YtibfpkfpmkghhaaGreatDoor
open Go.RowKit Go.Lig

/-! ### Versions of whatever -/
section
variable {α β : Type}
def readV (K : Ck) (t : Int) (L : List (Ver α)) : Option α := lastOf (K.sees t) L.reverse
def clashV (K : Ck) (t : Int) (L : List (Ver α)) : Bool := match L.getLast? with
  | some y => K.clashes t y.by_
  | none => false
def writeV (K : Ck) (t : Int) (v : α) (g : Bool) (L : List (Ver α)) : List (Ver α) := if clashV K t L then L else
  match L.getLast? with
  | some y => if y.by_ = t then L.dropLast ++ [⟨t, v, g⟩] else L ++ [⟨t, v, g⟩]
  | none => L ++ [⟨t, v, g⟩]
def undoV (t : Int) (L : List (Ver α)) : List (Ver α) := L.filter (fun z => !(z.by_ == t))
theorem writeV_len (K : Ck) (t : Int) (v : α) (g : Bool) (L : List (Ver α)) : (writeV K t v g L).length ≤ L.length + 1 := by
  unfold writeV
  split
  · omega
  · split
    · split
      · simp <;> omega
      · simp
    · simp
theorem undoV_len (t : Int) (L : List (Ver α)) : (undoV t L).length ≤ L.length := List.length_filter_le _ _
end
section
variable {w : World} {I : Nat → Prop}
theorem VersIn.nil (w : World) (I : Nat → Prop) : VersIn w I [] [] := ⟨rfl, fun j h d e _ => by simp at e⟩
theorem VersIn.cons_inv {h : Ver NodeV} {H : List (Ver NodeV)} {d : Ver NodeD} {L : List (Ver NodeD)} (v : VersIn w I (h :: H) (d :: L)) : VerIn w I h d ∧ VersIn w I H L :=
  ⟨v.at_ 0 h d rfl rfl, by simpa using v.len, fun j h' d' e1 e2 => v.at_ (j + 1) h' d' (by simpa using e1) (by simpa using e2)⟩
theorem VersIn.cons {h : Ver NodeV} {H : List (Ver NodeV)} {d : Ver NodeD} {L : List (Ver NodeD)} (v : VerIn w I h d) (vs : VersIn w I H L) : VersIn w I (h :: H) (d :: L) :=
  ⟨by simp [vs.len], fun j h' d' e1 e2 => by
    cases j with
    | zero =>
      obtain rfl : h = h' := by simpa using e1
      obtain rfl : d = d' := by simpa using e2
      exact v
    | succ j => exact vs.at_ j h' d' (by simpa using e1) (by simpa using e2)⟩
theorem VersIn.append {H : List (Ver NodeV)} {L : List (Ver NodeD)} {H' : List (Ver NodeV)} {L' : List (Ver NodeD)} (v : VersIn w I H L) (v' : VersIn w I H' L') : VersIn w I (H ++ H') (L ++ L') := by
  refine ⟨by simp [v.len, v'.len], fun j h d e1 e2 => ?_⟩
  by_cases hj : j < H.length
  · rw [List.getElem?_append_left hj] at e1
    rw [List.getElem?_append_left (by rw [← v.len]; exact hj)] at e2
    exact v.at_ j h d e1 e2
  · rw [List.getElem?_append_right (by omega)] at e1
    rw [List.getElem?_append_right (by rw [← v.len]; omega), ← v.len] at e2
    exact v'.at_ _ h d e1 e2
theorem VersIn.reverse {H : List (Ver NodeV)} {L : List (Ver NodeD)} (v : VersIn w I H L) : VersIn w I H.reverse L.reverse := by
  induction H generalizing L with
  | nil =>
    obtain rfl : L = [] := List.length_eq_zero_iff.1 v.len.symm
    exact VersIn.nil w I
  | cons h H ih =>
    cases L with
    | nil => have := v.len; simp at this
    | cons d L =>
      obtain ⟨v1, v2⟩ := v.cons_inv
      rw [List.reverse_cons, List.reverse_cons]
      exact (ih v2).append (VersIn.cons v1 (VersIn.nil w I))
theorem VersIn.filter {H : List (Ver NodeV)} {L : List (Ver NodeD)} (v : VersIn w I H L) (p : Int → Bool) : VersIn w I (H.filter fun z => p z.by_) (L.filter fun z => p z.by_) := by
  induction H generalizing L with
  | nil =>
    obtain rfl : L = [] := List.length_eq_zero_iff.1 v.len.symm
    exact VersIn.nil w I
  | cons h H ih =>
    cases L with
    | nil => have := v.len; simp at this
    | cons d L =>
      obtain ⟨v1, v2⟩ := v.cons_inv
      rw [List.filter_cons, List.filter_cons, v1.by_]
      cases p d.by_ with
      | true => exact VersIn.cons v1 (ih v2)
      | false => exact ih v2
theorem VersIn.dropLast {H : List (Ver NodeV)} {L : List (Ver NodeD)} (v : VersIn w I H L) : VersIn w I H.dropLast L.dropLast := by
  refine ⟨by simp [v.len], fun j h d e1 e2 => ?_⟩
  rw [List.getElem?_dropLast] at e1 e2
  split at e1
  · split at e2
    · exact v.at_ j h d e1 e2
    · cases e2
  · cases e1
theorem VersIn.last {H : List (Ver NodeV)} {L : List (Ver NodeD)} (v : VersIn w I H L) : (H.getLast? = none ∧ L.getLast? = none) ∨ ∃ h d, H.getLast? = some h ∧ L.getLast? = some d ∧ VerIn w I h d := by
  rw [List.getLast?_eq_getElem?, List.getLast?_eq_getElem?]
  by_cases hl : H.length = 0
  · have hl2 : L.length = 0 := by rw [← v.len]; exact hl
    exact .inl ⟨List.getElem?_eq_none (by omega), List.getElem?_eq_none (by omega)⟩
  · have h1 : H.length - 1 < H.length := by omega
    have h2 : L.length - 1 < L.length := by have := v.len; omega
    refine .inr ⟨_, _, List.getElem?_eq_getElem h1, List.getElem?_eq_getElem h2, v.at_ (H.length - 1) _ _ (List.getElem?_eq_getElem h1) ?_⟩
    rw [v.len]
    exact List.getElem?_eq_getElem h2
/-- what is read: its header, and what it is -/
structure OptIn (w : World) (I : Nat → Prop) (r : Option NodeV) (d : Option NodeD) : Prop where
  is : r.isSome = d.isSome
  v : ∀ h n, r = some h → d = some n → NodeIn w I (.slice h.l.a h.l.n h.l.c) (.slice h.p.a h.p.n h.p.c) n
theorem OptIn.none (w : World) (I : Nat → Prop) : OptIn w I .none .none := ⟨rfl, fun _ _ e => (by cases e)⟩
theorem lastOf_two (m : Int → Bool) : ∀ (H : List (Ver NodeV)) (L : List (Ver NodeD)), VersIn w I H L → OptIn w I (lastOf m H) (lastOf m L) := by
  intro H
  induction H with
  | nil =>
    intro L v
    obtain rfl : L = [] := List.length_eq_zero_iff.1 v.len.symm
    exact OptIn.none w I
  | cons h H ih =>
    intro L v
    cases L with
    | nil => have := v.len; simp at this
    | cons d L =>
      obtain ⟨v1, v2⟩ := v.cons_inv
      simp only [lastOf, v1.by_, v1.gone]
      cases m d.by_ with
      | false => simpa using ih L v2
      | true =>
        cases d.gone with
        | true => simpa using OptIn.none w I
        | false => exact ⟨rfl, fun h' n e1 e2 => by
            obtain rfl : h.v = h' := by simpa using e1
            obtain rfl : d.v = n := by simpa using e2
            exact v1.v⟩
theorem readV_two {H : List (Ver NodeV)} {L : List (Ver NodeD)} (v : VersIn w I H L) (K : Ck) (t : Int) : OptIn w I (readL K t H) (readV K t L) := lastOf_two _ _ _ v.reverse
theorem clashV_two {H : List (Ver NodeV)} {L : List (Ver NodeD)} (v : VersIn w I H L) (K : Ck) (t : Int) : clashL K t H = clashV K t L := by
  unfold clashL clashV
  rcases v.last with ⟨e1, e2⟩ | ⟨h, d, e1, e2, vv⟩
  · rw [e1, e2]
  · rw [e1, e2]
    simp only [vv.by_]
theorem writeV_two {H : List (Ver NodeV)} {L : List (Ver NodeD)} (v : VersIn w I H L) (K : Ck) (t : Int) (h : NodeV) (d : NodeD) (g : Bool) (hd : NodeIn w I (.slice h.l.a h.l.n h.l.c) (.slice h.p.a h.p.n h.p.c) d) : VersIn w I (writeL K t h g H) (writeV K t d g L) := by
  have one : VersIn w I [⟨t, h, g⟩] [⟨t, d, g⟩] := VersIn.cons ⟨rfl, rfl, hd⟩ (VersIn.nil w I)
  unfold writeL writeV
  rw [clashV_two v]
  cases clashV K t L with
  | true => simpa using v
  | false =>
    simp only [Bool.false_eq_true, if_false]
    rcases v.last with ⟨e1, e2⟩ | ⟨y, z, e1, e2, vv⟩
    · rw [e1, e2]
      exact v.append one
    · rw [e1, e2]
      simp only [vv.by_]
      split
      · exact v.dropLast.append one
      · exact v.append one
theorem undoV_two {H : List (Ver NodeV)} {L : List (Ver NodeD)} (v : VersIn w I H L) (t : Int) : VersIn w I (undoL t H) (undoV t L) := v.filter (fun b => !(b == t))
end
/-! ### The cell's functions -/
section
variable {w : World} {T I : Nat → Prop} {x : Nat} {L : List (Ver NodeD)}
theorem NCell.bound (h : NCell w T I x L) : ∀ k, T k → k < w.heap.size := by
  obtain ⟨H, h1, _⟩ := h.ex
  exact h1.bound
theorem NCell.small (h : NCell w T I x L) : L.length ≤ 1000000 := by
  obtain ⟨H, h1, h2⟩ := h.ex
  rw [← h2.len]
  exact h1.small
theorem NCell.read (h : NCell w T I x L) (c gk : Nat) (K : Ck) (hk : ClkRow w c gk K) (hks : K.l.length ≤ 1000000) (t : Int) :
    ∃ r, OptIn w I r (readV K t L) ∧ ∀ u, Fr No w u → Calls Tryz.prog 52 #[.pointer (some ⟨x, 0, none⟩), .pointer (some ⟨c, 0, none⟩), .int .i64 t] u fun e w' => e = .returned (.tuple #[optN r, .bool r.isSome]) ∧ Fr No u w' := by
  obtain ⟨H, h1, h2⟩ := h.ex
  obtain ⟨g, hr, -⟩ := h1.row
  exact ⟨_, readV_two h2 K t, fun u hu => read_any u x g c gk K H (hr.frame hu) h1.small (hk.frame hu) hks t⟩
theorem NCell.check (h : NCell w T I x L) (c gk : Nat) (K : Ck) (hk : ClkRow w c gk K) (hks : K.l.length ≤ 1000000) (t : Int) :
    Calls Tryz.prog 107 #[.pointer (some ⟨x, 0, none⟩), .pointer (some ⟨c, 0, none⟩), .int .i64 t] w fun e w' => e = .returned (errI (clashV K t L)) ∧ Fr No w w' := by
  obtain ⟨H, h1, h2⟩ := h.ex
  obtain ⟨g, hr, -⟩ := h1.row
  rw [← clashV_two h2]
  exact check_any w x g c gk K H hr h1.small hk hks t
theorem NCell.write (h : NCell w T I x L) (c gk : Nat) (K : Ck) (hk : ClkRow w c gk K) (hks : K.l.length ≤ 1000000) (hL : L.length < 1000000) (t : Int) (v : NodeV) (d : NodeD) (gone : Bool) (hi : ∀ k, I k → ¬ T k)
    (hd : NodeIn w I (.slice v.l.a v.l.n v.l.c) (.slice v.p.a v.p.n v.p.c) d) :
    Calls Tryz.prog 108 #[.pointer (some ⟨x, 0, none⟩), .pointer (some ⟨c, 0, none⟩), .int .i64 t, .agg #[.slice v.l.a v.l.n v.l.c, .slice v.p.a v.p.n v.p.c], .bool gone] w fun e w' => e = .returned (errI (clashV K t L)) ∧ ∃ T', NCell w' T' I x (writeV K t d gone L) ∧ Fr T w w' ∧ Grown w T T' := by
  obtain ⟨H, h1, h2⟩ := h.ex
  refine (write_any w T x c gk K H h1 hk hks (by rw [h2.len]; exact hL) t v gone).mono ?_
  rintro e w' ⟨rfl, T', k, f, g⟩
  exact ⟨by rw [clashV_two h2], T', ⟨_, k, (writeV_two h2 K t v d gone hd).frame f hi⟩, f, g⟩
theorem NCell.undo (h : NCell w T I x L) (t : Int) (hi : ∀ k, I k → ¬ T k) :
    Calls Tryz.prog 58 #[.pointer (some ⟨x, 0, none⟩), .int .i64 t] w fun e w' => e = .returned (.tuple #[]) ∧ NCell w' T I x (undoV t L) ∧ Fr T w w' := by
  obtain ⟨H, h1, h2⟩ := h.ex
  refine (undo_any w T x H h1 t).mono ?_
  rintro e w' ⟨rfl, k, f⟩
  exact ⟨rfl, ⟨_, k, (undoV_two h2 t).frame f hi⟩, f⟩
theorem NCell.new (w : World) (I : Nat → Prop) : Calls Tryz.prog 129 #[] w fun e w' => ∃ c, e = .returned (.pointer (some ⟨c, 0, none⟩)) ∧ NCell w' (fun b => b = c) I c [] ∧ Fr No w w' ∧ w.heap.size ≤ c := by
  refine (celnew_any w).mono ?_
  rintro e w' ⟨c, rfl, k, f, g⟩
  exact ⟨c, rfl, ⟨[], k, VersIn.nil _ _⟩, f, g⟩
end
end Go.Proofs.YtibfpkfpmkghhaaGreatDoor

namespace Go.Proofs.YtibfpkfpmkghhaaGreatDoor
open Go.RowKit Go.Lig

/-- finds(k + 1) turns the store M into M' -/
def FindsTo (M M' : PSt) (F F' : Nat) (k : Nat) : Prop := ∀ (w : World) (ρ : Nat → Option Pt) (s : Nat) (A : Ad), StAt w ρ s A M F →
  Calls Tryz.prog 59 #[.pointer (some ⟨s, 0, none⟩), .int .i64 ((k : Int) + 1)] w fun e w' => e = .returned (.tuple #[]) ∧ TurnsA w ρ s A M' F' w'
/-- node k has nothing that is to be found -/
structure Bare (M : PSt) (k : Nat) : Prop where
  lt : k < M.N.length
  y : M.Y[k]? = some []
  v : ∀ L, M.N[k]? = some L → ∀ y ∈ L, y.v = NodeD.none
theorem enter_finds2 : ∀ args w, (callFunc 122 args).run Tryz.prog w = .ok (.enter 122 args) w := enters_of Tryz.func122 (by kernel_rfl) rfl
/-- one element of a row of entries put anew -/
theorem EnAt.put {w w' : World} {T I : Nat → Prop} {ge ce k : Nat} {cur : Array Value} {Y : List (List IxR)} {hv : Value} {l : List IxR} (h : EnAt w T I (.slice (some ⟨ge, 0, none⟩) Y.length ce) Y) (hg : w.heap[ge]? = some (.cells cur 165 (0, 0))) (p : Put ge (cur.setIfInBounds k hv) 165 w w') (hi : ∀ b, I b → ¬ b = ge)
    (hk : k < Y.length) (hr : RdI w' I hv l.length 7 (l.flatMap ixcell)) (hone : ∀ y ∈ l, y.key.size ≤ maxLen ∧ ValOk y.x.v ∧ (Lit.int .i64 y.x.id).wf = true) : EnAt w' T I (.slice (some ⟨ge, 0, none⟩) Y.length ce) (Y.set k l) := by
  obtain ⟨hs, h1, h2, h3⟩ := h.ex
  refine ⟨⟨hs.set k hv, by simp [h1], by simpa using owns_setN h2 hg p, fun i u m e1 e2 => ?_⟩, h.blk, fun m hm => ?_⟩
  · by_cases e : k = i
    · subst e
      rw [List.getElem?_set_self (by rw [h1]; exact hk)] at e1
      rw [List.getElem?_set_self hk] at e2
      obtain rfl := Option.some.inj e1
      obtain rfl := Option.some.inj e2
      exact hr
    · rw [List.getElem?_set_ne e] at e1 e2
      exact (h3 i u m e1 e2).frame p.fr hi
  · rcases List.mem_or_eq_of_mem_set hm with h4 | rfl
    · exact h.one m h4
    · exact hone
end Go.Proofs.YtibfpkfpmkghhaaGreatDoor
