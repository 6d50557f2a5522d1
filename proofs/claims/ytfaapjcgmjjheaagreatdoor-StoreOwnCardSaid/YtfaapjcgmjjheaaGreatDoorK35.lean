/- A part of the proof: contracts of functions of the program, for the row's text. -/
import Derived.Test.YtfaapjcgmjjheaaGreatDoorK34
import Derived.Test.YtfaapjcgmjjheaaGreatDoorK28
import Derived.Test.YtfaapjcgmjjheaaGreatDoorK15
namespace Go.Proofs.YtfaapjcgmjjheaaGreatDoor
open Go.RowKit Go.Lig

def gNode (M : PSt) (t id : Int) : Option NodeD := if M.K.live t then readN M t id else none
def gEdge (M : PSt) (t id : Int) : Option EdgeV := if M.K.live t then readE M t id else none
def gNodes (M : PSt) (t : Int) : List Int := if M.K.live t then ndsTo M t M.N.length else []
def gEdges (M : PSt) (t : Int) : List Int := if M.K.live t then edsTo M t M.E.length else []
def gLabel (M : PSt) (t : Int) (x : ByteArray) : List Int := if M.K.live t = true ∧ x.size ≠ 0 then labelM M t x else []
section
variable (w : World) (ρ : Nat → Option Pt) (s : Nat) (A : Ad) (M : PSt) (F : Nat) (h : StAt w ρ s A M F) (t : Int)
include h
theorem nodes_dead (hl : M.K.live t = false) : Calls Tryz.prog 29 #[.pointer (some ⟨s, 0, none⟩), .int .i64 t] w fun e w' => e = .returned (.slice none 0 0) ∧ w = w' := by
  have HI := hid (islive_any w ρ s A M F h t)
  rw [hl] at HI
  clear h hl
  go_enter Tryz.func29, Tryz.ntmps29
  go_wp2_with (go_at_call 32; refine HI.out.mono ?_; rintro e w1 ⟨rfl, rfl⟩)
  go_ret
  exact ⟨rfl, rfl⟩
theorem edges_dead (hl : M.K.live t = false) : Calls Tryz.prog 15 #[.pointer (some ⟨s, 0, none⟩), .int .i64 t] w fun e w' => e = .returned (.slice none 0 0) ∧ w = w' := by
  have HI := hid (islive_any w ρ s A M F h t)
  rw [hl] at HI
  clear h hl
  go_enter Tryz.func15, Tryz.ntmps15
  go_wp2_with (go_at_call 32; refine HI.out.mono ?_; rintro e w1 ⟨rfl, rfl⟩)
  go_ret
  exact ⟨rfl, rfl⟩
theorem label_dead (hl : M.K.live t = false) (x : ByteArray) : Calls Tryz.prog 20 #[.pointer (some ⟨s, 0, none⟩), .int .i64 t, .string x] w fun e w' => e = .returned (.slice none 0 0) ∧ w = w' := by
  have HI := hid (islive_any w ρ s A M F h t)
  rw [hl] at HI
  clear h hl
  go_enter Tryz.func20, Tryz.ntmps20
  go_wp2_with (go_at_call 32; refine HI.out.mono ?_; rintro e w1 ⟨rfl, rfl⟩)
  go_ret
  exact ⟨rfl, rfl⟩
theorem label_zero (hl : M.K.live t = true) (x : ByteArray) (hx : x.size = 0) : Calls Tryz.prog 20 #[.pointer (some ⟨s, 0, none⟩), .int .i64 t, .string x] w fun e w' => e = .returned (.slice none 0 0) ∧ w = w' := by
  have HI := hid (islive_any w ρ s A M F h t)
  rw [hl] at HI
  have h3 := toList_nil hx
  clear h hl hx
  go_enter Tryz.func20, Tryz.ntmps20
  go_wp2_with (go_at_call 32; refine HI.out.mono ?_; rintro e w1 ⟨rfl, rfl⟩)
  go_ret
  exact ⟨rfl, rfl⟩
theorem stnode_dead (hl : M.K.live t = false) (id : Int) : Calls Tryz.prog 14 #[.pointer (some ⟨s, 0, none⟩), .int .i64 t, .int .i64 id] w fun e w' => e = .returned (.tuple #[.agg #[.slice none 0 0, .slice none 0 0], .bool false]) ∧ Fr No w w' := by
  have hb := heap1 w (.cells #[.slice none 0 0, .slice none 0 0] 32)
  have hfr : Fr No w (w.alloc (.cells #[.slice none 0 0, .slice none 0 0] 32)) := (Fr.refl No w).alloc _
  have HI := hid (islive_any _ ρ s A M F (h.frame hfr) t)
  rw [hl] at HI
  obtain ⟨c0, c1⟩ := cells2 hb
  have HF := hid (⟨hfr, hb⟩ : _ ∧ _)
  clear h hl hb hfr
  go_enter Tryz.func14, Tryz.ntmps14
  go_wp2_with (go_at_call 32; refine HI.out.mono ?_; rintro e w1 ⟨rfl, rfl⟩)
  refine bodyPost_ret (v := .tuple #[.agg #[.slice none 0 0, .slice none 0 0], .bool false]) ?_ rfl ⟨rfl, HF.out.1⟩
  simp [results, Tryz.f14, go_sem, c0, c1]
theorem stedge_dead (hl : M.K.live t = false) (id : Int) : Calls Tryz.prog 28 #[.pointer (some ⟨s, 0, none⟩), .int .i64 t, .int .i64 id] w fun e w' => e = .returned (.tuple #[.agg #[.int .i64 0, .int .i64 0, .string ⟨#[]⟩, .float .f64 0], .bool false]) ∧ Fr No w w' := by
  have hb := heap1 w (.cells #[.int .i64 0, .int .i64 0, .string ⟨#[]⟩, .float .f64 0] 43)
  have hfr : Fr No w (w.alloc (.cells #[.int .i64 0, .int .i64 0, .string ⟨#[]⟩, .float .f64 0] 43)) := (Fr.refl No w).alloc _
  have HI := hid (islive_any _ ρ s A M F (h.frame hfr) t)
  rw [hl] at HI
  obtain ⟨c0, c1, c2, c3⟩ := cells4 hb
  have HF := hid (⟨hfr, hb⟩ : _ ∧ _)
  clear h hl hb hfr
  go_enter Tryz.func28, Tryz.ntmps28
  go_wp2_with (go_at_call 32; refine HI.out.mono ?_; rintro e w1 ⟨rfl, rfl⟩)
  refine bodyPost_ret (v := .tuple #[.agg #[.int .i64 0, .int .i64 0, .string ⟨#[]⟩, .float .f64 0], .bool false]) ?_ rfl ⟨rfl, HF.out.1⟩
  simp [results, Tryz.f28, go_sem, c0, c1, c2, c3]
end
/-! ### Over a store of one's own -/
section
variable {w0 w : World} {s : Nat} {p : PF} (h : OwS w0 w s p) (t : Int)
include h
theorem x_live : Calls Tryz.prog 44 #[.pointer (some ⟨s, 0, none⟩)] w fun e w' => e = .returned (.int .i64 (p.1.K.count : Int)) ∧ OwS w0 w' s p := by
  obtain ⟨ρ, A, h1, h2⟩ := h.ex
  exact (stlive_any w ρ s A p.1 p.2 h1).mono (by rintro e w' ⟨rfl, f⟩; exact ⟨rfl, h.next f⟩)
theorem x_node (id : Int) : Calls Tryz.prog 14 #[.pointer (some ⟨s, 0, none⟩), .int .i64 t, .int .i64 id] w fun e w' => ∃ (la : Option Addr) (ln lc : Nat) (pa : Option Addr) (pn pc : Nat), e = .returned (.tuple #[.agg #[.slice la ln lc, .slice pa pn pc], .bool (gNode p.1 t id).isSome]) ∧ OwnN w w' la ln lc pa pn pc ((gNode p.1 t id).getD NodeD.none) ∧ OwS w0 w' s p := by
  obtain ⟨ρ, A, h1, h2⟩ := h.ex
  unfold gNode
  cases hl : p.1.K.live t with
  | true => exact (stnode_any w ρ s A p.1 p.2 h1 t id hl).mono (by rintro e w' ⟨la, ln, lc, pa, pn, pc, rfl, o⟩; exact ⟨la, ln, lc, pa, pn, pc, rfl, o, h.next o.l.fr⟩)
  | false => exact (stnode_dead w ρ s A p.1 p.2 h1 t hl id).mono (by rintro e w' ⟨rfl, f⟩; exact ⟨none, 0, 0, none, 0, 0, rfl, ⟨(OwnR.nil w _ _).next f, (OwnR.nil w _ _).next f⟩, h.next f⟩)
theorem x_edge (id : Int) : Calls Tryz.prog 28 #[.pointer (some ⟨s, 0, none⟩), .int .i64 t, .int .i64 id] w fun e w' => e = .returned (.tuple #[.agg (edgeCs ((gEdge p.1 t id).getD EdgeV.none)), .bool (gEdge p.1 t id).isSome]) ∧ OwS w0 w' s p ∧ Fr No w w' := by
  obtain ⟨ρ, A, h1, h2⟩ := h.ex
  unfold gEdge
  cases hl : p.1.K.live t with
  | true => exact (stedge_any w ρ s A p.1 p.2 h1 t id hl).mono (by rintro e w' ⟨rfl, f⟩; exact ⟨rfl, h.next f, f⟩)
  | false => exact (stedge_dead w ρ s A p.1 p.2 h1 t hl id).mono (by rintro e w' ⟨rfl, f⟩; exact ⟨rfl, h.next f, f⟩)
theorem x_nodes : Calls Tryz.prog 29 #[.pointer (some ⟨s, 0, none⟩), .int .i64 t] w fun e w' => ∃ v, e = .returned v ∧ OwnI w w' v (gNodes p.1 t) ∧ OwS w0 w' s p := by
  obtain ⟨ρ, A, h1, h2⟩ := h.ex
  unfold gNodes
  cases hl : p.1.K.live t with
  | true => exact (nodes_any w ρ s A p.1 p.2 h1 t hl).mono (by rintro e w' ⟨v, rfl, o⟩; exact ⟨v, rfl, o, h.next o.fr⟩)
  | false => exact (nodes_dead w ρ s A p.1 p.2 h1 t hl).mono (by rintro e w' ⟨rfl, rfl⟩; exact ⟨_, rfl, OwnI.nil w, h⟩)
theorem x_edges : Calls Tryz.prog 15 #[.pointer (some ⟨s, 0, none⟩), .int .i64 t] w fun e w' => ∃ v, e = .returned v ∧ OwnI w w' v (gEdges p.1 t) ∧ OwS w0 w' s p := by
  obtain ⟨ρ, A, h1, h2⟩ := h.ex
  unfold gEdges
  cases hl : p.1.K.live t with
  | true => exact (edges_any w ρ s A p.1 p.2 h1 t hl).mono (by rintro e w' ⟨v, rfl, o⟩; exact ⟨v, rfl, o, h.next o.fr⟩)
  | false => exact (edges_dead w ρ s A p.1 p.2 h1 t hl).mono (by rintro e w' ⟨rfl, rfl⟩; exact ⟨_, rfl, OwnI.nil w, h⟩)
theorem x_out (id : Int) (hk : keyOk id) (hF : p.2 ≤ 1000000) : Calls Tryz.prog 30 #[.pointer (some ⟨s, 0, none⟩), .int .i64 t, .int .i64 id] w fun e w' => ∃ v, e = .returned v ∧ OwnI w w' v (outM p.1 t id) ∧ OwS w0 w' s p := by
  obtain ⟨ρ, A, h1, h2⟩ := h.ex
  exact (out_any w ρ s A p.1 p.2 h1 hF t id hk).mono (by rintro e w' ⟨v, rfl, o⟩; exact ⟨v, rfl, o, h.next o.fr⟩)
theorem x_in (id : Int) (hk : keyOk id) (hF : p.2 ≤ 1000000) : Calls Tryz.prog 21 #[.pointer (some ⟨s, 0, none⟩), .int .i64 t, .int .i64 id] w fun e w' => ∃ v, e = .returned v ∧ OwnI w w' v (inM p.1 t id) ∧ OwS w0 w' s p := by
  obtain ⟨ρ, A, h1, h2⟩ := h.ex
  exact (in_any w ρ s A p.1 p.2 h1 hF t id hk).mono (by rintro e w' ⟨v, rfl, o⟩; exact ⟨v, rfl, o, h.next o.fr⟩)
theorem x_label (x : ByteArray) (hF : p.2 ≤ 1000000) : Calls Tryz.prog 20 #[.pointer (some ⟨s, 0, none⟩), .int .i64 t, .string x] w fun e w' => ∃ v, e = .returned v ∧ OwnI w w' v (gLabel p.1 t x) ∧ OwS w0 w' s p := by
  obtain ⟨ρ, A, h1, h2⟩ := h.ex
  unfold gLabel
  cases hl : p.1.K.live t with
  | true =>
    by_cases hx : x.size = 0
    · rw [if_neg (by simp [hx])]
      exact (label_zero w ρ s A p.1 p.2 h1 t hl x hx).mono (by rintro e w' ⟨rfl, rfl⟩; exact ⟨_, rfl, OwnI.nil w, h⟩)
    · rw [if_pos ⟨rfl, hx⟩]
      exact (stlabel_any w ρ s A p.1 p.2 h1 hF t hl x hx).mono (by rintro e w' ⟨v, rfl, o⟩; exact ⟨v, rfl, o, h.next o.fr⟩)
  | false =>
    rw [if_neg (by simp)]
    exact (label_dead w ρ s A p.1 p.2 h1 t hl x).mono (by rintro e w' ⟨rfl, rfl⟩; exact ⟨_, rfl, OwnI.nil w, h⟩)
theorem x_pending (hl : p.1.K.live t = true) : Calls Tryz.prog 24 #[.pointer (some ⟨s, 0, none⟩), .int .i64 t] w fun e w' => ∃ v, e = .returned (.tuple #[.int .i64 (p.1.N.length : Int), .int .i64 (p.1.E.length : Int), v, .int .i64 0]) ∧ WrsO w w' v (pendM p.1 t) ∧ OwS w0 w' s p := by
  obtain ⟨ρ, A, h1, h2⟩ := h.ex
  exact (pending_any w ρ s A p.1 p.2 h1 t hl).mono (by rintro e w' ⟨v, rfl, o⟩; exact ⟨v, rfl, o, h.next o.fr⟩)
theorem x_pending_dead (hl : p.1.K.live t = false) : Calls Tryz.prog 24 #[.pointer (some ⟨s, 0, none⟩), .int .i64 t] w fun e w' => e = .returned (.tuple #[.int .i64 0, .int .i64 0, .slice none 0 0, .int .i64 5]) ∧ OwS w0 w' s p := by
  obtain ⟨ρ, A, h1, h2⟩ := h.ex
  exact (pending_dead w ρ s A p.1 p.2 h1 t hl).mono (by rintro e w' ⟨rfl, f⟩; exact ⟨rfl, h.next f⟩)
end
end Go.Proofs.YtfaapjcgmjjheaaGreatDoor

namespace Go.Proofs.YtfaapjcgmjjheaaGreatDoor
open Go.RowKit Go.Lig

section
variable {w0 w : World} {s : Nat} {p q : PF} (h : OwS w0 w s p)
include h
theorem is_begin {i e : Int} (ho : opBegin p = ((i, e), q)) (hs : decide (p.2 < 1000000) = true) : Calls Tryz.prog 10 #[.pointer (some ⟨s, 0, none⟩)] w fun o w' => o = .returned (.tuple #[.int .i64 i, .int .i64 e]) ∧ OwS w0 w' s q := by
  have := x_begin h (of_decide_eq_true hs)
  rw [ho] at this
  exact this
variable {t : Int}
theorem is_commit {e : Int} (ho : opCommit p t = (e, q)) (hs : decide (p.2 < 1000000) = true) : Calls Tryz.prog 13 #[.pointer (some ⟨s, 0, none⟩), .int .i64 t] w fun o w' => o = .returned (.int .i64 e) ∧ OwS w0 w' s q := by
  have := x_commit h t (of_decide_eq_true hs)
  rw [ho] at this
  exact this
theorem is_abort {e : Int} (ho : opAbort p t = (e, q)) (hr : rmAbort p t = true) : Calls Tryz.prog 22 #[.pointer (some ⟨s, 0, none⟩), .int .i64 t] w fun o w' => o = .returned (.int .i64 e) ∧ OwS w0 w' s q := by
  have := x_abort h t hr
  rw [ho] at this
  exact this
theorem is_dropnode {id e : Int} (ho : opDropNode p t id = (e, q)) (hs : decide (p.2 < 1000000) = true) (hr : rmDropNode p t id = true) : Calls Tryz.prog 11 #[.pointer (some ⟨s, 0, none⟩), .int .i64 t, .int .i64 id] w fun o w' => o = .returned (.int .i64 e) ∧ OwS w0 w' s q := by
  have := x_dropnode h t id (of_decide_eq_true hs) hr
  rw [ho] at this
  exact this
theorem is_dropedge {id e : Int} (ho : opDropEdge p t id = (e, q)) (hr : rmDropEdge p t id = true) : Calls Tryz.prog 12 #[.pointer (some ⟨s, 0, none⟩), .int .i64 t, .int .i64 id] w fun o w' => o = .returned (.int .i64 e) ∧ OwS w0 w' s q := by
  have := x_dropedge h t id hr
  rw [ho] at this
  exact this
theorem is_addedge {i e ef et : Int} {ey : ByteArray} {ew : Nat} (ho : opAddEdge p t true ⟨ef, et, ey, ew⟩ = ((i, e), q)) (hr : rmAddEdge p t true ⟨ef, et, ey, ew⟩ = true) (hf : decide (1 ≤ ef) && decide (ef ≤ 24) && (decide (1 ≤ et) && decide (et ≤ 24)) && isNameB ey && decide (ey.size ≤ 8) = true) (hx : ∀ u : World, Calls Tryz.prog 94 #[.float .f64 ew] u fun e w' => e = .returned (.bool true) ∧ u = w') : Calls Tryz.prog 18 #[.pointer (some ⟨s, 0, none⟩), .int .i64 t, .agg #[.int .i64 ef, .int .i64 et, .string ey, .float .f64 ew]] w fun o w' => o = .returned (.tuple #[.int .i64 i, .int .i64 e]) ∧ OwS w0 w' s q := by
  simp only [Bool.and_eq_true, decide_eq_true_eq] at hf
  have := x_addedge h t ⟨ef, et, ey, ew⟩ (b := true) (fun u _ => isedge_ok u ef et ey (.float .f64 ew) hf.1.1.1 hf.1.1.2 hf.1.2 (by omega) rfl hx) hr
  rw [ho] at this
  exact this
theorem is_label {x : ByteArray} {l : List Int} {n : Nat} (ho : gLabel p.1 t x = l) (hn : l.length = n) (hs : decide (p.2 < 1000000) = true) : Calls Tryz.prog 20 #[.pointer (some ⟨s, 0, none⟩), .int .i64 t, .string x] w fun o w' => ∃ a c, o = .returned (.slice a n c) ∧ OwnI w w' (.slice a n c) l ∧ OwS w0 w' s p := by
  have := x_label h t x (Nat.le_of_lt (of_decide_eq_true hs))
  rw [ho] at this
  subst hn
  exact this.mono (by
    rintro e w' ⟨v, rfl, o, h2⟩
    obtain ⟨a, c, rfl⟩ := ownsRow_slice o.row
    exact ⟨a, c, rfl, o, h2⟩)
theorem is_nodes {l : List Int} {n : Nat} (ho : gNodes p.1 t = l) (hn : l.length = n) : Calls Tryz.prog 29 #[.pointer (some ⟨s, 0, none⟩), .int .i64 t] w fun o w' => ∃ a c, o = .returned (.slice a n c) ∧ OwnI w w' (.slice a n c) l ∧ OwS w0 w' s p := by
  have := x_nodes h t
  rw [ho] at this
  subst hn
  exact this.mono (by
    rintro e w' ⟨v, rfl, o, h2⟩
    obtain ⟨a, c, rfl⟩ := ownsRow_slice o.row
    exact ⟨a, c, rfl, o, h2⟩)
theorem is_edges {l : List Int} {n : Nat} (ho : gEdges p.1 t = l) (hn : l.length = n) : Calls Tryz.prog 15 #[.pointer (some ⟨s, 0, none⟩), .int .i64 t] w fun o w' => ∃ a c, o = .returned (.slice a n c) ∧ OwnI w w' (.slice a n c) l ∧ OwS w0 w' s p := by
  have := x_edges h t
  rw [ho] at this
  subst hn
  exact this.mono (by
    rintro e w' ⟨v, rfl, o, h2⟩
    obtain ⟨a, c, rfl⟩ := ownsRow_slice o.row
    exact ⟨a, c, rfl, o, h2⟩)
theorem is_out {id : Int} {l : List Int} {n : Nat} (ho : outM p.1 t id = l) (hn : l.length = n) (hk : (Lit.int .i64 id).wf = true) (hs : decide (p.2 < 1000000) = true) : Calls Tryz.prog 30 #[.pointer (some ⟨s, 0, none⟩), .int .i64 t, .int .i64 id] w fun o w' => ∃ a c, o = .returned (.slice a n c) ∧ OwnI w w' (.slice a n c) l ∧ OwS w0 w' s p := by
  have := x_out h t id hk (Nat.le_of_lt (of_decide_eq_true hs))
  rw [ho] at this
  subst hn
  exact this.mono (by
    rintro e w' ⟨v, rfl, o, h2⟩
    obtain ⟨a, c, rfl⟩ := ownsRow_slice o.row
    exact ⟨a, c, rfl, o, h2⟩)
theorem is_in {id : Int} {l : List Int} {n : Nat} (ho : inM p.1 t id = l) (hn : l.length = n) (hk : (Lit.int .i64 id).wf = true) (hs : decide (p.2 < 1000000) = true) : Calls Tryz.prog 21 #[.pointer (some ⟨s, 0, none⟩), .int .i64 t, .int .i64 id] w fun o w' => ∃ a c, o = .returned (.slice a n c) ∧ OwnI w w' (.slice a n c) l ∧ OwS w0 w' s p := by
  have := x_in h t id hk (Nat.le_of_lt (of_decide_eq_true hs))
  rw [ho] at this
  subst hn
  exact this.mono (by
    rintro e w' ⟨v, rfl, o, h2⟩
    obtain ⟨a, c, rfl⟩ := ownsRow_slice o.row
    exact ⟨a, c, rfl, o, h2⟩)
end
/-- a node of one label, made at once -/
theorem arg_one {w0 w : World} (x : ByteArray) (hx : x.size ≤ 8) : ArgN w0 w (w.alloc (.cells #[.string x] 9)) (some ⟨w.heap.size, 0, none⟩) 1 1 none 0 0 ⟨[x], []⟩ :=
  ⟨⟨Rd.block (cs := [.string x]) (heap1 w _) 1 1 1 rfl (by simp [Value.oneCell']) (Nat.le_refl _) (by simp [maxLen]), Rd.nil _ _, (fun q hq => by cases hq), (fun y hy => by rw [List.mem_singleton.1 hy]; unfold maxLen; omega)⟩, ⟨by simp, by simp⟩, fun k hk _ => by
      obtain rfl : w.heap.size = k := Option.some.inj hk
      exact .inr (Nat.le_refl _), fun k hk => by cases hk⟩
section
variable {w0 w : World} {s : Nat} {p q : PF} (h : OwS w0 w s p) {t : Int}
include h
/-- SetNode with a node of one label -/
theorem is_setnode1 {id e : Int} {x : ByteArray} (ho : opSetNode p t id true ⟨[x], []⟩ = (e, q)) (hs : decide (p.2 < 1000000) = true) (hr : rmSetNode p t id true ⟨[x], []⟩ = true) (hx : isNameB x && decide (x.size ≤ 8) = true) :
    Calls Tryz.prog 23 #[.pointer (some ⟨s, 0, none⟩), .int .i64 t, .int .i64 id, .agg #[.slice (some ⟨w.heap.size, 0, none⟩) 1 1, .slice none 0 0]] (w.alloc (.cells #[.string x] 9)) fun o w' => o = .returned (.int .i64 e) ∧ OwS w0 w' s q := by
  simp only [Bool.and_eq_true, decide_eq_true_eq] at hx
  have hf : Fr No w (w.alloc (.cells #[.string x] 9)) := (Fr.refl No w).alloc _
  have := x_setnode (h.next hf) t id (arg_one (w0 := w0) (w := w) x hx.2) (b := true) (fun u hu => isnode_one u w.heap.size 0 1 x hx.1 (fun v hv => cells1 ((hu.thenNo hv).keep (heap1 w _) (fun e => e))) (by omega)) (of_decide_eq_true hs) hr
  rw [ho] at this
  exact this
/-- AddNode of a node of one label -/
theorem is_addnode1 {i e : Int} {x : ByteArray} (ho : opAddNode p t true ⟨[x], []⟩ = ((i, e), q)) (hs : decide (p.2 < 1000000) = true) (hr : rmAddNode p t true ⟨[x], []⟩ = true) (hx : isNameB x && decide (x.size ≤ 8) = true) :
    Calls Tryz.prog 17 #[.pointer (some ⟨s, 0, none⟩), .int .i64 t, .agg #[.slice (some ⟨w.heap.size, 0, none⟩) 1 1, .slice none 0 0]] (w.alloc (.cells #[.string x] 9)) fun o w' => o = .returned (.tuple #[.int .i64 i, .int .i64 e]) ∧ OwS w0 w' s q := by
  simp only [Bool.and_eq_true, decide_eq_true_eq] at hx
  have hf : Fr No w (w.alloc (.cells #[.string x] 9)) := (Fr.refl No w).alloc _
  have := x_addnode (t := t) h hf (arg_one (w0 := w0) (w := w) x hx.2) (b := true) (fun u hu => isnode_one u w.heap.size 0 1 x hx.1 (fun v hv => cells1 ((hu.thenNo hv).keep (heap1 w _) (fun e => e))) (by omega)) (of_decide_eq_true hs) hr
  rw [ho] at this
  exact this
end
end Go.Proofs.YtfaapjcgmjjheaaGreatDoor

namespace Go.Proofs.YtfaapjcgmjjheaaGreatDoor
open Go.RowKit Go.Lig

theorem same_len (w : World) (av bv : Value) (la lb : List Int) (ha : Rd w av la.length 1 (la.map iv)) (hb : Rd w bv lb.length 1 (lb.map iv)) (hne : la.length ≠ lb.length) :
    Calls Tryz.prog 19 #[av, bv] w fun e w' => e = .returned (.bool false) ∧ w = w' := by
  obtain ⟨ao, ca, rfl, hla⟩ := rd_len ha
  obtain ⟨bo, cb, rfl, hlb⟩ := rd_len hb
  have h1 : (((la.length : Nat) : Int) != ((lb.length : Nat) : Int)) = true := by rw [bne_iff_ne]; omega
  clear ha hb hne
  go_enter Tryz.func19, Tryz.ntmps19
  go_wp2
  go_ret
  exact ⟨rfl, rfl⟩
theorem same_end {la lb : List Int} {i : Nat} (h : la.take i = lb.take i) (h1 : i = la.length) (h2 : i = lb.length) : decide (la = lb) = true := by
  rw [h1, List.take_length, ← h1, h2, List.take_length] at h
  exact decide_eq_true h
theorem same_part {la lb : List Int} {i : Nat} {x y : Int} (h1 : la[i]? = some x) (h2 : lb[i]? = some y) (hne : x ≠ y) : decide (la = lb) = false := by
  refine decide_eq_false (fun e => hne ?_)
  rw [e, h2] at h1
  exact (Option.some.inj h1).symm
set_option maxHeartbeats 1000000 in
theorem same_eq (w : World) (av bv : Value) (la lb : List Int) (ha : Rd w av la.length 1 (la.map iv)) (hb : Rd w bv lb.length 1 (lb.map iv)) (heq : la.length = lb.length) :
    Calls Tryz.prog 19 #[av, bv] w fun e w' => e = .returned (.bool (decide (la = lb))) ∧ Fr No w w' := by
  obtain ⟨ao, ca, rfl, hla⟩ := rd_len ha
  obtain ⟨bo, cb, rfl, hlb⟩ := rd_len hb
  have H := hid (⟨ha, hb, heq⟩ : _ ∧ _ ∧ _)
  have h1 : (((la.length : Nat) : Int) != ((lb.length : Nat) : Int)) = false := by rw [heq]; simp
  clear ha hb heq
  go_enter Tryz.func19, Tryz.ntmps19
  go_wp2
  clear h1
  go_loopw [5] (fun vi wr => ∃ i : Nat, i ≤ la.length ∧ vi = .int .i64 (i : Int) ∧ Hid (la.take i = lb.take i ∧ Fr No w wr)) (fun vi _ => la.length - (intOf vi).toNat)
  case atStart => exact ⟨0, Nat.zero_le _, rfl, rfl, Fr.refl _ _⟩
  case round =>
    obtain ⟨i, hi, rfl, hR⟩ := hrel
    by_cases hlt : i < la.length
    · obtain ⟨x, hx⟩ : ∃ x, la[i]? = some x := ⟨_, List.getElem?_eq_getElem hlt⟩
      obtain ⟨y, hy⟩ : ∃ y, lb[i]? = some y := ⟨_, List.getElem?_eq_getElem (by have := H.out.2.2; omega)⟩
      obtain ⟨ba, oa, ca', hva, hca⟩ := H.out.1.at1 (k := i) (u := iv x) (by simp [hx])
      obtain ⟨rfl, rfl⟩ : ao = some ⟨ba, oa, none⟩ ∧ ca = ca' := by simpa using hva
      obtain ⟨bb, ob, cb', hvb, hcb⟩ := H.out.2.1.at1 (k := i) (u := iv y) (by simp [hy])
      obtain ⟨rfl, rfl⟩ : bo = some ⟨bb, ob, none⟩ ∧ cb = cb' := by simpa using hvb
      have c1 : wr.cell? ⟨ba, oa + i, none⟩ = some (.int .i64 x) := hca wr hR.out.2
      have c2 : wr.cell? ⟨bb, ob + i, none⟩ = some (.int .i64 y) := hcb wr hR.out.2
      have hlt2 : i < lb.length := by have := H.out.2.2; omega
      have HX := hid (⟨hx, hy⟩ : _ ∧ _)
      clear hva hvb hca hcb hx hy
      by_cases hxy : x = y
      · subst hxy
        go_wp2
        go_quiet (fail)
        go_wp2
        go_roundw
        case rel => exact ⟨i + 1, by omega, by go_num, by rw [take_snoc HX.out.1, take_snoc HX.out.2, hR.out.1], hR.out.2.drewN _⟩
        case measure => simp [intOf]; omega
      · have n1 : ((x : Int) != y) = true := by rw [bne_iff_ne]; exact hxy
        have HN := hid hxy
        clear hxy
        go_wp2
        go_quiet (fail)
        go_wp2
        go_ret
        exact ⟨by rw [same_part HX.out.1 HX.out.2 HN.out]; rfl, hR.out.2.drewN _⟩
    · obtain rfl : i = la.length := by omega
      clear hlt
      go_wp2
      go_ret
      exact ⟨by rw [same_end hR.out.1 rfl H.out.2.2]; rfl, hR.out.2⟩
theorem same_any (w : World) (av bv : Value) (la lb : List Int) (ha : Rd w av la.length 1 (la.map iv)) (hb : Rd w bv lb.length 1 (lb.map iv)) :
    Calls Tryz.prog 19 #[av, bv] w fun e w' => e = .returned (.bool (decide (la = lb))) ∧ Fr No w w' := by
  by_cases h : la.length = lb.length
  · exact same_eq w av bv la lb ha hb h
  · refine (same_len w av bv la lb ha hb h).mono ?_
    rintro e w' ⟨rfl, rfl⟩
    exact ⟨by rw [decide_eq_false (fun e => h (by rw [e]))], Fr.refl _ _⟩
end Go.Proofs.YtfaapjcgmjjheaaGreatDoor

namespace Go.Proofs.YtfaapjcgmjjheaaGreatDoor
open Go.RowKit Go.Lig

def p0 : PF := (mTwo, 14)
def p1 : PF := (opBegin p0).2
def p2 : PF := (opBegin p1).2
theorem own_two (w : World) : Calls Tryz.prog 9 #[] w fun e w' => ∃ s, e = .returned (.pointer (some ⟨s, 0, none⟩)) ∧ OwS w w' s p0 := (two_any w).mono (by
  rintro e w' ⟨s, ρ, A, rfl, h, n⟩
  exact ⟨s, rfl, ⟨ρ, A, h, n.lo⟩, n.fr⟩)
def apC (a : Int) : PF := (opSetNode p2 2 a true ⟨[⟨#[98]⟩], []⟩).2
def apD (a b : Int) : PF := (opSetNode (apC a) 3 b true ⟨[⟨#[99]⟩], []⟩).2
def apE (a b : Int) : Bool → PF
  | true => (opCommit (apD a b) 3).2
  | false => (opCommit (apD a b) 2).2
def apF (a b : Int) : Bool → PF
  | true => (opCommit (apE a b true) 2).2
  | false => (opCommit (apE a b false) 3).2
def apG (a b : Int) (c : Bool) : PF := (opBegin (apF a b c)).2
set_option maxRecDepth 100000 in
set_option maxHeartbeats 2000000 in
theorem apart_11 (w : World) (c : Bool) : Calls Tryz.prog 5 #[.int .i64 1, .int .i64 1, .bool c] w fun e w' => e = .returned (.bool true) ∧ Fr No w w' := by
  go_enter Tryz.func5, Tryz.ntmps5
  go_wp2_with fail
  refine (own_two _).mono ?_
  rintro e w1 ⟨s, rfl, h1⟩
  have H1 := hid h1
  clear h1
  go_wp2_with fail
  refine (is_begin H1.out (i := 2) (e := 0) (q := p1) (by kernel_rfl) (by kernel_rfl)).mono ?_
  rintro e w2 ⟨rfl, h2⟩
  have H2 := hid h2
  clear h2
  go_wp2_with fail
  refine (is_begin H2.out (i := 3) (e := 0) (q := p2) (by kernel_rfl) (by kernel_rfl)).mono ?_
  rintro e w3 ⟨rfl, h3⟩
  have H3 := hid h3
  clear h3
  go_wp2_with fail
  refine (is_setnode1 H3.out (t := 2) (id := 1) (e := 0) (x := ⟨#[98]⟩) (q := apC 1) (by kernel_rfl) (by kernel_rfl) (by kernel_rfl) (by kernel_rfl)).mono ?_
  rintro e w4 ⟨rfl, h4⟩
  have H4 := hid h4
  clear h4
  go_wp2_with fail
  refine (is_setnode1 H4.out (t := 3) (id := 1) (e := 6) (x := ⟨#[99]⟩) (q := apD 1 1) (by kernel_rfl) (by kernel_rfl) (by kernel_rfl) (by kernel_rfl)).mono ?_
  rintro e w5 ⟨rfl, h5⟩
  have H5 := hid h5
  clear h5
  go_wp2_with (first | (go_at_call 13; (with_reducible refine (is_commit H5.out (t := 2) (e := 0) (q := apE 1 1 false) (by kernel_rfl) (by kernel_rfl)).mono ?_); rintro e w6 ⟨rfl, h6⟩; have H6 := hid h6; clear h6) | (go_at_call 13; (with_reducible refine (is_commit H6.out (t := 3) (e := 5) (q := apE 1 1 false) (by kernel_rfl) (by kernel_rfl)).mono ?_); rintro e w7 ⟨rfl, h7⟩; have H7 := hid h7; clear h7) | (go_at_call 16; refine (known_any _).mono ?_; rintro e w10 ⟨rfl, f10⟩; have F10 := hid (H7.out.fr.thenNo f10); clear f10))
  go_ret
  exact ⟨rfl, F10.out⟩
set_option maxRecDepth 100000 in
set_option maxHeartbeats 2000000 in
theorem apart_22 (w : World) (c : Bool) : Calls Tryz.prog 5 #[.int .i64 2, .int .i64 2, .bool c] w fun e w' => e = .returned (.bool true) ∧ Fr No w w' := by
  go_enter Tryz.func5, Tryz.ntmps5
  go_wp2_with fail
  refine (own_two _).mono ?_
  rintro e w1 ⟨s, rfl, h1⟩
  have H1 := hid h1
  clear h1
  go_wp2_with fail
  refine (is_begin H1.out (i := 2) (e := 0) (q := p1) (by kernel_rfl) (by kernel_rfl)).mono ?_
  rintro e w2 ⟨rfl, h2⟩
  have H2 := hid h2
  clear h2
  go_wp2_with fail
  refine (is_begin H2.out (i := 3) (e := 0) (q := p2) (by kernel_rfl) (by kernel_rfl)).mono ?_
  rintro e w3 ⟨rfl, h3⟩
  have H3 := hid h3
  clear h3
  go_wp2_with fail
  refine (is_setnode1 H3.out (t := 2) (id := 2) (e := 0) (x := ⟨#[98]⟩) (q := apC 2) (by kernel_rfl) (by kernel_rfl) (by kernel_rfl) (by kernel_rfl)).mono ?_
  rintro e w4 ⟨rfl, h4⟩
  have H4 := hid h4
  clear h4
  go_wp2_with fail
  refine (is_setnode1 H4.out (t := 3) (id := 2) (e := 6) (x := ⟨#[99]⟩) (q := apD 2 2) (by kernel_rfl) (by kernel_rfl) (by kernel_rfl) (by kernel_rfl)).mono ?_
  rintro e w5 ⟨rfl, h5⟩
  have H5 := hid h5
  clear h5
  go_wp2_with (first | (go_at_call 13; (with_reducible refine (is_commit H5.out (t := 2) (e := 0) (q := apE 2 2 false) (by kernel_rfl) (by kernel_rfl)).mono ?_); rintro e w6 ⟨rfl, h6⟩; have H6 := hid h6; clear h6) | (go_at_call 13; (with_reducible refine (is_commit H6.out (t := 3) (e := 5) (q := apE 2 2 false) (by kernel_rfl) (by kernel_rfl)).mono ?_); rintro e w7 ⟨rfl, h7⟩; have H7 := hid h7; clear h7) | (go_at_call 16; refine (known_any _).mono ?_; rintro e w10 ⟨rfl, f10⟩; have F10 := hid (H7.out.fr.thenNo f10); clear f10))
  go_ret
  exact ⟨rfl, F10.out⟩
theorem apart_lab12 (c : Bool) : gLabel (apG 1 2 c).1 4 ⟨#[98]⟩ = [1] ∧ gLabel (apG 1 2 c).1 4 ⟨#[99]⟩ = [2] ∧ gLabel (apG 1 2 c).1 4 ⟨#[97]⟩ = [] := by cases c <;> exact ⟨by kernel_rfl, by kernel_rfl, by kernel_rfl⟩
theorem apart_f12 (c : Bool) : decide ((apG 1 2 c).2 < 1000000) = true := by cases c <;> kernel_rfl
set_option maxRecDepth 100000 in
set_option maxHeartbeats 4000000 in
theorem apart_12 (w : World) (c : Bool) : Calls Tryz.prog 5 #[.int .i64 1, .int .i64 2, .bool c] w fun e w' => e = .returned (.bool true) ∧ Fr No w w' := by
  go_enter Tryz.func5, Tryz.ntmps5
  go_wp2_with fail
  refine (own_two _).mono ?_
  rintro e w1 ⟨s, rfl, h1⟩
  have H1 := hid h1
  clear h1
  go_wp2_with fail
  refine (is_begin H1.out (i := 2) (e := 0) (q := p1) (by kernel_rfl) (by kernel_rfl)).mono ?_
  rintro e w2 ⟨rfl, h2⟩
  have H2 := hid h2
  clear h2
  go_wp2_with fail
  refine (is_begin H2.out (i := 3) (e := 0) (q := p2) (by kernel_rfl) (by kernel_rfl)).mono ?_
  rintro e w3 ⟨rfl, h3⟩
  have H3 := hid h3
  clear h3
  go_wp2_with fail
  refine (is_setnode1 H3.out (t := 2) (id := 1) (e := 0) (x := ⟨#[98]⟩) (q := apC 1) (by kernel_rfl) (by kernel_rfl) (by kernel_rfl) (by kernel_rfl)).mono ?_
  rintro e w4 ⟨rfl, h4⟩
  have H4 := hid h4
  clear h4
  go_wp2_with fail
  refine (is_setnode1 H4.out (t := 3) (id := 2) (e := 0) (x := ⟨#[99]⟩) (q := apD 1 2) (by kernel_rfl) (by kernel_rfl) (by kernel_rfl) (by kernel_rfl)).mono ?_
  rintro e w5 ⟨rfl, h5⟩
  have H5 := hid h5
  clear h5
  cases c with
  | true =>
    go_wp2_with (first | (go_at_call 13; (with_reducible refine (is_commit H5.out (t := 3) (e := 0) (q := apE 1 2 true) (by kernel_rfl) (by kernel_rfl)).mono ?_); rintro e w6 ⟨rfl, h6⟩; have H6 := hid h6; clear h6) | (go_at_call 13; (with_reducible refine (is_commit H6.out (t := 2) (e := 0) (q := apF 1 2 true) (by kernel_rfl) (by kernel_rfl)).mono ?_); rintro e w7 ⟨rfl, h7⟩; have H7 := hid h7; clear h7) | (go_at_call 10; refine (is_begin H7.out (i := 4) (e := 0) (q := apG 1 2 true) (by kernel_rfl) (by kernel_rfl)).mono ?_; rintro e w8 ⟨rfl, h8⟩; have H8 := hid h8; clear h8) | (go_at_call_of 20 (Value.string ⟨#[98]⟩); go_must (refine (is_label H8.out (t := 4) (x := ⟨#[98]⟩) (l := [1]) (n := 1) (apart_lab12 true).1 rfl (apart_f12 true)).mono ?_); rintro e w20 ⟨a20, c20, rfl, o20, h20⟩; have H20 := hid (⟨o20, h20⟩ : _ ∧ _); clear o20 h20) | (go_at_call_of 19 (Value.slice a20 1 c20); go_must (refine (same_any (w20.alloc (.cells [iv 1].toArray 3)) (.slice a20 1 c20) (.slice (some ⟨w20.heap.size, 0, none⟩) 1 1) [1] [1] (H20.out.1.next ((Fr.refl No w20).alloc _)).rd (Rd.block (cs := [iv 1]) (heap1 w20 _) 1 1 1 rfl (by simp [iv, Value.oneCell']) (Nat.le_refl _) (by simp [maxLen]))).mono ?_); rintro e w22 ⟨rfl, f22⟩; rw [decide_eq_true (show ([1] : List Int) = [1] from rfl)]; have H22 := hid ((H20.out.2.next ((Fr.refl No w20).alloc _)).next f22); clear f22) | (go_at_call_of 20 (Value.string ⟨#[99]⟩); go_must (refine (is_label H22.out (t := 4) (x := ⟨#[99]⟩) (l := [2]) (n := 1) (apart_lab12 true).2.1 rfl (apart_f12 true)).mono ?_); rintro e w30 ⟨a30, c30, rfl, o30, h30⟩; have H30 := hid (⟨o30, h30⟩ : _ ∧ _); clear o30 h30) | (go_at_call_of 19 (Value.slice a30 1 c30); go_must (refine (same_any (w30.alloc (.cells [iv 2].toArray 3)) (.slice a30 1 c30) (.slice (some ⟨w30.heap.size, 0, none⟩) 1 1) [2] [2] (H30.out.1.next ((Fr.refl No w30).alloc _)).rd (Rd.block (cs := [iv 2]) (heap1 w30 _) 1 1 1 rfl (by simp [iv, Value.oneCell']) (Nat.le_refl _) (by simp [maxLen]))).mono ?_); rintro e w32 ⟨rfl, f32⟩; rw [decide_eq_true (show ([2] : List Int) = [2] from rfl)]; have H32 := hid ((H30.out.2.next ((Fr.refl No w30).alloc _)).next f32); clear f32) | (go_at_call_of 20 (Value.string ⟨#[97]⟩); go_must (refine (is_label H32.out (t := 4) (x := ⟨#[97]⟩) (l := []) (n := 0) (apart_lab12 true).2.2 rfl (apart_f12 true)).mono ?_); rintro e w40 ⟨a40, c40, rfl, o40, h40⟩; have H40 := hid h40; clear o40 h40) | (go_at_call 16; refine (known_any _).mono ?_; rintro e w50 ⟨rfl, f50⟩; have F50 := hid (H40.out.fr.thenNo f50); clear f50))
    go_ret
    exact ⟨rfl, F50.out⟩
  | false =>
    go_wp2_with (first | (go_at_call 13; (with_reducible refine (is_commit H5.out (t := 2) (e := 0) (q := apE 1 2 false) (by kernel_rfl) (by kernel_rfl)).mono ?_); rintro e w6 ⟨rfl, h6⟩; have H6 := hid h6; clear h6) | (go_at_call 13; (with_reducible refine (is_commit H6.out (t := 3) (e := 0) (q := apF 1 2 false) (by kernel_rfl) (by kernel_rfl)).mono ?_); rintro e w7 ⟨rfl, h7⟩; have H7 := hid h7; clear h7) | (go_at_call 10; refine (is_begin H7.out (i := 4) (e := 0) (q := apG 1 2 false) (by kernel_rfl) (by kernel_rfl)).mono ?_; rintro e w8 ⟨rfl, h8⟩; have H8 := hid h8; clear h8) | (go_at_call_of 20 (Value.string ⟨#[98]⟩); go_must (refine (is_label H8.out (t := 4) (x := ⟨#[98]⟩) (l := [1]) (n := 1) (apart_lab12 false).1 rfl (apart_f12 false)).mono ?_); rintro e w20 ⟨a20, c20, rfl, o20, h20⟩; have H20 := hid (⟨o20, h20⟩ : _ ∧ _); clear o20 h20) | (go_at_call_of 19 (Value.slice a20 1 c20); go_must (refine (same_any (w20.alloc (.cells [iv 1].toArray 3)) (.slice a20 1 c20) (.slice (some ⟨w20.heap.size, 0, none⟩) 1 1) [1] [1] (H20.out.1.next ((Fr.refl No w20).alloc _)).rd (Rd.block (cs := [iv 1]) (heap1 w20 _) 1 1 1 rfl (by simp [iv, Value.oneCell']) (Nat.le_refl _) (by simp [maxLen]))).mono ?_); rintro e w22 ⟨rfl, f22⟩; rw [decide_eq_true (show ([1] : List Int) = [1] from rfl)]; have H22 := hid ((H20.out.2.next ((Fr.refl No w20).alloc _)).next f22); clear f22) | (go_at_call_of 20 (Value.string ⟨#[99]⟩); go_must (refine (is_label H22.out (t := 4) (x := ⟨#[99]⟩) (l := [2]) (n := 1) (apart_lab12 false).2.1 rfl (apart_f12 false)).mono ?_); rintro e w30 ⟨a30, c30, rfl, o30, h30⟩; have H30 := hid (⟨o30, h30⟩ : _ ∧ _); clear o30 h30) | (go_at_call_of 19 (Value.slice a30 1 c30); go_must (refine (same_any (w30.alloc (.cells [iv 2].toArray 3)) (.slice a30 1 c30) (.slice (some ⟨w30.heap.size, 0, none⟩) 1 1) [2] [2] (H30.out.1.next ((Fr.refl No w30).alloc _)).rd (Rd.block (cs := [iv 2]) (heap1 w30 _) 1 1 1 rfl (by simp [iv, Value.oneCell']) (Nat.le_refl _) (by simp [maxLen]))).mono ?_); rintro e w32 ⟨rfl, f32⟩; rw [decide_eq_true (show ([2] : List Int) = [2] from rfl)]; have H32 := hid ((H30.out.2.next ((Fr.refl No w30).alloc _)).next f32); clear f32) | (go_at_call_of 20 (Value.string ⟨#[97]⟩); go_must (refine (is_label H32.out (t := 4) (x := ⟨#[97]⟩) (l := []) (n := 0) (apart_lab12 false).2.2 rfl (apart_f12 false)).mono ?_); rintro e w40 ⟨a40, c40, rfl, o40, h40⟩; have H40 := hid h40; clear o40 h40) | (go_at_call 16; refine (known_any _).mono ?_; rintro e w50 ⟨rfl, f50⟩; have F50 := hid (H40.out.fr.thenNo f50); clear f50))
    go_ret
    exact ⟨rfl, F50.out⟩
theorem apart_lab21 (c : Bool) : gLabel (apG 2 1 c).1 4 ⟨#[98]⟩ = [2] ∧ gLabel (apG 2 1 c).1 4 ⟨#[99]⟩ = [1] ∧ gLabel (apG 2 1 c).1 4 ⟨#[97]⟩ = [] := by cases c <;> exact ⟨by kernel_rfl, by kernel_rfl, by kernel_rfl⟩
theorem apart_f21 (c : Bool) : decide ((apG 2 1 c).2 < 1000000) = true := by cases c <;> kernel_rfl
set_option maxRecDepth 100000 in
set_option maxHeartbeats 4000000 in
theorem apart_21 (w : World) (c : Bool) : Calls Tryz.prog 5 #[.int .i64 2, .int .i64 1, .bool c] w fun e w' => e = .returned (.bool true) ∧ Fr No w w' := by
  go_enter Tryz.func5, Tryz.ntmps5
  go_wp2_with fail
  refine (own_two _).mono ?_
  rintro e w1 ⟨s, rfl, h1⟩
  have H1 := hid h1
  clear h1
  go_wp2_with fail
  refine (is_begin H1.out (i := 2) (e := 0) (q := p1) (by kernel_rfl) (by kernel_rfl)).mono ?_
  rintro e w2 ⟨rfl, h2⟩
  have H2 := hid h2
  clear h2
  go_wp2_with fail
  refine (is_begin H2.out (i := 3) (e := 0) (q := p2) (by kernel_rfl) (by kernel_rfl)).mono ?_
  rintro e w3 ⟨rfl, h3⟩
  have H3 := hid h3
  clear h3
  go_wp2_with fail
  refine (is_setnode1 H3.out (t := 2) (id := 2) (e := 0) (x := ⟨#[98]⟩) (q := apC 2) (by kernel_rfl) (by kernel_rfl) (by kernel_rfl) (by kernel_rfl)).mono ?_
  rintro e w4 ⟨rfl, h4⟩
  have H4 := hid h4
  clear h4
  go_wp2_with fail
  refine (is_setnode1 H4.out (t := 3) (id := 1) (e := 0) (x := ⟨#[99]⟩) (q := apD 2 1) (by kernel_rfl) (by kernel_rfl) (by kernel_rfl) (by kernel_rfl)).mono ?_
  rintro e w5 ⟨rfl, h5⟩
  have H5 := hid h5
  clear h5
  cases c with
  | true =>
    go_wp2_with (first | (go_at_call 13; (with_reducible refine (is_commit H5.out (t := 3) (e := 0) (q := apE 2 1 true) (by kernel_rfl) (by kernel_rfl)).mono ?_); rintro e w6 ⟨rfl, h6⟩; have H6 := hid h6; clear h6) | (go_at_call 13; (with_reducible refine (is_commit H6.out (t := 2) (e := 0) (q := apF 2 1 true) (by kernel_rfl) (by kernel_rfl)).mono ?_); rintro e w7 ⟨rfl, h7⟩; have H7 := hid h7; clear h7) | (go_at_call 10; refine (is_begin H7.out (i := 4) (e := 0) (q := apG 2 1 true) (by kernel_rfl) (by kernel_rfl)).mono ?_; rintro e w8 ⟨rfl, h8⟩; have H8 := hid h8; clear h8) | (go_at_call_of 20 (Value.string ⟨#[98]⟩); go_must (refine (is_label H8.out (t := 4) (x := ⟨#[98]⟩) (l := [2]) (n := 1) (apart_lab21 true).1 rfl (apart_f21 true)).mono ?_); rintro e w20 ⟨a20, c20, rfl, o20, h20⟩; have H20 := hid (⟨o20, h20⟩ : _ ∧ _); clear o20 h20) | (go_at_call_of 19 (Value.slice a20 1 c20); go_must (refine (same_any (w20.alloc (.cells [iv 2].toArray 3)) (.slice a20 1 c20) (.slice (some ⟨w20.heap.size, 0, none⟩) 1 1) [2] [2] (H20.out.1.next ((Fr.refl No w20).alloc _)).rd (Rd.block (cs := [iv 2]) (heap1 w20 _) 1 1 1 rfl (by simp [iv, Value.oneCell']) (Nat.le_refl _) (by simp [maxLen]))).mono ?_); rintro e w22 ⟨rfl, f22⟩; rw [decide_eq_true (show ([2] : List Int) = [2] from rfl)]; have H22 := hid ((H20.out.2.next ((Fr.refl No w20).alloc _)).next f22); clear f22) | (go_at_call_of 20 (Value.string ⟨#[99]⟩); go_must (refine (is_label H22.out (t := 4) (x := ⟨#[99]⟩) (l := [1]) (n := 1) (apart_lab21 true).2.1 rfl (apart_f21 true)).mono ?_); rintro e w30 ⟨a30, c30, rfl, o30, h30⟩; have H30 := hid (⟨o30, h30⟩ : _ ∧ _); clear o30 h30) | (go_at_call_of 19 (Value.slice a30 1 c30); go_must (refine (same_any (w30.alloc (.cells [iv 1].toArray 3)) (.slice a30 1 c30) (.slice (some ⟨w30.heap.size, 0, none⟩) 1 1) [1] [1] (H30.out.1.next ((Fr.refl No w30).alloc _)).rd (Rd.block (cs := [iv 1]) (heap1 w30 _) 1 1 1 rfl (by simp [iv, Value.oneCell']) (Nat.le_refl _) (by simp [maxLen]))).mono ?_); rintro e w32 ⟨rfl, f32⟩; rw [decide_eq_true (show ([1] : List Int) = [1] from rfl)]; have H32 := hid ((H30.out.2.next ((Fr.refl No w30).alloc _)).next f32); clear f32) | (go_at_call_of 20 (Value.string ⟨#[97]⟩); go_must (refine (is_label H32.out (t := 4) (x := ⟨#[97]⟩) (l := []) (n := 0) (apart_lab21 true).2.2 rfl (apart_f21 true)).mono ?_); rintro e w40 ⟨a40, c40, rfl, o40, h40⟩; have H40 := hid h40; clear o40 h40) | (go_at_call 16; refine (known_any _).mono ?_; rintro e w50 ⟨rfl, f50⟩; have F50 := hid (H40.out.fr.thenNo f50); clear f50))
    go_ret
    exact ⟨rfl, F50.out⟩
  | false =>
    go_wp2_with (first | (go_at_call 13; (with_reducible refine (is_commit H5.out (t := 2) (e := 0) (q := apE 2 1 false) (by kernel_rfl) (by kernel_rfl)).mono ?_); rintro e w6 ⟨rfl, h6⟩; have H6 := hid h6; clear h6) | (go_at_call 13; (with_reducible refine (is_commit H6.out (t := 3) (e := 0) (q := apF 2 1 false) (by kernel_rfl) (by kernel_rfl)).mono ?_); rintro e w7 ⟨rfl, h7⟩; have H7 := hid h7; clear h7) | (go_at_call 10; refine (is_begin H7.out (i := 4) (e := 0) (q := apG 2 1 false) (by kernel_rfl) (by kernel_rfl)).mono ?_; rintro e w8 ⟨rfl, h8⟩; have H8 := hid h8; clear h8) | (go_at_call_of 20 (Value.string ⟨#[98]⟩); go_must (refine (is_label H8.out (t := 4) (x := ⟨#[98]⟩) (l := [2]) (n := 1) (apart_lab21 false).1 rfl (apart_f21 false)).mono ?_); rintro e w20 ⟨a20, c20, rfl, o20, h20⟩; have H20 := hid (⟨o20, h20⟩ : _ ∧ _); clear o20 h20) | (go_at_call_of 19 (Value.slice a20 1 c20); go_must (refine (same_any (w20.alloc (.cells [iv 2].toArray 3)) (.slice a20 1 c20) (.slice (some ⟨w20.heap.size, 0, none⟩) 1 1) [2] [2] (H20.out.1.next ((Fr.refl No w20).alloc _)).rd (Rd.block (cs := [iv 2]) (heap1 w20 _) 1 1 1 rfl (by simp [iv, Value.oneCell']) (Nat.le_refl _) (by simp [maxLen]))).mono ?_); rintro e w22 ⟨rfl, f22⟩; rw [decide_eq_true (show ([2] : List Int) = [2] from rfl)]; have H22 := hid ((H20.out.2.next ((Fr.refl No w20).alloc _)).next f22); clear f22) | (go_at_call_of 20 (Value.string ⟨#[99]⟩); go_must (refine (is_label H22.out (t := 4) (x := ⟨#[99]⟩) (l := [1]) (n := 1) (apart_lab21 false).2.1 rfl (apart_f21 false)).mono ?_); rintro e w30 ⟨a30, c30, rfl, o30, h30⟩; have H30 := hid (⟨o30, h30⟩ : _ ∧ _); clear o30 h30) | (go_at_call_of 19 (Value.slice a30 1 c30); go_must (refine (same_any (w30.alloc (.cells [iv 1].toArray 3)) (.slice a30 1 c30) (.slice (some ⟨w30.heap.size, 0, none⟩) 1 1) [1] [1] (H30.out.1.next ((Fr.refl No w30).alloc _)).rd (Rd.block (cs := [iv 1]) (heap1 w30 _) 1 1 1 rfl (by simp [iv, Value.oneCell']) (Nat.le_refl _) (by simp [maxLen]))).mono ?_); rintro e w32 ⟨rfl, f32⟩; rw [decide_eq_true (show ([1] : List Int) = [1] from rfl)]; have H32 := hid ((H30.out.2.next ((Fr.refl No w30).alloc _)).next f32); clear f32) | (go_at_call_of 20 (Value.string ⟨#[97]⟩); go_must (refine (is_label H32.out (t := 4) (x := ⟨#[97]⟩) (l := []) (n := 0) (apart_lab21 false).2.2 rfl (apart_f21 false)).mono ?_); rintro e w40 ⟨a40, c40, rfl, o40, h40⟩; have H40 := hid h40; clear o40 h40) | (go_at_call 16; refine (known_any _).mono ?_; rintro e w50 ⟨rfl, f50⟩; have F50 := hid (H40.out.fr.thenNo f50); clear f50))
    go_ret
    exact ⟨rfl, F50.out⟩
end Go.Proofs.YtfaapjcgmjjheaaGreatDoor

namespace Go.Proofs.YtfaapjcgmjjheaaGreatDoor
open Go.RowKit Go.Lig

theorem apart_any (w : World) (a b : Int) (c : Bool) : Calls Tryz.prog 5 #[.int .i64 a, .int .i64 b, .bool c] w fun e w' => e = .returned (.bool true) ∧ Fr No w w' := by
  by_cases h1 : a < 1
  · go_enter Tryz.func5, Tryz.ntmps5
    go_wp2_with fail
    go_ret
    exact ⟨rfl, Fr.refl _ _⟩
  by_cases h2 : 2 < a
  · go_enter Tryz.func5, Tryz.ntmps5
    go_wp2_with fail
    go_ret
    exact ⟨rfl, Fr.refl _ _⟩
  by_cases h3 : b < 1
  · go_enter Tryz.func5, Tryz.ntmps5
    go_wp2_with fail
    go_ret
    exact ⟨rfl, Fr.refl _ _⟩
  by_cases h4 : 2 < b
  · go_enter Tryz.func5, Tryz.ntmps5
    go_wp2_with fail
    go_ret
    exact ⟨rfl, Fr.refl _ _⟩
  have ha : a = 1 ∨ a = 2 := by omega
  have hb : b = 1 ∨ b = 2 := by omega
  rcases ha with rfl | rfl <;> rcases hb with rfl | rfl
  · exact apart_11 w c
  · exact apart_12 w c
  · exact apart_21 w c
  · exact apart_22 w c
end Go.Proofs.YtfaapjcgmjjheaaGreatDoor
