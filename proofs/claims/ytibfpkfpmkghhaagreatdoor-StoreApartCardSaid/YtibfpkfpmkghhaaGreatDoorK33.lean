/- A part of the proof: contracts of functions of the program, for the row's text. -/
import Derived.Test.YtibfpkfpmkghhaaGreatDoorK32
import Derived.Test.YtibfpkfpmkghhaaGreatDoorK31
import Derived.Test.YtibfpkfpmkghhaaGreatDoorK15
import Derived.Test.YtibfpkfpmkghhaaGreatDoorK26
import Derived.Test.YtibfpkfpmkghhaaGreatDoorK28
namespace Go.Proofs.YtibfpkfpmkghhaaGreatDoor
open Go.RowKit Go.Lig

def gNode (M : PSt) (t id : Int) : Option NodeD := if M.K.live t then readN M t id else none
def gEdge (M : PSt) (t id : Int) : Option EdgeV := if M.K.live t then readE M t id else none
def gNodes (M : PSt) (t : Int) : List Int := if M.K.live t then ndsTo M t M.N.length else []
def gEdges (M : PSt) (t : Int) : List Int := if M.K.live t then edsTo M t M.E.length else []
def gLabel (M : PSt) (t : Int) (x : ByteArray) : List Int := if M.K.live t = true ∧ x.size ≠ 0 then labelM M t x else []
section
variable (w : World) (ρ : Nat → Option Pt) (s : Nat) (A : Ad) (M : PSt) (F : Nat) (h : StAt w ρ s A M F) (t : Int)
include h
theorem nodes_dead (hl : M.K.live t = false) : Calls Tryz.prog 27 #[.pointer (some ⟨s, 0, none⟩), .int .i64 t] w fun e w' => e = .returned (.slice none 0 0) ∧ w = w' := by
  have HI := hid (islive_any w ρ s A M F h t)
  rw [hl] at HI
  clear h hl
  go_enter Tryz.func27, Tryz.ntmps27
  go_wp2_with (go_at_call 43; refine HI.out.mono ?_; rintro e w1 ⟨rfl, rfl⟩)
  go_ret
  exact ⟨rfl, rfl⟩
theorem edges_dead (hl : M.K.live t = false) : Calls Tryz.prog 24 #[.pointer (some ⟨s, 0, none⟩), .int .i64 t] w fun e w' => e = .returned (.slice none 0 0) ∧ w = w' := by
  have HI := hid (islive_any w ρ s A M F h t)
  rw [hl] at HI
  clear h hl
  go_enter Tryz.func24, Tryz.ntmps24
  go_wp2_with (go_at_call 43; refine HI.out.mono ?_; rintro e w1 ⟨rfl, rfl⟩)
  go_ret
  exact ⟨rfl, rfl⟩
theorem label_dead (hl : M.K.live t = false) (x : ByteArray) : Calls Tryz.prog 15 #[.pointer (some ⟨s, 0, none⟩), .int .i64 t, .string x] w fun e w' => e = .returned (.slice none 0 0) ∧ w = w' := by
  have HI := hid (islive_any w ρ s A M F h t)
  rw [hl] at HI
  clear h hl
  go_enter Tryz.func15, Tryz.ntmps15
  go_wp2_with (go_at_call 43; refine HI.out.mono ?_; rintro e w1 ⟨rfl, rfl⟩)
  go_ret
  exact ⟨rfl, rfl⟩
theorem label_zero (hl : M.K.live t = true) (x : ByteArray) (hx : x.size = 0) : Calls Tryz.prog 15 #[.pointer (some ⟨s, 0, none⟩), .int .i64 t, .string x] w fun e w' => e = .returned (.slice none 0 0) ∧ w = w' := by
  have HI := hid (islive_any w ρ s A M F h t)
  rw [hl] at HI
  have h3 := toList_nil hx
  clear h hl hx
  go_enter Tryz.func15, Tryz.ntmps15
  go_wp2_with (go_at_call 43; refine HI.out.mono ?_; rintro e w1 ⟨rfl, rfl⟩)
  go_ret
  exact ⟨rfl, rfl⟩
theorem stnode_dead (hl : M.K.live t = false) (id : Int) : Calls Tryz.prog 26 #[.pointer (some ⟨s, 0, none⟩), .int .i64 t, .int .i64 id] w fun e w' => e = .returned (.tuple #[.agg #[.slice none 0 0, .slice none 0 0], .bool false]) ∧ Fr No w w' := by
  have hb := heap1 w (.cells #[.slice none 0 0, .slice none 0 0] 31)
  have hfr : Fr No w (w.alloc (.cells #[.slice none 0 0, .slice none 0 0] 31)) := (Fr.refl No w).alloc _
  have HI := hid (islive_any _ ρ s A M F (h.frame hfr) t)
  rw [hl] at HI
  obtain ⟨c0, c1⟩ := cells2 hb
  have HF := hid (⟨hfr, hb⟩ : _ ∧ _)
  clear h hl hb hfr
  go_enter Tryz.func26, Tryz.ntmps26
  go_wp2_with (go_at_call 43; refine HI.out.mono ?_; rintro e w1 ⟨rfl, rfl⟩)
  refine bodyPost_ret (v := .tuple #[.agg #[.slice none 0 0, .slice none 0 0], .bool false]) ?_ rfl ⟨rfl, HF.out.1⟩
  simp [results, Tryz.f26, go_sem, c0, c1]
theorem stedge_dead (hl : M.K.live t = false) (id : Int) : Calls Tryz.prog 25 #[.pointer (some ⟨s, 0, none⟩), .int .i64 t, .int .i64 id] w fun e w' => e = .returned (.tuple #[.agg #[.int .i64 0, .int .i64 0, .string ⟨#[]⟩, .float .f64 0], .bool false]) ∧ Fr No w w' := by
  have hb := heap1 w (.cells #[.int .i64 0, .int .i64 0, .string ⟨#[]⟩, .float .f64 0] 42)
  have hfr : Fr No w (w.alloc (.cells #[.int .i64 0, .int .i64 0, .string ⟨#[]⟩, .float .f64 0] 42)) := (Fr.refl No w).alloc _
  have HI := hid (islive_any _ ρ s A M F (h.frame hfr) t)
  rw [hl] at HI
  obtain ⟨c0, c1, c2, c3⟩ := cells4 hb
  have HF := hid (⟨hfr, hb⟩ : _ ∧ _)
  clear h hl hb hfr
  go_enter Tryz.func25, Tryz.ntmps25
  go_wp2_with (go_at_call 43; refine HI.out.mono ?_; rintro e w1 ⟨rfl, rfl⟩)
  refine bodyPost_ret (v := .tuple #[.agg #[.int .i64 0, .int .i64 0, .string ⟨#[]⟩, .float .f64 0], .bool false]) ?_ rfl ⟨rfl, HF.out.1⟩
  simp [results, Tryz.f25, go_sem, c0, c1, c2, c3]
end
/-! ### Over a store of one's own -/
section
variable {S : Nat → Prop} {w0 w : World} {s : Nat} {p : PF} (h : OwG S w0 w s p) (t : Int)
include h
theorem x_live : Calls Tryz.prog 41 #[.pointer (some ⟨s, 0, none⟩)] w fun e w' => e = .returned (.int .i64 (p.1.K.count : Int)) ∧ OwG S w0 w' s p := by
  obtain ⟨ρ, A, h1, h2⟩ := h.ex
  exact (stlive_any w ρ s A p.1 p.2 h1).mono (by rintro e w' ⟨rfl, f⟩; exact ⟨rfl, h.next f⟩)
theorem x_node (id : Int) : Calls Tryz.prog 26 #[.pointer (some ⟨s, 0, none⟩), .int .i64 t, .int .i64 id] w fun e w' => ∃ (la : Option Addr) (ln lc : Nat) (pa : Option Addr) (pn pc : Nat), e = .returned (.tuple #[.agg #[.slice la ln lc, .slice pa pn pc], .bool (gNode p.1 t id).isSome]) ∧ OwnN w w' la ln lc pa pn pc ((gNode p.1 t id).getD NodeD.none) ∧ OwG S w0 w' s p := by
  obtain ⟨ρ, A, h1, h2⟩ := h.ex
  unfold gNode
  cases hl : p.1.K.live t with
  | true => exact (stnode_any w ρ s A p.1 p.2 h1 t id hl).mono (by rintro e w' ⟨la, ln, lc, pa, pn, pc, rfl, o⟩; exact ⟨la, ln, lc, pa, pn, pc, rfl, o, h.next o.l.fr⟩)
  | false => exact (stnode_dead w ρ s A p.1 p.2 h1 t hl id).mono (by rintro e w' ⟨rfl, f⟩; exact ⟨none, 0, 0, none, 0, 0, rfl, ⟨(OwnR.nil w _ _).next f, (OwnR.nil w _ _).next f⟩, h.next f⟩)
theorem x_edge (id : Int) : Calls Tryz.prog 25 #[.pointer (some ⟨s, 0, none⟩), .int .i64 t, .int .i64 id] w fun e w' => e = .returned (.tuple #[.agg (edgeCs ((gEdge p.1 t id).getD EdgeV.none)), .bool (gEdge p.1 t id).isSome]) ∧ OwG S w0 w' s p ∧ Fr No w w' := by
  obtain ⟨ρ, A, h1, h2⟩ := h.ex
  unfold gEdge
  cases hl : p.1.K.live t with
  | true => exact (stedge_any w ρ s A p.1 p.2 h1 t id hl).mono (by rintro e w' ⟨rfl, f⟩; exact ⟨rfl, h.next f, f⟩)
  | false => exact (stedge_dead w ρ s A p.1 p.2 h1 t hl id).mono (by rintro e w' ⟨rfl, f⟩; exact ⟨rfl, h.next f, f⟩)
theorem x_nodes : Calls Tryz.prog 27 #[.pointer (some ⟨s, 0, none⟩), .int .i64 t] w fun e w' => ∃ v, e = .returned v ∧ OwnI w w' v (gNodes p.1 t) ∧ OwG S w0 w' s p := by
  obtain ⟨ρ, A, h1, h2⟩ := h.ex
  unfold gNodes
  cases hl : p.1.K.live t with
  | true => exact (nodes_any w ρ s A p.1 p.2 h1 t hl).mono (by rintro e w' ⟨v, rfl, o⟩; exact ⟨v, rfl, o, h.next o.fr⟩)
  | false => exact (nodes_dead w ρ s A p.1 p.2 h1 t hl).mono (by rintro e w' ⟨rfl, rfl⟩; exact ⟨_, rfl, OwnI.nil w, h⟩)
theorem x_edges : Calls Tryz.prog 24 #[.pointer (some ⟨s, 0, none⟩), .int .i64 t] w fun e w' => ∃ v, e = .returned v ∧ OwnI w w' v (gEdges p.1 t) ∧ OwG S w0 w' s p := by
  obtain ⟨ρ, A, h1, h2⟩ := h.ex
  unfold gEdges
  cases hl : p.1.K.live t with
  | true => exact (edges_any w ρ s A p.1 p.2 h1 t hl).mono (by rintro e w' ⟨v, rfl, o⟩; exact ⟨v, rfl, o, h.next o.fr⟩)
  | false => exact (edges_dead w ρ s A p.1 p.2 h1 t hl).mono (by rintro e w' ⟨rfl, rfl⟩; exact ⟨_, rfl, OwnI.nil w, h⟩)
theorem x_out (id : Int) (hk : keyOk id) (hF : p.2 ≤ 1000000) : Calls Tryz.prog 28 #[.pointer (some ⟨s, 0, none⟩), .int .i64 t, .int .i64 id] w fun e w' => ∃ v, e = .returned v ∧ OwnI w w' v (outM p.1 t id) ∧ OwG S w0 w' s p := by
  obtain ⟨ρ, A, h1, h2⟩ := h.ex
  exact (out_any w ρ s A p.1 p.2 h1 hF t id hk).mono (by rintro e w' ⟨v, rfl, o⟩; exact ⟨v, rfl, o, h.next o.fr⟩)
theorem x_in (id : Int) (hk : keyOk id) (hF : p.2 ≤ 1000000) : Calls Tryz.prog 29 #[.pointer (some ⟨s, 0, none⟩), .int .i64 t, .int .i64 id] w fun e w' => ∃ v, e = .returned v ∧ OwnI w w' v (inM p.1 t id) ∧ OwG S w0 w' s p := by
  obtain ⟨ρ, A, h1, h2⟩ := h.ex
  exact (in_any w ρ s A p.1 p.2 h1 hF t id hk).mono (by rintro e w' ⟨v, rfl, o⟩; exact ⟨v, rfl, o, h.next o.fr⟩)
theorem x_label (x : ByteArray) (hF : p.2 ≤ 1000000) : Calls Tryz.prog 15 #[.pointer (some ⟨s, 0, none⟩), .int .i64 t, .string x] w fun e w' => ∃ v, e = .returned v ∧ OwnI w w' v (gLabel p.1 t x) ∧ OwG S w0 w' s p := by
  obtain ⟨ρ, A, h1, h2⟩ := h.ex
  unfold gLabel
  cases hl : p.1.K.live t with
  | true =>
    by_cases hx : x.size = 0
    · rw [if_neg (by simp [hx])]
      exact (label_zero w ρ s A p.1 p.2 h1 t hl x hx).mono (by rintro e w' ⟨rfl, rfl⟩; exact ⟨_, rfl, OwnI.nil w, h⟩)
    · rw [if_pos ⟨rfl, hx⟩]
      exact (stlabel_any w ρ s A p.1 p.2 h1 hF t hl x hx).mono (by rintro e w' ⟨v, rfl, o⟩; exact ⟨v, rfl, o, h.next o.fr⟩)
  | false =>
    rw [if_neg (by simp)]
    exact (label_dead w ρ s A p.1 p.2 h1 t hl x).mono (by rintro e w' ⟨rfl, rfl⟩; exact ⟨_, rfl, OwnI.nil w, h⟩)
theorem x_pending (hl : p.1.K.live t = true) : Calls Tryz.prog 163 #[.pointer (some ⟨s, 0, none⟩), .int .i64 t] w fun e w' => ∃ v, e = .returned (.tuple #[.int .i64 (p.1.N.length : Int), .int .i64 (p.1.E.length : Int), v, .int .i64 0]) ∧ WrsO w w' v (pendM p.1 t) ∧ OwG S w0 w' s p := by
  obtain ⟨ρ, A, h1, h2⟩ := h.ex
  exact (pending_any w ρ s A p.1 p.2 h1 t hl).mono (by rintro e w' ⟨v, rfl, o⟩; exact ⟨v, rfl, o, h.next o.fr⟩)
theorem x_pending_dead (hl : p.1.K.live t = false) : Calls Tryz.prog 163 #[.pointer (some ⟨s, 0, none⟩), .int .i64 t] w fun e w' => e = .returned (.tuple #[.int .i64 0, .int .i64 0, .slice none 0 0, .int .i64 5]) ∧ OwG S w0 w' s p := by
  obtain ⟨ρ, A, h1, h2⟩ := h.ex
  exact (pending_dead w ρ s A p.1 p.2 h1 t hl).mono (by rintro e w' ⟨rfl, f⟩; exact ⟨rfl, h.next f⟩)
end
end Go.Proofs.YtibfpkfpmkghhaaGreatDoor

namespace Go.Proofs.YtibfpkfpmkghhaaGreatDoor
open Go.RowKit Go.Lig

theorem arenames_nil (w : World) : Calls Tryz.prog 105 #[.slice none 0 0, .int .i64 3] w fun e w' => e = .returned (.bool true) ∧ w = w' := by
  go_enter Tryz.func105, Tryz.ntmps105
  go_wp2
  go_loopw [9] (fun vi wr => vi = .int .i64 0 ∧ wr = w) (fun _ _ => 0)
  case atStart => exact ⟨rfl, rfl⟩
  case round =>
    obtain ⟨rfl, rfl⟩ := hrel
    go_wp2
    go_ret
    exact ⟨rfl, rfl⟩
set_option maxHeartbeats 1000000 in
theorem isnode_nil (w : World) : Calls Tryz.prog 44 #[.agg #[.slice none 0 0, .slice none 0 0]] w fun e w' => e = .returned (.bool true) ∧ Fr No w w' := by
  have hb := heap1 w (.cells #[.slice none 0 0, .slice none 0 0] 31)
  have hf : Fr No w (w.alloc (.cells #[.slice none 0 0, .slice none 0 0] 31)) := (Fr.refl No w).alloc _
  go_enter Tryz.func44, Tryz.ntmps44
  go_wp2_with fail
  generalize w.alloc (.cells #[.slice none 0 0, .slice none 0 0] 31) = w2 at *
  obtain ⟨c0, c1⟩ := cells2 hb
  have HF := hid hf
  clear hf hb
  go_loopw [3, 9] (fun v3 vi wr => v3 = .slice none 0 0 ∧ vi = .int .i64 0 ∧ wr = w2) (fun _ _ _ => 0)
  case atStart => exact ⟨rfl, rfl, rfl⟩
  case round =>
    obtain ⟨rfl, rfl, rfl⟩ := hrel
    go_wp2_with (go_at_call 105; refine (arenames_nil _).mono ?_; rintro e w' ⟨rfl, rfl⟩)
    go_ret
    exact ⟨rfl, HF.out⟩
set_option maxRecDepth 100000 in
set_option maxHeartbeats 1000000 in
theorem arenames_one (w : World) (b o : Nat) (c : Nat) (s : ByteArray) (hs : isNameB s = true) (h0 : ∀ u, Fr No w u → u.cell? ⟨b, o, none⟩ = some (.string s)) (hsz : s.size ≤ 9223372036854775807) : Calls Tryz.prog 105 #[.slice (some ⟨b, o, none⟩) 1 c, .int .i64 3] w fun e w' => e = .returned (.bool true) ∧ Fr No w w' := by
  have HN := hid (fun u => isname_any u s hsz)
  have H0 := hid h0
  have HS := hid hs
  clear h0 hs
  go_enter Tryz.func105, Tryz.ntmps105
  go_wp2_with fail
  go_loopw [9] (fun vi wr => ∃ i : Nat, i ≤ 1 ∧ vi = .int .i64 (i : Int) ∧ Hid (Fr No w wr)) (fun vi _ => 1 - (intOf vi).toNat)
  case atStart => exact ⟨0, by omega, rfl, Fr.refl _ _⟩
  case round =>
    obtain ⟨i, hi, rfl, HF⟩ := hrel
    by_cases h1 : i = 0
    · subst h1
      have y0 := H0.out wr HF.out
      go_wp2_with (go_at_call 132; refine (HN.out _).mono ?_; rintro e w2 ⟨rfl, f2⟩; rw [HS.out]; have F2 := hid (HF.out.thenNo f2); clear f2)
      exact ⟨⟨1, by omega, rfl, F2.out⟩, by simp [intOf]⟩
    · obtain rfl : i = 1 := by omega
      go_wp2_with fail
      go_ret
      exact ⟨rfl, HF.out⟩
set_option maxRecDepth 100000 in
set_option maxHeartbeats 1000000 in
theorem isnode_one (w : World) (b o c : Nat) (s : ByteArray) (hs : isNameB s = true) (h0 : ∀ u, Fr No w u → u.cell? ⟨b, o, none⟩ = some (.string s)) (hsz : s.size ≤ 9223372036854775807) : Calls Tryz.prog 44 #[.agg #[.slice (some ⟨b, o, none⟩) 1 c, .slice none 0 0]] w fun e w' => e = .returned (.bool true) ∧ Fr No w w' := by
  have hb := heap1 w (.cells #[.slice (some ⟨b, o, none⟩) 1 c, .slice none 0 0] 31)
  have hf : Fr No w (w.alloc (.cells #[.slice (some ⟨b, o, none⟩) 1 c, .slice none 0 0] 31)) := (Fr.refl No w).alloc _
  have H0 := hid h0
  go_enter Tryz.func44, Tryz.ntmps44
  go_wp2_with fail
  generalize w.alloc (.cells #[.slice (some ⟨b, o, none⟩) 1 c, .slice none 0 0] 31) = w2 at *
  obtain ⟨c0, c1⟩ := cells2 hb
  have HF := hid hf
  clear hf hb h0
  go_loopw [3, 9] (fun v3 vi wr => v3 = .slice none 0 0 ∧ vi = .int .i64 0 ∧ wr = w2) (fun _ _ _ => 0)
  case atStart => exact ⟨rfl, rfl, rfl⟩
  case round =>
    obtain ⟨rfl, rfl, rfl⟩ := hrel
    go_wp2_with (first | (go_at_call_of 105 (Value.slice none 0 0); refine (arenames_nil _).mono ?_; rintro e w' ⟨rfl, rfl⟩) | (go_at_call 105; refine (arenames_one _ b o c s hs (fun u hu => H0.out u (HF.out.thenNo hu)) hsz).mono ?_; rintro e w3 ⟨rfl, f3⟩; have F3 := hid (HF.out.thenNo f3); clear f3))
    go_ret
    exact ⟨rfl, F3.out⟩
end Go.Proofs.YtibfpkfpmkghhaaGreatDoor

namespace Go.Proofs.YtibfpkfpmkghhaaGreatDoor
open Go.RowKit Go.Lig

section
variable {S : Nat → Prop} {w0 w : World} {s : Nat} {p q : PF} (h : OwG S w0 w s p)
include h
theorem is_begin {i e : Int} (ho : opBegin p = ((i, e), q)) (hs : decide (p.2 < 1000000) = true) : Calls Tryz.prog 10 #[.pointer (some ⟨s, 0, none⟩)] w fun o w' => o = .returned (.tuple #[.int .i64 i, .int .i64 e]) ∧ OwG S w0 w' s q := by
  have := x_begin h (of_decide_eq_true hs)
  rw [ho] at this
  exact this
variable {t : Int}
theorem is_commit {e : Int} (ho : opCommit p t = (e, q)) (hs : decide (p.2 < 1000000) = true) : Calls Tryz.prog 12 #[.pointer (some ⟨s, 0, none⟩), .int .i64 t] w fun o w' => o = .returned (.int .i64 e) ∧ OwG S w0 w' s q := by
  have := x_commit h t (of_decide_eq_true hs)
  rw [ho] at this
  exact this
theorem is_abort {e : Int} (ho : opAbort p t = (e, q)) (hr : rmAbort p t = true) : Calls Tryz.prog 18 #[.pointer (some ⟨s, 0, none⟩), .int .i64 t] w fun o w' => o = .returned (.int .i64 e) ∧ OwG S w0 w' s q := by
  have := x_abort h t hr
  rw [ho] at this
  exact this
theorem is_dropnode {id e : Int} (ho : opDropNode p t id = (e, q)) (hs : decide (p.2 < 1000000) = true) (hr : rmDropNode p t id = true) : Calls Tryz.prog 20 #[.pointer (some ⟨s, 0, none⟩), .int .i64 t, .int .i64 id] w fun o w' => o = .returned (.int .i64 e) ∧ OwG S w0 w' s q := by
  have := x_dropnode h t id (of_decide_eq_true hs) hr
  rw [ho] at this
  exact this
theorem is_dropedge {id e : Int} (ho : opDropEdge p t id = (e, q)) (hr : rmDropEdge p t id = true) : Calls Tryz.prog 22 #[.pointer (some ⟨s, 0, none⟩), .int .i64 t, .int .i64 id] w fun o w' => o = .returned (.int .i64 e) ∧ OwG S w0 w' s q := by
  have := x_dropedge h t id hr
  rw [ho] at this
  exact this
theorem is_addedge {i e ef et : Int} {ey : ByteArray} {ew : Nat} (ho : opAddEdge p t true ⟨ef, et, ey, ew⟩ = ((i, e), q)) (hr : rmAddEdge p t true ⟨ef, et, ey, ew⟩ = true) (hf : decide (1 ≤ ef) && decide (ef ≤ 24) && (decide (1 ≤ et) && decide (et ≤ 24)) && isNameB ey && decide (ey.size ≤ 8) = true) (hx : ∀ u : World, Calls Tryz.prog 133 #[.float .f64 ew] u fun e w' => e = .returned (.bool true) ∧ u = w') : Calls Tryz.prog 21 #[.pointer (some ⟨s, 0, none⟩), .int .i64 t, .agg #[.int .i64 ef, .int .i64 et, .string ey, .float .f64 ew]] w fun o w' => o = .returned (.tuple #[.int .i64 i, .int .i64 e]) ∧ OwG S w0 w' s q := by
  simp only [Bool.and_eq_true, decide_eq_true_eq] at hf
  have := x_addedge h t ⟨ef, et, ey, ew⟩ (b := true) (fun u _ => isedge_ok u ef et ey (.float .f64 ew) hf.1.1.1 hf.1.1.2 hf.1.2 (by omega) rfl hx) hr
  rw [ho] at this
  exact this
theorem is_label {x : ByteArray} {l : List Int} {n : Nat} (ho : gLabel p.1 t x = l) (hn : l.length = n) (hs : decide (p.2 < 1000000) = true) : Calls Tryz.prog 15 #[.pointer (some ⟨s, 0, none⟩), .int .i64 t, .string x] w fun o w' => ∃ a c, o = .returned (.slice a n c) ∧ OwnI w w' (.slice a n c) l ∧ OwG S w0 w' s p := by
  have := x_label h t x (Nat.le_of_lt (of_decide_eq_true hs))
  rw [ho] at this
  subst hn
  exact this.mono (by
    rintro e w' ⟨v, rfl, o, h2⟩
    obtain ⟨a, c, rfl⟩ := ownsRow_slice o.row
    exact ⟨a, c, rfl, o, h2⟩)
theorem is_nodes {l : List Int} {n : Nat} (ho : gNodes p.1 t = l) (hn : l.length = n) : Calls Tryz.prog 27 #[.pointer (some ⟨s, 0, none⟩), .int .i64 t] w fun o w' => ∃ a c, o = .returned (.slice a n c) ∧ OwnI w w' (.slice a n c) l ∧ OwG S w0 w' s p := by
  have := x_nodes h t
  rw [ho] at this
  subst hn
  exact this.mono (by
    rintro e w' ⟨v, rfl, o, h2⟩
    obtain ⟨a, c, rfl⟩ := ownsRow_slice o.row
    exact ⟨a, c, rfl, o, h2⟩)
theorem is_edges {l : List Int} {n : Nat} (ho : gEdges p.1 t = l) (hn : l.length = n) : Calls Tryz.prog 24 #[.pointer (some ⟨s, 0, none⟩), .int .i64 t] w fun o w' => ∃ a c, o = .returned (.slice a n c) ∧ OwnI w w' (.slice a n c) l ∧ OwG S w0 w' s p := by
  have := x_edges h t
  rw [ho] at this
  subst hn
  exact this.mono (by
    rintro e w' ⟨v, rfl, o, h2⟩
    obtain ⟨a, c, rfl⟩ := ownsRow_slice o.row
    exact ⟨a, c, rfl, o, h2⟩)
theorem is_out {id : Int} {l : List Int} {n : Nat} (ho : outM p.1 t id = l) (hn : l.length = n) (hk : (Lit.int .i64 id).wf = true) (hs : decide (p.2 < 1000000) = true) : Calls Tryz.prog 28 #[.pointer (some ⟨s, 0, none⟩), .int .i64 t, .int .i64 id] w fun o w' => ∃ a c, o = .returned (.slice a n c) ∧ OwnI w w' (.slice a n c) l ∧ OwG S w0 w' s p := by
  have := x_out h t id hk (Nat.le_of_lt (of_decide_eq_true hs))
  rw [ho] at this
  subst hn
  exact this.mono (by
    rintro e w' ⟨v, rfl, o, h2⟩
    obtain ⟨a, c, rfl⟩ := ownsRow_slice o.row
    exact ⟨a, c, rfl, o, h2⟩)
theorem is_in {id : Int} {l : List Int} {n : Nat} (ho : inM p.1 t id = l) (hn : l.length = n) (hk : (Lit.int .i64 id).wf = true) (hs : decide (p.2 < 1000000) = true) : Calls Tryz.prog 29 #[.pointer (some ⟨s, 0, none⟩), .int .i64 t, .int .i64 id] w fun o w' => ∃ a c, o = .returned (.slice a n c) ∧ OwnI w w' (.slice a n c) l ∧ OwG S w0 w' s p := by
  have := x_in h t id hk (Nat.le_of_lt (of_decide_eq_true hs))
  rw [ho] at this
  subst hn
  exact this.mono (by
    rintro e w' ⟨v, rfl, o, h2⟩
    obtain ⟨a, c, rfl⟩ := ownsRow_slice o.row
    exact ⟨a, c, rfl, o, h2⟩)
end
/-- a node of one label, made at once -/
theorem arg_one {S : Nat → Prop} {w0 w : World} (x : ByteArray) (hx : x.size ≤ 8) : ArgN S w0 w (w.alloc (.cells #[.string x] 9)) (some ⟨w.heap.size, 0, none⟩) 1 1 none 0 0 ⟨[x], []⟩ :=
  ⟨⟨Rd.block (cs := [.string x]) (heap1 w _) 1 1 1 rfl (by simp [Value.oneCell']) (Nat.le_refl _) (by simp [maxLen]), Rd.nil _ _, (fun q hq => by cases hq), (fun y hy => by rw [List.mem_singleton.1 hy]; unfold maxLen; omega)⟩, ⟨by simp, by simp⟩, fun k hk _ => by
      obtain rfl : w.heap.size = k := Option.some.inj hk
      exact .inr (Nat.le_refl _), fun k hk => by cases hk⟩
section
variable {S : Nat → Prop} {w0 w : World} {s : Nat} {p q : PF} (h : OwG S w0 w s p) {t : Int}
include h
/-- SetNode with a node of one label -/
theorem is_setnode1 {id e : Int} {x : ByteArray} (ho : opSetNode p t id true ⟨[x], []⟩ = (e, q)) (hs : decide (p.2 < 1000000) = true) (hr : rmSetNode p t id true ⟨[x], []⟩ = true) (hx : isNameB x && decide (x.size ≤ 8) = true) :
    Calls Tryz.prog 11 #[.pointer (some ⟨s, 0, none⟩), .int .i64 t, .int .i64 id, .agg #[.slice (some ⟨w.heap.size, 0, none⟩) 1 1, .slice none 0 0]] (w.alloc (.cells #[.string x] 9)) fun o w' => o = .returned (.int .i64 e) ∧ OwG S w0 w' s q := by
  simp only [Bool.and_eq_true, decide_eq_true_eq] at hx
  have hf : Fr No w (w.alloc (.cells #[.string x] 9)) := (Fr.refl No w).alloc _
  have := x_setnode (h.next hf) t id (arg_one (S := S) (w0 := w0) (w := w) x hx.2) (b := true) (fun u hu => isnode_one u w.heap.size 0 1 x hx.1 (fun v hv => cells1 ((hu.thenNo hv).keep (heap1 w _) (fun e => e))) (by omega)) (of_decide_eq_true hs) hr
  rw [ho] at this
  exact this
/-- AddNode of a node of one label -/
theorem is_addnode1 {i e : Int} {x : ByteArray} (ho : opAddNode p t true ⟨[x], []⟩ = ((i, e), q)) (hs : decide (p.2 < 1000000) = true) (hr : rmAddNode p t true ⟨[x], []⟩ = true) (hx : isNameB x && decide (x.size ≤ 8) = true) :
    Calls Tryz.prog 19 #[.pointer (some ⟨s, 0, none⟩), .int .i64 t, .agg #[.slice (some ⟨w.heap.size, 0, none⟩) 1 1, .slice none 0 0]] (w.alloc (.cells #[.string x] 9)) fun o w' => o = .returned (.tuple #[.int .i64 i, .int .i64 e]) ∧ OwG S w0 w' s q := by
  simp only [Bool.and_eq_true, decide_eq_true_eq] at hx
  have hf : Fr No w (w.alloc (.cells #[.string x] 9)) := (Fr.refl No w).alloc _
  have := x_addnode (t := t) h hf (arg_one (S := S) (w0 := w0) (w := w) x hx.2) (b := true) (fun u hu => isnode_one u w.heap.size 0 1 x hx.1 (fun v hv => cells1 ((hu.thenNo hv).keep (heap1 w _) (fun e => e))) (by omega)) (of_decide_eq_true hs) hr
  rw [ho] at this
  exact this
end
end Go.Proofs.YtibfpkfpmkghhaaGreatDoor

namespace Go.Proofs.YtibfpkfpmkghhaaGreatDoor
open Go.RowKit Go.Lig

theorem same_len (w : World) (av bv : Value) (la lb : List Int) (ha : Rd w av la.length 1 (la.map iv)) (hb : Rd w bv lb.length 1 (lb.map iv)) (hne : la.length ≠ lb.length) :
    Calls Tryz.prog 14 #[av, bv] w fun e w' => e = .returned (.bool false) ∧ w = w' := by
  obtain ⟨ao, ca, rfl, hla⟩ := rd_len ha
  obtain ⟨bo, cb, rfl, hlb⟩ := rd_len hb
  have h1 : (((la.length : Nat) : Int) != ((lb.length : Nat) : Int)) = true := by rw [bne_iff_ne]; omega
  clear ha hb hne
  go_enter Tryz.func14, Tryz.ntmps14
  go_wp2
  go_ret
  exact ⟨rfl, rfl⟩
theorem same_end {la lb : List Int} {i : Nat} (h : la.take i = lb.take i) (h1 : i = la.length) (h2 : i = lb.length) : decide (la = lb) = true := by
  rw [h1, List.take_length, ← h1, h2, List.take_length] at h
  exact decide_eq_true h
theorem same_part {la lb : List Int} {i : Nat} {x y : Int} (h1 : la[i]? = some x) (h2 : lb[i]? = some y) (hne : x ≠ y) : decide (la = lb) = false := by
  refine decide_eq_false (fun e => hne ?_)
  rw [e, h2] at h1
  exact (Option.some.inj h1).symm
set_option maxHeartbeats 1000000 in
theorem same_eq (w : World) (av bv : Value) (la lb : List Int) (ha : Rd w av la.length 1 (la.map iv)) (hb : Rd w bv lb.length 1 (lb.map iv)) (heq : la.length = lb.length) :
    Calls Tryz.prog 14 #[av, bv] w fun e w' => e = .returned (.bool (decide (la = lb))) ∧ Fr No w w' := by
  obtain ⟨ao, ca, rfl, hla⟩ := rd_len ha
  obtain ⟨bo, cb, rfl, hlb⟩ := rd_len hb
  have H := hid (⟨ha, hb, heq⟩ : _ ∧ _ ∧ _)
  have h1 : (((la.length : Nat) : Int) != ((lb.length : Nat) : Int)) = false := by rw [heq]; simp
  clear ha hb heq
  go_enter Tryz.func14, Tryz.ntmps14
  go_wp2
  clear h1
  go_loopw [5] (fun vi wr => ∃ i : Nat, i ≤ la.length ∧ vi = .int .i64 (i : Int) ∧ Hid (la.take i = lb.take i ∧ Fr No w wr)) (fun vi _ => la.length - (intOf vi).toNat)
  case atStart => exact ⟨0, Nat.zero_le _, rfl, rfl, Fr.refl _ _⟩
  case round =>
    obtain ⟨i, hi, rfl, hR⟩ := hrel
    by_cases hlt : i < la.length
    · obtain ⟨x, hx⟩ : ∃ x, la[i]? = some x := ⟨_, List.getElem?_eq_getElem hlt⟩
      obtain ⟨y, hy⟩ : ∃ y, lb[i]? = some y := ⟨_, List.getElem?_eq_getElem (by have := H.out.2.2; omega)⟩
      obtain ⟨ba, oa, ca', hva, hca⟩ := H.out.1.at1 (k := i) (u := iv x) (by simp [hx])
      obtain ⟨rfl, rfl⟩ : ao = some ⟨ba, oa, none⟩ ∧ ca = ca' := by simpa using hva
      obtain ⟨bb, ob, cb', hvb, hcb⟩ := H.out.2.1.at1 (k := i) (u := iv y) (by simp [hy])
      obtain ⟨rfl, rfl⟩ : bo = some ⟨bb, ob, none⟩ ∧ cb = cb' := by simpa using hvb
      have c1 : wr.cell? ⟨ba, oa + i, none⟩ = some (.int .i64 x) := hca wr hR.out.2
      have c2 : wr.cell? ⟨bb, ob + i, none⟩ = some (.int .i64 y) := hcb wr hR.out.2
      have hlt2 : i < lb.length := by have := H.out.2.2; omega
      have HX := hid (⟨hx, hy⟩ : _ ∧ _)
      clear hva hvb hca hcb hx hy
      by_cases hxy : x = y
      · subst hxy
        go_wp2
        go_quiet (fail)
        go_wp2
        go_roundw
        case rel => exact ⟨i + 1, by omega, by go_num, by rw [take_snoc HX.out.1, take_snoc HX.out.2, hR.out.1], hR.out.2.drewN _⟩
        case measure => simp [intOf]; omega
      · have n1 : ((x : Int) != y) = true := by rw [bne_iff_ne]; exact hxy
        have HN := hid hxy
        clear hxy
        go_wp2
        go_quiet (fail)
        go_wp2
        go_ret
        exact ⟨by rw [same_part HX.out.1 HX.out.2 HN.out]; rfl, hR.out.2.drewN _⟩
    · obtain rfl : i = la.length := by omega
      clear hlt
      go_wp2
      go_ret
      exact ⟨by rw [same_end hR.out.1 rfl H.out.2.2]; rfl, hR.out.2⟩
theorem same_any (w : World) (av bv : Value) (la lb : List Int) (ha : Rd w av la.length 1 (la.map iv)) (hb : Rd w bv lb.length 1 (lb.map iv)) :
    Calls Tryz.prog 14 #[av, bv] w fun e w' => e = .returned (.bool (decide (la = lb))) ∧ Fr No w w' := by
  by_cases h : la.length = lb.length
  · exact same_eq w av bv la lb ha hb h
  · refine (same_len w av bv la lb ha hb h).mono ?_
    rintro e w' ⟨rfl, rfl⟩
    exact ⟨by rw [decide_eq_false (fun e => h (by rw [e]))], Fr.refl _ _⟩
end Go.Proofs.YtibfpkfpmkghhaaGreatDoor

namespace Go.Proofs.YtibfpkfpmkghhaaGreatDoor
open Go.RowKit Go.Lig

/-- what AddNode leaves -/
def addM (M : PSt) (t : Int) (d : NodeD) : PSt := findsM (putM (growN M) t M.N.length d false) M.N.length
/-- what a touch leaves -/
def touM (M : PSt) (t : Int) (k : Nat) : PSt := findsM (putM M t k ((readN M t ((k : Int) + 1)).getD NodeD.none) false) k
def dA : NodeD := ⟨[⟨#[97]⟩], []⟩
def mB : PSt := { emptyM with K := emptyM.K.begins }
def mN1 : PSt := addM mB 1 dA
def mN2 : PSt := addM mN1 1 NodeD.none
def mT : PSt := touM (touM mN2 1 0) 1 1
def mE : PSt := tieM (growE mT) 1 0 ⟨1, 2, ⟨#[101]⟩, 0⟩ false
def mTwo : PSt := { mE with K := mE.K.commit 1 }
theorem mB_live : mB.K.live 1 = true := by kernel_rfl
theorem mN1_live : mN1.K.live 1 = true := by kernel_rfl
theorem mN2_live : mN2.K.live 1 = true := by kernel_rfl
theorem mN2_r1 : readN mN2 1 1 = some dA := by kernel_rfl
theorem mN2_r2 : readN mN2 1 2 = some NodeD.none := by kernel_rfl
theorem mN2_may : mayB mN2 1 0 [1, 2] = false := by kernel_rfl
theorem mTwo_n : mTwo.N.length = 2 := by kernel_rfl
theorem mTwo_e : mTwo.E.length = 1 := by kernel_rfl
theorem mTwo_x : mTwo.X.length = 1 := by kernel_rfl
end Go.Proofs.YtibfpkfpmkghhaaGreatDoor

namespace Go.Proofs.YtibfpkfpmkghhaaGreatDoor
open Go.RowKit Go.Lig

theorem finds_at {M : PSt} {k : Nat} {l : List IxR} {L : List (Ver NodeD)} (F n : Nat) (hl : M.Y[k]? = some l) (hL : M.N[k]? = some L) (hn : l.length + 2 * costV L = n) (hF : F + n < 999990) : FindsTo M (findsM M k) F (F + n) k := by
  have := finds_any (k := k) l hl L hL F (by omega)
  rw [show F + l.length + 2 * costV L = F + n by omega] at this
  exact this
theorem f_n1 : FindsTo (putM (growN mB) 1 mB.N.length dA false) mN1 2 4 mB.N.length := finds_at (l := []) (L := ((putM (growN mB) 1 mB.N.length dA false).N[mB.N.length]?.getD [])) 2 2 (by kernel_rfl) (by kernel_rfl) (by kernel_rfl) (by decide)
theorem f_n2 : FindsTo (putM (growN mN1) 1 mN1.N.length NodeD.none false) mN2 5 5 mN1.N.length := finds_at (l := []) (L := ((putM (growN mN1) 1 mN1.N.length NodeD.none false).N[mN1.N.length]?.getD [])) 5 0 (by kernel_rfl) (by kernel_rfl) (by kernel_rfl) (by decide)
theorem f_t1 : FindsTo (putM mN2 1 0 dA false) (touM mN2 1 0) 6 9 0 := finds_at (M := putM mN2 1 0 dA false) (l := ((putM mN2 1 0 dA false).Y[0]?.getD [])) (L := ((putM mN2 1 0 dA false).N[0]?.getD [])) 6 3 (by kernel_rfl) (by kernel_rfl) (by kernel_rfl) (by decide)
theorem f_t2 : FindsTo (putM (touM mN2 1 0) 1 1 NodeD.none false) mT 10 10 1 := finds_at (M := putM (touM mN2 1 0) 1 1 NodeD.none false) (l := ((putM (touM mN2 1 0) 1 1 NodeD.none false).Y[1]?.getD [])) (L := ((putM (touM mN2 1 0) 1 1 NodeD.none false).N[1]?.getD [])) 10 0 (by kernel_rfl) (by kernel_rfl) (by kernel_rfl) (by decide)
theorem touch_two : TouchTo 1 mT 10 mN2 5 [1, 2] :=
  TouchTo.put (k := 0) (d := dA) (by decide) (by kernel_rfl) (by decide) f_t1 (TouchTo.put (k := 1) (d := NodeD.none) (by decide) (by kernel_rfl) (by decide) f_t2 TouchTo.nil)
end Go.Proofs.YtibfpkfpmkghhaaGreatDoor

namespace Go.Proofs.YtibfpkfpmkghhaaGreatDoor
open Go.RowKit Go.Lig

/-- the store's blocks are new, all else stands -/
structure Nu (w w' : World) (ρ : Nat → Option Pt) : Prop where
  fr : Fr No w w'
  lo : ∀ b, Go.Lig.Own ρ b → w.heap.size ≤ b
theorem Nu.next {w w1 w2 : World} {ρ ρ' : Nat → Option Pt} (h : Nu w w1 ρ) (g : Gone (Go.Lig.Own ρ) w1 (Go.Lig.Own ρ') w2) : Nu w w2 ρ' :=
  ⟨h.fr.trans g.fr (fun k hk E => absurd hk (Nat.not_lt.2 (h.lo k E))), fun b hb => by
    rcases g.gr b hb with h1 | h1
    · exact h.lo b h1
    · exact Nat.le_trans h.fr.size h1⟩
theorem Nu.nextNo {w w1 w2 : World} {ρ : Nat → Option Pt} (h : Nu w w1 ρ) (g : Fr No w1 w2) : Nu w w2 ρ := ⟨h.fr.thenNo g, h.lo⟩
theorem isnA : isNameB ⟨#[97]⟩ = true := by kernel_rfl
theorem isnE : isNameB ⟨#[101]⟩ = true := by kernel_rfl
set_option maxRecDepth 100000 in
set_option maxHeartbeats 2000000 in
theorem two_any (w : World) : Calls Tryz.prog 9 #[] w fun e w' => ∃ s ρ A, e = .returned (.pointer (some ⟨s, 0, none⟩)) ∧ StAt w' ρ s A mTwo 14 ∧ Nu w w' ρ := by
  go_enter Tryz.func9, Tryz.ntmps9
  go_wp2_with fail
  refine (stnew_any _).mono ?_
  rintro e w1 ⟨s, ρ, A, rfl, h1, f1, n1⟩
  have H1 := hid (⟨h1, Nu.mk f1 n1⟩ : _ ∧ _)
  clear h1 f1 n1
  go_wp2_with fail
  refine (stbegin_any _ ρ s A emptyM 0 H1.out.1 (by decide) (by decide)).mono ?_
  rintro e w2 ⟨rfl, ρ2, h2, g2⟩
  rw [show ((emptyM.K.l.length + 1 : Nat) : Int) = 1 from rfl]
  have H2 := hid (⟨h2, H1.out.2.next g2⟩ : StAt w2 ρ2 s A mB 1 ∧ _)
  clear h2 g2
  go_wp2_with fail
  have f3 : Fr No w2 (w2.alloc (.cells #[.string ⟨#[97]⟩] 9)) := (Fr.refl No w2).alloc _
  have b3 := heap1 w2 (.cells #[.string ⟨#[97]⟩] 9)
  have hs3 := H2.out.1.frame f3
  have hn3 := H2.out.2.nextNo f3
  have HB2 := hid H2.out.1.bound
  generalize w2.alloc (.cells #[.string ⟨#[97]⟩] 9) = w3 at *
  refine (addnode_ok w3 ρ2 s A mB 1 hs3 1 (some ⟨w2.heap.size, 0, none⟩) none 1 1 0 0 mB_live (fun u hu => isnode_one u w2.heap.size 0 1 ⟨#[97]⟩ isnA (fun x hx => cells1 (hx.keep (hu.keep b3 (fun e => e)) (fun e => e))) (by decide)) dA ⟨Rd.block (cs := [.string ⟨#[97]⟩]) b3 1 1 1 rfl (by simp [Value.oneCell']) (Nat.le_refl _) (by simp [maxLen]), Rd.nil _ _, (fun q hq => by cases hq), (fun x hx => by
    rw [List.mem_singleton.1 hx]; decide)⟩ (by decide) (by decide) (fun k hk _ E => by
      obtain rfl : w2.heap.size = k := Option.some.inj hk
      exact Nat.lt_irrefl _ (HB2.out _ E)) (fun k hk => by cases hk) (by decide) (by decide) mN1 4 f_n1).mono ?_
  rintro e w4 ⟨rfl, ρ4, A4, h4, g4⟩
  rw [show ((mB.N.length : Nat) : Int) + 1 = 1 from rfl]
  have H4 := hid (⟨h4, hn3.next g4⟩ : _ ∧ _)
  clear h4 g4 hs3 hn3 b3 f3
  go_wp2_with fail
  refine (addnode_ok w4 ρ4 s A4 mN1 4 H4.out.1 1 none none 0 0 0 0 mN1_live (fun u _ => isnode_nil u) NodeD.none (NodeOf.none _) (by decide) (by decide) (fun k hk => by cases hk) (fun k hk => by cases hk) (by rw [show mN1.N.length = 1 by kernel_rfl]; decide) (by decide) mN2 5 f_n2).mono ?_
  rintro e w5 ⟨rfl, ρ5, A5, h5, g5⟩
  have H5 := hid (⟨h5, H4.out.2.next g5⟩ : _ ∧ _)
  clear h5 g5
  go_wp2_with fail
  refine (addedge_ok w5 ρ5 s A5 mN2 5 H5.out.1 1 1 2 ⟨#[101]⟩ 0 mN2_live (fun u _ => isedge_ok u 1 2 ⟨#[101]⟩ (.float .f64 0) (by decide) (by decide) isnE (by decide) rfl (fun u => weight_zero u)) (by rw [mN2_r1]; rfl) (by rw [mN2_r2]; rfl) (by rw [show mN2.E.length = 0 by kernel_rfl]; decide) mN2_may mT 10 touch_two (by decide) ⟨key_small (n := 1) (by decide), key_small (n := 2) (by decide)⟩).mono ?_
  rintro e w6 ⟨rfl, ρ6, A6, h6, g6⟩
  rw [show mN2.E.length = 0 by kernel_rfl] at h6
  have H6 := hid (⟨h6, H5.out.2.next g6⟩ : StAt w6 ρ6 s A6 mE 13 ∧ _)
  clear h6 g6
  go_wp2_with (go_at_call 12; refine (stcommit_any _ ρ6 s A6 mE 13 H6.out.1 1 (by kernel_rfl) (by decide)).mono ?_; rintro e w7 ⟨rfl, ρ7, h7, g7⟩; have H7 := hid (⟨h7, H6.out.2.next g7⟩ : StAt w7 ρ7 s A6 mTwo 14 ∧ _); clear h7 g7)
  go_ret
  exact ⟨s, ρ7, A6, rfl, H7.out⟩
end Go.Proofs.YtibfpkfpmkghhaaGreatDoor

namespace Go.Proofs.YtibfpkfpmkghhaaGreatDoor
open Go.RowKit Go.Lig

def kA : PSt := { emptyM with K := emptyM.K.begins }
def kB : PSt := addM kA 1 NodeD.none
def kC : PSt := { kB with K := kB.K.commit 1 }
def kD : PSt := { kC with K := kC.K.begins }
def kE : PSt := { kD with K := kD.K.begins }
def kF : PSt := findsM (putM kE 2 0 NodeD.none true) 0
def kG : PSt := findsM (undoNM { kF with K := kF.K.abort 3 } 3 0) 0
def kH : PSt := undoEs 3 kG kG.E.length
theorem g_b : FindsTo (putM (growN kA) 1 kA.N.length NodeD.none false) kB 2 2 kA.N.length := finds_at (l := []) (L := ((putM (growN kA) 1 kA.N.length NodeD.none false).N[kA.N.length]?.getD [])) 2 0 (by kernel_rfl) (by kernel_rfl) (by kernel_rfl) (by decide)
theorem g_f : FindsTo (putM kE 2 0 NodeD.none true) kF 6 6 0 := finds_at (M := putM kE 2 0 NodeD.none true) (l := []) (L := ((putM kE 2 0 NodeD.none true).N[0]?.getD [])) 6 0 (by kernel_rfl) (by kernel_rfl) (by kernel_rfl) (by decide)
theorem g_g : FindsTo (undoNM { kF with K := kF.K.abort 3 } 3 0) kG 6 6 0 := finds_at (M := undoNM { kF with K := kF.K.abort 3 } 3 0) (l := []) (L := ((undoNM { kF with K := kF.K.abort 3 } 3 0).N[0]?.getD [])) 6 0 (by kernel_rfl) (by kernel_rfl) (by kernel_rfl) (by decide)
theorem undo_known : UndoTo 3 kG 6 { kF with K := kF.K.abort 3 } 6 0 := UndoTo.step (by decide) g_g (UndoTo.done (by decide))
theorem kE_r : readN kE 2 1 = some NodeD.none := by kernel_rfl
theorem kE_o : outM kE 2 1 = [] ∧ inM kE 2 1 = [] := ⟨by kernel_rfl, by kernel_rfl⟩
theorem kE_m : mayB kE 2 0 [1] = false := by kernel_rfl
theorem kF_l : kF.K.live 3 = true := by kernel_rfl
theorem kF_r : readN kF 3 1 = some NodeD.none := by kernel_rfl
theorem kF_m : mayB kF 3 0 [1, 1] = true := by kernel_rfl
theorem kH_c : kH.K.count = 1 := by kernel_rfl
end Go.Proofs.YtibfpkfpmkghhaaGreatDoor
