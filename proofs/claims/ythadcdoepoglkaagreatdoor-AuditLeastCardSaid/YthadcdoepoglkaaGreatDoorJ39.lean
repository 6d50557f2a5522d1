/- A part of the proof: contracts of functions of the program, for the row's text. -/
import Derived.Test.YthadcdoepoglkaaGreatDoorJ36
import Derived.Test.YthadcdoepoglkaaGreatDoorJ38
import Derived.Test.YthadcdoepoglkaaGreatDoorJ31
import Derived.Test.YthadcdoepoglkaaGreatDoorJ33
import Derived.Test.YthadcdoepoglkaaGreatDoorJ30
import Derived.Test.YthadcdoepoglkaaGreatDoorJ19
namespace Go.Proofs.YthadcdoepoglkaaGreatDoor
open Go.RowKit Go.Lig
structure OwG (S : Nat → Prop) (w0 w : World) (s : Nat) (p : PF) : Prop where
 ex : ∃ ρ A, StAt w ρ s A p.1 p.2 ∧ ∀ b, Go.Lig.Own ρ b → S b ∨ w0.heap.size ≤ b
 fr : Fr S w0 w
abbrev OwS : World → World → Nat → PF → Prop := OwG No
theorem OwG.next {S : Nat → Prop} {w0 w w' : World} {s : Nat} {p : PF} (h : OwG S w0 w s p) (hf : Fr No w w') : OwG S w0 w' s p := by
 obtain ⟨ρ, A, h1, h2⟩ := h.ex
 exact ⟨⟨ρ, A, h1.frame hf, h2⟩, h.fr.thenNo hf⟩
theorem OwG.turns {S : Nat → Prop} {w0 w w' : World} {s : Nat} {ρ : Nat → Option Pt} (hn : ∀ b, Go.Lig.Own ρ b → S b ∨ w0.heap.size ≤ b) (hf : Fr S w0 w) {p : PF} (t : Turns w ρ s p.1 p.2 w') : OwG S w0 w' s p := by
 obtain ⟨ρ', A', h1, g⟩ := t
 exact ⟨⟨ρ', A', h1, fun b hb => by
  rcases g.gr b hb with e | e
  ·exact hn b e
  ·exact .inr (Nat.le_trans hf.size e)⟩, hf.trans g.fr (fun k hk E => (hn k E).elim id (fun e => absurd hk (Nat.not_lt.2 e)))⟩
theorem x_new (w : World) : Calls Tryz.prog 33 #[] w fun e w' => ∃ s, e = .returned (.pointer (some ⟨s, 0, none⟩)) ∧ OwS w w' s (emptyM, 0) := (stnew_any w).mono (by
 rintro e w' ⟨s, ρ, A, rfl, h, f, n⟩
 exact ⟨s, rfl, ⟨ρ, A, h, fun b hb => .inr (n b hb)⟩, f⟩)
theorem stbegin_full (w : World) (ρ : Nat → Option Pt) (s : Nat) (A : Ad) (M : PSt) (F : Nat) (h : StAt w ρ s A M F) (hc : 4 ≤ M.K.count) :
  Calls Tryz.prog 20 #[.pointer (some ⟨s, 0, none⟩)] w fun e w' => e = .returned (.tuple #[.int .i64 0, .int .i64 3]) ∧ Fr No w w' := by
 have HC := hid (begin_full w (At ρ .clock) A.c M.K h.clock hc)
 obtain ⟨x0, -⟩ := h.cells
 clear h hc
 go_enter Tryz.func20, Tryz.ntmps20
 go_wp2_with (go_at_call 50; refine HC.out.mono ?_; rintro e w1 ⟨rfl, f1⟩; have H1 := hid f1; clear f1)
 go_ret2
 exact ⟨rfl, H1.out⟩
section
variable {S : Nat → Prop} {w0 w : World} {s : Nat} {p : PF} (h : OwG S w0 w s p)
include h
theorem x_begin (hs : p.2 < 1000000) : Calls Tryz.prog 20 #[.pointer (some ⟨s, 0, none⟩)] w fun e w' => e = .returned (.tuple #[.int .i64 (opBegin p).1.1, .int .i64 (opBegin p).1.2]) ∧ OwG S w0 w' s (opBegin p).2 := by
 obtain ⟨ρ, A, h1, h2⟩ := h.ex
 unfold opBegin
 by_cases hc : p.1.K.count < 4
 ·rw [if_pos hc]
  exact (stbegin_any w ρ s A p.1 p.2 h1 hc hs).mono (by rintro e w' ⟨rfl, t⟩; exact ⟨rfl, OwG.turns h2 h.fr t.turns⟩)
 ·rw [if_neg hc]
  exact (stbegin_full w ρ s A p.1 p.2 h1 (by omega)).mono (by rintro e w' ⟨rfl, f⟩; exact ⟨rfl, h.next f⟩)
theorem x_commit (t : Int) (hs : p.2 < 1000000) : Calls Tryz.prog 12 #[.pointer (some ⟨s, 0, none⟩), .int .i64 t] w fun e w' => e = .returned (.int .i64 (opCommit p t).1) ∧ OwG S w0 w' s (opCommit p t).2 := by
 obtain ⟨ρ, A, h1, h2⟩ := h.ex
 unfold opCommit
 cases hl : p.1.K.live t with
 | true =>
  rw [if_pos rfl]
  exact (stcommit_any w ρ s A p.1 p.2 h1 t hl hs).mono (by rintro e w' ⟨rfl, t⟩; exact ⟨rfl, OwG.turns h2 h.fr t.turns⟩)
 | false =>
  rw [if_neg (by simp)]
  exact (stcommit_no w ρ s A p.1 p.2 h1 t hl).mono (by rintro e w' ⟨rfl, rfl⟩; exact ⟨rfl, h⟩)
structure ArgN (S : Nat → Prop) (w0 w1 w : World) (la : Option Addr) (ln lc : Nat) (pa : Option Addr) (pn pc : Nat) (d : NodeD) : Prop where
 of : NodeOf w (.slice la ln lc) (.slice pa pn pc) d
 few : d.L.length ≤ 1000000 ∧ d.Q.length ≤ 1000000
 bl : ∀ k, slBlock (.slice la ln lc) = some k → d.L ≠ [] → (k < w0.heap.size ∧ ¬ S k) ∨ w1.heap.size ≤ k
 bp : ∀ k, slBlock (.slice pa pn pc) = some k → d.Q ≠ [] → (k < w0.heap.size ∧ ¬ S k) ∨ w1.heap.size ≤ k
variable (t : Int)
omit h in
theorem x_addnode {w1 : World} (hw : OwG S w0 w1 s p) (hf1 : Fr No w1 w) {la : Option Addr} {ln lc : Nat} {pa : Option Addr} {pn pc : Nat} {d : NodeD} {b : Bool} (ha : ArgN S w0 w1 w la ln lc pa pn pc d) (hb : ∀ u, Fr No w u → Calls Tryz.prog 52 #[.agg #[.slice la ln lc, .slice pa pn pc]] u fun e w' => e = .returned (.bool b) ∧ Fr No u w') (hs : p.2 < 1000000) (hr : rmAddNode p t b d = true) :
  Calls Tryz.prog 22 #[.pointer (some ⟨s, 0, none⟩), .int .i64 t, .agg #[.slice la ln lc, .slice pa pn pc]] w fun e w' => e = .returned (.tuple #[.int .i64 (opAddNode p t b d).1.1, .int .i64 (opAddNode p t b d).1.2]) ∧ OwG S w0 w' s (opAddNode p t b d).2 := by
 obtain ⟨ρ, A, h0, h2⟩ := hw.ex
 have h1 := h0.frame hf1
 have hb0 := h0.bound
 have h := hw.next hf1
 unfold opAddNode
 unfold rmAddNode at hr
 cases hl : p.1.K.live t with
 | false =>
  rw [if_neg (by simp)]
  exact (addnode_dead w ρ s A p.1 p.2 h1 t la pa ln lc pn pc hl).mono (by rintro e w' ⟨rfl, f⟩; exact ⟨rfl, h.next f⟩)
 | true =>
  rw [if_pos rfl]
  cases b with
  | false =>
   rw [if_neg (by simp)]
   exact (addnode_bad w ρ s A p.1 p.2 h1 t la pa ln lc pn pc hl hb).mono (by rintro e w' ⟨rfl, f⟩; exact ⟨rfl, h.next f⟩)
  | true =>
   rw [if_pos rfl]
   by_cases hn : p.1.N.length < 24
   ·rw [if_pos hn]
    rw [hl, decide_eq_true hn] at hr
    have ho := okPut_iff (show okPut (growN p.1, p.2) t p.1.N.length d false = true by simpa using hr)
    exact (addnode_ok w ρ s A p.1 p.2 h1 t la pa ln lc pn pc hl hb d ha.of ha.few.1 ha.few.2 (fun k e ne E => (ha.bl k e ne).elim (fun q => (h2 k E).elim q.2 (fun r => absurd q.1 (Nat.not_lt.2 r))) (fun q => absurd (hb0 k E) (Nat.not_lt.2 q))) (fun k e ne E => (ha.bp k e ne).elim (fun q => (h2 k E).elim q.2 (fun r => absurd q.1 (Nat.not_lt.2 r))) (fun q => absurd (hb0 k E) (Nat.not_lt.2 q))) hn hs _ _ ho.2.2).mono (by rintro e w' ⟨rfl, t⟩; exact ⟨rfl, OwG.turns h2 h.fr t⟩)
   ·rw [if_neg hn]
    exact (addnode_full w ρ s A p.1 p.2 h1 t la pa ln lc pn pc hl hb (by omega)).mono (by rintro e w' ⟨rfl, f⟩; exact ⟨rfl, h.next f⟩)
end
end Go.Proofs.YthadcdoepoglkaaGreatDoor
namespace Go.Proofs.YthadcdoepoglkaaGreatDoor
open Go.RowKit Go.Lig
section
variable {S : Nat → Prop} {w0 w : World} {s : Nat} {p : PF} (h : OwG S w0 w s p) (t : Int)
include h
theorem x_addedge (v : EdgeV) {b : Bool} (hb : ∀ u, Fr No w u → Calls Tryz.prog 57 #[.agg #[.int .i64 v.from_, .int .i64 v.to_, .string v.type, .float .f64 v.w]] u fun e w' => e = .returned (.bool b) ∧ Fr No u w') (hr : rmAddEdge p t b v = true) :
  Calls Tryz.prog 23 #[.pointer (some ⟨s, 0, none⟩), .int .i64 t, .agg #[.int .i64 v.from_, .int .i64 v.to_, .string v.type, .float .f64 v.w]] w fun e w' => e = .returned (.tuple #[.int .i64 (opAddEdge p t b v).1.1, .int .i64 (opAddEdge p t b v).1.2]) ∧ OwG S w0 w' s (opAddEdge p t b v).2 := by
 obtain ⟨ρ, A, h1, h2⟩ := h.ex
 unfold opAddEdge
 unfold rmAddEdge at hr
 cases hl : p.1.K.live t with
 | false =>
  rw [if_neg (by simp)]
  exact (addedge_dead w ρ s A p.1 p.2 h1 t v.from_ v.to_ v.type v.w hl).mono (by rintro e w' ⟨rfl, f⟩; exact ⟨rfl, h.next f⟩)
 | true =>
  rw [if_pos rfl]
  cases b with
  | false =>
   rw [if_neg (by simp)]
   exact (addedge_bad w ρ s A p.1 p.2 h1 t v.from_ v.to_ v.type v.w hl hb).mono (by rintro e w' ⟨rfl, f⟩; exact ⟨rfl, h.next f⟩)
  | true =>
   rw [if_pos rfl]
   cases hrf : (readN p.1 t v.from_).isSome with
   | false =>
    rw [if_neg (by simp)]
    exact (addedge_none1 w ρ s A p.1 p.2 h1 t v.from_ v.to_ v.type v.w hl hb hrf).mono (by rintro e w' ⟨rfl, f⟩; exact ⟨rfl, h.next f⟩)
   | true =>
    cases hrt : (readN p.1 t v.to_).isSome with
    | false =>
     rw [if_neg (by simp)]
     exact (addedge_none2 w ρ s A p.1 p.2 h1 t v.from_ v.to_ v.type v.w hl hb hrf hrt).mono (by rintro e w' ⟨rfl, f⟩; exact ⟨rfl, h.next f⟩)
    | true =>
     rw [if_pos (by simp)]
     rw [hl, hrf, hrt] at hr
     by_cases hn : p.1.E.length < 32
     ·rw [if_pos hn]
      rw [decide_eq_true hn] at hr
      cases hm : mayB p.1 t 0 [v.from_, v.to_] with
      | true =>
       rw [if_pos rfl]
       rw [hm] at hr
       have ho := okAbort_iff (show okAbort p t = true by simpa using hr)
       exact (addedge_clash w ρ s A p.1 p.2 h1 t v.from_ v.to_ v.type v.w hl hb hrf hrt hn hm _ _ ho.1 ho.2).mono (by rintro e w' ⟨rfl, t⟩; exact ⟨rfl, OwG.turns h2 h.fr t.turns⟩)
      | false =>
       rw [if_neg (by simp)]
       rw [hm] at hr
       have ho : okTouch t p [v.from_, v.to_] = true ∧ (exTouch t p [v.from_, v.to_]).2 + 1 < 1000000 := by simpa using hr
       obtain ⟨df, hdf⟩ := Option.isSome_iff_exists.1 hrf
       obtain ⟨dt, hdt⟩ := Option.isSome_iff_exists.1 hrt
       have hpf := readN_pos hdf
       have hpt := readN_pos hdt
       have hnl := h1.nlen
       have hkey : ∀ i : Int, 1 ≤ i → i ≤ (p.1.N.length : Int) → keyOk i := fun i h1 h2 => by
        obtain ⟨m, rfl⟩ : ∃ m : Nat, i = (m : Int) := ⟨i.toNat, by omega⟩
        exact key_small m (by omega)
       exact (addedge_ok w ρ s A p.1 p.2 h1 t v.from_ v.to_ v.type v.w hl hb hrf hrt hn hm _ _ (touch_of _ _ ho.1) ho.2 ⟨hkey _ hpf.1 hpf.2, hkey _ hpt.1 hpt.2⟩).mono (by rintro e w' ⟨rfl, t⟩; exact ⟨rfl, OwG.turns h2 h.fr t⟩)
     ·rw [if_neg hn]
      exact (addedge_full w ρ s A p.1 p.2 h1 t v.from_ v.to_ v.type v.w hl hb hrf hrt (by omega)).mono (by rintro e w' ⟨rfl, f⟩; exact ⟨rfl, h.next f⟩)
end
end Go.Proofs.YthadcdoepoglkaaGreatDoor
