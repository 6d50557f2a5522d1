/- A part of the proof: contracts of functions of the program, for the row's text. -/
import Derived.Test.YtibfpkfpmkghhaaGreatDoorJ32
import Derived.Test.YtibfpkfpmkghhaaGreatDoorJ31
import Derived.Test.YtibfpkfpmkghhaaGreatDoorJ26
import Derived.Test.YtibfpkfpmkghhaaGreatDoorJ28
namespace Go.Proofs.YtibfpkfpmkghhaaGreatDoor
open Go.RowKit Go.Lig

def gNode (M : PSt) (t id : Int) : Option NodeD := if M.K.live t then readN M t id else none
def gEdge (M : PSt) (t id : Int) : Option EdgeV := if M.K.live t then readE M t id else none
def gEdges (M : PSt) (t : Int) : List Int := if M.K.live t then edsTo M t M.E.length else []
section
variable (w : World) (ρ : Nat → Option Pt) (s : Nat) (A : Ad) (M : PSt) (F : Nat) (h : StAt w ρ s A M F) (t : Int)
include h
theorem edges_dead (hl : M.K.live t = false) : Calls Tryz.prog 24 #[.pointer (some ⟨s, 0, none⟩), .int .i64 t] w fun e w' => e = .returned (.slice none 0 0) ∧ w = w' := by
  have HI := hid (islive_any w ρ s A M F h t)
  rw [hl] at HI
  clear h hl
  go_enter Tryz.func24, Tryz.ntmps24
  go_wp2_with (go_at_call 43; refine HI.out.mono ?_; rintro e w1 ⟨rfl, rfl⟩)
  go_ret
  exact ⟨rfl, rfl⟩
theorem stnode_dead (hl : M.K.live t = false) (id : Int) : Calls Tryz.prog 26 #[.pointer (some ⟨s, 0, none⟩), .int .i64 t, .int .i64 id] w fun e w' => e = .returned (.tuple #[.agg #[.slice none 0 0, .slice none 0 0], .bool false]) ∧ Fr No w w' := by
  have hb := heap1 w (.cells #[.slice none 0 0, .slice none 0 0] 31)
  have hfr : Fr No w (w.alloc (.cells #[.slice none 0 0, .slice none 0 0] 31)) := (Fr.refl No w).alloc _
  have HI := hid (islive_any _ ρ s A M F (h.frame hfr) t)
  rw [hl] at HI
  obtain ⟨c0, c1⟩ := cells2 hb
  have HF := hid (⟨hfr, hb⟩ : _ ∧ _)
  clear h hl hb hfr
  go_enter Tryz.func26, Tryz.ntmps26
  go_wp2_with (go_at_call 43; refine HI.out.mono ?_; rintro e w1 ⟨rfl, rfl⟩)
  refine bodyPost_ret (v := .tuple #[.agg #[.slice none 0 0, .slice none 0 0], .bool false]) ?_ rfl ⟨rfl, HF.out.1⟩
  simp [results, Tryz.f26, go_sem, c0, c1]
theorem stedge_dead (hl : M.K.live t = false) (id : Int) : Calls Tryz.prog 25 #[.pointer (some ⟨s, 0, none⟩), .int .i64 t, .int .i64 id] w fun e w' => e = .returned (.tuple #[.agg #[.int .i64 0, .int .i64 0, .string ⟨#[]⟩, .float .f64 0], .bool false]) ∧ Fr No w w' := by
  have hb := heap1 w (.cells #[.int .i64 0, .int .i64 0, .string ⟨#[]⟩, .float .f64 0] 42)
  have hfr : Fr No w (w.alloc (.cells #[.int .i64 0, .int .i64 0, .string ⟨#[]⟩, .float .f64 0] 42)) := (Fr.refl No w).alloc _
  have HI := hid (islive_any _ ρ s A M F (h.frame hfr) t)
  rw [hl] at HI
  obtain ⟨c0, c1, c2, c3⟩ := cells4 hb
  have HF := hid (⟨hfr, hb⟩ : _ ∧ _)
  clear h hl hb hfr
  go_enter Tryz.func25, Tryz.ntmps25
  go_wp2_with (go_at_call 43; refine HI.out.mono ?_; rintro e w1 ⟨rfl, rfl⟩)
  refine bodyPost_ret (v := .tuple #[.agg #[.int .i64 0, .int .i64 0, .string ⟨#[]⟩, .float .f64 0], .bool false]) ?_ rfl ⟨rfl, HF.out.1⟩
  simp [results, Tryz.f25, go_sem, c0, c1, c2, c3]
end
/-! ### Over a store of one's own -/
section
variable {S : Nat → Prop} {w0 w : World} {s : Nat} {p : PF} (h : OwG S w0 w s p) (t : Int)
include h
theorem x_node (id : Int) : Calls Tryz.prog 26 #[.pointer (some ⟨s, 0, none⟩), .int .i64 t, .int .i64 id] w fun e w' => ∃ (la : Option Addr) (ln lc : Nat) (pa : Option Addr) (pn pc : Nat), e = .returned (.tuple #[.agg #[.slice la ln lc, .slice pa pn pc], .bool (gNode p.1 t id).isSome]) ∧ OwnN w w' la ln lc pa pn pc ((gNode p.1 t id).getD NodeD.none) ∧ OwG S w0 w' s p := by
  obtain ⟨ρ, A, h1, h2⟩ := h.ex
  unfold gNode
  cases hl : p.1.K.live t with
  | true => exact (stnode_any w ρ s A p.1 p.2 h1 t id hl).mono (by rintro e w' ⟨la, ln, lc, pa, pn, pc, rfl, o⟩; exact ⟨la, ln, lc, pa, pn, pc, rfl, o, h.next o.l.fr⟩)
  | false => exact (stnode_dead w ρ s A p.1 p.2 h1 t hl id).mono (by rintro e w' ⟨rfl, f⟩; exact ⟨none, 0, 0, none, 0, 0, rfl, ⟨(OwnR.nil w _ _).next f, (OwnR.nil w _ _).next f⟩, h.next f⟩)
theorem x_edge (id : Int) : Calls Tryz.prog 25 #[.pointer (some ⟨s, 0, none⟩), .int .i64 t, .int .i64 id] w fun e w' => e = .returned (.tuple #[.agg (edgeCs ((gEdge p.1 t id).getD EdgeV.none)), .bool (gEdge p.1 t id).isSome]) ∧ OwG S w0 w' s p ∧ Fr No w w' := by
  obtain ⟨ρ, A, h1, h2⟩ := h.ex
  unfold gEdge
  cases hl : p.1.K.live t with
  | true => exact (stedge_any w ρ s A p.1 p.2 h1 t id hl).mono (by rintro e w' ⟨rfl, f⟩; exact ⟨rfl, h.next f, f⟩)
  | false => exact (stedge_dead w ρ s A p.1 p.2 h1 t hl id).mono (by rintro e w' ⟨rfl, f⟩; exact ⟨rfl, h.next f, f⟩)
theorem x_edges : Calls Tryz.prog 24 #[.pointer (some ⟨s, 0, none⟩), .int .i64 t] w fun e w' => ∃ v, e = .returned v ∧ OwnI w w' v (gEdges p.1 t) ∧ OwG S w0 w' s p := by
  obtain ⟨ρ, A, h1, h2⟩ := h.ex
  unfold gEdges
  cases hl : p.1.K.live t with
  | true => exact (edges_any w ρ s A p.1 p.2 h1 t hl).mono (by rintro e w' ⟨v, rfl, o⟩; exact ⟨v, rfl, o, h.next o.fr⟩)
  | false => exact (edges_dead w ρ s A p.1 p.2 h1 t hl).mono (by rintro e w' ⟨rfl, rfl⟩; exact ⟨_, rfl, OwnI.nil w, h⟩)
end
end Go.Proofs.YtibfpkfpmkghhaaGreatDoor

namespace Go.Proofs.YtibfpkfpmkghhaaGreatDoor
open Go.RowKit Go.Lig

theorem arenames_nil (w : World) : Calls Tryz.prog 105 #[.slice none 0 0, .int .i64 3] w fun e w' => e = .returned (.bool true) ∧ w = w' := by
  go_enter Tryz.func105, Tryz.ntmps105
  go_wp2
  go_loopw [9] (fun vi wr => vi = .int .i64 0 ∧ wr = w) (fun _ _ => 0)
  case atStart => exact ⟨rfl, rfl⟩
  case round =>
    obtain ⟨rfl, rfl⟩ := hrel
    go_wp2
    go_ret
    exact ⟨rfl, rfl⟩
set_option maxHeartbeats 1000000 in
theorem isnode_nil (w : World) : Calls Tryz.prog 44 #[.agg #[.slice none 0 0, .slice none 0 0]] w fun e w' => e = .returned (.bool true) ∧ Fr No w w' := by
  have hb := heap1 w (.cells #[.slice none 0 0, .slice none 0 0] 31)
  have hf : Fr No w (w.alloc (.cells #[.slice none 0 0, .slice none 0 0] 31)) := (Fr.refl No w).alloc _
  go_enter Tryz.func44, Tryz.ntmps44
  go_wp2_with fail
  generalize w.alloc (.cells #[.slice none 0 0, .slice none 0 0] 31) = w2 at *
  obtain ⟨c0, c1⟩ := cells2 hb
  have HF := hid hf
  clear hf hb
  go_loopw [3, 9] (fun v3 vi wr => v3 = .slice none 0 0 ∧ vi = .int .i64 0 ∧ wr = w2) (fun _ _ _ => 0)
  case atStart => exact ⟨rfl, rfl, rfl⟩
  case round =>
    obtain ⟨rfl, rfl, rfl⟩ := hrel
    go_wp2_with (go_at_call 105; refine (arenames_nil _).mono ?_; rintro e w' ⟨rfl, rfl⟩)
    go_ret
    exact ⟨rfl, HF.out⟩
end Go.Proofs.YtibfpkfpmkghhaaGreatDoor

namespace Go.Proofs.YtibfpkfpmkghhaaGreatDoor
open Go.RowKit Go.Lig

/-- what AddNode leaves -/
def addM (M : PSt) (t : Int) (d : NodeD) : PSt := findsM (putM (growN M) t M.N.length d false) M.N.length
end Go.Proofs.YtibfpkfpmkghhaaGreatDoor

namespace Go.Proofs.YtibfpkfpmkghhaaGreatDoor
open Go.RowKit Go.Lig

theorem finds_at {M : PSt} {k : Nat} {l : List IxR} {L : List (Ver NodeD)} (F n : Nat) (hl : M.Y[k]? = some l) (hL : M.N[k]? = some L) (hn : l.length + 2 * costV L = n) (hF : F + n < 999990) : FindsTo M (findsM M k) F (F + n) k := by
  have := finds_any (k := k) l hl L hL F (by omega)
  rw [show F + l.length + 2 * costV L = F + n by omega] at this
  exact this
end Go.Proofs.YtibfpkfpmkghhaaGreatDoor

namespace Go.Proofs.YtibfpkfpmkghhaaGreatDoor
open Go.RowKit Go.Lig

/-- the store's blocks are new, all else stands -/
structure Nu (w w' : World) (ρ : Nat → Option Pt) : Prop where
  fr : Fr No w w'
  lo : ∀ b, Go.Lig.Own ρ b → w.heap.size ≤ b
theorem Nu.next {w w1 w2 : World} {ρ ρ' : Nat → Option Pt} (h : Nu w w1 ρ) (g : Gone (Go.Lig.Own ρ) w1 (Go.Lig.Own ρ') w2) : Nu w w2 ρ' :=
  ⟨h.fr.trans g.fr (fun k hk E => absurd hk (Nat.not_lt.2 (h.lo k E))), fun b hb => by
    rcases g.gr b hb with h1 | h1
    · exact h.lo b h1
    · exact Nat.le_trans h.fr.size h1⟩
theorem Nu.nextNo {w w1 w2 : World} {ρ : Nat → Option Pt} (h : Nu w w1 ρ) (g : Fr No w1 w2) : Nu w w2 ρ := ⟨h.fr.thenNo g, h.lo⟩
theorem isnE : isNameB ⟨#[101]⟩ = true := by kernel_rfl
end Go.Proofs.YtibfpkfpmkghhaaGreatDoor

namespace Go.Proofs.YtibfpkfpmkghhaaGreatDoor
open Go.RowKit Go.Lig

def kA : PSt := { emptyM with K := emptyM.K.begins }
def kB : PSt := addM kA 1 NodeD.none
def kC : PSt := { kB with K := kB.K.commit 1 }
def kD : PSt := { kC with K := kC.K.begins }
def kE : PSt := { kD with K := kD.K.begins }
def kF : PSt := findsM (putM kE 2 0 NodeD.none true) 0
def kG : PSt := findsM (undoNM { kF with K := kF.K.abort 3 } 3 0) 0
def kH : PSt := undoEs 3 kG kG.E.length
theorem g_b : FindsTo (putM (growN kA) 1 kA.N.length NodeD.none false) kB 2 2 kA.N.length := finds_at (l := []) (L := ((putM (growN kA) 1 kA.N.length NodeD.none false).N[kA.N.length]?.getD [])) 2 0 (by kernel_rfl) (by kernel_rfl) (by kernel_rfl) (by decide)
theorem g_f : FindsTo (putM kE 2 0 NodeD.none true) kF 6 6 0 := finds_at (M := putM kE 2 0 NodeD.none true) (l := []) (L := ((putM kE 2 0 NodeD.none true).N[0]?.getD [])) 6 0 (by kernel_rfl) (by kernel_rfl) (by kernel_rfl) (by decide)
theorem g_g : FindsTo (undoNM { kF with K := kF.K.abort 3 } 3 0) kG 6 6 0 := finds_at (M := undoNM { kF with K := kF.K.abort 3 } 3 0) (l := []) (L := ((undoNM { kF with K := kF.K.abort 3 } 3 0).N[0]?.getD [])) 6 0 (by kernel_rfl) (by kernel_rfl) (by kernel_rfl) (by decide)
theorem undo_known : UndoTo 3 kG 6 { kF with K := kF.K.abort 3 } 6 0 := UndoTo.step (by decide) g_g (UndoTo.done (by decide))
theorem kE_r : readN kE 2 1 = some NodeD.none := by kernel_rfl
theorem kE_o : outM kE 2 1 = [] ∧ inM kE 2 1 = [] := ⟨by kernel_rfl, by kernel_rfl⟩
theorem kE_m : mayB kE 2 0 [1] = false := by kernel_rfl
theorem kF_l : kF.K.live 3 = true := by kernel_rfl
theorem kF_r : readN kF 3 1 = some NodeD.none := by kernel_rfl
theorem kF_m : mayB kF 3 0 [1, 1] = true := by kernel_rfl
theorem kH_c : kH.K.count = 1 := by kernel_rfl
end Go.Proofs.YtibfpkfpmkghhaaGreatDoor
