/- A part of the proof: contracts of functions of the program, for the row's text. -/
import Derived.Test.YtibfpkfpmkghhaaGreatDoorJ18
namespace Go.Proofs.YtibfpkfpmkghhaaGreatDoor
open Go.RowKit Go.Lig

/-- what t reads of node id, of edge id -/
def readN (M : PSt) (t id : Int) : Option NodeD := if 1 ≤ id ∧ id ≤ (M.N.length : Int) then readV M.K t (M.N[(id - 1).toNat]?.getD []) else none
def readE (M : PSt) (t id : Int) : Option EdgeV := if 1 ≤ id ∧ id ≤ (M.E.length : Int) then readV M.K t (M.E[(id - 1).toNat]?.getD []) else none
theorem readN_some (M : PSt) (t : Int) (k : Nat) (L : List (Ver NodeD)) (hL : M.N[k]? = some L) : readN M t ((k : Int) + 1) = readV M.K t L := by
  have := (List.getElem?_eq_some_iff.1 hL).1
  unfold readN
  rw [if_pos (by omega), show ((k : Int) + 1 - 1).toNat = k by omega, hL]
  rfl
theorem readE_some (M : PSt) (t : Int) (k : Nat) (L : List (Ver EdgeV)) (hL : M.E[k]? = some L) : readE M t ((k : Int) + 1) = readV M.K t L := by
  have := (List.getElem?_eq_some_iff.1 hL).1
  unfold readE
  rw [if_pos (by omega), show ((k : Int) + 1 - 1).toNat = k by omega, hL]
  rfl
section
variable {w : World} {ρ : Nat → Option Pt} {s : Nat} {A : Ad} {M : PSt} {F : Nat}
theorem StAt.rdN (h : StAt w ρ s A M F) (t id : Int) : ∃ (la : Option Addr) (ln lc : Nat) (pa : Option Addr) (pn pc : Nat), NodeIn w (At ρ .imm) (.slice la ln lc) (.slice pa pn pc) ((readN M t id).getD NodeD.none) ∧
    ∀ u, Fr No w u → Calls Tryz.prog 52 #[.pointer (ndP A M id), .pointer (some ⟨A.c, 0, none⟩), .int .i64 t] u fun e w' => e = .returned (.tuple #[.agg #[.slice la ln lc, .slice pa pn pc], .bool (readN M t id).isSome]) ∧ Fr No u w' := by
  obtain ⟨gk, hk, -⟩ := h.clock.row
  by_cases hv : 1 ≤ id ∧ id ≤ (M.N.length : Int)
  · obtain ⟨k, rfl⟩ : ∃ k : Nat, id = (k : Int) + 1 := ⟨(id - 1).toNat, by omega⟩
    have hkl : k < M.N.length := by omega
    obtain ⟨L, hL⟩ : ∃ L, M.N[k]? = some L := ⟨_, List.getElem?_eq_getElem hkl⟩
    obtain ⟨r, ho, hr⟩ := (h.ncell hL).read A.c gk M.K hk h.clock.small.1 t
    rw [ndP_some A M k hkl, readN_some M t k L hL]
    cases r with
    | none =>
      have hn : readV M.K t L = none := by have := ho.is; cases e : readV M.K t L with | none => rfl | some _ => rw [e] at this; cases this
      rw [hn]
      exact ⟨none, 0, 0, none, 0, 0, NodeIn.none _ _, fun u hu => hr u hu⟩
    | some v =>
      obtain ⟨d, hd⟩ : ∃ d, readV M.K t L = some d := by have := ho.is; cases e : readV M.K t L with | none => rw [e] at this; cases this | some d => exact ⟨d, rfl⟩
      rw [hd]
      exact ⟨_, _, _, _, _, _, ho.v v d rfl hd, fun u hu => hr u hu⟩
  · rw [show readN M t id = none from if_neg hv, show ndP A M id = none from if_neg hv]
    exact ⟨none, 0, 0, none, 0, 0, NodeIn.none _ _, fun u _ => read_nil u A.c t⟩
/-- an edge as a value -/
def edgeCs (v : EdgeV) : Array Value := #[.int .i64 v.from_, .int .i64 v.to_, .string v.type, .float .f64 v.w]
theorem optE_eq (r : Option EdgeV) : Ec.optN r = .agg (edgeCs (r.getD EdgeV.none)) := by cases r <;> rfl
theorem StAt.rdE (h : StAt w ρ s A M F) (t id : Int) : ∀ u, Fr No w u → Calls Tryz.prog 67 #[.pointer (edP A M id), .pointer (some ⟨A.c, 0, none⟩), .int .i64 t] u fun e w' => e = .returned (.tuple #[.agg (edgeCs ((readE M t id).getD EdgeV.none)), .bool (readE M t id).isSome]) ∧ Fr No u w' := by
  obtain ⟨gk, hk, -⟩ := h.clock.row
  intro u hu
  by_cases hv : 1 ≤ id ∧ id ≤ (M.E.length : Int)
  · obtain ⟨k, rfl⟩ : ∃ k : Nat, id = (k : Int) + 1 := ⟨(id - 1).toNat, by omega⟩
    have hkl : k < M.E.length := by omega
    obtain ⟨L, hL⟩ : ∃ L, M.E[k]? = some L := ⟨_, List.getElem?_eq_getElem hkl⟩
    obtain ⟨g, hr, -⟩ := (h.ecell hL).row
    rw [edP_some A M k hkl, readE_some M t k L hL, ← optE_eq]
    exact Ec.read_any u (A.z k) g A.c gk M.K L (hr.frame hu) (h.ecell hL).small (hk.frame hu) h.clock.small.1 t
  · rw [show readE M t id = none from if_neg hv, show edP A M id = none from if_neg hv]
    exact Ec.read_nil u A.c t
end
theorem reads_any (w : World) (ρ : Nat → Option Pt) (s : Nat) (A : Ad) (M : PSt) (F : Nat) (h : StAt w ρ s A M F) (t id : Int) :
    Calls Tryz.prog 45 #[.pointer (some ⟨s, 0, none⟩), .int .i64 t, .int .i64 id] w fun e w' => e = .returned (.bool (readN M t id).isSome) ∧ Fr No w w' := by
  obtain ⟨la, ln, lc, pa, pn, pc, -, hr⟩ := h.rdN t id
  exact reads_of w s A.c t id (ndP A M id) la ln lc pa pn pc _ h.cells.1 (fun u hu => node_any u ρ s A M F (h.frame hu) id) hr
end Go.Proofs.YtibfpkfpmkghhaaGreatDoor

namespace Go.Proofs.YtibfpkfpmkghhaaGreatDoor
open Go.RowKit Go.Lig

set_option maxRecDepth 100000 in
set_option maxHeartbeats 400000 in
theorem stnode_any (w : World) (ρ : Nat → Option Pt) (s : Nat) (A : Ad) (M : PSt) (F : Nat) (h : StAt w ρ s A M F) (t id : Int) (hl : M.K.live t = true) :
    Calls Tryz.prog 26 #[.pointer (some ⟨s, 0, none⟩), .int .i64 t, .int .i64 id] w fun e w' => ∃ (la : Option Addr) (ln lc : Nat) (pa : Option Addr) (pn pc : Nat), e = .returned (.tuple #[.agg #[.slice la ln lc, .slice pa pn pc], .bool (readN M t id).isSome]) ∧ OwnN w w' la ln lc pa pn pc ((readN M t id).getD NodeD.none) := by
  obtain ⟨c, hce⟩ : ∃ c, A.c = c := ⟨_, rfl⟩
  have hb := heap1 w (.cells #[.slice none 0 0, .slice none 0 0] 31)
  have hfr : Fr No w (w.alloc (.cells #[.slice none 0 0, .slice none 0 0] 31)) := (Fr.refl No w).alloc _
  generalize hw0 : w.alloc (.cells #[.slice none 0 0, .slice none 0 0] 31) = w0 at *
  have h0 := h.frame hfr
  have HI := hid (islive_any _ ρ s A M F h0 t)
  rw [hl] at HI
  obtain ⟨la, ln, lc, pa, pn, pc, hin, hr⟩ := h0.rdN t id
  have HN : Hid (∀ u, Fr No w0 u → Calls Tryz.prog 51 #[.pointer (some ⟨s, 0, none⟩), .int .i64 id] u fun e w' => e = .returned (.pointer (ndP A M id)) ∧ u = w') := hid (fun u hu => node_any u ρ s A M F (h0.frame hu) id)
  have x0 := h0.cells.1
  rw [hce] at hr x0
  have HR := hid hr
  have HD := hid (⟨hin.of, hin.few⟩ : _ ∧ _)
  have HF := hid (⟨hfr, hb⟩ : _ ∧ _)
  have HS : Hid (s < w0.heap.size) := hid h0.lt
  have HBl : Hid (w.heap.size < w0.heap.size) := hid (lt_of_block hb)
  generalize ndP A M id = nx at *
  generalize (readN M t id).isSome = rb at *
  generalize (readN M t id).getD NodeD.none = d at *
  clear h hl hb hfr h0 hin hr hce
  go_enter Tryz.func26, Tryz.ntmps26
  go_wp2_with (go_at_call 43; refine HI.out.mono ?_; rintro e w1 ⟨rfl, rfl⟩)
  refine region_cut (fun b => [(16, .pointer (some ⟨s, 0, none⟩)), (17, .int .i64 id), (18, .pointer nx), (19, .pointer (some ⟨s, 0, none⟩)), (20, .pointer (some ⟨s, 0, none⟩)), (21, .pointer (some ⟨s, 0, none⟩)), (22, .pointer (some ⟨c, 0, none⟩)), (23, .int .i64 t), (24, .tuple #[.agg #[.slice la ln lc, .slice pa pn pc], .bool rb]), (15, .tuple #[.agg #[.slice la ln lc, .slice pa pn pc], .bool rb]), (25, .agg #[.slice la ln lc, .slice pa pn pc]), (26, .bool rb), (8, .pointer (some ⟨b, 0, none⟩)), (9, .bool rb)])
    (fun b W => Fr No w0 W ∧ W.heap[b]? = some (.cells #[.slice la ln lc, .slice pa pn pc] 31 (0, 0)) ∧ w0.heap.size ≤ b) ?_ ?_
  · refine wp_region_tree (by kernel_rfl) (.quiet 0 (.quiet 1 (.quiet 3 (.quiet 4 (.quiet 5 (.quiet 6 (.quiet 7 (.two 2 (.two 8 (.quiet 9 (.quiet 10 (.quiet 11 (.one 12 (.one 13 (.quiet 14 .done)))))) 12 (.one 8 (.quiet 9 (.quiet 10 (.quiet 11 (.one 13 (.quiet 14 .done))))))) 12 (.one 2 (.one 8 (.quiet 9 (.quiet 10 (.quiet 11 (.one 13 (.quiet 14 .done))))))))))))))) (AgC [s] w0.drew) (by kernel_rfl) (AgC.refl _ _) ?_
    simp only [fill, nth_zero, nth_succ]
    repeat (refine tree_quiet (fun K hK => ?_); go_simp; refine hK _ ?_; clear hK K)
    refine tree_two ?_ ?_
    · refine tree_call (by first | rfl | go_simp) 51 #[.pointer (some ⟨s, 0, none⟩), .int .i64 id] (by first | kernel_rfl | go_simp) (HN.out _ (Fr.refl No w0).drew) ?_
      rintro e wn ⟨rfl, rfl⟩
      refine ⟨_, rfl, AgC.refl _ _, ?_⟩
      refine tree_two ?_ ?_
      · refine tree_call (by first | rfl | go_simp) 52 #[.pointer nx, .pointer (some ⟨c, 0, none⟩), .int .i64 t] (by first | kernel_rfl | go_simp) (HR.out _ (Fr.refl No w0).drew) ?_
        rintro e w8 ⟨rfl, f8⟩
        have a8 := (AgC.refl _ _).fr f8 (fun j hj => by rw [List.mem_singleton.1 hj]; exact ⟨HS.out, fun e => e⟩)
        have F8 := hid ((Fr.refl No w0).drew.thenNo f8)
        refine ⟨_, rfl, a8, ?_⟩
        clear f8
        repeat (refine tree_quiet (fun K hK => ?_); go_simp; refine hK _ ?_; clear hK K)
        refine tree_one (wpList_allocO rfl 31 rfl _ 2 48 infoN ?_)
        intro w3 p3
        have a3 := a8.fr p3.fr (fun j hj => by rw [List.mem_singleton.1 hj]; exact ⟨HS.out, fun e => e⟩)
        have F3 := hid (F8.out.thenNo p3.fr)
        have B3 := hid (show w3.heap[w8.heap.size]? = some (.cells #[.slice none 0 0, .slice none 0 0] 31 (0, 0)) from p3.at_)
        have Z3 := hid (show w0.heap.size ≤ w8.heap.size from F8.out.size)
        refine tree_on a3 ?_
        generalize w8.heap.size = b3 at *
        clear p3
        repeat (refine tree_quiet (fun K hK => ?_); go_simp; refine hK _ ?_; clear hK K)
        refine tree_one (wpList_storeO rfl 31 (.tmp 8) (.tmp 25) rfl b3 0 rfl [.slice none 0 0, .slice none 0 0] 31 [.slice la ln lc, .slice pa pn pc] rfl (by kernel_rfl) B3.out (by simp) (by simp [Value.oneCell']) ?_)
        intro w5 p5
        have P5 := hid (⟨F3.out.fresh p5.fr (fun k e => by subst e; exact Z3.out), p5.at_⟩ : _ ∧ _)
        refine tree_on (a3.fr p5.fr (fun j hj => by rw [List.mem_singleton.1 hj]; exact ⟨HS.out, fun e => by have h1 := Z3.out; have h2 := HS.out; omega⟩)) ?_
        clear p5
        repeat (refine tree_quiet (fun K hK => ?_); go_simp; refine hK _ ?_; clear hK K)
        refine tree_nil ?_
        refine CutPost.mk rfl ⟨b3, ?_, P5.out.1, P5.out.2, Z3.out⟩
        simp only [putsOf_cons, putsOf_nil]
        go_simp
      · refine tree_one (wpList_allocO rfl 31 rfl _ 2 48 infoN ?_)
        intro w3 p3
        have a3 := (AgC.refl _ _).fr p3.fr (fun j hj => by rw [List.mem_singleton.1 hj]; exact ⟨HS.out, fun e => e⟩)
        have F3 := hid ((Fr.refl No w0).drew.thenNo p3.fr)
        have B3 := hid (show w3.heap[w0.drew.heap.size]? = some (.cells #[.slice none 0 0, .slice none 0 0] 31 (0, 0)) from p3.at_)
        have Z3 := hid (show w0.heap.size ≤ w0.drew.heap.size from (Fr.refl No w0).drew.size)
        refine tree_on a3 ?_
        generalize w0.drew.heap.size = b3 at *
        clear p3
        refine tree_call (by first | rfl | go_simp) 52 #[.pointer nx, .pointer (some ⟨c, 0, none⟩), .int .i64 t] (by first | kernel_rfl | go_simp) (HR.out _ F3.out) ?_
        rintro e w8 ⟨rfl, f8⟩
        have a8 := a3.fr f8 (fun j hj => by rw [List.mem_singleton.1 hj]; exact ⟨HS.out, fun e => e⟩)
        have F8 := hid (F3.out.thenNo f8)
        have B8 := hid (f8.keep B3.out (fun e => e))
        refine ⟨_, rfl, a8, ?_⟩
        clear f8
        repeat (refine tree_quiet (fun K hK => ?_); go_simp; refine hK _ ?_; clear hK K)
        refine tree_one (wpList_storeO rfl 31 (.tmp 8) (.tmp 25) rfl b3 0 rfl [.slice none 0 0, .slice none 0 0] 31 [.slice la ln lc, .slice pa pn pc] rfl (by kernel_rfl) B8.out (by simp) (by simp [Value.oneCell']) ?_)
        intro w5 p5
        have P5 := hid (⟨F8.out.fresh p5.fr (fun k e => by subst e; exact Z3.out), p5.at_⟩ : _ ∧ _)
        refine tree_on (a8.fr p5.fr (fun j hj => by rw [List.mem_singleton.1 hj]; exact ⟨HS.out, fun e => by have h1 := Z3.out; have h2 := HS.out; omega⟩)) ?_
        clear p5
        repeat (refine tree_quiet (fun K hK => ?_); go_simp; refine hK _ ?_; clear hK K)
        refine tree_nil ?_
        refine CutPost.mk rfl ⟨b3, ?_, P5.out.1, P5.out.2, Z3.out⟩
        simp only [putsOf_cons, putsOf_nil]
        go_simp
    · refine tree_one (wpList_allocO rfl 31 rfl _ 2 48 infoN ?_)
      intro w3 p3
      have a3 := (AgC.refl _ _).fr p3.fr (fun j hj => by rw [List.mem_singleton.1 hj]; exact ⟨HS.out, fun e => e⟩)
      have F3 := hid ((Fr.refl No w0).drew.thenNo p3.fr)
      have B3 := hid (show w3.heap[w0.drew.heap.size]? = some (.cells #[.slice none 0 0, .slice none 0 0] 31 (0, 0)) from p3.at_)
      have Z3 := hid (show w0.heap.size ≤ w0.drew.heap.size from (Fr.refl No w0).drew.size)
      refine tree_on a3 ?_
      generalize w0.drew.heap.size = b3 at *
      clear p3
      refine tree_call (by first | rfl | go_simp) 51 #[.pointer (some ⟨s, 0, none⟩), .int .i64 id] (by first | kernel_rfl | go_simp) (HN.out _ F3.out) ?_
      rintro e wn ⟨rfl, rfl⟩
      refine ⟨_, rfl, a3, ?_⟩
      refine tree_call (by first | rfl | go_simp) 52 #[.pointer nx, .pointer (some ⟨c, 0, none⟩), .int .i64 t] (by first | kernel_rfl | go_simp) (HR.out _ F3.out) ?_
      rintro e w8 ⟨rfl, f8⟩
      have a8 := a3.fr f8 (fun j hj => by rw [List.mem_singleton.1 hj]; exact ⟨HS.out, fun e => e⟩)
      have F8 := hid (F3.out.thenNo f8)
      have B8 := hid (f8.keep B3.out (fun e => e))
      refine ⟨_, rfl, a8, ?_⟩
      clear f8
      repeat (refine tree_quiet (fun K hK => ?_); go_simp; refine hK _ ?_; clear hK K)
      refine tree_one (wpList_storeO rfl 31 (.tmp 8) (.tmp 25) rfl b3 0 rfl [.slice none 0 0, .slice none 0 0] 31 [.slice la ln lc, .slice pa pn pc] rfl (by kernel_rfl) B8.out (by simp) (by simp [Value.oneCell']) ?_)
      intro w5 p5
      have P5 := hid (⟨F8.out.fresh p5.fr (fun k e => by subst e; exact Z3.out), p5.at_⟩ : _ ∧ _)
      refine tree_on (a8.fr p5.fr (fun j hj => by rw [List.mem_singleton.1 hj]; exact ⟨HS.out, fun e => by have h1 := Z3.out; have h2 := HS.out; omega⟩)) ?_
      clear p5
      repeat (refine tree_quiet (fun K hK => ?_); go_simp; refine hK _ ?_; clear hK K)
      refine tree_nil ?_
      refine CutPost.mk rfl ⟨b3, ?_, P5.out.1, P5.out.2, Z3.out⟩
      simp only [putsOf_cons, putsOf_nil]
      go_simp
  rintro b w5 ⟨f5, h5, z5⟩
  obtain ⟨d0, d1⟩ := cells2 h5
  have H5 := hid (⟨f5, h5, z5⟩ : _ ∧ _ ∧ _)
  clear f5 h5 z5
  simp only [putsOf_cons, putsOf_nil]
  go_wp2_with fail
  refine (copied_any _ la pa ln lc pn pc d (HD.out.1.frame H5.out.1) HD.out.2.1 HD.out.2.2).mono ?_
  rintro e w6 ⟨la', ln', lc', pa', pn', pc', rfl, o6⟩
  have O6 := hid o6
  have HB6 := hid (o6.l.fr.keep (H5.out.1.keep HF.out.2 (fun e => e)) (fun e => e))
  clear o6 d0 d1
  go_wp2_with (refine wpList_storeO rfl 31 (.tmp 6) (.tmp 28) rfl w.heap.size 0 rfl [.slice none 0 0, .slice none 0 0] 31 [.slice la' ln' lc', .slice pa' pn' pc'] rfl (by kernel_rfl) HB6.out (by simp) (by simp [Value.oneCell']) ?_; intro w7 p7; have P7 := hid (show Put w.heap.size #[.slice la' ln' lc', .slice pa' pn' pc'] 31 w6 w7 from p7); clear p7)
  obtain ⟨r0, r1⟩ := cells2 P7.out.at_
  have hq : ∀ k, k = w.heap.size → w.heap.size ≤ k := fun k e => by omega
  have f6 : Fr No w w6 := (HF.out.1.thenNo H5.out.1).thenNo O6.out.l.fr
  have hne : ∀ {sz : Nat} {e : TypeId} {v : Value} {n : Nat} {xs : List Value}, OwnR w5 w6 e sz v n xs → ∀ k, v.ownBlock = some k → ¬ k = w.heap.size := fun o k hk e => by have := o.blk k hk; have := H5.out.1.size; have := HBl.out; omega
  have hle : w.heap.size ≤ w5.heap.size := by have := H5.out.1.size; have := HBl.out; omega
  refine bodyPost_ret (v := .tuple #[.agg #[.slice la' ln' lc', .slice pa' pn' pc'], .bool rb]) ?_ rfl ⟨la', ln', lc', pa', pn', pc', rfl, ?_, ?_⟩
  · simp [results, Tryz.f26, go_sem, r0, r1]
  · exact ⟨P7.out.fr.owns O6.out.l.row (hne O6.out.l), fun j hj => Nat.le_trans hle (O6.out.l.blk j hj), f6.fresh' P7.out.fr hq⟩
  · exact ⟨P7.out.fr.owns O6.out.p.row (hne O6.out.p), fun j hj => Nat.le_trans hle (O6.out.p.blk j hj), f6.fresh' P7.out.fr hq⟩
set_option maxRecDepth 100000 in
set_option maxHeartbeats 400000 in
theorem stedge_any (w : World) (ρ : Nat → Option Pt) (s : Nat) (A : Ad) (M : PSt) (F : Nat) (h : StAt w ρ s A M F) (t id : Int) (hl : M.K.live t = true) :
    Calls Tryz.prog 25 #[.pointer (some ⟨s, 0, none⟩), .int .i64 t, .int .i64 id] w fun e w' => e = .returned (.tuple #[.agg (edgeCs ((readE M t id).getD EdgeV.none)), .bool (readE M t id).isSome]) ∧ Fr No w w' := by
  obtain ⟨c, hce⟩ : ∃ c, A.c = c := ⟨_, rfl⟩
  have hb := heap1 w (.cells #[.int .i64 0, .int .i64 0, .string ⟨#[]⟩, .float .f64 0] 42)
  have hfr : Fr No w (w.alloc (.cells #[.int .i64 0, .int .i64 0, .string ⟨#[]⟩, .float .f64 0] 42)) := (Fr.refl No w).alloc _
  generalize hw0 : w.alloc (.cells #[.int .i64 0, .int .i64 0, .string ⟨#[]⟩, .float .f64 0] 42) = w0 at *
  have h0 := h.frame hfr
  have HI := hid (islive_any _ ρ s A M F h0 t)
  rw [hl] at HI
  have hr := h0.rdE t id
  have HN : Hid (∀ u, Fr No w0 u → Calls Tryz.prog 66 #[.pointer (some ⟨s, 0, none⟩), .int .i64 id] u fun e w' => e = .returned (.pointer (edP A M id)) ∧ u = w') := hid (fun u hu => edge_any u ρ s A M F (h0.frame hu) id)
  have x0 := h0.cells.1
  rw [hce] at hr x0
  have HR := hid hr
  have HF := hid (⟨hfr, hb⟩ : _ ∧ _)
  have HS : Hid (s < w0.heap.size ∧ s ≠ w.heap.size) := hid ⟨h0.lt, fun e => by have := h.lt; omega⟩
  generalize edP A M id = nx at *
  generalize (readE M t id).isSome = rb at *
  generalize (readE M t id).getD EdgeV.none = d at *
  obtain ⟨df, dt, dy, dw⟩ := d
  dsimp only [edgeCs] at HR ⊢
  clear h hl hb hfr h0 hr hce
  go_enter Tryz.func25, Tryz.ntmps25
  go_wp2_with (go_at_call 43; refine HI.out.mono ?_; rintro e w1 ⟨rfl, rfl⟩)
  refine wp_region_sched (by kernel_rfl) 13 [2, 8, 11] [0, 1, 3, 4, 5, 6, 7, 2, 8, 9, 10, 11, 12] (AgC [s] w0.drew) (by kernel_rfl) (AgC.refl _ _) ?_
  simp only [List.map_cons, List.map_nil, List.contains_cons, List.contains_nil, nth_zero, nth_succ, Nat.reduceBEq, Bool.or_false, Bool.or_true]
  repeat (refine sched_quiet (fun K hK => ?_); go_simp; refine hK _ ?_; clear hK K)
  refine sched_call (by first | rfl | go_simp) 66 #[.pointer (some ⟨s, 0, none⟩), .int .i64 id] (by first | kernel_rfl | go_simp) (HN.out _ (Fr.refl No w0).drew) ?_
  rintro e w2 ⟨rfl, rfl⟩
  refine ⟨_, rfl, AgC.refl _ _, ?_⟩
  repeat (refine sched_quiet (fun K hK => ?_); go_simp; refine hK _ ?_; clear hK K)
  refine sched_call (by first | rfl | go_simp) 67 #[.pointer nx, .pointer (some ⟨c, 0, none⟩), .int .i64 t] (by first | kernel_rfl | go_simp) (HR.out _ (Fr.refl No w0).drew) ?_
  rintro e w3 ⟨rfl, f3⟩
  have a3 := (AgC.refl [s] w0.drew).fr f3 (fun j hj => by rw [List.mem_singleton.1 hj]; exact ⟨HS.out.1, fun e => e⟩)
  have F3 := hid ((Fr.refl No w0).drew.thenNo f3)
  refine ⟨_, rfl, a3, ?_⟩
  clear f3
  repeat (refine sched_quiet (fun K hK => ?_); go_simp; refine hK _ ?_; clear hK K)
  have hb3 := F3.out.keep HF.out.2 (fun e => e)
  refine sched_loud (wpList_storeO rfl 42 (.tmp 6) (.tmp 22) rfl w.heap.size 0 rfl [.int .i64 0, .int .i64 0, .string ⟨#[]⟩, .float .f64 0] 42 [.int .i64 df, .int .i64 dt, .string dy, .float .f64 dw] rfl (by kernel_rfl) hb3 (by simp) (by simp [Value.oneCell']) ?_)
  intro w4 p4
  have P4 := hid (show Put w.heap.size #[.int .i64 df, .int .i64 dt, .string dy, .float .f64 dw] 42 w3 w4 from p4)
  refine sched_on (a3.fr p4.fr (fun j hj => by rw [List.mem_singleton.1 hj]; exact ⟨HS.out.1, HS.out.2⟩)) ?_
  clear p4 a3 hb3
  repeat (refine sched_quiet (fun K hK => ?_); go_simp; refine hK _ ?_; clear hK K)
  refine sched_nil ?_
  obtain ⟨r0, r1, r2, r3⟩ := cells4 P4.out.at_
  go_wp2_with fail
  refine bodyPost_ret (v := .tuple #[.agg #[.int .i64 df, .int .i64 dt, .string dy, .float .f64 dw], .bool rb]) ?_ rfl ⟨rfl, (HF.out.1.thenNo F3.out).fresh' P4.out.fr (fun k e => by subst e; exact Nat.le_refl _)⟩
  simp [results, Tryz.f25, go_sem, r0, r1, r2, r3]
end Go.Proofs.YtibfpkfpmkghhaaGreatDoor

namespace Go.Proofs.YtibfpkfpmkghhaaGreatDoor
open Go.RowKit Go.Lig

/-- what touches leaves -/
inductive TouchTo (t : Int) (M' : PSt) (F' : Nat) : PSt → Nat → List Int → Prop
  | nil : TouchTo t M' F' M' F' []
  | skip {M : PSt} {F : Nat} {id : Int} {l : List Int} (h : readN M t id = none) (r : TouchTo t M' F' M F l) : TouchTo t M' F' M F (id :: l)
  | put {M M1 : PSt} {F F1 : Nat} {k : Nat} {d : NodeD} {l : List Int} (hk : k < M.N.length) (h : readN M t ((k : Int) + 1) = some d) (hF : F < 1000000) (hf : FindsTo (putM M t k d false) M1 (F + 1) F1 k) (r : TouchTo t M' F' M1 F1 l) : TouchTo t M' F' M F (((k : Int) + 1) :: l)
set_option maxRecDepth 100000 in
set_option maxHeartbeats 1000000 in
theorem touches_any (w : World) (ρ : Nat → Option Pt) (s : Nat) (A : Ad) (M : PSt) (F : Nat) (h : StAt w ρ s A M F) (t : Int) (v : Value) (l : List Int) (hr : Rd w v l.length 1 (l.map iv)) (hlen : l.length ≤ 1000) (hb : ∀ k, slBlock v = some k → ¬ Go.Lig.Own ρ k) (M' : PSt) (F' : Nat) (ht : TouchTo t M' F' M F l) :
    Calls Tryz.prog 64 #[.pointer (some ⟨s, 0, none⟩), .int .i64 t, v] w fun e w' => e = .returned (.tuple #[]) ∧ TurnsA w ρ s A M' F' w' := by
  obtain ⟨ao, ca, rfl, -⟩ := rd_len hr
  have HH := hid (⟨h, ht, hr, hb⟩ : _ ∧ _ ∧ _ ∧ _)
  generalize hne : l.length = n at *
  have HNe := hid hne
  clear h ht hr hb hne
  go_enter Tryz.func64, Tryz.ntmps64
  go_wp2_with fail
  go_loopw [12] (fun vi wr => ∃ (i : Nat), i ≤ n ∧ vi = .int .i64 (i : Int) ∧ Hid (∃ M1 F1, TurnsA w ρ s A M1 F1 wr ∧ TouchTo t M' F' M1 F1 (l.drop i))) (fun vi _ => n - (intOf vi).toNat)
  case atStart => exact ⟨0, Nat.zero_le _, rfl, M, F, ⟨ρ, HH.out.1, Gone.refl _ _⟩, by simpa using HH.out.2.1⟩
  case round =>
    obtain ⟨i, hi, rfl, HR0⟩ := hrel
    by_cases hlt : i < n
    · obtain ⟨M1, F1, ⟨ρ1, h1, g1⟩, ht1⟩ := HR0.out
      obtain ⟨id, hid0⟩ : ∃ id, l[i]? = some id := ⟨_, List.getElem?_eq_getElem (by have := HNe.out; omega)⟩
      have hdr : l.drop i = id :: l.drop (i + 1) := by
        have := (List.getElem?_eq_some_iff.1 hid0).1
        rw [List.drop_eq_getElem_cons this]
        congr 1
        exact (List.getElem?_eq_some_iff.1 hid0).2
      rw [hdr] at ht1
      have hrw : Rd wr (.slice ao n ca) n 1 (l.map iv) := HH.out.2.2.1.frame g1.fr (fun k hk => HH.out.2.2.2 k hk)
      obtain ⟨ba, oa, ca', hva, hca⟩ := hrw.at1 (k := i) (u := iv id) (by simp [hid0])
      obtain ⟨rfl, rfl⟩ : ao = some ⟨ba, oa, none⟩ ∧ ca = ca' := by simpa using hva
      have c1 : wr.cell? ⟨ba, oa + i, none⟩ = some (.int .i64 id) := hca wr (Fr.refl _ _)
      obtain ⟨c, hce⟩ : ∃ c, A.c = c := ⟨_, rfl⟩
      obtain ⟨la, ln, lc, pa, pn, pc, hin, hr⟩ := h1.rdN t id
      have HN : Hid (∀ u, Fr No wr u → Calls Tryz.prog 51 #[.pointer (some ⟨s, 0, none⟩), .int .i64 id] u fun e w' => e = .returned (.pointer (ndP A M1 id)) ∧ u = w') := hid (fun u hu => node_any u ρ1 s A M1 F1 (h1.frame hu) id)
      have x0 := h1.cells.1
      rw [hce] at hr x0
      have HR := hid hr
      have HS : Hid (s < wr.heap.size) := hid h1.lt
      have H1 := hid (⟨h1, g1, ht1, hin, hid0⟩ : _ ∧ _ ∧ _ ∧ _ ∧ _)
      have hw : wrap64 ((i : Int) + 1) = (i : Int) + 1 := by have := HNe.out; unfold wrap64; omega
      generalize ndP A M1 id = nx at *
      generalize hrb : (readN M1 t id).isSome = rb at *
      have HRB := hid hrb
      clear h1 g1 ht1 hin hr hce hdr hva hca hrw hid0 hrb
      go_wp2_with fail
      refine region_cut (fun b => [(17, .pointer (some ⟨s, 0, none⟩)), (18, .int .i64 id), (19, .pointer nx), (20, .pointer (some ⟨s, 0, none⟩)), (21, .pointer (some ⟨s, 0, none⟩)), (22, .pointer (some ⟨s, 0, none⟩)), (23, .pointer (some ⟨c, 0, none⟩)), (24, .int .i64 t), (25, .tuple #[.agg #[.slice la ln lc, .slice pa pn pc], .bool rb]), (16, .tuple #[.agg #[.slice la ln lc, .slice pa pn pc], .bool rb]), (26, .agg #[.slice la ln lc, .slice pa pn pc]), (27, .bool rb), (8, .pointer (some ⟨b, 0, none⟩)), (9, .bool rb)])
        (fun b W => Fr No wr W ∧ W.heap[b]? = some (.cells #[.slice la ln lc, .slice pa pn pc] 31 (0, 0)) ∧ wr.heap.size ≤ b) ?_ ?_
      · refine wp_region_tree (by kernel_rfl) (.quiet 0 (.quiet 1 (.quiet 3 (.quiet 4 (.quiet 5 (.quiet 6 (.quiet 7 (.two 2 (.two 8 (.quiet 9 (.quiet 10 (.quiet 11 (.one 12 (.one 13 (.quiet 14 .done)))))) 12 (.one 8 (.quiet 9 (.quiet 10 (.quiet 11 (.one 13 (.quiet 14 .done))))))) 12 (.one 2 (.one 8 (.quiet 9 (.quiet 10 (.quiet 11 (.one 13 (.quiet 14 .done))))))))))))))) (AgC [s] wr.drew) (by kernel_rfl) (AgC.refl _ _) ?_
        simp only [fill, nth_zero, nth_succ]
        repeat (refine tree_quiet (fun K hK => ?_); go_simp; refine hK _ ?_; clear hK K)
        refine tree_two ?_ ?_
        · refine tree_call (by first | rfl | go_simp) 51 #[.pointer (some ⟨s, 0, none⟩), .int .i64 id] (by first | kernel_rfl | go_simp) (HN.out _ (Fr.refl No wr).drew) ?_
          rintro e wn ⟨rfl, rfl⟩
          refine ⟨_, rfl, AgC.refl _ _, ?_⟩
          refine tree_two ?_ ?_
          · refine tree_call (by first | rfl | go_simp) 52 #[.pointer nx, .pointer (some ⟨c, 0, none⟩), .int .i64 t] (by first | kernel_rfl | go_simp) (HR.out _ (Fr.refl No wr).drew) ?_
            rintro e w8 ⟨rfl, f8⟩
            have a8 := (AgC.refl _ _).fr f8 (fun j hj => by rw [List.mem_singleton.1 hj]; exact ⟨HS.out, fun e => e⟩)
            have F8 := hid ((Fr.refl No wr).drew.thenNo f8)
            refine ⟨_, rfl, a8, ?_⟩
            clear f8
            repeat (refine tree_quiet (fun K hK => ?_); go_simp; refine hK _ ?_; clear hK K)
            refine tree_one (wpList_allocO rfl 31 rfl _ 2 48 infoN ?_)
            intro w3 p3
            have a3 := a8.fr p3.fr (fun j hj => by rw [List.mem_singleton.1 hj]; exact ⟨HS.out, fun e => e⟩)
            have F3 := hid (F8.out.thenNo p3.fr)
            have B3 := hid (show w3.heap[w8.heap.size]? = some (.cells #[.slice none 0 0, .slice none 0 0] 31 (0, 0)) from p3.at_)
            have Z3 := hid (show wr.heap.size ≤ w8.heap.size from F8.out.size)
            refine tree_on a3 ?_
            generalize w8.heap.size = b3 at *
            clear p3
            repeat (refine tree_quiet (fun K hK => ?_); go_simp; refine hK _ ?_; clear hK K)
            refine tree_one (wpList_storeO rfl 31 (.tmp 8) (.tmp 26) rfl b3 0 rfl [.slice none 0 0, .slice none 0 0] 31 [.slice la ln lc, .slice pa pn pc] rfl (by kernel_rfl) B3.out (by simp) (by simp [Value.oneCell']) ?_)
            intro w5 p5
            have P5 := hid (⟨F3.out.fresh p5.fr (fun k e => by subst e; exact Z3.out), p5.at_⟩ : _ ∧ _)
            refine tree_on (a3.fr p5.fr (fun j hj => by rw [List.mem_singleton.1 hj]; exact ⟨HS.out, fun e => by have h1 := Z3.out; have h2 := HS.out; omega⟩)) ?_
            clear p5
            repeat (refine tree_quiet (fun K hK => ?_); go_simp; refine hK _ ?_; clear hK K)
            refine tree_nil ?_
            refine CutPost.mk rfl ⟨b3, ?_, P5.out.1, P5.out.2, Z3.out⟩
            simp only [putsOf_cons, putsOf_nil]
            go_simp
          · refine tree_one (wpList_allocO rfl 31 rfl _ 2 48 infoN ?_)
            intro w3 p3
            have a3 := (AgC.refl _ _).fr p3.fr (fun j hj => by rw [List.mem_singleton.1 hj]; exact ⟨HS.out, fun e => e⟩)
            have F3 := hid ((Fr.refl No wr).drew.thenNo p3.fr)
            have B3 := hid (show w3.heap[wr.drew.heap.size]? = some (.cells #[.slice none 0 0, .slice none 0 0] 31 (0, 0)) from p3.at_)
            have Z3 := hid (show wr.heap.size ≤ wr.drew.heap.size from (Fr.refl No wr).drew.size)
            refine tree_on a3 ?_
            generalize wr.drew.heap.size = b3 at *
            clear p3
            refine tree_call (by first | rfl | go_simp) 52 #[.pointer nx, .pointer (some ⟨c, 0, none⟩), .int .i64 t] (by first | kernel_rfl | go_simp) (HR.out _ F3.out) ?_
            rintro e w8 ⟨rfl, f8⟩
            have a8 := a3.fr f8 (fun j hj => by rw [List.mem_singleton.1 hj]; exact ⟨HS.out, fun e => e⟩)
            have F8 := hid (F3.out.thenNo f8)
            have B8 := hid (f8.keep B3.out (fun e => e))
            refine ⟨_, rfl, a8, ?_⟩
            clear f8
            repeat (refine tree_quiet (fun K hK => ?_); go_simp; refine hK _ ?_; clear hK K)
            refine tree_one (wpList_storeO rfl 31 (.tmp 8) (.tmp 26) rfl b3 0 rfl [.slice none 0 0, .slice none 0 0] 31 [.slice la ln lc, .slice pa pn pc] rfl (by kernel_rfl) B8.out (by simp) (by simp [Value.oneCell']) ?_)
            intro w5 p5
            have P5 := hid (⟨F8.out.fresh p5.fr (fun k e => by subst e; exact Z3.out), p5.at_⟩ : _ ∧ _)
            refine tree_on (a8.fr p5.fr (fun j hj => by rw [List.mem_singleton.1 hj]; exact ⟨HS.out, fun e => by have h1 := Z3.out; have h2 := HS.out; omega⟩)) ?_
            clear p5
            repeat (refine tree_quiet (fun K hK => ?_); go_simp; refine hK _ ?_; clear hK K)
            refine tree_nil ?_
            refine CutPost.mk rfl ⟨b3, ?_, P5.out.1, P5.out.2, Z3.out⟩
            simp only [putsOf_cons, putsOf_nil]
            go_simp
        · refine tree_one (wpList_allocO rfl 31 rfl _ 2 48 infoN ?_)
          intro w3 p3
          have a3 := (AgC.refl _ _).fr p3.fr (fun j hj => by rw [List.mem_singleton.1 hj]; exact ⟨HS.out, fun e => e⟩)
          have F3 := hid ((Fr.refl No wr).drew.thenNo p3.fr)
          have B3 := hid (show w3.heap[wr.drew.heap.size]? = some (.cells #[.slice none 0 0, .slice none 0 0] 31 (0, 0)) from p3.at_)
          have Z3 := hid (show wr.heap.size ≤ wr.drew.heap.size from (Fr.refl No wr).drew.size)
          refine tree_on a3 ?_
          generalize wr.drew.heap.size = b3 at *
          clear p3
          refine tree_call (by first | rfl | go_simp) 51 #[.pointer (some ⟨s, 0, none⟩), .int .i64 id] (by first | kernel_rfl | go_simp) (HN.out _ F3.out) ?_
          rintro e wn ⟨rfl, rfl⟩
          refine ⟨_, rfl, a3, ?_⟩
          refine tree_call (by first | rfl | go_simp) 52 #[.pointer nx, .pointer (some ⟨c, 0, none⟩), .int .i64 t] (by first | kernel_rfl | go_simp) (HR.out _ F3.out) ?_
          rintro e w8 ⟨rfl, f8⟩
          have a8 := a3.fr f8 (fun j hj => by rw [List.mem_singleton.1 hj]; exact ⟨HS.out, fun e => e⟩)
          have F8 := hid (F3.out.thenNo f8)
          have B8 := hid (f8.keep B3.out (fun e => e))
          refine ⟨_, rfl, a8, ?_⟩
          clear f8
          repeat (refine tree_quiet (fun K hK => ?_); go_simp; refine hK _ ?_; clear hK K)
          refine tree_one (wpList_storeO rfl 31 (.tmp 8) (.tmp 26) rfl b3 0 rfl [.slice none 0 0, .slice none 0 0] 31 [.slice la ln lc, .slice pa pn pc] rfl (by kernel_rfl) B8.out (by simp) (by simp [Value.oneCell']) ?_)
          intro w5 p5
          have P5 := hid (⟨F8.out.fresh p5.fr (fun k e => by subst e; exact Z3.out), p5.at_⟩ : _ ∧ _)
          refine tree_on (a8.fr p5.fr (fun j hj => by rw [List.mem_singleton.1 hj]; exact ⟨HS.out, fun e => by have h1 := Z3.out; have h2 := HS.out; omega⟩)) ?_
          clear p5
          repeat (refine tree_quiet (fun K hK => ?_); go_simp; refine hK _ ?_; clear hK K)
          refine tree_nil ?_
          refine CutPost.mk rfl ⟨b3, ?_, P5.out.1, P5.out.2, Z3.out⟩
          simp only [putsOf_cons, putsOf_nil]
          go_simp
      rintro b w5 ⟨f5, h5, z5⟩
      obtain ⟨d0, d1⟩ := cells2 h5
      have H5 := hid f5
      clear f5 h5 z5 c1 x0
      simp only [putsOf_cons, putsOf_nil]
      cases rb with
      | false =>
        go_wp2_with fail
        go_roundw
        case rel =>
          refine ⟨i + 1, by omega, by go_num, ?_⟩
          obtain ⟨h1, g1, ht1, hin, hid0⟩ := H1.out
          have hn : readN M1 t id = none := by have := HRB.out; cases e : readN M1 t id with | none => rfl | some _ => rw [e] at this; cases this
          refine ⟨M1, F1, ⟨ρ1, h1.frame H5.out, g1.nextNo H5.out⟩, ?_⟩
          cases ht1 with
          | skip h r => exact r
          | put hk h _ _ _ => rw [hn] at h; cases h
        case measure => simp [intOf]; omega
      | true =>
        obtain ⟨h1, g1, ht1, hin, hid0⟩ := H1.out
        obtain ⟨d, hd⟩ : ∃ d, readN M1 t id = some d := by have := HRB.out; cases e : readN M1 t id with | none => rw [e] at this; cases this | some d => exact ⟨d, rfl⟩
        rw [hd] at hin
        obtain ⟨k, M2, F2, rfl, hk, hF, hf, ht2⟩ : ∃ (k : Nat) (M2 : PSt) (F2 : Nat), id = (k : Int) + 1 ∧ k < M1.N.length ∧ F1 < 1000000 ∧ FindsTo (putM M1 t k d false) M2 (F1 + 1) F2 k ∧ TouchTo t M' F' M2 F2 (l.drop (i + 1)) := by
          cases ht1 with
          | skip h r => rw [hd] at h; cases h
          | put hk h hF hf r =>
            rw [hd] at h
            obtain rfl := Option.some.inj h
            exact ⟨_, _, _, rfl, hk, hF, hf, r⟩
        have HP := hid (puts_any w5 ρ1 s A M1 F1 (h1.frame H5.out) t k hk la pa ln lc pn pc d (hin.of.frame H5.out) hin.few.1 hin.few.2 false hF M2 F2 hf)
        have HG := hid (⟨g1.nextNo H5.out, ht2⟩ : _ ∧ _)
        clear h1 g1 ht1 hin hid0 hd hk hF hf ht2 H1 HN HR
        go_wp2_with (go_at_call 47; refine HP.out.mono ?_; rintro e w6 ⟨rfl, h6⟩; have H6 := hid h6; clear h6)
        go_roundw
        case rel =>
          refine ⟨i + 1, by omega, by go_num, ?_⟩
          obtain ⟨ρ6, h6, g6⟩ := H6.out
          exact ⟨M2, F2, ⟨ρ6, h6, HG.out.1.trans g6⟩, HG.out.2⟩
        case measure => simp [intOf]; omega
    · obtain rfl : i = n := by omega
      go_wp2_with fail
      go_end0
      obtain ⟨M1, F1, t1, ht1⟩ := HR0.out
      rw [List.drop_eq_nil_of_le (by have := HNe.out; omega)] at ht1
      cases ht1
      exact ⟨rfl, t1⟩
end Go.Proofs.YtibfpkfpmkghhaaGreatDoor

namespace Go.Lig
theorem flat_seg {α β : Type} {f : α → List β} {m : Nat} (hf : ∀ x, (f x).length = m) (y : α) : ∀ (l : List α) (k : Nat), k < l.length → (l.flatMap f).take (k * m) ++ f y ++ (l.flatMap f).drop (k * m + m) = (l.set k y).flatMap f := by
  intro l
  induction l with
  | nil => intro k hk; simp at hk
  | cons x l ih =>
    intro k hk
    cases k with
    | zero =>
      simp only [Nat.zero_mul, List.take_zero, List.nil_append, Nat.zero_add, List.set_cons_zero, List.flatMap_cons]
      rw [List.drop_append_of_le_length (by rw [hf]; exact Nat.le_refl _), List.drop_eq_nil_of_le (by rw [hf]; exact Nat.le_refl _), List.nil_append]
    | succ k =>
      have e : (k + 1) * m = (f x).length + k * m := by rw [hf, Nat.succ_mul]; omega
      rw [List.flatMap_cons, List.set_cons_succ, List.flatMap_cons, ← ih k (by simpa using hk), e, List.take_length_add_append, Nat.add_assoc, List.drop_length_add_append, List.append_assoc, List.append_assoc, List.append_assoc]
end Go.Lig
namespace Go.Proofs.YtibfpkfpmkghhaaGreatDoor
open Go.RowKit Go.Lig

theorem eclashL (K : Ck) (t : Int) (L : List (Ver EdgeV)) : Ec.clashL K t L = clashV K t L := by
  unfold Ec.clashL clashV
  cases L.getLast? <;> rfl
theorem ewriteL (K : Ck) (t : Int) (v : EdgeV) (g : Bool) (L : List (Ver EdgeV)) : Ec.writeL K t v g L = writeV K t v g L := by
  unfold Ec.writeL writeV
  rw [eclashL]
  cases L.getLast? <;> rfl
theorem eundoL (t : Int) (L : List (Ver EdgeV)) : Ec.undoL t L = undoV t L := rfl
def endsM (M : PSt) (k : Nat) (v : EdgeV) (g : Bool) : PSt := if g then M else { M with D := M.D.set k (v.from_, v.to_) }
def writeE (M : PSt) (t : Int) (k : Nat) (v : EdgeV) (g : Bool) : PSt := { M with E := M.E.set k (writeV M.K t v g (M.E[k]?.getD [])) }
def tieM (M : PSt) (t : Int) (k : Nat) (v : EdgeV) (g : Bool) : PSt := linkM (writeE (endsM M k v g) t k v g) k
theorem built_ends (f t : Int) : Tryz.prog.built 181 [(0, .int .i64 f), (1, .int .i64 t)] = some #[.int .i64 f, .int .i64 t] := by kernel_rfl
section
variable {w w' : World} {ρ : Nat → Option Pt} {s : Nat} {A : Ad} {M : PSt} {F : Nat}
theorem StAt.ends_ (h : StAt w ρ s A M F) {gf cf k : Nat} {cur : Array Value} {f t : Int} (hfv : A.fv = .slice (some ⟨gf, 0, none⟩) M.D.length cf) (hg : w.heap[gf]? = some (.cells cur 181 (0, 0))) (hk : k < M.D.length) (hf : keyOk f ∧ keyOk t)
    (p : Put gf (cur.toList.take (k * 2) ++ [Value.int .i64 f, .int .i64 t] ++ cur.toList.drop (k * 2 + [Value.int .i64 f, .int .i64 t].length)).toArray 181 w w') : TurnsA w ρ s A { M with D := M.D.set k (f, t) } F w' := by
  obtain ⟨ho, hb, hl, hkk⟩ := h.at_ .enrow
  rw [hfv] at ho
  have hgT : At ρ .enrow gf := hb gf (by rw [hfv]; rfl)
  have hfr : Fr (At ρ .enrow) w w' := p.fr.mono (fun b _ e => by subst e; exact hgT)
  have o2 := owns_putSeg ho hg (o := k * 2) (cs := [Value.int .i64 f, .int .i64 t]) (by simp; omega) (by simp [Value.oneCell']) p
  have e2 : (ecells M.D).take (k * 2) ++ [Value.int .i64 f, .int .i64 t] ++ (ecells M.D).drop (k * 2 + [Value.int .i64 f, .int .i64 t].length) = ecells (M.D.set k (f, t)) := flat_seg (f := fun p : Int × Int => [Value.int .i64 p.1, .int .i64 p.2]) (m := 2) (fun _ => rfl) (f, t) M.D k hk
  rw [e2, ← hfv] at o2
  have tr : Trn w w' ρ .enrow (At ρ .enrow) := ⟨hfr, Grown.refl _ _, fun b hb => Nat.lt_of_lt_of_le (h.rho hb) hfr.size⟩
  refine ⟨_, h.upd tr (by simp) ⟨by simpa using o2, hb, by simpa using hl, fun q hq => ?_⟩ (fun q hq R hr => ?_), gone_turn tr⟩
  · rcases List.mem_or_eq_of_mem_set hq with e | rfl
    · exact hkk q e
    · exact hf
  · cases q <;> first | exact hr | exact absurd rfl hq
end
set_option maxRecDepth 100000 in
set_option maxHeartbeats 1000000 in
theorem ties_any (w : World) (ρ : Nat → Option Pt) (s : Nat) (A : Ad) (M : PSt) (F : Nat) (h : StAt w ρ s A M F) (t : Int) (k : Nat) (hk : k < M.E.length) (v : EdgeV) (gone : Bool) (hv : gone = false → keyOk v.from_ ∧ keyOk v.to_) (hF : F + 1 < 1000000) :
    Calls Tryz.prog 65 #[.pointer (some ⟨s, 0, none⟩), .int .i64 t, .int .i64 ((k : Int) + 1), .agg (edgeCs v), .bool gone] w fun e w' => e = .returned (.tuple #[]) ∧ TurnsA w ρ s A (tieM M t k v gone) (F + 3) w' := by
  obtain ⟨ef, et, ey, ew⟩ := v
  dsimp only [edgeCs]
  have hb := heap1 w (.cells #[.int .i64 ef, .int .i64 et, .string ey, .float .f64 ew] 42)
  have hf : Fr No w (w.alloc (.cells #[.int .i64 ef, .int .i64 et, .string ey, .float .f64 ew] 42)) := (Fr.refl No w).alloc _
  have HV := hid hv
  have HU := hid (show ¬ Go.Lig.Own ρ w.heap.size from fun e => by have := h.bound _ e; omega)
  cases gone with
  | true =>
    go_enter Tryz.func65, Tryz.ntmps65
    go_wp2_with fail
    generalize w.alloc (.cells #[.int .i64 ef, .int .i64 et, .string ey, .float .f64 ew] 42) = w1 at *
    have h1 := h.frame hf
    have HH := hid (⟨h1, hk, hF⟩ : _ ∧ _ ∧ _)
    have HM : Hid (StAt w1 ρ s A M F ∧ k < M.E.length ∧ Gone (Go.Lig.Own ρ) w (Go.Lig.Own ρ) w1 ∧ w1.heap[w.heap.size]? = some (.cells #[.int .i64 ef, .int .i64 et, .string ey, .float .f64 ew] 42 (0, 0))) := hid ⟨h1, hk, Gone.no hf, hb⟩
    obtain ⟨ρ1, hρ1⟩ : ∃ ρ1, ρ1 = ρ := ⟨_, rfl⟩
    obtain ⟨M1, hM1⟩ : ∃ M1, M1 = M := ⟨_, rfl⟩
    have HM : Hid (StAt w1 ρ1 s A M1 F ∧ k < M1.E.length ∧ Gone (Go.Lig.Own ρ) w (Go.Lig.Own ρ1) w1 ∧ w1.heap[w.heap.size]? = some (.cells #[.int .i64 ef, .int .i64 et, .string ey, .float .f64 ew] 42 (0, 0))) := by rw [hρ1, hM1]; exact HM
    have HT : Hid (tieM M t k ⟨ef, et, ey, ew⟩ true = linkM (writeE M1 t k ⟨ef, et, ey, ew⟩ true) k) := hid (by rw [hM1]; rfl)
    clear h h1 hk hF hf hb hv hρ1 hM1
    obtain ⟨x0, -⟩ := HM.out.1.cells
    obtain ⟨gk, hck, -⟩ := HM.out.1.clock.row
    obtain ⟨L, hL⟩ : ∃ L, M1.E[k]? = some L := ⟨_, List.getElem?_eq_getElem HM.out.2.1⟩
    have hc := HM.out.1.ecell hL
    have hLF := (HM.out.1.at_ (.edge k) L hL).2
    have HC := hid (⟨hck, hL, hc, hLF⟩ : _ ∧ _ ∧ _ ∧ _)
    obtain ⟨b0, b1, b2, b3⟩ := cells4 HM.out.2.2.2
    have HS1 := hid (⟨HM.out.1.lt, lt_of_block HM.out.2.2.2⟩ : _ ∧ _)
    clear hck hL hc hLF
    refine wp_region_sched (by kernel_rfl) 10 [2, 10] [0, 1, 3, 4, 5, 6, 7, 8, 9, 2, 10] (AgC [s, w.heap.size] w1.drew) (by kernel_rfl) (AgC.refl _ _) ?_
    simp only [List.map_cons, List.map_nil, List.contains_cons, List.contains_nil, nth_zero, nth_succ, Nat.reduceBEq, Bool.or_false, Bool.or_true]
    repeat (refine sched_quiet (fun K hK => ?_); go_simp; refine hK _ ?_; clear hK K)
    refine sched_call (by first | rfl | go_simp) 66 #[.pointer (some ⟨s, 0, none⟩), .int .i64 ((k : Int) + 1)] (by first | kernel_rfl | go_simp) (edge_any _ ρ1 s A M1 F (HM.out.1.frame (Fr.refl No _).drew) _) ?_
    rintro e w2 ⟨rfl, rfl⟩
    refine ⟨_, rfl, AgC.refl _ _, ?_⟩
    rw [edP_some A M1 k HM.out.2.1]
    repeat (refine sched_quiet (fun K hK => ?_); go_simp; refine hK _ ?_; clear hK K)
    refine sched_callL (by first | rfl | go_simp) 134 #[.pointer (some ⟨A.z k, 0, none⟩), .pointer (some ⟨A.c, 0, none⟩), .int .i64 t, .agg #[.int .i64 ef, .int .i64 et, .string ey, .float .f64 ew], .bool true] (by first | kernel_rfl | go_simp) (Ec.write_any _ (At ρ1 (.edge k)) (A.z k) A.c gk M1.K L (HC.out.2.2.1.frame (Fr.refl No _).drew (fun _ _ e => e)) (HC.out.1.frame (Fr.refl No _).drew) HM.out.1.clock.small.1 (by have := HC.out.2.2.2; have := HH.out.2.2; omega) t ⟨ef, et, ey, ew⟩ true) ?_
    rintro e w4 ⟨rfl, T', k4, f4, g4⟩
    refine ⟨_, rfl, ?_⟩
    rw [ewriteL] at k4
    have t4 := (HM.out.1.frame (Fr.refl No _).drew).edge_ (F' := F + 1) HM.out.2.1 k4 f4 g4 (Nat.le_succ _) (Nat.le_trans (writeV_len _ _ _ _ _) (Nat.succ_le_succ HC.out.2.2.2))
    have hM : writeE M1 t k ⟨ef, et, ey, ew⟩ true = { M1 with E := M1.E.set k (writeV M1.K t ⟨ef, et, ey, ew⟩ true L) } := by unfold writeE; rw [HC.out.2.1]; rfl
    rw [← hM] at t4
    obtain ⟨ρ4, h4, g4'⟩ := t4
    have H4 := hid (⟨h4, (HM.out.2.2.1.nextNo (Fr.refl No _).drew).trans g4'⟩ : _ ∧ _)
    have hlen : k < (writeE M1 t k ⟨ef, et, ey, ew⟩ true).E.length := by unfold writeE; simpa using HM.out.2.1
    have HL4 := hid hlen
    clear k4 f4 g4 hM h4 g4' hlen
    refine sched_nil ?_
    go_wp2_with (go_at_call 61; refine (links_any _ ρ4 s A _ (F + 1) H4.out.1 k HL4.out (by have := HH.out.2.2; omega)).mono ?_; rintro e w5 ⟨rfl, h5⟩; have H5 := hid h5; clear h5)
    go_end0
    obtain ⟨ρ5, h5, g5⟩ := H5.out
    exact ⟨rfl, ρ5, by rw [HT.out]; exact h5, H4.out.2.trans g5⟩
  | false =>
    go_enter Tryz.func65, Tryz.ntmps65
    go_wp2_with fail
    generalize w.alloc (.cells #[.int .i64 ef, .int .i64 et, .string ey, .float .f64 ew] 42) = w0 at *
    have h0 := h.frame hf
    have HH := hid (⟨h0, hk, hF⟩ : _ ∧ _ ∧ _)
    obtain ⟨hfo, hfb, hfl, hfk⟩ := h0.at_ .enrow
    obtain ⟨af, cf, hfv⟩ := ownsRow_slice hfo
    have x3 := h0.cells.2.2.2.1
    rw [hfv] at x3 hfo
    obtain ⟨gf, cur, rfl, -, hgf, hnc, hcs, -⟩ := owns_at hfo (by omega)
    have n2 : IntKind.i64.wrap (k : Int) = (k : Int) := IntWalk.i64_in _ (by have := h.elen; omega)
    obtain ⟨c0, c1, c2, c3⟩ := cells4 hb
    have HG := hid (⟨hfv, hgf, hf, hb⟩ : _ ∧ _ ∧ _ ∧ _)
    have HC : Hid (k * 2 + 2 ≤ cur.size) := hid (by have : M.D.length * 2 ≤ cf * 2 := Nat.mul_le_mul_right _ hnc; omega)
    have HS0 := hid (⟨h0.lt, lt_of_block hb⟩ : _ ∧ _)
    have hkD : k < M.D.length := by omega
    have HKD := hid hkD
    have hDl : M.D.length ≤ 1000 := by have := h.elen; omega
    generalize hn : M.D.length = n at *
    have HN := hid hn
    clear h h0 hk hF hf hb hv hfo hfb hfl hfk hfv hgf hn hnc hcs
    refine wp_region_sched (by kernel_rfl) 12 [12] [0, 1, 2, 3, 4, 5, 6, 7, 8, 9, 10, 11, 12] (AgC [s, w.heap.size] w0.drew) (by kernel_rfl) (AgC.refl _ _) ?_
    simp only [List.map_cons, List.map_nil, List.contains_cons, List.contains_nil, nth_zero, nth_succ, Nat.reduceBEq, Bool.or_false, Bool.or_true]
    repeat (first | (refine sched_build rfl 181 [(0, .tmp 19), (1, .tmp 21)] rfl [(0, .int .i64 ef), (1, .int .i64 et)] rfl _ (built_ends ..) ?_) | (refine sched_quiet (fun K hK => ?_); go_simp; refine hK _ ?_; clear hK K))
    refine sched_loud (wpList_storeO rfl 181 (.tmp 23) (.tmp 22) rfl gf (k * 2) rfl cur.toList 181 [.int .i64 ef, .int .i64 et] rfl (by kernel_rfl) HG.out.2.1 (by have := HC.out; simp; omega) (by simp [Value.oneCell']) ?_)
    intro w1 p1
    have P1 := hid p1
    clear p1
    refine sched_last ?_
    refine sched_nil ?_
    have h0 := HH.out.1.frame (Fr.refl No w0).drew
    have t1 := h0.ends_ (k := k) (f := ef) (t := et) (by rw [HN.out]; exact HG.out.1) HG.out.2.1 (by rw [HN.out]; exact HKD.out) (HV.out (by simp)) P1.out
    obtain ⟨ρ1, h1, g1⟩ := t1
    have g01 := (Gone.no (U := Go.Lig.Own ρ) HG.out.2.2.1.drew).trans g1
    obtain ⟨hb1, -⟩ := g1.keep (w := w0.drew) HG.out.2.2.2 HU.out
    have hE : tieM M t k ⟨ef, et, ey, ew⟩ false = linkM (writeE { M with D := M.D.set k (ef, et) } t k ⟨ef, et, ey, ew⟩ false) k := rfl
    generalize hM1 : ({ M with D := M.D.set k (ef, et) } : PSt) = M1 at *
    have HT := hid hE
    have HM : Hid (StAt w1 ρ1 s A M1 F ∧ k < M1.E.length ∧ Gone (Go.Lig.Own ρ) w (Go.Lig.Own ρ1) w1 ∧ w1.heap[w.heap.size]? = some (.cells #[.int .i64 ef, .int .i64 et, .string ey, .float .f64 ew] 42 (0, 0))) := hid ⟨h1, by rw [← hM1]; exact HH.out.2.1, g01, hb1⟩
    clear h0 h1 g1 g01 hb1 hE hM1 x3 c0 c1 c2 c3
    go_wp2_with fail
    obtain ⟨x0, -⟩ := HM.out.1.cells
    obtain ⟨gk, hck, -⟩ := HM.out.1.clock.row
    obtain ⟨L, hL⟩ : ∃ L, M1.E[k]? = some L := ⟨_, List.getElem?_eq_getElem HM.out.2.1⟩
    have hc := HM.out.1.ecell hL
    have hLF := (HM.out.1.at_ (.edge k) L hL).2
    have HC := hid (⟨hck, hL, hc, hLF⟩ : _ ∧ _ ∧ _ ∧ _)
    obtain ⟨b0, b1, b2, b3⟩ := cells4 HM.out.2.2.2
    have HS1 := hid (⟨HM.out.1.lt, lt_of_block HM.out.2.2.2⟩ : _ ∧ _)
    clear hck hL hc hLF
    refine wp_region_sched (by kernel_rfl) 10 [2, 10] [0, 1, 3, 4, 5, 6, 7, 8, 9, 2, 10] (AgC [s, w.heap.size] w1.drew) (by kernel_rfl) (AgC.refl _ _) ?_
    simp only [List.map_cons, List.map_nil, List.contains_cons, List.contains_nil, nth_zero, nth_succ, Nat.reduceBEq, Bool.or_false, Bool.or_true]
    repeat (refine sched_quiet (fun K hK => ?_); go_simp; refine hK _ ?_; clear hK K)
    refine sched_call (by first | rfl | go_simp) 66 #[.pointer (some ⟨s, 0, none⟩), .int .i64 ((k : Int) + 1)] (by first | kernel_rfl | go_simp) (edge_any _ ρ1 s A M1 F (HM.out.1.frame (Fr.refl No _).drew) _) ?_
    rintro e w2 ⟨rfl, rfl⟩
    refine ⟨_, rfl, AgC.refl _ _, ?_⟩
    rw [edP_some A M1 k HM.out.2.1]
    repeat (refine sched_quiet (fun K hK => ?_); go_simp; refine hK _ ?_; clear hK K)
    refine sched_callL (by first | rfl | go_simp) 134 #[.pointer (some ⟨A.z k, 0, none⟩), .pointer (some ⟨A.c, 0, none⟩), .int .i64 t, .agg #[.int .i64 ef, .int .i64 et, .string ey, .float .f64 ew], .bool false] (by first | kernel_rfl | go_simp) (Ec.write_any _ (At ρ1 (.edge k)) (A.z k) A.c gk M1.K L (HC.out.2.2.1.frame (Fr.refl No _).drew (fun _ _ e => e)) (HC.out.1.frame (Fr.refl No _).drew) HM.out.1.clock.small.1 (by have := HC.out.2.2.2; have := HH.out.2.2; omega) t ⟨ef, et, ey, ew⟩ false) ?_
    rintro e w4 ⟨rfl, T', k4, f4, g4⟩
    refine ⟨_, rfl, ?_⟩
    rw [ewriteL] at k4
    have t4 := (HM.out.1.frame (Fr.refl No _).drew).edge_ (F' := F + 1) HM.out.2.1 k4 f4 g4 (Nat.le_succ _) (Nat.le_trans (writeV_len _ _ _ _ _) (Nat.succ_le_succ HC.out.2.2.2))
    have hM : writeE M1 t k ⟨ef, et, ey, ew⟩ false = { M1 with E := M1.E.set k (writeV M1.K t ⟨ef, et, ey, ew⟩ false L) } := by unfold writeE; rw [HC.out.2.1]; rfl
    rw [← hM] at t4
    obtain ⟨ρ4, h4, g4'⟩ := t4
    have H4 := hid (⟨h4, (HM.out.2.2.1.nextNo (Fr.refl No _).drew).trans g4'⟩ : _ ∧ _)
    have hlen : k < (writeE M1 t k ⟨ef, et, ey, ew⟩ false).E.length := by unfold writeE; simpa using HM.out.2.1
    have HL4 := hid hlen
    clear k4 f4 g4 hM h4 g4' hlen
    refine sched_nil ?_
    go_wp2_with (go_at_call 61; refine (links_any _ ρ4 s A _ (F + 1) H4.out.1 k HL4.out (by have := HH.out.2.2; omega)).mono ?_; rintro e w5 ⟨rfl, h5⟩; have H5 := hid h5; clear h5)
    go_end0
    obtain ⟨ρ5, h5, g5⟩ := H5.out
    exact ⟨rfl, ρ5, by rw [HT.out]; exact h5, H4.out.2.trans g5⟩
end Go.Proofs.YtibfpkfpmkghhaaGreatDoor
