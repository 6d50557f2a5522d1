/- A part of the proof: contracts of functions of the program, for the row's text. -/
import Derived.Test.YtfaapjcgmjjheaaGreatDoorK31
import Derived.Test.YtfaapjcgmjjheaaGreatDoorK29
namespace Go.Proofs.YtfaapjcgmjjheaaGreatDoor
open Go.RowKit Go.Lig

/-- has t written a version? -/
def byL {α : Type} (t : Int) (L : List (Ver α)) : Bool := L.any (fun y => y.by_ == t)
def pendN (M : PSt) (t : Int) : List WrD := wrsN (fun i => byL t (M.N[i]?.getD [])) (fun i => readN M t ((i : Int) + 1)) M.N.length
def pendE (M : PSt) (t : Int) : List WrD := wrsE (fun i => byL t (M.E[i]?.getD [])) (fun i => readE M t ((i : Int) + 1)) M.E.length
/-- what t has written -/
def pendM (M : PSt) (t : Int) : List WrD := pendN M t ++ (pendE M t).map WrD.mark
theorem wrsN_len (m : Nat → Bool) (r : Nat → Option NodeD) : ∀ n, (wrsN m r n).length ≤ n
  | 0 => Nat.le_refl _
  | n + 1 => by
    have := wrsN_len m r n
    unfold wrsN
    rw [List.length_append]
    split <;> simp <;> omega
theorem wrsE_len (m : Nat → Bool) (r : Nat → Option EdgeV) : ∀ n, (wrsE m r n).length ≤ n
  | 0 => Nat.le_refl _
  | n + 1 => by
    have := wrsE_len m r n
    unfold wrsE
    rw [List.length_append]
    split <;> simp <;> omega
theorem VersIn.wrote {w : World} {I : Nat → Prop} {H : List (Ver NodeV)} {L : List (Ver NodeD)} (h : VersIn w I H L) (t : Int) : wroteL t H = byL t L := by
  unfold wroteL byL
  rw [Bool.eq_iff_iff, List.any_eq_true, List.any_eq_true]
  constructor
  · rintro ⟨x, hx, e⟩
    obtain ⟨j, hj, rfl⟩ := List.getElem_of_mem hx
    have hl : j < L.length := by rw [← h.len]; exact hj
    have := h.at_ j _ _ (List.getElem?_eq_getElem hj) (List.getElem?_eq_getElem hl)
    exact ⟨L[j], List.getElem_mem hl, by rw [← this.by_]; exact e⟩
  · rintro ⟨x, hx, e⟩
    obtain ⟨j, hj, rfl⟩ := List.getElem_of_mem hx
    have hl : j < H.length := by rw [h.len]; exact hj
    have := h.at_ j _ _ (List.getElem?_eq_getElem hl) (List.getElem?_eq_getElem hj)
    exact ⟨H[j], List.getElem_mem hl, by rw [this.by_]; exact e⟩
theorem ptrs_one (x : Nat → Nat) (n : Nat) : ∀ u ∈ ptrs x n, u.oneCell' = true := fun u hu => by
  obtain ⟨i, _, rfl⟩ := List.mem_map.1 hu
  rfl
section
variable (w : World) (ρ : Nat → Option Pt) (s : Nat) (A : Ad) (M : PSt) (F : Nat) (h : StAt w ρ s A M F) (t : Int)
include h
theorem pn_any (b2 b3 : Nat) (h2 : w.cell? ⟨b2, 0, none⟩ = some (.pointer (some ⟨s, 0, none⟩))) (h3 : w.cell? ⟨b3, 0, none⟩ = some (.int .i64 t)) : Calls Tryz.prog 58 #[A.nv, .func (.func 59) #[] #[.pointer (some ⟨b3, 0, none⟩)], .func (.func 61) #[] #[.pointer (some ⟨b2, 0, none⟩), .pointer (some ⟨b3, 0, none⟩)], .func (.func 62) #[] #[]] w fun e w' => ∃ v', e = .returned v' ∧ WrsO w w' v' (pendN M t) := by
  have hb2 := World.block_lt_of_cell? _ _ h2
  have hb3 := World.block_lt_of_cell? _ _ h3
  obtain ⟨hr, -, hn⟩ := h.at_ .nrow
  refine writesn_any w A.nv M.N.length A.x (Rd.of_owns hr (ptrs_one _ _)) hn _ _ _ _ _ _ enter_pend1_any enter_pend2_any (fun i hi W hW => ?_) (fun i hi => ?_)
  · obtain ⟨L, hL⟩ : ∃ L, M.N[i]? = some L := ⟨_, List.getElem?_eq_getElem hi⟩
    obtain ⟨H, hc, hv⟩ := ((h.frame hW).ncell hL).ex
    have := wrote_any W _ (A.x i) H hc t
    rw [hv.wrote] at this
    rw [hL]
    exact pend1_any W (A.x i) b3 t _ ((World.cell?_of_block (w := w) (hW.block b3 hb3 (fun e => e))).trans h3) this
  · obtain ⟨la, ln, lc, pa, pn, pc, hin, hr⟩ := h.rdN t ((i : Int) + 1)
    rw [ndP_some A M i hi] at hr
    refine ⟨la, ln, lc, pa, pn, pc, _, hin, fun W hW => pend2_any W (A.x i) s A.c b2 b3 t la ln lc pa pn pc _ ((World.cell?_of_block (w := w) (hW.block b2 hb2 (fun e => e))).trans h2) ((World.cell?_of_block (w := w) (hW.block b3 hb3 (fun e => e))).trans h3) (h.frame hW).cells.1 (fun u hu => hr u (hW.thenNo hu))⟩
theorem pe_any (b2 b3 : Nat) (h2 : w.cell? ⟨b2, 0, none⟩ = some (.pointer (some ⟨s, 0, none⟩))) (h3 : w.cell? ⟨b3, 0, none⟩ = some (.int .i64 t)) : Calls Tryz.prog 63 #[A.dv, .func (.func 64) #[] #[.pointer (some ⟨b3, 0, none⟩)], .func (.func 66) #[] #[.pointer (some ⟨b2, 0, none⟩), .pointer (some ⟨b3, 0, none⟩)], .func (.func 67) #[] #[]] w fun e w' => ∃ v', e = .returned v' ∧ WrsO w w' v' (pendE M t) := by
  have hb2 := World.block_lt_of_cell? _ _ h2
  have hb3 := World.block_lt_of_cell? _ _ h3
  obtain ⟨hr, -, hn⟩ := h.at_ .edrow
  refine writese_any w A.dv M.E.length A.z (Rd.of_owns hr (ptrs_one _ _)) hn _ _ _ _ _ _ enter_pend3_any enter_pend4_any (fun i hi W hW => ?_) (fun i hi W hW => ?_)
  · obtain ⟨L, hL⟩ : ∃ L, M.E[i]? = some L := ⟨_, List.getElem?_eq_getElem hi⟩
    rw [hL]
    exact pend3_any W (A.z i) b3 t _ ((World.cell?_of_block (w := w) (hW.block b3 hb3 (fun e => e))).trans h3) (Ec.wrote_any W _ (A.z i) L ((h.frame hW).ecell hL) t)
  · have hr := h.rdE t ((i : Int) + 1)
    rw [edP_some A M i hi] at hr
    exact pend4_any W (A.z i) s A.c b2 b3 t _ _ _ _ _ ((World.cell?_of_block (w := w) (hW.block b2 hb2 (fun e => e))).trans h2) ((World.cell?_of_block (w := w) (hW.block b3 hb3 (fun e => e))).trans h3) (h.frame hW).cells.1 (fun u hu => hr u (hW.thenNo hu))
end
end Go.Proofs.YtfaapjcgmjjheaaGreatDoor

namespace Go.Proofs.YtfaapjcgmjjheaaGreatDoor
open Go.RowKit Go.Lig

set_option maxRecDepth 100000 in
theorem pending_dead (w : World) (ρ : Nat → Option Pt) (s : Nat) (A : Ad) (M : PSt) (F : Nat) (h : StAt w ρ s A M F) (t : Int) (hl : M.K.live t = false) :
    Calls Tryz.prog 24 #[.pointer (some ⟨s, 0, none⟩), .int .i64 t] w fun e w' => e = .returned (.tuple #[.int .i64 0, .int .i64 0, .slice none 0 0, .int .i64 5]) ∧ Fr No w w' := by
  obtain ⟨k2, k3⟩ := heap2 w (.cells #[.pointer (some ⟨s, 0, none⟩)] 22) (.cells #[.int .i64 t] 3)
  have hf : Fr No w ((w.alloc (.cells #[.pointer (some ⟨s, 0, none⟩)] 22)).alloc (.cells #[.int .i64 t] 3)) := ((Fr.refl No w).alloc _).alloc _
  have HI := hid (islive_any _ ρ s A M F (h.frame hf) t)
  rw [hl] at HI
  have c2 := cells1 k2
  have c3 := cells1 k3
  have HF := hid hf
  clear hf k2 k3 h hl
  go_enter Tryz.func24, Tryz.ntmps24
  go_wp2_with (go_at_call 32; refine HI.out.mono ?_; rintro e w1 ⟨rfl, rfl⟩)
  refine bodyPost_ret (v := .tuple #[.int .i64 0, .int .i64 0, .slice none 0 0, .int .i64 5]) ?_ rfl ⟨rfl, HF.out⟩
  simp [results, Tryz.f24, go_sem]
set_option maxRecDepth 100000 in
set_option maxHeartbeats 4000000 in
theorem pending_any (w : World) (ρ : Nat → Option Pt) (s : Nat) (A : Ad) (M : PSt) (F : Nat) (h : StAt w ρ s A M F) (t : Int) (hl : M.K.live t = true) :
    Calls Tryz.prog 24 #[.pointer (some ⟨s, 0, none⟩), .int .i64 t] w fun e w' => ∃ v, e = .returned (.tuple #[.int .i64 (M.N.length : Int), .int .i64 (M.E.length : Int), v, .int .i64 0]) ∧ WrsO w w' v (pendM M t) := by
  obtain ⟨k2, k3⟩ := heap2 w (.cells #[.pointer (some ⟨s, 0, none⟩)] 22) (.cells #[.int .i64 t] 3)
  have hf : Fr No w ((w.alloc (.cells #[.pointer (some ⟨s, 0, none⟩)] 22)).alloc (.cells #[.int .i64 t] 3)) := ((Fr.refl No w).alloc _).alloc _
  have hsl := h.lt
  have h1 := h.frame hf
  have HI := hid (islive_any _ ρ s A M F h1 t)
  rw [hl] at HI
  have c2 := cells1 k2
  have c3 := cells1 k3
  obtain ⟨an, cn, hnv⟩ := ownsRow_slice (h.at_ .nrow).1
  obtain ⟨ad, cd, hdv⟩ := ownsRow_slice (h.at_ .edrow).1
  have HPn := hid (pn_any _ ρ s A M F h1 t w.heap.size (w.heap.size + 1) c2 c3)
  have HPe := hid (fun (W : World) (hW : Fr No ((w.alloc (.cells #[.pointer (some ⟨s, 0, none⟩)] 22)).alloc (.cells #[.int .i64 t] 3)) W) => pe_any W ρ s A M F (h1.frame hW) t w.heap.size (w.heap.size + 1) (cells1 (hW.keep k2 (fun e => e))) (cells1 (hW.keep k3 (fun e => e))))
  have HNl := hid (⟨h.nlen, h.elen, wrsN_len (fun i => byL t (M.N[i]?.getD [])) (fun i => readN M t ((i : Int) + 1)) M.N.length, wrsE_len (fun i => byL t (M.E[i]?.getD [])) (fun i => readE M t ((i : Int) + 1)) M.E.length⟩ : M.N.length ≤ 1000 ∧ M.E.length ≤ 1000 ∧ (pendN M t).length ≤ M.N.length ∧ (pendE M t).length ≤ M.E.length)
  have s1 := h1.cells.2.1
  have s2 := h1.cells.2.2.1
  have HH := hid (⟨h.cells.2.1, h.cells.2.2.1, hnv, hdv, hsl⟩ : _ ∧ _ ∧ _ ∧ _ ∧ _)
  rw [hnv] at HPn s1
  rw [hdv] at HPe s2
  have HF := hid (⟨hf, k2⟩ : _ ∧ _)
  have HPM : Hid (pendM M t = pendN M t ++ (pendE M t).map WrD.mark) := hid rfl
  rw [HPM.out]
  generalize pendN M t = ln at *
  generalize pendE M t = le at *
  generalize M.N.length = n at *
  generalize M.E.length = m at *
  clear hf k3 h h1 hl hnv hdv hsl HPM
  go_enter Tryz.func24, Tryz.ntmps24
  go_wp2_with (go_at_call 32; refine HI.out.mono ?_; rintro e w1 ⟨rfl, rfl⟩)
  generalize ((w.alloc (.cells #[.pointer (some ⟨s, 0, none⟩)] 22)).alloc (.cells #[.int .i64 t] 3)) = w1 at *
  refine HPn.out.mono ?_
  rintro e w2 ⟨v2, rfl, o2⟩
  have HO2 := hid o2
  have c2' := cells1 (o2.fr.keep k2 (fun e => e))
  have s2' := (World.cell?_of_block (w := w1) (o2.fr.block s (Nat.lt_of_lt_of_le HH.out.2.2.2.2 HF.out.1.size) (fun e => e))).trans s2
  clear o2 c2 c3 s1 s2 k2
  go_wp2_with fail
  refine (HPe.out w2 HO2.out.fr).mono ?_
  rintro e w3 ⟨v3, rfl, o3⟩
  have HO3 := hid o3
  clear o3 c2' s2'
  go_wp2_with fail
  have f3 := (HF.out.1.thenNo HO2.out.fr).thenNo HO3.out.fr
  have c2'' := cells1 ((HO2.out.fr.thenNo HO3.out.fr).keep HF.out.2 (fun e => e))
  have s1' := (World.cell?_of_block (w := w) (f3.block s HH.out.2.2.2.2 (fun e => e))).trans HH.out.1
  have s2'' := (World.cell?_of_block (w := w) (f3.block s HH.out.2.2.2.2 (fun e => e))).trans HH.out.2.1
  rw [HH.out.2.2.1] at s1'
  rw [HH.out.2.2.2.1] at s2''
  have hsc : ∀ j ∈ [s, w.heap.size], j < w3.drew.heap.size ∧ ¬ No j := fun j hj => ⟨by
    rcases List.mem_cons.1 hj with rfl | hj
    · exact Nat.lt_of_lt_of_le HH.out.2.2.2.2 f3.size
    · rw [List.mem_singleton.1 hj]; exact Nat.lt_of_lt_of_le (lt_of_block HF.out.2) (HO2.out.fr.thenNo HO3.out.fr).size, fun e => e⟩
  refine wp_region_sched (by kernel_rfl) 18 [12, 13] [0, 1, 2, 3, 4, 5, 6, 7, 8, 9, 10, 11, 12, 13, 14, 15, 16, 17] (AgC [s, w.heap.size] w3.drew) (by kernel_rfl) (AgC.refl _ _) ?_
  simp only [List.map_cons, List.map_nil, List.contains_cons, List.contains_nil, nth_zero, nth_succ, Nat.reduceBEq, Bool.false_or, Bool.or_false, Bool.or_true, Bool.true_or]
  repeat (refine sched_quiet (fun K hK => ?_); go_simp; refine hK _ ?_; clear hK K)
  have HO3d := HO3.out.next (Fr.refl No w3).drew
  refine sched_call (by first | rfl | go_simp) 68 #[v3] (by first | kernel_rfl | go_simp) (edged_any w2 w3.drew v3 le HO3d (Nat.le_trans HNl.out.2.2.2 HNl.out.2.1)) ?_
  rintro e w4 ⟨rfl, o4⟩
  have hlt2 : ∀ j ∈ [s, w.heap.size], j < w2.heap.size := fun j hj => by
    rcases List.mem_cons.1 hj with rfl | hj
    · exact Nat.lt_of_lt_of_le HH.out.2.2.2.2 (HF.out.1.thenNo HO2.out.fr).size
    · rw [List.mem_singleton.1 hj]; exact Nat.lt_of_lt_of_le (lt_of_block HF.out.2) HO2.out.fr.size
  have a4 : AgC [s, w.heap.size] w3.drew w4 := AgC.mk fun b hb => (o4.fr.block b (hlt2 b hb) (fun e => e)).trans (HO3d.fr.block b (hlt2 b hb) (fun e => e)).symm
  refine ⟨_, rfl, a4, ?_⟩
  have ha := HO2.out.ahead HF.out.1
  obtain ⟨Ha, Ja, hha⟩ := ha.ex
  obtain ⟨Hb, Jb, hhb⟩ := o4.ex
  obtain ⟨a2, e2, rfl⟩ := ownsRow_slice hha.row
  obtain ⟨a3, e3, rfl⟩ := ownsRow_slice hhb.row
  have HHA := hid (⟨ha, hha, o4, hhb⟩ : _ ∧ _ ∧ _ ∧ _)
  have HLM := hid (show (le.map WrD.mark).length = le.length from List.length_map _)
  generalize (le.map WrD.mark).length = k at *
  clear ha hha hhb
  repeat (refine sched_quiet (fun K hK => ?_); go_simp; refine hK _ ?_; clear hK K)
  refine sched_loud (wpList_app rfl (.tmp 38) (.tmp 40) 50 rfl 54 _ 9 112 Tryz.underlying50 infoWr (by kernel_rfl) (by decide) (.slice a2 ln.length e2) ln.length (Ha.flatMap wrcell) rfl (fd_owns HHA.out.2.1.row o4.fr) (.slice a3 k e3) k (Hb.flatMap wrcell) rfl (by have h0 := HHA.out.2.2.2.row; rw [List.length_map, ← HLM.out] at h0; exact Rd.of_owns h0 (fun u hu => wrcell_one u hu)) (by have := HNl.out; have := HLM.out; unfold maxLen; omega) (by have := HNl.out; have := HLM.out; omega) ?_)
  intro v5 w5 o5 f5 b5 _
  have hva : ∀ j ∈ [s, w.heap.size], ¬ (Value.slice a2 ln.length e2).ownBlock = some j := fun j hj e => by
    have h1 := HO2.out.blk j e
    have h2 : j < w1.heap.size := by
      rcases List.mem_cons.1 hj with rfl | hj
      · exact Nat.lt_of_lt_of_le HH.out.2.2.2.2 HF.out.1.size
      · rw [List.mem_singleton.1 hj]; exact lt_of_block HF.out.2
    omega
  refine sched_on (a4.fr f5 (fun j hj => ⟨(hsc j hj).1, hva j hj⟩)) ?_
  have HR := hid (WrsO.cat HHA.out.1 HHA.out.2.1 HHA.out.2.2.1 HHA.out.2.2.2 (by rw [List.length_map, ← HLM.out]; exact o5) f5 b5)
  clear o4 a4 hva o5 f5 b5 c2'' s1' s2'' hsc
  repeat (refine sched_quiet (fun K hK => ?_); go_simp; refine hK _ ?_; clear hK K)
  refine sched_nil ?_
  go_wp2_with fail
  refine bodyPost_ret (v := .tuple #[.int .i64 (n : Int), .int .i64 (m : Int), v5, .int .i64 0]) ?_ rfl ⟨v5, rfl, HR.out⟩
  simp [results, Tryz.f24, go_sem]
end Go.Proofs.YtfaapjcgmjjheaaGreatDoor

namespace Go.Proofs.YtfaapjcgmjjheaaGreatDoor
open Go.RowKit Go.Lig

/-- a row of writes' cells -/
structure WrCells (w : World) (g j : Nat) (x : WrV) : Prop where
  c0 : w.cell? ⟨g, j * 9, none⟩ = some (.bool x.edge)
  c1 : w.cell? ⟨g, j * 9 + 1, none⟩ = some (.int .i64 x.id)
  c2 : w.cell? ⟨g, j * 9 + 2, none⟩ = some (.bool x.gone)
  c3 : w.cell? ⟨g, j * 9 + 3, none⟩ = some (.slice x.n.l.a x.n.l.n x.n.l.c)
  c4 : w.cell? ⟨g, j * 9 + 4, none⟩ = some (.slice x.n.p.a x.n.p.n x.n.p.c)
  c5 : w.cell? ⟨g, j * 9 + 5, none⟩ = some (.int .i64 x.e.from_)
  c6 : w.cell? ⟨g, j * 9 + 6, none⟩ = some (.int .i64 x.e.to_)
  c7 : w.cell? ⟨g, j * 9 + 7, none⟩ = some (.string x.e.type)
  c8 : w.cell? ⟨g, j * 9 + 8, none⟩ = some (.float .f64 x.e.w)
theorem wrcells_of {w : World} {base g n cap : Nat} {H : List WrV} (h : w.ownsRow base 54 9 (.slice (some ⟨g, 0, none⟩) n cap) n (H.flatMap wrcell)) {j : Nat} {x : WrV} (hx : H[j]? = some x) : WrCells w g j x := by
  have g0 : ∀ t, t < 9 → (H.flatMap wrcell)[j * 9 + t]? = (wrcell x)[t]? := fun t ht => flat_get (f := wrcell) (m := 9) (fun _ => rfl) _ _ _ hx t ht
  exact ⟨owns_cell h rfl (by rw [← Nat.add_zero (j * 9), g0 0 (by decide)]; rfl), owns_cell h rfl (by rw [g0 1 (by decide)]; rfl), owns_cell h rfl (by rw [g0 2 (by decide)]; rfl), owns_cell h rfl (by rw [g0 3 (by decide)]; rfl), owns_cell h rfl (by rw [g0 4 (by decide)]; rfl), owns_cell h rfl (by rw [g0 5 (by decide)]; rfl), owns_cell h rfl (by rw [g0 6 (by decide)]; rfl), owns_cell h rfl (by rw [g0 7 (by decide)]; rfl), owns_cell h rfl (by rw [g0 8 (by decide)]; rfl)⟩
def tA0 : PSt := touM hA 2 0
def tA : PSt := touM tA0 2 1
def tE : PSt := tieM (growE tA) 2 1 ⟨1, 2, ⟨#[102]⟩, 4611686018427387904⟩ false
theorem ta_0 : FindsTo (putM hA 2 0 dA false) tA0 16 21 0 := finds_at (M := putM hA 2 0 dA false) (l := ((putM hA 2 0 dA false).Y[0]?.getD [])) (L := ((putM hA 2 0 dA false).N[0]?.getD [])) 16 5 (by kernel_rfl) (by kernel_rfl) (by kernel_rfl) (by decide)
theorem ta_1 : FindsTo (putM tA0 2 1 NodeD.none false) tA 22 22 1 := finds_at (M := putM tA0 2 1 NodeD.none false) (l := ((putM tA0 2 1 NodeD.none false).Y[1]?.getD [])) (L := ((putM tA0 2 1 NodeD.none false).N[1]?.getD [])) 22 0 (by kernel_rfl) (by kernel_rfl) (by kernel_rfl) (by decide)
theorem touch_add : TouchTo 2 tA 22 hA 15 [1, 2] :=
  TouchTo.put (k := 0) (d := dA) (by decide) (by kernel_rfl) (by decide) ta_0 (TouchTo.put (k := 1) (d := NodeD.none) (by decide) (by kernel_rfl) (by decide) ta_1 TouchTo.nil)
def touS : Bool → PSt
  | true => hB
  | false => tE
def touF : Bool → Nat
  | true => 25
  | false => 25
def touW : Bool → WrD
  | true => ⟨true, 1, true, NodeD.none, EdgeV.none⟩
  | false => ⟨true, 2, false, NodeD.none, ⟨1, 2, ⟨#[102]⟩, 4611686018427387904⟩⟩
theorem touS_l (b : Bool) : (touS b).K.live 2 = true := by cases b <;> kernel_rfl
theorem touS_p (b : Bool) : pendM (touS b) 2 = [⟨false, 1, false, dA, EdgeV.none⟩, ⟨false, 2, false, NodeD.none, EdgeV.none⟩, touW b] := by cases b <;> kernel_rfl
theorem hA_reads : readN hA 2 1 = some dA ∧ readN hA 2 2 = some NodeD.none := ⟨by kernel_rfl, by kernel_rfl⟩
theorem hA_may : mayB hA 2 0 [1, 2] = false := by kernel_rfl
theorem isnF : isNameB ⟨#[102]⟩ = true := by kernel_rfl
theorem weight_two (w : World) : Calls Tryz.prog 94 #[.float FloatKind.f64 4611686018427387904] w fun e w' => e = .returned (.bool true) ∧ w = w' := weight_of w _ _ (fun u => by kernel_rfl)
end Go.Proofs.YtfaapjcgmjjheaaGreatDoor

namespace Go.Proofs.YtfaapjcgmjjheaaGreatDoor
open Go.RowKit Go.Lig

theorem wrs_open {w0 w : World} {v : Value} {l : List WrD} (h : WrsO w0 w v l) (hl : 0 < l.length) : ∃ g c H J, v = .slice (some ⟨g, 0, none⟩) l.length c ∧ WrsH w0 w v l H J ∧ g < w.heap.size := by
  obtain ⟨H, J, hh⟩ := h.ex
  obtain ⟨a, c, rfl⟩ := ownsRow_slice hh.row
  obtain ⟨g, cur, rfl, -, hg, -⟩ := owns_at hh.row hl
  exact ⟨g, c, H, J, rfl, hh, lt_of_block hg⟩
/-- the j-th of them -/
theorem wrs_nth {w0 w : World} {g c : Nat} {l : List WrD} {H : List WrV} {J : Nat → Prop} (hh : WrsH w0 w (.slice (some ⟨g, 0, none⟩) l.length c) l H J) {j : Nat} {d : WrD} (hd : l[j]? = some d) : ∃ x, WrIn w J x d ∧ WrCells w g j x := by
  obtain ⟨x, hx⟩ : ∃ x, H[j]? = some x := ⟨H[j]'(by rw [hh.len]; exact (List.getElem?_eq_some_iff.1 hd).1), List.getElem?_eq_getElem _⟩
  exact ⟨x, hh.ins j x d hx hd, wrcells_of hh.row hx⟩
theorem _root_.Go.Lig.WrIn.labels {w : World} {J : Nat → Prop} {x : WrV} {d : WrD} (h : WrIn w J x d) : x.n.l.n = d.n.L.length := by
  obtain ⟨a, c, e, -⟩ := rd_len h.n.l.rd
  exact (Value.slice.inj e).2.1
set_option maxRecDepth 100000 in
set_option maxHeartbeats 4000000 in
theorem touches_law (w : World) (c : Bool) : Calls Tryz.prog 6 #[.bool c] w fun e w' => e = .returned (.bool true) ∧ Fr No w w' := by
  go_enter Tryz.func6, Tryz.ntmps6
  go_wp2_with fail
  refine (two_any _).mono ?_
  rintro e w1 ⟨s, ρ, A, rfl, h1, n1⟩
  have H1 := hid (⟨h1, n1⟩ : _ ∧ _)
  clear h1 n1
  go_wp2_with fail
  refine (stbegin_any _ ρ s A mTwo 14 H1.out.1 (by rw [show mTwo.K.count = 0 by kernel_rfl]; decide) (by decide)).mono ?_
  rintro e w2 ⟨rfl, ρ2, h2, g2⟩
  rw [show mTwo.K.l.length = 1 by kernel_rfl]
  have H2 := hid (⟨h2, H1.out.2.next g2⟩ : StAt w2 ρ2 s A hA 15 ∧ _)
  clear h2 g2
  cases c with
  | true =>
    go_wp2_with fail
    refine (dropedge_ok _ ρ2 s A hA 15 H2.out.1 2 (by kernel_rfl) 0 ⟨1, 2, ⟨#[101]⟩, 0⟩ (by kernel_rfl) ⟨by kernel_rfl, by rw [show hA.E.length = 1 by kernel_rfl]; decide, by decide⟩ hB 25 touch_held).mono ?_
    rintro e w4 ⟨rfl, ρ4, h4, g4⟩
    have H4 := hid (⟨h4, H2.out.2.next g4⟩ : _ ∧ _)
    clear h4 g4
    have H5 := hid (H4.out : StAt w4 ρ4 s A (touS true) (touF true) ∧ _)
    go_wp2_with fail
    refine (pending_any _ ρ4 s A (touS true) (touF true) H5.out.1 2 (touS_l true)).mono ?_
    rintro e w5 ⟨v5, rfl, o5⟩
    rw [touS_p true] at o5
    obtain ⟨g, c, H, J, rfl, hh, hg⟩ := wrs_open o5 (by decide)
    obtain ⟨x0, i0, d0⟩ := wrs_nth hh (j := 0) (d := ⟨false, 1, false, dA, EdgeV.none⟩) rfl
    obtain ⟨x1, i1, d1⟩ := wrs_nth hh (j := 1) (d := ⟨false, 2, false, NodeD.none, EdgeV.none⟩) rfl
    obtain ⟨x2, i2, d2⟩ := wrs_nth hh (j := 2) (d := touW true) rfl
    have F5 := hid (H5.out.2.nextNo o5.fr).fr
    have p0 := d0.c0; have p1 := d0.c1; have p2 := d0.c2; have p3 := d0.c3; have q0 := d1.c0; have q1 := d1.c1; have r0 := d2.c0; have r2 := d2.c2
    rw [i0.edge] at p0
    rw [i0.id] at p1
    rw [i0.gone] at p2
    rw [i0.labels] at p3
    rw [i1.edge] at q0
    rw [i1.id] at q1
    rw [i2.edge] at r0
    rw [i2.gone] at r2
    dsimp only [touW, dA, List.length_cons, List.length_nil] at p0 p1 p2 p3 q0 q1 r0 r2 hh ⊢
    simp only [Nat.zero_mul, Nat.one_mul, Nat.zero_add, Nat.reduceAdd, Nat.reduceMul] at p0 p1 p2 p3 q0 q1 r0 r2
    generalize x0.n.l.a = la at *
    generalize x0.n.l.c = lc at *
    clear o5 hh i0 i1 i2 d0 d1 d2 hg
    go_wp2_with (go_at_call 16; refine (known_any _).mono ?_; rintro e w10 ⟨rfl, f10⟩; have F10 := hid (F5.out.thenNo f10); clear f10)
    go_ret
    exact ⟨rfl, F10.out⟩
  | false =>
    go_wp2_with fail
    refine (addedge_ok w2 ρ2 s A hA 15 H2.out.1 2 1 2 ⟨#[102]⟩ 4611686018427387904 (by kernel_rfl) (fun u _ => isedge_ok u 1 2 ⟨#[102]⟩ (.float .f64 4611686018427387904) (by decide) (by decide) isnF (by decide) rfl (fun u => weight_two u)) (by rw [hA_reads.1]; rfl) (by rw [hA_reads.2]; rfl) (by rw [show hA.E.length = 1 by kernel_rfl]; decide) hA_may tA 22 touch_add (by decide) ⟨key_small (n := 1) (by decide), key_small (n := 2) (by decide)⟩).mono ?_
    rintro e w4 ⟨rfl, ρ4, A4, h4, g4⟩
    rw [show hA.E.length = 1 by kernel_rfl] at h4
    have H4 := hid (⟨h4, H2.out.2.next g4⟩ : _ ∧ _)
    clear h4 g4
    have H5 := hid (H4.out : StAt w4 ρ4 s A4 (touS false) (touF false) ∧ _)
    go_wp2_with fail
    refine (pending_any _ ρ4 s A4 (touS false) (touF false) H5.out.1 2 (touS_l false)).mono ?_
    rintro e w5 ⟨v5, rfl, o5⟩
    rw [touS_p false] at o5
    obtain ⟨g, c, H, J, rfl, hh, hg⟩ := wrs_open o5 (by decide)
    obtain ⟨x0, i0, d0⟩ := wrs_nth hh (j := 0) (d := ⟨false, 1, false, dA, EdgeV.none⟩) rfl
    obtain ⟨x1, i1, d1⟩ := wrs_nth hh (j := 1) (d := ⟨false, 2, false, NodeD.none, EdgeV.none⟩) rfl
    obtain ⟨x2, i2, d2⟩ := wrs_nth hh (j := 2) (d := touW false) rfl
    have F5 := hid (H5.out.2.nextNo o5.fr).fr
    have p0 := d0.c0; have p1 := d0.c1; have p2 := d0.c2; have p3 := d0.c3; have q0 := d1.c0; have q1 := d1.c1; have r0 := d2.c0; have r2 := d2.c2
    rw [i0.edge] at p0
    rw [i0.id] at p1
    rw [i0.gone] at p2
    rw [i0.labels] at p3
    rw [i1.edge] at q0
    rw [i1.id] at q1
    rw [i2.edge] at r0
    rw [i2.gone] at r2
    dsimp only [touW, dA, List.length_cons, List.length_nil] at p0 p1 p2 p3 q0 q1 r0 r2 hh ⊢
    simp only [Nat.zero_mul, Nat.one_mul, Nat.zero_add, Nat.reduceAdd, Nat.reduceMul] at p0 p1 p2 p3 q0 q1 r0 r2
    generalize x0.n.l.a = la at *
    generalize x0.n.l.c = lc at *
    clear o5 hh i0 i1 i2 d0 d1 d2 hg
    go_wp2_with (go_at_call 16; refine (known_any _).mono ?_; rintro e w10 ⟨rfl, f10⟩; have F10 := hid (F5.out.thenNo f10); clear f10)
    go_ret
    exact ⟨rfl, F10.out⟩
end Go.Proofs.YtfaapjcgmjjheaaGreatDoor
