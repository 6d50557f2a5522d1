/- A part of the proof: contracts of functions of the program, for the row's text. -/
import Derived.Test.YtibfpkfpmkghhaaGreatDoorJ17
import Derived.Test.YtibfpkfpmkghhaaGreatDoorJ02
namespace Go.Proofs.YtibfpkfpmkghhaaGreatDoor
open Go.RowKit Go.Lig

def growNs (M : PSt) (j : Nat) : PSt := { M with N := M.N ++ List.replicate j [], Y := M.Y ++ List.replicate j [] }
def growEs (M : PSt) (j : Nat) : PSt := { M with E := M.E ++ List.replicate j [], D := M.D ++ List.replicate j (0, 0) }
theorem growNs_zero (M : PSt) : growNs M 0 = M := by simp [growNs]
theorem growEs_zero (M : PSt) : growEs M 0 = M := by simp [growEs]
theorem growNs_succ (M : PSt) (j : Nat) : growN (growNs M j) = growNs M (j + 1) := by simp [growNs, growN, List.replicate_succ', List.append_assoc]
theorem growEs_succ (M : PSt) (j : Nat) : growE (growEs M j) = growEs M (j + 1) := by simp [growEs, growE, List.replicate_succ', List.append_assoc]
theorem growNs_len (M : PSt) (j : Nat) : (growNs M j).N.length = M.N.length + j := by simp [growNs]
theorem growEs_len (M : PSt) (j : Nat) : (growEs M j).E.length = M.E.length + j := by simp [growEs]
def lenAt (w : World) (s k : Nat) : Nat := match w.cell? ⟨s, k, none⟩ with
  | some (.slice _ n _) => n
  | _ => 0
theorem lenAt_of {w : World} {s k n c : Nat} {a : Option Addr} (h : w.cell? ⟨s, k, none⟩ = some (.slice a n c)) : lenAt w s k = n := by
  unfold lenAt
  rw [h]
theorem infoPC : (Tryz.prog.info? 92).map (fun i => (i.zero, i.size, i.bytes)) = some (some (.pointer none), 1, 8) := by kernel_rfl
theorem infoPE : (Tryz.prog.info? 100).map (fun i => (i.zero, i.size, i.bytes)) = some (some (.pointer none), 1, 8) := by kernel_rfl
theorem infoEn : (Tryz.prog.info? 165).map (fun i => (i.zero, i.size, i.bytes)) = some (some (.slice none 0 0), 1, 24) := by kernel_rfl
theorem infoEnd : (Tryz.prog.info? 181).map (fun i => (i.zero, i.size, i.bytes)) = some (some (.agg #[.int .i64 0, .int .i64 0]), 2, 16) := by kernel_rfl
theorem StAt.nlenAt {w : World} {ρ : Nat → Option Pt} {s : Nat} {A : Ad} {M : PSt} {F : Nat} (h : StAt w ρ s A M F) : lenAt w s 1 = M.N.length := by
  obtain ⟨a, c, e⟩ := ownsRow_slice (h.at_ .nrow).1
  have := h.cells.2.1
  rw [e] at this
  exact lenAt_of this
theorem StAt.elenAt {w : World} {ρ : Nat → Option Pt} {s : Nat} {A : Ad} {M : PSt} {F : Nat} (h : StAt w ρ s A M F) : lenAt w s 2 = M.E.length := by
  obtain ⟨a, c, e⟩ := ownsRow_slice (h.at_ .edrow).1
  have := h.cells.2.2.1
  rw [e] at this
  exact lenAt_of this
set_option maxRecDepth 100000 in
set_option maxHeartbeats 1000000 in
theorem grows_any (w : World) (ρ : Nat → Option Pt) (s : Nat) (A : Ad) (M : PSt) (F : Nat) (h : StAt w ρ s A M F) (gn ge : Nat) (hgn : gn ≤ 1000) (hge : ge ≤ 1000) :
    Calls Tryz.prog 62 #[.pointer (some ⟨s, 0, none⟩), .int .i64 (gn : Int), .int .i64 (ge : Int)] w fun e w' => e = .returned (.tuple #[]) ∧ Turns w ρ s (growEs (growNs M (gn - M.N.length)) (ge - M.E.length)) F w' := by
  have HH := hid h
  clear h
  go_enter Tryz.func62, Tryz.ntmps62
  go_wp2_with fail
  go_loopw [] (fun wr => Hid (∃ j, (j = 0 ∨ M.N.length + j ≤ gn) ∧ Turns w ρ s (growNs M j) F wr)) (fun wr => gn - lenAt wr s 1)
  case atStart => exact ⟨0, .inl rfl, by rw [growNs_zero]; exact ⟨ρ, A, HH.out, Gone.refl _ _⟩⟩
  case round =>
    obtain ⟨j, hj, ρ1, A1, h1, g1⟩ := hrel.out
    have hla := h1.nlenAt
    obtain ⟨a1, c1, hnv⟩ := ownsRow_slice (h1.at_ .nrow).1
    have hn1 := (h1.at_ .nrow).2.2
    have hlj := growNs_len M j
    have x1 := h1.cells.2.1
    rw [hnv] at x1
    have H1 := hid (⟨hnv, hj, g1, hla, hlj, h1⟩ : _ ∧ _ ∧ _ ∧ _ ∧ _ ∧ _)
    generalize hM1 : growNs M j = M1 at *
    have HM := hid hM1
    clear hM1
    generalize hNe : M1.N.length = n at *
    have HNe := hid hNe
    clear hNe hj hla hlj
    by_cases hlt : n < gn
    · have hlti : (n : Int) < (gn : Int) := by omega
      obtain ⟨hs, hs1, hs2, hs3⟩ := (h1.at_ .erow).1.ex
      obtain ⟨a2, c2, hev⟩ := ownsRow_slice hs2
      have hheap := h1.heap
      have hO1 := (h1.at_ .nrow).1
      have hb1 : ∀ k, A1.nv.ownBlock = some k → k ≠ s := fun k hk e => by
        subst e
        exact at_apart (p := Pt.nrow) (q := Pt.root) (by simp) k h1.root ((h1.at_ .nrow).2.1 k hk)
      have hb2 : ∀ k, A1.ev.ownBlock = some k → k ≠ s := fun k hk e => by
        subst e
        exact at_apart (p := Pt.erow) (q := Pt.root) (by simp) k h1.root ((h1.at_ .erow).1.blk k hk)
      have hb3 : ∀ k, A1.ev.ownBlock = some k → ¬ A1.nv.ownBlock = some k := fun k hk e => at_apart (p := Pt.nrow) (q := Pt.erow) (by simp) k ((h1.at_ .erow).1.blk k hk) ((h1.at_ .nrow).2.1 k e)
      have hyl := (h1.at_ .erow).2
      rw [HNe.out] at hO1 hyl
      rw [hyl] at hs2 hev
      unfold rootCells at hheap
      rw [hnv, hev] at hheap
      rw [hnv] at hO1 hb1 hb3
      rw [hev] at hs2 hb2 hb3
      have HE := hid (⟨hev, hs1, hs3, hyl⟩ : _ ∧ _ ∧ _ ∧ _)
      have HO := hid (⟨hheap, hO1, hs2, hb1, hb2, hb3⟩ : _ ∧ _ ∧ _ ∧ _ ∧ _ ∧ _)
      have hsl := h1.lt
      clear hheap hO1 hs2 hb1 hb2 hb3 hnv hev h1 g1 hs1 hs3 hyl
      go_wp2_with fail
      refine wp_region_sched (by kernel_rfl) 10 [5, 6, 7, 10] [0, 1, 2, 3, 4, 5, 6, 7, 8, 9, 10] (AgC [s] wr.drew) (by kernel_rfl) (AgC.refl _ _) ?_
      simp only [List.map_cons, List.map_nil, List.contains_cons, List.contains_nil, nth_zero, nth_succ, Nat.reduceBEq, Bool.or_false, Bool.or_true]
      repeat (refine sched_quiet (fun K hK => ?_); go_simp; refine hK _ ?_; clear hK K)
      refine sched_call (by first | rfl | go_simp) 129 #[] (by first | kernel_rfl | go_simp) (celnew_any _) ?_
      rintro e w1 ⟨c, rfl, k1, f1, hc⟩
      have hsc : ∀ (U : Nat → Prop), ¬ U s → ∀ j ∈ [s], j < wr.drew.heap.size ∧ ¬ U j := fun U hU j hj => by rw [List.mem_singleton.1 hj]; exact ⟨hsl, hU⟩
      have a1' := (AgC.refl [s] wr.drew).fr f1 (hsc No (fun e => e))
      refine ⟨_, rfl, a1', ?_⟩
      refine sched_loud (wpList_buildSlice1 rfl 73 92 (.tmp 18) rfl _ 1 8 Tryz.underlying73 infoPC (by decide) (by decide) (.pointer (some ⟨c, 0, none⟩)) rfl rfl ?_)
      intro w2 p2
      have p2' : New [Value.pointer (some ⟨c, 0, none⟩)].toArray 92 w1 w2 := p2
      have a2' := a1'.fr p2.fr (hsc No (fun e => e))
      refine sched_on a2' ?_
      refine sched_loud (wpList_app rfl (.tmp 17) (.tmp 19) 73 rfl 92 _ 1 8 Tryz.underlying73 infoPC rfl (by decide) (.slice a1 n c1) n (ptrs A1.x n) rfl (fd_owns (fd_owns (w := wr.drew) HO.out.2.1 f1) p2.fr) (.slice (some ⟨w1.heap.size, 0, none⟩) 1 1) 1 [.pointer (some ⟨c, 0, none⟩)] rfl (Rd.block p2'.at_ 1 1 1 rfl (by simp [Value.oneCell']) (Nat.le_refl _) (by simp [maxLen])) (by unfold maxLen; omega) (by omega) ?_)
      intro v3 w3 o3 f3 b3 _
      have hcv : ¬ (Value.slice a1 n c1).ownBlock = some s := fun e => HO.out.2.2.2.1 s e rfl
      refine sched_on (a2'.fr f3 (hsc _ hcv)) ?_
      have hg3 := f3.keep (p2.keep (f1.keep (w := wr.drew) HO.out.1 (fun e => e))) hcv
      obtain ⟨p3, n3, rfl⟩ := ownsRow_slice o3
      have H3 := hid (⟨k1, (Fr.refl No wr).drew.thenNo f1, hc, p2.fr, o3, f3, b3, hg3⟩ : _ ∧ _ ∧ _ ∧ _ ∧ _ ∧ _ ∧ _ ∧ _)
      clear k1 f1 hc p2 p2' a2' a1' o3 f3 b3 hg3 hcv hsc
      repeat (refine sched_quiet (fun K hK => ?_); go_simp; refine hK _ ?_; clear hK K)
      refine sched_loud (wpList_store1 rfl 73 (.tmp 22) (.tmp 20) rfl s 1 rfl _ _ (.slice p3 (n + 1) n3) rfl (by kernel_rfl) H3.out.2.2.2.2.2.2.2 (by simp) rfl ?_)
      intro w4 q4
      have Q4 := hid (show Put s #[.pointer (some ⟨A1.c, 0, none⟩), .slice p3 (n + 1) n3, A1.dv, A1.fv, .pointer (some ⟨A1.o, 0, none⟩), .pointer (some ⟨A1.i, 0, none⟩), .map (some A1.m), .slice a2 n c2] 80 w3 w4 from q4)
      clear q4
      refine sched_last ?_
      refine sched_nil ?_
      have O2 : Hid (w4.ownsRow 0 165 1 (.slice a2 n c2) n hs) := hid (Q4.out.fr.owns (H3.out.2.2.2.2.2.1.owns (fd_owns (fd_owns HO.out.2.2.1 H3.out.2.1) H3.out.2.2.2.1) HO.out.2.2.2.2.2) HO.out.2.2.2.2.1)
      have x7 := cellOf Q4.out.at_ 7
      simp at x7
      go_wp2_with (first | (refine wpList_buildSlice1 rfl 78 165 (.const (.slice none 0 0)) rfl _ 1 24 Tryz.underlying78 infoEn (by decide) (by decide) (.slice none 0 0) rfl rfl ?_; intro w5 p5; have P5 := hid (⟨p5.fr, show w5.heap[w4.heap.size]? = some (.cells [Value.slice none 0 0].toArray 165 (0, 0)) from p5.at_⟩ : _ ∧ _); clear p5) | (refine wpList_app rfl (.tmp 27) (.tmp 28) 78 rfl 165 _ 1 24 Tryz.underlying78 infoEn rfl (by decide) (.slice a2 n c2) n hs rfl (fd_owns O2.out P5.out.1) (.slice (some ⟨w4.heap.size, 0, none⟩) 1 1) 1 [.slice none 0 0] rfl (Rd.block P5.out.2 1 1 1 rfl (by simp [Value.oneCell']) (Nat.le_refl _) (by simp [maxLen])) (by unfold maxLen; omega) (by omega) ?_; intro v6 w6 o6 f6 b6 _; have hcv : ¬ (Value.slice a2 n c2).ownBlock = some s := (fun e => HO.out.2.2.2.2.1 s e rfl); have hg6 := f6.keep (P5.out.1.keep Q4.out.at_ (fun e => e)) hcv; obtain ⟨p6, n6, rfl⟩ := ownsRow_slice o6; have H6 := hid (⟨o6, f6, b6, hg6⟩ : _ ∧ _ ∧ _ ∧ _); clear o6 f6 b6 hg6 hcv) | (refine wpList_store1 rfl 78 (.tmp 31) (.tmp 29) rfl s 7 rfl _ _ (.slice p6 (n + 1) n6) rfl (by kernel_rfl) H6.out.2.2.2 (by simp) rfl ?_; intro w7 q7; have Q7 := hid (show Put s #[.pointer (some ⟨A1.c, 0, none⟩), .slice p3 (n + 1) n3, A1.dv, A1.fv, .pointer (some ⟨A1.o, 0, none⟩), .pointer (some ⟨A1.i, 0, none⟩), .map (some A1.m), .slice p6 (n + 1) n6] 80 w6 w7 from q7); clear q7))
      have HD : Hid (Turns w ρ s (growNs M (j + 1)) F w7 ∧ lenAt w7 s 1 = n + 1) := hid (by
        obtain ⟨hnv, hj, g1, hla, hlj, h1⟩ := H1.out
        obtain ⟨hev, hs1, hs3, hyl⟩ := HE.out
        have hn := HNe.out
        have hm := HM.out
        obtain ⟨k1, f1, hc, p2f, o3, f3, b3, -⟩ := H3.out
        obtain ⟨o6, f6, b6, -⟩ := H6.out
        have hcl := k1.bound c rfl
        obtain ⟨ρ7, gg, o7, o8⟩ := grow_raw h1 h1.root .nrow .erow (.node M1.N.length) (by simp) (by simp) (by simp) (by simp) (by simp) (fun k hk => (h1.at_ .nrow).2.1 k (by rw [hnv]; exact hk)) (fun k hk => (h1.at_ .erow).1.blk k (by rw [hev]; exact hk)) f1 hc hcl p2f o3 f3 b3 Q4.out P5.out.1 o6 f6 b6 Q7.out
        rw [← hnv, ← hev] at gg
        have h7 := growN_at (hs := hs) h1 gg (by omega) ⟨[], k1, VersIn.nil _ _⟩ (by rw [hn]; exact o7) (by rw [hyl]; exact o8) ⟨by omega, hs3⟩ Q7.out.at_
        rw [← hm, growNs_succ] at h7
        have hl7 := h7.nlenAt
        rw [growNs_len] at hl7
        exact ⟨⟨_, _, h7, g1.trans gg.gone⟩, by omega⟩)
      go_roundw
      case rel =>
        (repeat apply Exists.intro)
        exact ⟨hid ⟨j + 1, .inr (by have := H1.out.2.2.2.2.1; omega), HD.out.1⟩, rfl⟩
      case measure =>
        have e1 := HD.out.2
        have e2 := H1.out.2.2.2.1
        omega
    · have hlti : ¬ (n : Int) < (gn : Int) := by omega
      have hjj : j = gn - M.N.length := by have := H1.out.2.1; have := H1.out.2.2.2.2.1; omega
      subst hjj
      have HG := hid (⟨ρ1, A1, h1, g1⟩ : Turns w ρ s M1 F wr)
      obtain ⟨wo, hwo⟩ : ∃ wo : World, wo = wr := ⟨_, rfl⟩
      have HW := hid hwo
      clear h1 g1 hnv hwo hn1 H1 HNe
      go_wp2_with fail
      have hma : growNs M (gn - M.N.length) = M1 := HM.out
      generalize hMb : M1 = Ma at *
      have HMa := hid hma
      clear hma hMb HM
      go_loopw [] (fun wr => Hid (∃ j, (j = 0 ∨ Ma.E.length + j ≤ ge) ∧ Turns w ρ s (growEs Ma j) F wr)) (fun wr => ge - lenAt wr s 2)
      case atStart => exact ⟨0, .inl rfl, by rw [growEs_zero]; exact HG.out⟩
      case round =>
        obtain ⟨j, hj, ρ1, A1, h1, g1⟩ := hrel.out
        have hla := h1.elenAt
        obtain ⟨a1, c1, hnv⟩ := ownsRow_slice (h1.at_ .edrow).1
        have hn1 := (h1.at_ .edrow).2.2
        have hlj := growEs_len Ma j
        have x1 := h1.cells.2.2.1
        rw [hnv] at x1
        have H1 := hid (⟨hnv, hj, g1, hla, hlj, h1⟩ : _ ∧ _ ∧ _ ∧ _ ∧ _ ∧ _)
        generalize hM1 : growEs Ma j = M1 at *
        have HM := hid hM1
        clear hM1
        generalize hNe : M1.E.length = n at *
        have HNe := hid hNe
        clear hNe hj hla hlj
        by_cases hlt : n < ge
        · have hlti : (n : Int) < (ge : Int) := by omega
          have hs2 := (h1.at_ .enrow).1
          obtain ⟨a2, c2, hev⟩ := ownsRow_slice hs2
          have hheap := h1.heap
          have hO1 := (h1.at_ .edrow).1
          have hb1 : ∀ k, A1.dv.ownBlock = some k → k ≠ s := fun k hk e => by
            subst e
            exact at_apart (p := Pt.edrow) (q := Pt.root) (by simp) k h1.root ((h1.at_ .edrow).2.1 k hk)
          have hb2 : ∀ k, A1.fv.ownBlock = some k → k ≠ s := fun k hk e => by
            subst e
            exact at_apart (p := Pt.enrow) (q := Pt.root) (by simp) k h1.root ((h1.at_ .enrow).2.1 k hk)
          have hb3 : ∀ k, A1.fv.ownBlock = some k → ¬ A1.dv.ownBlock = some k := fun k hk e => at_apart (p := Pt.edrow) (q := Pt.enrow) (by simp) k ((h1.at_ .enrow).2.1 k hk) ((h1.at_ .edrow).2.1 k e)
          have hyl := (h1.at_ .enrow).2.2.1
          rw [HNe.out] at hO1 hyl
          rw [hyl] at hs2 hev
          unfold rootCells at hheap
          rw [hnv, hev] at hheap
          rw [hnv] at hO1 hb1 hb3
          rw [hev] at hs2 hb2 hb3
          have HE := hid (⟨hev, hyl⟩ : _ ∧ _)
          have HO := hid (⟨hheap, hO1, hs2, hb1, hb2, hb3⟩ : _ ∧ _ ∧ _ ∧ _ ∧ _ ∧ _)
          have hsl := h1.lt
          clear hheap hO1 hs2 hb1 hb2 hb3 hnv hev h1 g1 hyl
          go_wp2_with fail
          refine wp_region_sched (by kernel_rfl) 10 [5, 6, 7, 10] [0, 1, 2, 3, 4, 5, 6, 7, 8, 9, 10] (AgC [s] wr.drew) (by kernel_rfl) (AgC.refl _ _) ?_
          simp only [List.map_cons, List.map_nil, List.contains_cons, List.contains_nil, nth_zero, nth_succ, Nat.reduceBEq, Bool.or_false, Bool.or_true]
          repeat (refine sched_quiet (fun K hK => ?_); go_simp; refine hK _ ?_; clear hK K)
          refine sched_call (by first | rfl | go_simp) 130 #[] (by first | kernel_rfl | go_simp) (Ec.celnew_any _) ?_
          rintro e w1 ⟨c, rfl, k1, f1, hc⟩
          have hsc : ∀ (U : Nat → Prop), ¬ U s → ∀ j ∈ [s], j < wr.drew.heap.size ∧ ¬ U j := fun U hU j hj => by rw [List.mem_singleton.1 hj]; exact ⟨hsl, hU⟩
          have a1' := (AgC.refl [s] wr.drew).fr f1 (hsc No (fun e => e))
          refine ⟨_, rfl, a1', ?_⟩
          refine sched_loud (wpList_buildSlice1 rfl 74 100 (.tmp 44) rfl _ 1 8 Tryz.underlying74 infoPE (by decide) (by decide) (.pointer (some ⟨c, 0, none⟩)) rfl rfl ?_)
          intro w2 p2
          have p2' : New [Value.pointer (some ⟨c, 0, none⟩)].toArray 100 w1 w2 := p2
          have a2' := a1'.fr p2.fr (hsc No (fun e => e))
          refine sched_on a2' ?_
          refine sched_loud (wpList_app rfl (.tmp 43) (.tmp 45) 74 rfl 100 _ 1 8 Tryz.underlying74 infoPE rfl (by decide) (.slice a1 n c1) n (ptrs A1.z n) rfl (fd_owns (fd_owns (w := wr.drew) HO.out.2.1 f1) p2.fr) (.slice (some ⟨w1.heap.size, 0, none⟩) 1 1) 1 [.pointer (some ⟨c, 0, none⟩)] rfl (Rd.block p2'.at_ 1 1 1 rfl (by simp [Value.oneCell']) (Nat.le_refl _) (by simp [maxLen])) (by unfold maxLen; omega) (by omega) ?_)
          intro v3 w3 o3 f3 b3 _
          have hcv : ¬ (Value.slice a1 n c1).ownBlock = some s := fun e => HO.out.2.2.2.1 s e rfl
          refine sched_on (a2'.fr f3 (hsc _ hcv)) ?_
          have hg3 := f3.keep (p2.keep (f1.keep (w := wr.drew) HO.out.1 (fun e => e))) hcv
          obtain ⟨p3, n3, rfl⟩ := ownsRow_slice o3
          have H3 := hid (⟨k1, (Fr.refl No wr).drew.thenNo f1, hc, p2.fr, o3, f3, b3, hg3⟩ : _ ∧ _ ∧ _ ∧ _ ∧ _ ∧ _ ∧ _ ∧ _)
          clear k1 f1 hc p2 p2' a2' a1' o3 f3 b3 hg3 hcv hsc
          repeat (refine sched_quiet (fun K hK => ?_); go_simp; refine hK _ ?_; clear hK K)
          refine sched_loud (wpList_store1 rfl 74 (.tmp 48) (.tmp 46) rfl s 2 rfl _ _ (.slice p3 (n + 1) n3) rfl (by kernel_rfl) H3.out.2.2.2.2.2.2.2 (by simp) rfl ?_)
          intro w4 q4
          have Q4 := hid (show Put s #[.pointer (some ⟨A1.c, 0, none⟩), A1.nv, .slice p3 (n + 1) n3, .slice a2 n c2, .pointer (some ⟨A1.o, 0, none⟩), .pointer (some ⟨A1.i, 0, none⟩), .map (some A1.m), A1.ev] 80 w3 w4 from q4)
          clear q4
          refine sched_last ?_
          refine sched_nil ?_
          have O2 : Hid (w4.ownsRow 0 181 2 (.slice a2 n c2) n (ecells M1.D)) := hid (Q4.out.fr.owns (H3.out.2.2.2.2.2.1.owns (fd_owns (fd_owns HO.out.2.2.1 H3.out.2.1) H3.out.2.2.2.1) HO.out.2.2.2.2.2) HO.out.2.2.2.2.1)
          have x7 := cellOf Q4.out.at_ 3
          simp at x7
          go_wp2_with (first | (refine wpList_buildSlice1 rfl 75 181 (.tmp 54) rfl _ 2 16 Tryz.underlying75 infoEnd (by decide) (by decide) (.agg #[.int .i64 0, .int .i64 0]) rfl rfl ?_; intro w5 p5; have P5 := hid (⟨p5.fr, show w5.heap[w4.heap.size]? = some (.cells [Value.int .i64 0, .int .i64 0].toArray 181 (0, 0)) from p5.at_⟩ : _ ∧ _); clear p5) | (refine wpList_app rfl (.tmp 53) (.tmp 55) 75 rfl 181 _ 2 16 Tryz.underlying75 infoEnd rfl (by decide) (.slice a2 n c2) n (ecells M1.D) rfl (fd_owns O2.out P5.out.1) (.slice (some ⟨w4.heap.size, 0, none⟩) 1 1) 1 [.int .i64 0, .int .i64 0] rfl (Rd.block P5.out.2 1 2 1 rfl (by simp [Value.oneCell']) (Nat.le_refl _) (by simp [maxLen])) (by unfold maxLen; omega) (by omega) ?_; intro v6 w6 o6 f6 b6 _; have hcv : ¬ (Value.slice a2 n c2).ownBlock = some s := (fun e => HO.out.2.2.2.2.1 s e rfl); have hg6 := f6.keep (P5.out.1.keep Q4.out.at_ (fun e => e)) hcv; obtain ⟨p6, n6, rfl⟩ := ownsRow_slice o6; have H6 := hid (⟨o6, f6, b6, hg6⟩ : _ ∧ _ ∧ _ ∧ _); clear o6 f6 b6 hg6 hcv) | (refine wpList_store1 rfl 75 (.tmp 58) (.tmp 56) rfl s 3 rfl _ _ (.slice p6 (n + 1) n6) rfl (by kernel_rfl) H6.out.2.2.2 (by simp) rfl ?_; intro w7 q7; have Q7 := hid (show Put s #[.pointer (some ⟨A1.c, 0, none⟩), A1.nv, .slice p3 (n + 1) n3, .slice p6 (n + 1) n6, .pointer (some ⟨A1.o, 0, none⟩), .pointer (some ⟨A1.i, 0, none⟩), .map (some A1.m), A1.ev] 80 w6 w7 from q7); clear q7))
          have HD : Hid (Turns w ρ s (growEs Ma (j + 1)) F w7 ∧ lenAt w7 s 2 = n + 1) := hid (by
            obtain ⟨hnv, hj, g1, hla, hlj, h1⟩ := H1.out
            obtain ⟨hev, hyl⟩ := HE.out
            have hn := HNe.out
            have hm := HM.out
            obtain ⟨k1, f1, hc, p2f, o3, f3, b3, -⟩ := H3.out
            obtain ⟨o6, f6, b6, -⟩ := H6.out
            have hcl := k1.bound c rfl
            obtain ⟨ρ7, gg, o7, o8⟩ := grow_raw h1 h1.root .edrow .enrow (.edge M1.E.length) (by simp) (by simp) (by simp) (by simp) (by simp) (fun k hk => (h1.at_ .edrow).2.1 k (by rw [hnv]; exact hk)) (fun k hk => (h1.at_ .enrow).2.1 k (by rw [hev]; exact hk)) f1 hc hcl p2f o3 f3 b3 Q4.out P5.out.1 o6 f6 b6 Q7.out
            rw [← hnv, ← hev] at gg
            have h7 := growE_at h1 gg (by omega) k1 (by rw [hn]; exact o7) (by rw [hyl]; exact o8) Q7.out.at_
            rw [← hm, growEs_succ] at h7
            have hl7 := h7.elenAt
            rw [growEs_len] at hl7
            exact ⟨⟨_, _, h7, g1.trans gg.gone⟩, by omega⟩)
          go_roundw
          case rel =>
            (repeat apply Exists.intro)
            exact ⟨hid ⟨j + 1, .inr (by have := H1.out.2.2.2.2.1; omega), HD.out.1⟩, rfl⟩
          case measure =>
            have e1 := HD.out.2
            have e2 := H1.out.2.2.2.1
            omega
        · have hlti : ¬ (n : Int) < (ge : Int) := by omega
          have hjj : j = ge - Ma.E.length := by have := H1.out.2.1; have := H1.out.2.2.2.2.1; omega
          subst hjj
          have HF := hid (⟨ρ1, A1, h1, g1⟩ : Turns w ρ s M1 F wr)
          clear h1 g1 hnv hn1 H1 HNe
          go_wp2_with fail
          go_end0
          refine ⟨rfl, ?_⟩
          have e := HF.out
          rw [← HM.out, ← HMa.out] at e
          exact e
end Go.Proofs.YtibfpkfpmkghhaaGreatDoor

namespace Go.Proofs.YtibfpkfpmkghhaaGreatDoor
open Go.RowKit Go.Lig

/-- is a version there that is not gone? -/
def there {α : Type} (L : List (Ver α)) : Bool := L.any fun y => !y.gone
def linkM (M : PSt) (k : Nat) : PSt := match M.D[k]? with
  | some (f, t) => if there (M.E[k]?.getD []) then { M with O := addI M.O f ((k : Int) + 1), I := addI M.I t ((k : Int) + 1) } else { M with O := cutI M.O f ((k : Int) + 1), I := cutI M.I t ((k : Int) + 1) }
  | none => M
theorem there_step {L : List (Ver EdgeV)} {i : Nat} {y : Ver EdgeV} (h : L[i]? = some y) : there (L.take (i + 1)) = (there (L.take i) || !y.gone) := by
  unfold there
  rw [List.take_add_one, h, Option.toList_some, List.any_append]
  simp
theorem links1_any (w : World) (v : EdgeV) (b : Nat) (x : Bool) (hb : w.heap[b]? = some (.cells #[.bool x] 4 (0, 0))) :
    Calls Tryz.prog 126 #[.agg #[.int .i64 v.from_, .int .i64 v.to_, .string v.type, .float .f64 v.w], .pointer (some ⟨b, 0, none⟩)] w fun e w' => e = .returned (.tuple #[]) ∧ w'.heap[b]? = some (.cells #[.bool true] 4 (0, 0)) ∧ Fr (fun k => k = b) w w' := by
  have hf : Fr No w (w.alloc (.cells #[.int .i64 v.from_, .int .i64 v.to_, .string v.type, .float .f64 v.w] 42)) := (Fr.refl No w).alloc _
  have HB := hid (⟨hf.keep hb (fun e => e), hf⟩ : _ ∧ _)
  clear hf hb
  go_enter Tryz.func126, Tryz.ntmps126
  go_wp2_with (refine wpList_store1 rfl 4 (.tmp 1) (.const (.bool true)) rfl b 0 rfl _ _ (.bool true) rfl (by kernel_rfl) HB.out.1 (by simp) rfl ?_; intro w2 p2; have P2 := hid p2; clear p2)
  go_end0
  exact ⟨rfl, P2.out.at_, (HB.out.2.mono (fun _ _ e => e.elim)).thenS P2.out.fr⟩
theorem enter_links1 : ∀ args w, (callFunc 126 args).run Tryz.prog w = .ok (.enter 126 args) w := enters_of Tryz.func126 (by kernel_rfl) rfl
theorem key_small (n : Nat) (h : n ≤ 1000000) : keyOk (n : Int) := by
  have e : (Lit.int .i64 (n : Int)).wf = (decide (IntKind.i64.min ≤ (n : Int)) && decide ((n : Int) ≤ IntKind.i64.max)) := rfl
  have e1 : IntKind.i64.min = -9223372036854775808 := rfl
  have e2 : IntKind.i64.max = 9223372036854775807 := rfl
  unfold keyOk
  rw [e, Bool.and_eq_true, e1, e2]
  exact ⟨decide_eq_true (by omega), decide_eq_true (by omega)⟩
theorem addI_len (I : List (Int × Int)) (k x : Int) : (addI I k x).length ≤ I.length + 1 := by
  unfold addI
  split <;> simp
theorem cutI_len (I : List (Int × Int)) (k x : Int) : (cutI I k x).length ≤ I.length := List.length_filter_le _ _
theorem ChP.add {w : World} {T : Nat → Prop} {c F : Nat} {I : List (Int × Int)} (h : ChP w T c I F) (hF : F ≤ 1000000) (k x : Int) (hk : keyOk k) (hx : keyOk x) :
    Calls Tryz.prog 127 #[.pointer (some ⟨c, 0, none⟩), .int .i64 k, .int .i64 x] w fun e w' => ∃ b, e = .returned (.bool b) ∧ ∃ T', ChP w' T' c (addI I k x) (F + 1) ∧ Fr T w w' ∧ Grown w T T' ∧ ∀ b, T' b → b < w'.heap.size := by
  obtain ⟨B, r, m, h1, h2, h3⟩ := h.ex
  refine (add_any w c I B r m h1 k x hk hx (by omega) (by have := h.len; omega)).mono ?_
  rintro e w' ⟨rfl, B', r', k1, f1, g1⟩
  exact ⟨_, rfl, fun b => r' b ≠ none, ⟨⟨B', r', m + 1, k1, fun _ e => e, by omega⟩, Nat.le_trans (addI_len _ _ _) (Nat.succ_le_succ h.len)⟩, f1.mono (fun b _ hb => h2 b hb), fun b hb => (g1 b hb).imp (h2 b) id, k1.bound⟩
theorem ChP.cut {w : World} {T : Nat → Prop} {c F : Nat} {I : List (Int × Int)} (h : ChP w T c I F) (hF : F ≤ 1000000) (k x : Int) (hk : keyOk k) (hx : keyOk x) :
    Calls Tryz.prog 128 #[.pointer (some ⟨c, 0, none⟩), .int .i64 k, .int .i64 x] w fun e w' => ∃ b, e = .returned (.bool b) ∧ ChP w' T c (cutI I k x) F ∧ Fr T w w' := by
  obtain ⟨B, r, m, h1, h2, h3⟩ := h.ex
  refine (cut_any w c I B r m h1 k x hk hx (by have := h.len; omega)).mono ?_
  rintro e w' ⟨rfl, k1, f1⟩
  exact ⟨_, rfl, ⟨⟨B, r, m, k1, h2, h3⟩, Nat.le_trans (cutI_len _ _ _) h.len⟩, f1.mono (fun b _ hb => h2 b hb)⟩
theorem ChP.walk {w : World} {T : Nat → Prop} {c F : Nat} {I : List (Int × Int)} (h : ChP w T c I F) (hF : F ≤ 1000000) (k : Int) (hk : keyOk k) :
    Calls Tryz.prog 72 #[.pointer (some ⟨c, 0, none⟩), .int .i64 k] w fun e w' => ∃ v, e = .returned v ∧ OwnI w w' v (ids I k) := by
  obtain ⟨B, r, m, h1, h2, h3⟩ := h.ex
  exact walk_any w c I B r m h1 k hk (by have := h.len; omega)
theorem linkM_some {M : PSt} {k : Nat} {f t : Int} {L : List (Ver EdgeV)} (h1 : M.D[k]? = some (f, t)) (h2 : M.E[k]? = some L) : linkM M k = if there L then { M with O := addI M.O f ((k : Int) + 1), I := addI M.I t ((k : Int) + 1) } else { M with O := cutI M.O f ((k : Int) + 1), I := cutI M.I t ((k : Int) + 1) } := by
  unfold linkM
  rw [h1, h2]
  rfl
theorem links_each (w : World) (ρ : Nat → Option Pt) (s : Nat) (A : Ad) (M : PSt) (F : Nat) (h : StAt w ρ s A M F) (k : Nat) (L : List (Ver EdgeV)) (hL : M.E[k]? = some L) (b : Nat) (hb : w.heap[b]? = some (.cells #[.bool false] 4 (0, 0))) (hn : ¬ Go.Lig.Own ρ b) :
    Calls Tryz.prog 125 #[.pointer (some ⟨A.z k, 0, none⟩), .func (.func 126) #[] #[.pointer (some ⟨b, 0, none⟩)]] w fun e w' => e = .returned (.tuple #[]) ∧ w'.heap[b]? = some (.cells #[.bool (there L)] 4 (0, 0)) ∧ Fr (fun k => k = b) w w' := by
  have hc := h.ecell hL
  obtain ⟨g, hr, -⟩ := hc.row
  have := Ec.each_any w (A.z k) g L hc.small 126 #[.pointer (some ⟨b, 0, none⟩)] enter_links1 (fun i W => W.heap[b]? = some (.cells #[.bool (there (L.take i))] 4 (0, 0)) ∧ Fr (fun k => k = b) w W) ⟨by simpa [there] using hb, Fr.refl _ _⟩
    (fun i W W' h1 f => ⟨f.keep h1.1 (fun e => e), h1.2.thenNo f⟩) (fun i W h1 => ?_) (fun i y W hy hg h1 => ⟨by rw [there_step hy, hg]; simpa using h1.1, h1.2⟩)
    (fun i y W hy hg h1 => (links1_any W y.v b _ h1.1).mono fun e W' ⟨e1, e2, e3⟩ => ⟨e1, by rw [there_step hy, hg]; simpa using e2, h1.2.thenS e3⟩)
  · rwa [List.take_length] at this
  · have hc' := hc.frame h1.2 (fun k hk e => by subst e; exact hn (at_own _ hk))
    obtain ⟨a, n, g1, g2, g3, g4⟩ := hr.ex
    refine ⟨a, n, h1.2.keep g1 (fun e => hn (by rw [← e]; exact at_own _ hc.root)), h1.2.owns g2 (fun j hj e => ?_), g3, g4⟩
    by_cases hl : 0 < L.length
    · obtain ⟨v, q1, q2, q3⟩ := hc.ex
      rw [g1] at q1
      simp only [Option.some.injEq, Obj.cells.injEq, Array.mk.injEq, List.cons.injEq, and_true] at q1
      subst q1
      exact hn (by rw [← e]; exact at_own _ (q3 j hj).1)
    · obtain ⟨v, q1, q2, q3⟩ := hc.ex
      rw [g1] at q1
      simp only [Option.some.injEq, Obj.cells.injEq, Array.mk.injEq, List.cons.injEq, and_true] at q1
      subst q1
      exact hn (by rw [← e]; exact at_own _ (q3 j hj).1)
set_option maxRecDepth 100000 in
set_option maxHeartbeats 1000000 in
theorem links_any (w : World) (ρ : Nat → Option Pt) (s : Nat) (A : Ad) (M : PSt) (F : Nat) (h : StAt w ρ s A M F) (k : Nat) (hk : k < M.E.length) (hF : F < 1000000) :
    Calls Tryz.prog 61 #[.pointer (some ⟨s, 0, none⟩), .int .i64 ((k : Int) + 1)] w fun e w' => e = .returned (.tuple #[]) ∧ TurnsA w ρ s A (linkM M k) (F + 2) w' := by
  obtain ⟨hfo, hfb, hfl, hfk⟩ := h.at_ .enrow
  obtain ⟨L, hL⟩ : ∃ L, M.E[k]? = some L := ⟨_, List.getElem?_eq_getElem hk⟩
  obtain ⟨⟨f, t⟩, hD⟩ : ∃ p, M.D[k]? = some p := ⟨_, List.getElem?_eq_getElem (by omega)⟩
  have hkk := hfk _ (List.mem_of_getElem? hD)
  have hkx : keyOk ((k : Int) + 1) := by have := h.elen; exact key_small (k + 1) (by omega)
  obtain ⟨af, cf, hfv⟩ := ownsRow_slice hfo
  have x3 := h.cells.2.2.2.1
  rw [hfv] at x3 hfo
  obtain ⟨gf, cur, rfl, -, -⟩ := owns_at hfo (by omega)
  have y0 := owns_cell hfo rfl (j := k * 2 + 0) (u := .int .i64 f) (by rw [show ecells M.D = M.D.flatMap (fun p => [Value.int .i64 p.1, .int .i64 p.2]) from rfl, flat_get (m := 2) (fun _ => rfl) _ k _ hD 0 (by decide)]; rfl)
  have y1 := owns_cell hfo rfl (j := k * 2 + 1) (u := .int .i64 t) (by rw [show ecells M.D = M.D.flatMap (fun p => [Value.int .i64 p.1, .int .i64 p.2]) from rfl, flat_get (m := 2) (fun _ => rfl) _ k _ hD 1 (by decide)]; rfl)
  rw [Nat.add_zero] at y0
  have n2 : IntKind.i64.wrap (k : Int) = (k : Int) := IntWalk.i64_in _ (by have := h.elen; omega)
  have HH := hid (⟨h, hk, hF, hL, hD⟩ : _ ∧ _ ∧ _ ∧ _ ∧ _)
  have HK := hid (⟨hkk, hkx⟩ : _ ∧ _)
  have hkD : k < M.D.length := by omega
  have hDl : M.D.length ≤ 1000 := by have := h.elen; omega
  have hsl := h.lt
  have HU := hid (show ¬ Go.Lig.Own ρ w.heap.size from fun e => by have := h.bound _ e; omega)
  have HU1 := hid (show ¬ Go.Lig.Own ρ (w.heap.size + 1) from fun e => by have := h.bound _ e; omega)
  generalize M.D.length = n at *
  clear h hk hF hL hD hfo hfb hfl hfk hkk hkx hfv
  go_enter Tryz.func61, Tryz.ntmps61
  go_wp2_with (first | (refine wpList_storeO rfl 181 (.tmp 4) (.tmp 13) rfl w.heap.size 0 rfl [.int .i64 0, .int .i64 0] 181 [.int .i64 f, .int .i64 t] rfl (by kernel_rfl) (heap2 w _ _).1 (by simp) (by simp [Value.oneCell']) ?_; intro w1 p1; have P1 := hid (⟨(((Fr.refl No w).alloc _).alloc _).fresh p1.fr (fun k e => by omega), show w1.heap[w.heap.size]? = some (.cells #[.int .i64 f, .int .i64 t] 181 (0, 0)) from p1.at_, p1.keep (heap2 w _ _).2 (by omega)⟩ : _ ∧ _ ∧ _); clear p1) | (refine wpList_store1 rfl 4 (.tmp 5) (.const (.bool false)) rfl (w.heap.size + 1) 0 rfl _ _ (.bool false) rfl (by kernel_rfl) P1.out.2.2 (by simp) rfl ?_; intro w2 p2; have P2 := hid (⟨P1.out.1.fresh p2.fr (fun k e => by omega), p2.keep P1.out.2.1 (by omega), show w2.heap[w.heap.size + 1]? = some (.cells #[.bool false] 4 (0, 0)) from p2.at_⟩ : _ ∧ _ ∧ _); clear p2) | (go_at_call 66; refine (edge_any _ ρ s A M F (HH.out.1.frame P2.out.1) _).mono ?_; rintro e w3 ⟨rfl, rfl⟩; rw [edP_some A M k HH.out.2.1]))
  refine (links_each _ ρ s A M F (HH.out.1.frame P2.out.1) k L HH.out.2.2.2.1 _ P2.out.2.2 HU1.out).mono ?_
  rintro e w6 ⟨rfl, hb6, f6⟩
  have HE := hid (⟨P2.out.1.fresh' f6 (fun k e => by omega), hb6, f6.keep P2.out.2.1 (by omega)⟩ : _ ∧ _ ∧ _)
  clear hb6 f6 y0 y1
  cases hth : there L with
  | true =>
    rw [hth] at HE
    obtain ⟨d0, d1⟩ := cells2 (HE.out.2.2)
    have d5 := cells1 HE.out.2.1
    have h6 := HH.out.1.frame HE.out.1
    have x4 := h6.cells.2.2.2.2.1
    have HS6 := hid (⟨h6.lt, lt_of_block HE.out.2.2⟩ : _ ∧ _)
    have HT := hid hth
    clear h6 hth x3
    go_wp2_with fail
    refine wp_region_sched (by kernel_rfl) 7 [7] [0, 1, 2, 3, 4, 5, 6, 7] (AgC [s, w.heap.size] w6.drew) (by kernel_rfl) (AgC.refl _ _) ?_
    simp only [List.map_cons, List.map_nil, List.contains_cons, List.contains_nil, nth_zero, nth_succ, Nat.reduceBEq, Bool.or_false]
    repeat (refine sched_quiet (fun K hK => ?_); go_simp; refine hK _ ?_; clear hK K)
    refine sched_callL (by first | rfl | go_simp) 127 #[.pointer (some ⟨A.o, 0, none⟩), .int .i64 f, .int .i64 ((k : Int) + 1)] (by first | kernel_rfl | go_simp) (ChP.add ((HH.out.1.frame HE.out.1.drew).at_ .out) (by have := HH.out.2.2.1; omega) f ((k : Int) + 1) HK.out.1.1 HK.out.2) ?_
    rintro e w7 ⟨b7, rfl, T7, k7, f7, g7, bd7⟩
    refine ⟨_, rfl, ?_⟩
    have h6 := HH.out.1.frame HE.out.1.drew
    have t7 := h6.out_ (F' := F + 1) k7 f7 g7 bd7 (Nat.le_succ _)
    obtain ⟨ρ7, h7, g7⟩ := t7
    have g67 := (Gone.no (U := Go.Lig.Own ρ) HE.out.1.drew).trans g7
    obtain ⟨hb7, hu7⟩ := g7.keep (w := w6.drew) HE.out.2.2 HU.out
    obtain ⟨e0, e1⟩ := cells2 hb7
    have x5 := h7.cells.2.2.2.2.2.1
    have H7 := hid (⟨h7, g67⟩ : _ ∧ _)
    have HS7 := hid (⟨h7.lt, lt_of_block hb7⟩ : _ ∧ _)
    clear h6 k7 f7 g7 g67 h7 hb7 hu7 x4 d0 d1 d5 bd7
    refine sched_nil ?_
    go_wp2_with fail
    refine wp_region_sched (by kernel_rfl) 7 [7] [0, 1, 2, 3, 4, 5, 6, 7] (AgC [s, w.heap.size] w7.drew) (by kernel_rfl) (AgC.refl _ _) ?_
    simp only [List.map_cons, List.map_nil, List.contains_cons, List.contains_nil, nth_zero, nth_succ, Nat.reduceBEq, Bool.or_false]
    repeat (refine sched_quiet (fun K hK => ?_); go_simp; refine hK _ ?_; clear hK K)
    refine sched_callL (by first | rfl | go_simp) 127 #[.pointer (some ⟨A.i, 0, none⟩), .int .i64 t, .int .i64 ((k : Int) + 1)] (by first | kernel_rfl | go_simp) (ChP.add ((H7.out.1.frame (Fr.refl No w7).drew).at_ .inn) (by have := HH.out.2.2.1; omega) t ((k : Int) + 1) HK.out.1.2 HK.out.2) ?_
    rintro e w8 ⟨b8, rfl, T8, k8, f8, g8, bd8⟩
    refine ⟨_, rfl, ?_⟩
    have h7 := H7.out.1.frame (Fr.refl No w7).drew
    have t8 := h7.inn_ (F' := F + 2) (k8.more (by omega)) f8 g8 bd8 (by omega)
    have T8' := hid t8
    clear t8 h7 k8 f8 g8 bd8
    refine sched_nil ?_
    go_wp2_with fail
    go_end0
    obtain ⟨ρ8, h8, g8⟩ := T8'.out
    rw [linkM_some HH.out.2.2.2.2 HH.out.2.2.2.1, HT.out]
    exact ⟨rfl, ρ8, h8, (H7.out.2.nextNo (Fr.refl No w7).drew).trans g8⟩
  | false =>
    rw [hth] at HE
    obtain ⟨d0, d1⟩ := cells2 (HE.out.2.2)
    have d5 := cells1 HE.out.2.1
    have h6 := HH.out.1.frame HE.out.1
    have x4 := h6.cells.2.2.2.2.1
    have HS6 := hid (⟨h6.lt, lt_of_block HE.out.2.2⟩ : _ ∧ _)
    have HT := hid hth
    clear h6 hth x3
    go_wp2_with fail
    refine wp_region_sched (by kernel_rfl) 7 [7] [0, 1, 2, 3, 4, 5, 6, 7] (AgC [s, w.heap.size] w6.drew) (by kernel_rfl) (AgC.refl _ _) ?_
    simp only [List.map_cons, List.map_nil, List.contains_cons, List.contains_nil, nth_zero, nth_succ, Nat.reduceBEq, Bool.or_false]
    repeat (refine sched_quiet (fun K hK => ?_); go_simp; refine hK _ ?_; clear hK K)
    refine sched_callL (by first | rfl | go_simp) 128 #[.pointer (some ⟨A.o, 0, none⟩), .int .i64 f, .int .i64 ((k : Int) + 1)] (by first | kernel_rfl | go_simp) (ChP.cut ((HH.out.1.frame HE.out.1.drew).at_ .out) (by have := HH.out.2.2.1; omega) f ((k : Int) + 1) HK.out.1.1 HK.out.2) ?_
    rintro e w7 ⟨b7, rfl, k7, f7⟩
    refine ⟨_, rfl, ?_⟩
    have h6 := HH.out.1.frame HE.out.1.drew
    have t7 := h6.out_ (F' := F + 1) (k7.more (Nat.le_succ _)) f7 (Grown.refl _ _) (fun b hb => Nat.lt_of_lt_of_le (h6.rho hb) f7.size) (Nat.le_succ _)
    obtain ⟨ρ7, h7, g7⟩ := t7
    have g67 := (Gone.no (U := Go.Lig.Own ρ) HE.out.1.drew).trans g7
    obtain ⟨hb7, hu7⟩ := g7.keep (w := w6.drew) HE.out.2.2 HU.out
    obtain ⟨e0, e1⟩ := cells2 hb7
    have x5 := h7.cells.2.2.2.2.2.1
    have H7 := hid (⟨h7, g67⟩ : _ ∧ _)
    have HS7 := hid (⟨h7.lt, lt_of_block hb7⟩ : _ ∧ _)
    clear h6 k7 f7 g7 g67 h7 hb7 hu7 x4 d0 d1 d5 
    refine sched_nil ?_
    go_wp2_with fail
    refine wp_region_sched (by kernel_rfl) 7 [7] [0, 1, 2, 3, 4, 5, 6, 7] (AgC [s, w.heap.size] w7.drew) (by kernel_rfl) (AgC.refl _ _) ?_
    simp only [List.map_cons, List.map_nil, List.contains_cons, List.contains_nil, nth_zero, nth_succ, Nat.reduceBEq, Bool.or_false]
    repeat (refine sched_quiet (fun K hK => ?_); go_simp; refine hK _ ?_; clear hK K)
    refine sched_callL (by first | rfl | go_simp) 128 #[.pointer (some ⟨A.i, 0, none⟩), .int .i64 t, .int .i64 ((k : Int) + 1)] (by first | kernel_rfl | go_simp) (ChP.cut ((H7.out.1.frame (Fr.refl No w7).drew).at_ .inn) (by have := HH.out.2.2.1; omega) t ((k : Int) + 1) HK.out.1.2 HK.out.2) ?_
    rintro e w8 ⟨b8, rfl, k8, f8⟩
    refine ⟨_, rfl, ?_⟩
    have h7 := H7.out.1.frame (Fr.refl No w7).drew
    have t8 := h7.inn_ (F' := F + 2) (k8.more (by omega)) f8 (Grown.refl _ _) (fun b hb => Nat.lt_of_lt_of_le (h7.rho hb) f8.size) (by omega)
    have T8' := hid t8
    clear t8 h7 k8 f8 
    refine sched_nil ?_
    go_wp2_with fail
    go_end0
    obtain ⟨ρ8, h8, g8⟩ := T8'.out
    rw [linkM_some HH.out.2.2.2.2 HH.out.2.2.2.1, HT.out]
    exact ⟨rfl, ρ8, h8, (H7.out.2.nextNo (Fr.refl No w7).drew).trans g8⟩
end Go.Proofs.YtibfpkfpmkghhaaGreatDoor

namespace Go.Lig
open Go.RowKit
def putsOf (l : List (Tmp × Value)) (a : Act) : Act := l.foldl (fun a p => a.put (some p.1) p.2) a
theorem putsOf_nil (a : Act) : putsOf [] a = a := rfl
theorem putsOf_cons (p : Tmp × Value) (l : List (Tmp × Value)) (a : Act) : putsOf (p :: l) a = putsOf l (a.put (some p.1) p.2) := rfl
/-- the region's end: some block b, the frame with these values, and R -/
structure CutPost (a : Act) (puts : Nat → List (Tmp × Value)) (R : Nat → World → Prop) (e : Exit) (a' : Act) (w' : World) : Prop where
  e : e = .normal
  ex : ∃ b, a' = putsOf (puts b) a ∧ R b w'
theorem region_cut {P : Program} {c : Code} {Q : Exit → Act → World → Prop} {a : Act} {w : World} (puts : Nat → List (Tmp × Value)) (R : Nat → World → Prop)
    (h1 : c.wp P (CutPost a puts R) a w) (h2 : ∀ b w', R b w' → Q .normal (putsOf (puts b) a) w') : c.wp P Q a w :=
  Code.wp_mono (fun e a' w' h => by
    obtain ⟨rfl, b, rfl, hr⟩ := h
    exact h2 b w' hr) h1
end Go.Lig

namespace Go.Proofs.YtibfpkfpmkghhaaGreatDoor
open Go.RowKit Go.Lig

theorem infoN : (Tryz.prog.info? 31).map (fun i => (i.zero, i.size, i.bytes)) = some (some (.agg #[.slice none 0 0, .slice none 0 0]), 2, 48) := by kernel_rfl
set_option maxRecDepth 100000 in
set_option maxHeartbeats 4000000 in
theorem reads_of (w0 : World) (s c : Nat) (t id : Int) (nx : Option Addr) (la : Option Addr) (ln lc : Nat) (pa : Option Addr) (pn pc : Nat) (rb : Bool) (x0 : w0.cell? ⟨s, 0, none⟩ = some (.pointer (some ⟨c, 0, none⟩)))
    (hn : ∀ u, Fr No w0 u → Calls Tryz.prog 51 #[.pointer (some ⟨s, 0, none⟩), .int .i64 id] u fun e w' => e = .returned (.pointer nx) ∧ u = w')
    (hr : ∀ u, Fr No w0 u → Calls Tryz.prog 52 #[.pointer nx, .pointer (some ⟨c, 0, none⟩), .int .i64 t] u fun e w' => e = .returned (.tuple #[.agg #[.slice la ln lc, .slice pa pn pc], .bool rb]) ∧ Fr No u w') :
    Calls Tryz.prog 45 #[.pointer (some ⟨s, 0, none⟩), .int .i64 t, .int .i64 id] w0 fun e w' => e = .returned (.bool rb) ∧ Fr No w0 w' := by
  have HN := hid hn
  have HR := hid hr
  have HS : Hid (s < w0.heap.size) := hid (World.block_lt_of_cell? w0 _ x0)
  clear hn hr
  go_enter Tryz.func45, Tryz.ntmps45
  go_wp2_with fail
  refine region_cut (fun b => [(10, .pointer (some ⟨s, 0, none⟩)), (11, .int .i64 id), (12, .pointer nx), (13, .pointer (some ⟨s, 0, none⟩)), (14, .pointer (some ⟨s, 0, none⟩)), (15, .pointer (some ⟨s, 0, none⟩)), (16, .pointer (some ⟨c, 0, none⟩)), (17, .int .i64 t), (18, .tuple #[.agg #[.slice la ln lc, .slice pa pn pc], .bool rb]), (9, .tuple #[.agg #[.slice la ln lc, .slice pa pn pc], .bool rb]), (19, .agg #[.slice la ln lc, .slice pa pn pc]), (20, .bool rb), (7, .pointer (some ⟨b, 0, none⟩)), (8, .bool rb)])
    (fun b W => Fr No w0 W ∧ W.heap[b]? = some (.cells #[.slice la ln lc, .slice pa pn pc] 31 (0, 0)) ∧ w0.heap.size ≤ b) ?_ ?_
  · refine wp_region_tree (by kernel_rfl) (.quiet 0 (.quiet 1 (.quiet 3 (.quiet 4 (.quiet 5 (.quiet 6 (.quiet 7 (.two 2 (.two 8 (.quiet 9 (.quiet 10 (.quiet 11 (.one 12 (.one 13 (.quiet 14 .done)))))) 12 (.one 8 (.quiet 9 (.quiet 10 (.quiet 11 (.one 13 (.quiet 14 .done))))))) 12 (.one 2 (.one 8 (.quiet 9 (.quiet 10 (.quiet 11 (.one 13 (.quiet 14 .done))))))))))))))) (AgC [s] w0.drew) (by kernel_rfl) (AgC.refl _ _) ?_
    simp only [fill, nth_zero, nth_succ]
    repeat (refine tree_quiet (fun K hK => ?_); go_simp; refine hK _ ?_; clear hK K)
    refine tree_two ?_ ?_
    · refine tree_call (by first | rfl | go_simp) 51 #[.pointer (some ⟨s, 0, none⟩), .int .i64 id] (by first | kernel_rfl | go_simp) (HN.out _ (Fr.refl No w0).drew) ?_
      rintro e wn ⟨rfl, rfl⟩
      refine ⟨_, rfl, AgC.refl _ _, ?_⟩
      refine tree_two ?_ ?_
      · refine tree_call (by first | rfl | go_simp) 52 #[.pointer nx, .pointer (some ⟨c, 0, none⟩), .int .i64 t] (by first | kernel_rfl | go_simp) (HR.out _ (Fr.refl No w0).drew) ?_
        rintro e w8 ⟨rfl, f8⟩
        have a8 := (AgC.refl _ _).fr f8 (fun j hj => by rw [List.mem_singleton.1 hj]; exact ⟨HS.out, fun e => e⟩)
        have F8 := hid ((Fr.refl No w0).drew.thenNo f8)
        refine ⟨_, rfl, a8, ?_⟩
        clear f8
        repeat (refine tree_quiet (fun K hK => ?_); go_simp; refine hK _ ?_; clear hK K)
        refine tree_one (wpList_allocO rfl 31 rfl _ 2 48 infoN ?_)
        intro w3 p3
        have a3 := a8.fr p3.fr (fun j hj => by rw [List.mem_singleton.1 hj]; exact ⟨HS.out, fun e => e⟩)
        have F3 := hid (F8.out.thenNo p3.fr)
        have B3 := hid (show w3.heap[w8.heap.size]? = some (.cells #[.slice none 0 0, .slice none 0 0] 31 (0, 0)) from p3.at_)
        have Z3 := hid (show w0.heap.size ≤ w8.heap.size from F8.out.size)
        refine tree_on a3 ?_
        generalize w8.heap.size = b3 at *
        clear p3
        repeat (refine tree_quiet (fun K hK => ?_); go_simp; refine hK _ ?_; clear hK K)
        refine tree_one (wpList_storeO rfl 31 (.tmp 7) (.tmp 19) rfl b3 0 rfl [.slice none 0 0, .slice none 0 0] 31 [.slice la ln lc, .slice pa pn pc] rfl (by kernel_rfl) B3.out (by simp) (by simp [Value.oneCell']) ?_)
        intro w5 p5
        have P5 := hid (⟨F3.out.fresh p5.fr (fun k e => by subst e; exact Z3.out), p5.at_⟩ : _ ∧ _)
        refine tree_on (a3.fr p5.fr (fun j hj => by rw [List.mem_singleton.1 hj]; exact ⟨HS.out, fun e => by have h1 := Z3.out; have h2 := HS.out; omega⟩)) ?_
        clear p5
        repeat (refine tree_quiet (fun K hK => ?_); go_simp; refine hK _ ?_; clear hK K)
        refine tree_nil ?_
        refine CutPost.mk rfl ⟨b3, ?_, P5.out.1, P5.out.2, Z3.out⟩
        simp only [putsOf_cons, putsOf_nil]
        go_simp
      · refine tree_one (wpList_allocO rfl 31 rfl _ 2 48 infoN ?_)
        intro w3 p3
        have a3 := (AgC.refl _ _).fr p3.fr (fun j hj => by rw [List.mem_singleton.1 hj]; exact ⟨HS.out, fun e => e⟩)
        have F3 := hid ((Fr.refl No w0).drew.thenNo p3.fr)
        have B3 := hid (show w3.heap[w0.drew.heap.size]? = some (.cells #[.slice none 0 0, .slice none 0 0] 31 (0, 0)) from p3.at_)
        have Z3 := hid (show w0.heap.size ≤ w0.drew.heap.size from (Fr.refl No w0).drew.size)
        refine tree_on a3 ?_
        generalize w0.drew.heap.size = b3 at *
        clear p3
        refine tree_call (by first | rfl | go_simp) 52 #[.pointer nx, .pointer (some ⟨c, 0, none⟩), .int .i64 t] (by first | kernel_rfl | go_simp) (HR.out _ F3.out) ?_
        rintro e w8 ⟨rfl, f8⟩
        have a8 := a3.fr f8 (fun j hj => by rw [List.mem_singleton.1 hj]; exact ⟨HS.out, fun e => e⟩)
        have F8 := hid (F3.out.thenNo f8)
        have B8 := hid (f8.keep B3.out (fun e => e))
        refine ⟨_, rfl, a8, ?_⟩
        clear f8
        repeat (refine tree_quiet (fun K hK => ?_); go_simp; refine hK _ ?_; clear hK K)
        refine tree_one (wpList_storeO rfl 31 (.tmp 7) (.tmp 19) rfl b3 0 rfl [.slice none 0 0, .slice none 0 0] 31 [.slice la ln lc, .slice pa pn pc] rfl (by kernel_rfl) B8.out (by simp) (by simp [Value.oneCell']) ?_)
        intro w5 p5
        have P5 := hid (⟨F8.out.fresh p5.fr (fun k e => by subst e; exact Z3.out), p5.at_⟩ : _ ∧ _)
        refine tree_on (a8.fr p5.fr (fun j hj => by rw [List.mem_singleton.1 hj]; exact ⟨HS.out, fun e => by have h1 := Z3.out; have h2 := HS.out; omega⟩)) ?_
        clear p5
        repeat (refine tree_quiet (fun K hK => ?_); go_simp; refine hK _ ?_; clear hK K)
        refine tree_nil ?_
        refine CutPost.mk rfl ⟨b3, ?_, P5.out.1, P5.out.2, Z3.out⟩
        simp only [putsOf_cons, putsOf_nil]
        go_simp
    · refine tree_one (wpList_allocO rfl 31 rfl _ 2 48 infoN ?_)
      intro w3 p3
      have a3 := (AgC.refl _ _).fr p3.fr (fun j hj => by rw [List.mem_singleton.1 hj]; exact ⟨HS.out, fun e => e⟩)
      have F3 := hid ((Fr.refl No w0).drew.thenNo p3.fr)
      have B3 := hid (show w3.heap[w0.drew.heap.size]? = some (.cells #[.slice none 0 0, .slice none 0 0] 31 (0, 0)) from p3.at_)
      have Z3 := hid (show w0.heap.size ≤ w0.drew.heap.size from (Fr.refl No w0).drew.size)
      refine tree_on a3 ?_
      generalize w0.drew.heap.size = b3 at *
      clear p3
      refine tree_call (by first | rfl | go_simp) 51 #[.pointer (some ⟨s, 0, none⟩), .int .i64 id] (by first | kernel_rfl | go_simp) (HN.out _ F3.out) ?_
      rintro e wn ⟨rfl, rfl⟩
      refine ⟨_, rfl, a3, ?_⟩
      refine tree_call (by first | rfl | go_simp) 52 #[.pointer nx, .pointer (some ⟨c, 0, none⟩), .int .i64 t] (by first | kernel_rfl | go_simp) (HR.out _ F3.out) ?_
      rintro e w8 ⟨rfl, f8⟩
      have a8 := a3.fr f8 (fun j hj => by rw [List.mem_singleton.1 hj]; exact ⟨HS.out, fun e => e⟩)
      have F8 := hid (F3.out.thenNo f8)
      have B8 := hid (f8.keep B3.out (fun e => e))
      refine ⟨_, rfl, a8, ?_⟩
      clear f8
      repeat (refine tree_quiet (fun K hK => ?_); go_simp; refine hK _ ?_; clear hK K)
      refine tree_one (wpList_storeO rfl 31 (.tmp 7) (.tmp 19) rfl b3 0 rfl [.slice none 0 0, .slice none 0 0] 31 [.slice la ln lc, .slice pa pn pc] rfl (by kernel_rfl) B8.out (by simp) (by simp [Value.oneCell']) ?_)
      intro w5 p5
      have P5 := hid (⟨F8.out.fresh p5.fr (fun k e => by subst e; exact Z3.out), p5.at_⟩ : _ ∧ _)
      refine tree_on (a8.fr p5.fr (fun j hj => by rw [List.mem_singleton.1 hj]; exact ⟨HS.out, fun e => by have h1 := Z3.out; have h2 := HS.out; omega⟩)) ?_
      clear p5
      repeat (refine tree_quiet (fun K hK => ?_); go_simp; refine hK _ ?_; clear hK K)
      refine tree_nil ?_
      refine CutPost.mk rfl ⟨b3, ?_, P5.out.1, P5.out.2, Z3.out⟩
      simp only [putsOf_cons, putsOf_nil]
      go_simp
  rintro b w5 ⟨f5, h5, z5⟩
  have F5 := hid f5
  clear f5 h5 z5
  simp only [putsOf_cons, putsOf_nil]
  go_wp2_with fail
  go_ret
  exact ⟨rfl, F5.out⟩
end Go.Proofs.YtibfpkfpmkghhaaGreatDoor
