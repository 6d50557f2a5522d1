/- A part of the proof: contracts of functions of the program, for the row's text. -/
import Derived.Test.YtibfpkfpmkghhaaGreatDoorJ35
import Derived.Test.YtibfpkfpmkghhaaGreatDoorJ20
import Derived.Test.YtibfpkfpmkghhaaGreatDoorJ32
namespace Go.Proofs.YtibfpkfpmkghhaaGreatDoor.Ec
open Go.RowKit Go.Lig

set_option maxRecDepth 100000 in
set_option maxHeartbeats 4000000 in
theorem spare2_any (w : World) (x g c gk b2 b5 bc : Nat) (L : List (Ver EdgeV)) (K : Ck) (y : Ver EdgeV) (hrow : CelRow w x g L) (hclk : ClkRow w c gk K) (hs : L.length ≤ 1000000) (hk : K.l.length ≤ 1000000) (hy : y ∈ L)
    (h2 : w.cell? ⟨b2, 0, none⟩ = some (.pointer (some ⟨x, 0, none⟩))) (h5 : w.cell? ⟨b5, 0, none⟩ = some (.func (.func 205) #[] #[.pointer (some ⟨bc, 0, none⟩)])) (hc : w.cell? ⟨bc, 0, none⟩ = some (.pointer (some ⟨c, 0, none⟩))) :
    Calls Tryz.prog 206 #[.agg #[.int .i64 y.by_, .int .i64 y.v.from_, .int .i64 y.v.to_, .string y.v.type, .float .f64 y.v.w, .bool y.gone], .pointer (some ⟨b2, 0, none⟩), .pointer (some ⟨b5, 0, none⟩)] w fun e w' => e = .returned (.bool (spareB K.settled L y)) ∧ Fr No w w' := by
  obtain ⟨a, cap, g1, g2, g3, g4⟩ := hrow.ex
  obtain ⟨n, hLn⟩ : ∃ n, L.length = n := ⟨_, rfl⟩
  have hn0 : 0 < n := by rw [← hLn]; exact List.length_pos_of_mem hy
  obtain rfl := g3 (by omega)
  obtain ⟨cur, hcn⟩ : ∃ cur : Nat, n ≤ cap := by
    obtain ⟨g', cur, e, -, -, hnc, -⟩ := owns_at g2 (by omega)
    exact ⟨0, by omega⟩
  obtain ⟨j, hj, hjL⟩ : ∃ j, L.findIdx? (fun z => z.by_ == y.by_) = some j ∧ j < n := by
    cases h : L.findIdx? (fun z => z.by_ == y.by_) with
    | none =>
      rw [List.findIdx?_eq_none_iff] at h
      have := h y hy
      simp at this
    | some j => exact ⟨j, rfl, by rw [← hLn]; exact (List.findIdx?_eq_some_iff_getElem.1 h).1⟩
  have hbx := heap1 w (.cells #[.int .i64 y.by_, .int .i64 y.v.from_, .int .i64 y.v.to_, .string y.v.type, .float .f64 y.v.w, .bool y.gone] 176)
  have hf : Fr No w (w.alloc (.cells #[.int .i64 y.by_, .int .i64 y.v.from_, .int .i64 y.v.to_, .string y.v.type, .float .f64 y.v.w, .bool y.gone] 176)) := (Fr.refl No w).alloc _
  have HSC : Hid (∀ j ∈ [b2, x, b5, w.heap.size], j < w.heap.size + 1) := hid (fun j hj => by
    rcases List.mem_cons.1 hj with rfl | hj
    · have : j < w.heap.size := World.block_lt_of_cell? _ _ h2; omega
    rcases List.mem_cons.1 hj with rfl | hj
    · have := lt_of_block g1; omega
    rcases List.mem_cons.1 hj with rfl | hj
    · have : j < w.heap.size := World.block_lt_of_cell? _ _ h5; omega
    rw [List.mem_singleton.1 hj]; omega)
  have HIX := hid (fun (W : World) (hW : Fr No (w.alloc (.cells #[.int .i64 y.by_, .int .i64 y.v.from_, .int .i64 y.v.to_, .string y.v.type, .float .f64 y.v.w, .bool y.gone] 176)) W) => idxo_any W (some ⟨g, 0, none⟩) g 0 cap L (fun _ => rfl) hs (fun U hU i z hz => by rw [Nat.zero_add]; exact (hrow.frame ((hf.thenNo hW).thenNo hU)).o hz) 207 #[.pointer (some ⟨w.heap.size, 0, none⟩)] (fun z => z.by_ == y.by_) enter_spare21 (fun U z hU _ => spare21_any U z y w.heap.size (by
    have := cellOf ((hW.thenNo hU).keep hbx (fun e => e)) 0
    exact this)))
  rw [hj, show idxZ (some j) = (j : Int) from rfl] at HIX
  have HD := hid (fun (W : World) (hW : Fr No w W) (ad : Option Addr) (hd : 0 < n - (j + 1) → ad = some ⟨g, (j + 1) * 6, none⟩) => anyo_any W ad g ((j + 1) * 6) (cap - (j + 1)) (L.drop (j + 1)) (fun h => hd (by rw [List.length_drop, hLn] at h; exact h)) (by rw [List.length_drop]; omega) (fun U hU i z hz => by
    rw [List.getElem?_drop] at hz
    rw [← Nat.add_mul]
    exact (hrow.frame (hW.thenNo hU)).o hz) 205 #[.pointer (some ⟨bc, 0, none⟩)] (fun z => K.settled z.by_) enter_spare1 (fun U z hU _ => spare1_any U z bc c gk K ((World.cell?_of_block (w := w) ((hW.thenNo hU).block bc (World.block_lt_of_cell? _ _ hc) (fun e => e))).trans hc) (hclk.frame (hW.thenNo hU)) hk))
  rw [show (L.drop (j + 1)).length = n - (j + 1) by rw [List.length_drop, hLn]] at HD
  have HST := hid (fun (W : World) (hW : Fr No w W) => spare1_any W y bc c gk K ((World.cell?_of_block (w := w) (hW.block bc (World.block_lt_of_cell? _ _ hc) (fun e => e))).trans hc) (hclk.frame hW) hk)
  have HR : Hid (spareB K.settled L y = ((L.drop (j + 1)).any (fun z => K.settled z.by_) || ((j : Int) == 0 && y.gone && K.settled y.by_))) := hid (by unfold spareB; rw [hj]; rfl)
  rw [hLn] at HIX g1
  have x1 := cells1 (hf.keep g1 (fun e => e))
  have x2 := (World.cell?_of_block (w := w) (hf.block b2 (World.block_lt_of_cell? _ _ h2) (fun e => e))).trans h2
  have HH := hid (⟨g1, h2, h5⟩ : _ ∧ _ ∧ _)
  have HF := hid (⟨hf, hbx⟩ : _ ∧ _)
  have hn6 : n ≤ 1000000 := by omega
  generalize (L.drop (j + 1)).any (fun z => K.settled z.by_) = rb at *
  generalize K.settled y.by_ = st at *
  clear hrow hclk hs hk hy h2 h5 hc g1 g2 g3 g4 hj hf hbx hLn cur
  obtain ⟨yb, yv, yg⟩ := y
  dsimp only at HIX HD HST HR HF x1 x2 ⊢
  go_enter Tryz.func206, Tryz.ntmps206
  go_wp2_with (go_at_call 196; refine (HIX.out _ (Fr.refl No _)).mono ?_; rintro e w2 ⟨rfl, f2⟩; have F2 := hid (⟨HF.out.1.thenNo f2, f2.keep HF.out.2 (fun e => e)⟩ : _ ∧ _); clear f2)
  have z1 := cells1 (F2.out.1.keep HH.out.1 (fun e => e))
  have z2 := (World.cell?_of_block (w := w) (F2.out.1.block b2 (World.block_lt_of_cell? _ _ HH.out.2.1) (fun e => e))).trans HH.out.2.1
  have z5 := (World.cell?_of_block (w := w) (F2.out.1.block b5 (World.block_lt_of_cell? _ _ HH.out.2.2) (fun e => e))).trans HH.out.2.2
  obtain ⟨y0, y1, y2, y3, y4, y5⟩ := cells6 F2.out.2
  have hzz := lt_of_block F2.out.2
  have hsc : ∀ j ∈ [b2, x, b5, w.heap.size], j < w2.drew.heap.size ∧ ¬ No j := fun j hj => ⟨by
    have := HSC.out j hj
    show j < w2.heap.size
    omega, fun e => e⟩
  have hwr : IntKind.i64.wrap ((j : Int) + 1) = (j : Int) + 1 := IntWalk.i64_in _ (by omega)
  refine wp_region_sched (by kernel_rfl) 23 [8, 19] [0, 1, 2, 3, 4, 5, 6, 7, 8, 9, 10, 11, 12, 13, 14, 15, 16, 17, 18, 19, 20, 21, 22] (AgC [b2, x, b5, w.heap.size] w2.drew) (by kernel_rfl) (AgC.refl _ _) ?_
  simp only [List.map_cons, List.map_nil, List.contains_cons, List.contains_nil, nth_zero, nth_succ, Nat.reduceBEq, Bool.or_false, Bool.or_true]
  iterate 6 (refine sched_quiet (fun K hK => ?_); go_simp; refine hK _ ?_; clear hK K)
  obtain ⟨ad, had⟩ : ∃ ad : Addr, ad = (if cap = j + 1 then ⟨g, 0, none⟩ else ⟨g, (j + 1) * 6, none⟩ : Addr) := ⟨_, rfl⟩
  have HAD := hid had
  have hd2 : 0 < n - (j + 1) → some ad = some (⟨g, (j + 1) * 6, none⟩ : Addr) := fun h => by rw [HAD.out, if_neg (by omega)]
  have HAD2 := hid hd2
  clear had hd2
  refine sched_slice rfl 173 176 Tryz.underlying173 (.tmp 15) (some (.tmp 17)) none rfl (.slice (some ⟨g, 0, none⟩) n cap) rfl (some (.int .i64 ((j : Int) + 1))) none rfl rfl (.slice (some ad) (n - (j + 1)) (cap - (j + 1))) (fun w' => by rw [HAD.out]; exact run_slice_fromI w' _ _ 6 Tryz.underlying173 (by kernel_rfl) g n cap (j + 1) _ rfl hjL hcn) ?_
  repeat (refine sched_quiet (fun K hK => ?_); go_simp; refine hK _ ?_; clear hK K)
  refine sched_call (by first | rfl | go_simp) 208 #[.slice (some ad) (n - (j + 1)) (cap - (j + 1)), .func (.func 205) #[] #[.pointer (some ⟨bc, 0, none⟩)]] (by first | kernel_rfl | go_simp) (HD.out _ F2.out.1.drew _ HAD2.out) ?_
  rintro e w3 ⟨rfl, f3⟩
  have a3 := (AgC.refl _ w2.drew).fr f3 hsc
  have F3 := hid (⟨F2.out.1.drew.thenNo f3, a3⟩ : _ ∧ _)
  refine ⟨_, rfl, a3, ?_⟩
  clear f3 a3 x1 x2 z1 z2
  cases rb with
  | true =>
    repeat (refine sched_quiet (fun K hK => ?_); go_simp; refine hK _ ?_; clear hK K)
    refine sched_skip (by first | rfl | go_simp) F3.out.2 ?_
    repeat (refine sched_quiet (fun K hK => ?_); go_simp; refine hK _ ?_; clear hK K)
    refine sched_nil ?_
    go_wp2_with fail
    go_ret
    exact ⟨by rw [HR.out, Bool.true_or]; rfl, F3.out.1⟩
  | false =>
    by_cases hj0 : (j : Int) = 0
    · have hj1 : ((j : Int) == 0) = true := by rw [beq_iff_eq]; exact hj0
      cases yg with
      | false =>
        repeat (refine sched_quiet (fun K hK => ?_); go_simp; refine hK _ ?_; clear hK K)
        refine sched_skip (by first | rfl | go_simp) F3.out.2 ?_
        repeat (refine sched_quiet (fun K hK => ?_); go_simp; refine hK _ ?_; clear hK K)
        refine sched_nil ?_
        go_wp2_with fail
        go_ret
        exact ⟨by rw [HR.out, hj1]; rfl, F3.out.1⟩
      | true =>
        repeat (refine sched_quiet (fun K hK => ?_); go_simp; refine hK _ ?_; clear hK K)
        refine sched_call (by first | rfl | go_simp) 205 #[.agg #[.int .i64 yb, .int .i64 yv.from_, .int .i64 yv.to_, .string yv.type, .float .f64 yv.w, .bool true], .pointer (some ⟨bc, 0, none⟩)] (by first | kernel_rfl | (go_simp; rfl) | go_simp) (HST.out _ F3.out.1) ?_
        rintro e w4 ⟨rfl, f4⟩
        have F4 := hid (F3.out.1.thenNo f4)
        obtain ⟨u3, hu3⟩ := F3.out.2
        refine ⟨_, rfl, (show AgC [b2, x, b5, w.heap.size] w2.drew w3 from ⟨u3, hu3⟩).fr f4 hsc, ?_⟩
        repeat (refine sched_quiet (fun K hK => ?_); go_simp; refine hK _ ?_; clear hK K)
        refine sched_nil ?_
        go_wp2_with fail
        go_ret
        exact ⟨by rw [HR.out, hj1]; rfl, F4.out⟩
    · have hj1 : ((j : Int) == 0) = false := by rw [beq_eq_false_iff_ne]; exact hj0
      repeat (refine sched_quiet (fun K hK => ?_); go_simp; refine hK _ ?_; clear hK K)
      refine sched_skip (by first | rfl | go_simp) F3.out.2 ?_
      repeat (refine sched_quiet (fun K hK => ?_); go_simp; refine hK _ ?_; clear hK K)
      refine sched_nil ?_
      go_wp2_with fail
      go_ret
      exact ⟨by rw [HR.out, hj1]; rfl, F3.out.1⟩
theorem enter_spare2 : ∀ args w, (callFunc 206 args).run Tryz.prog w = .ok (.enter 206 args) w := enters_of Tryz.func206 (by kernel_rfl) rfl
set_option maxRecDepth 100000 in
set_option maxHeartbeats 2000000 in
theorem spare_any (w : World) (x g c gk : Nat) (L : List (Ver EdgeV)) (K : Ck) (hrow : CelRow w x g L) (hclk : ClkRow w c gk K) (hs : L.length ≤ 1000000) (hk : K.l.length ≤ 1000000) :
    Calls Tryz.prog 139 #[.pointer (some ⟨x, 0, none⟩), .pointer (some ⟨c, 0, none⟩)] w fun e w' => e = .returned (.int .i64 (idxZ (spareI K.settled L))) ∧ Fr No w w' := by
  obtain ⟨a, cap, g1, g2, g3, g4⟩ := hrow.ex
  obtain ⟨k1, k2⟩ := heap2 w (.cells #[.pointer (some ⟨x, 0, none⟩)] 100) (.cells #[.pointer (some ⟨c, 0, none⟩)] 72)
  have hf : Fr No w ((w.alloc (.cells #[.pointer (some ⟨x, 0, none⟩)] 100)).alloc (.cells #[.pointer (some ⟨c, 0, none⟩)] 72)) := ((Fr.refl No w).alloc _).alloc _
  have c1 := cells1 k1
  have HH := hid (⟨hrow, hclk, hs, hk, g1, g3⟩ : _ ∧ _ ∧ _ ∧ _ ∧ _ ∧ _)
  have HF := hid (⟨hf, k1, k2⟩ : _ ∧ _ ∧ _)
  generalize hz : idxZ (spareI K.settled L) = z at *
  have HZ : Hid (idxZ (L.findIdx? (spareB K.settled L)) = z) := hid hz
  clear hrow hclk hs hk hf k1 k2 g1 g2 g3 g4 hz
  go_enter Tryz.func139, Tryz.ntmps139
  go_wp2_with (refine wpList_store1 rfl 179 (.tmp 5) (.tmp 8) rfl (w.heap.size + 1 + 1) 0 rfl _ _ (.func (.func 205) #[] #[.pointer (some ⟨w.heap.size + 1, 0, none⟩)]) rfl (by kernel_rfl) (heap3 w _ _ _).2.2 (by simp) rfl ?_; intro w5 p5; have P5 := hid (⟨(HF.out.1.alloc _).fresh' p5.fr (fun k e => by omega), p5.keep (heap3 w _ _ _).1 (by omega), p5.keep (heap3 w _ _ _).2.1 (by omega), p5.at_⟩ : Fr No w w5 ∧ _ ∧ _ ∧ _); clear p5; have c1 := cells1 P5.out.2.1; have x1 := cells1 (P5.out.1.keep HH.out.2.2.2.2.1 (fun e => e)))
  refine (idxo_any w5 a g 0 cap L HH.out.2.2.2.2.2 HH.out.2.2.1 (fun U hU i z hz => by rw [Nat.zero_add]; exact (HH.out.1.frame (P5.out.1.thenNo hU)).o hz) 206 #[.pointer (some ⟨w.heap.size, 0, none⟩), .pointer (some ⟨w.heap.size + 1 + 1, 0, none⟩)] (spareB K.settled L) enter_spare2 (fun U y hU hy => spare2_any U x g c gk w.heap.size (w.heap.size + 1 + 1) (w.heap.size + 1) L K y (HH.out.1.frame (P5.out.1.thenNo hU)) (HH.out.2.1.frame (P5.out.1.thenNo hU)) HH.out.2.2.1 HH.out.2.2.2.1 hy (cells1 (hU.keep P5.out.2.1 (fun e => e))) (by
    have := cellOf (hU.keep P5.out.2.2.2 (fun e => e)) 0
    simpa using this) (cells1 (hU.keep P5.out.2.2.1 (fun e => e))))).mono ?_
  rintro e w6 ⟨rfl, f6⟩
  rw [HZ.out]
  have F6 := hid (P5.out.1.thenNo f6)
  clear f6 c1 x1
  go_wp2_with fail
  go_ret
  exact ⟨rfl, F6.out⟩
end Go.Proofs.YtibfpkfpmkghhaaGreatDoor.Ec

namespace Go.Lig
/-- without the first spare version -/
def sweepL {α : Type} (st : Int → Bool) (L : List (Ver α)) : List (Ver α) := match spareI st L with
  | some i => L.take i ++ L.drop (i + 1)
  | none => L
end Go.Lig
namespace Go.Proofs.YtibfpkfpmkghhaaGreatDoor
open Go.RowKit Go.Lig

theorem sweep_len {α : Type} (st : Int → Bool) (L : List (Ver α)) : (sweepL st L).length ≤ L.length := by
  unfold sweepL
  split
  · rw [List.length_append, List.length_take, List.length_drop]
    omega
  · exact Nat.le_refl _
set_option maxRecDepth 100000 in
set_option maxHeartbeats 1000000 in
theorem sweep_any (w : World) (T : Nat → Prop) (x c gk : Nat) (L : List (Ver NodeV)) (K : Ck) (h : CellAt w T x L) (hclk : ClkRow w c gk K) (hk : K.l.length ≤ 1000000) :
    Calls Tryz.prog 68 #[.pointer (some ⟨x, 0, none⟩), .pointer (some ⟨c, 0, none⟩)] w fun e w' => e = .returned (.bool (spareI K.settled L).isSome) ∧ CellAt w' T x (sweepL K.settled L) ∧ Fr T w w' ∧ ((spareI K.settled L).isSome = false → Fr No w w') := by
  obtain ⟨g, hrow, hgT⟩ := h.row
  have HSp := hid (spare_any w x g c gk L K hrow hclk h.small hk)
  cases hi : spareI K.settled L with
  | none =>
    rw [hi, show idxZ none = -1 from rfl] at HSp
    have HL : Hid (sweepL K.settled L = L) := hid (by unfold sweepL; rw [hi])
    have HH := hid h
    rw [HL.out]
    dsimp only [Option.isSome]
    clear h hrow hclk hk hi hgT HL
    go_enter Tryz.func68, Tryz.ntmps68
    go_wp2_with (go_at_call 137; refine HSp.out.mono ?_; rintro e w2 ⟨rfl, f2⟩; have F2 := hid f2; clear f2)
    go_ret
    exact ⟨rfl, HH.out.frame F2.out (fun _ _ e => e), F2.out.mono (fun _ _ e => e.elim), fun _ => F2.out⟩
  | some i =>
    rw [hi, show idxZ (some i) = (i : Int) from rfl] at HSp
    have hil : i < L.length := (List.findIdx?_eq_some_iff_getElem.1 hi).1
    have HL : Hid (sweepL K.settled L = L.take i ++ L.drop (i + 1)) := hid (by unfold sweepL; rw [hi])
    obtain ⟨a, cap, g1, g2, g3, g4⟩ := hrow.ex
    obtain rfl := g3 (by omega)
    have x1 := cells1 g1
    have hin : ¬ (i : Int) < 0 := by omega
    have hw : wrap64 ((i : Int) + 1) = (i : Int) + 1 := by have := h.small; unfold wrap64; omega
    have HH := hid (⟨h, g1, g2, hil, hgT (by omega), g4⟩ : _ ∧ _ ∧ _ ∧ _ ∧ _ ∧ _)
    rw [HL.out]
    dsimp only [Option.isSome]
    have hsm := h.small
    have HDel := hid (fun (W : World) (hW : Fr No w W) => vdel_any W g cap L (fd_owns g2 hW) i hil hsm)
    clear hsm
    generalize hLn : L.length = n at *
    have HN := hid hLn
    clear h hrow hclk hk hi hgT HL g2 g3 g4 hil hLn
    go_enter Tryz.func68, Tryz.ntmps68
    go_wp2_with (first | (go_at_call 137; refine HSp.out.mono ?_; rintro e w2 ⟨rfl, f2⟩; have F2 := hid f2; have x1 := cells1 (f2.keep HH.out.2.1 (fun e => e)); clear f2) | (go_at_call 138; go_must (refine (HDel.out w2 F2.out).mono ?_); rintro e w3 ⟨rfl, o3, f3⟩; have O3 := hid (⟨o3, f3, f3.keep (F2.out.keep HH.out.2.1 (fun e => e)) (fun e => HH.out.2.2.2.2.2 e.symm)⟩ : _ ∧ _ ∧ _); clear o3 f3) | (refine wpList_store1 rfl 158 (.tmp 21) (.tmp 19) rfl x 0 rfl _ _ (.slice (some ⟨g, 0, none⟩) (n - 1) cap) rfl (by kernel_rfl) O3.out.2.2 (by simp) rfl ?_; intro w4 p4; have P4 := hid (show Put x #[.slice (some ⟨g, 0, none⟩) (n - 1) cap] 163 w3 w4 from p4); clear p4))
    go_ret
    obtain ⟨h, g1, g2, hil, hgT, hgx⟩ := HH.out
    have hF : Fr T w w4 := ((F2.out.mono (fun _ _ e => e.elim)).thenS (O3.out.2.1.mono (fun k _ e => by subst e; exact hgT))).thenS (P4.out.fr.mono (fun k _ e => by subst e; exact h.root))
    have hlen : (L.take i ++ L.drop (i + 1)).length = n - 1 := by
      have := HN.out
      rw [List.length_append, List.length_take, List.length_drop]; omega
    refine ⟨rfl, ⟨⟨_, P4.out.at_, ?_, fun k hk => ?_⟩, h.root, fun k hk => Nat.lt_of_lt_of_le (h.bound k hk) hF.size, by have := h.small; have := HN.out; omega⟩, hF, fun e => by cases e⟩
    · rw [hlen]
      exact P4.out.fr.owns O3.out.1 (fun k hk e => by
        obtain rfl : g = k := Option.some.inj hk
        exact hgx e)
    · obtain rfl : g = k := Option.some.inj hk
      exact ⟨hgT, hgx⟩
end Go.Proofs.YtibfpkfpmkghhaaGreatDoor

namespace Go.Proofs.YtibfpkfpmkghhaaGreatDoor.Ec
open Go.RowKit Go.Lig

set_option maxRecDepth 100000 in
set_option maxHeartbeats 1000000 in
theorem sweep_any (w : World) (T : Nat → Prop) (x c gk : Nat) (L : List (Ver EdgeV)) (K : Ck) (h : CellAt w T x L) (hclk : ClkRow w c gk K) (hk : K.l.length ≤ 1000000) :
    Calls Tryz.prog 69 #[.pointer (some ⟨x, 0, none⟩), .pointer (some ⟨c, 0, none⟩)] w fun e w' => e = .returned (.bool (spareI K.settled L).isSome) ∧ CellAt w' T x (sweepL K.settled L) ∧ Fr T w w' ∧ ((spareI K.settled L).isSome = false → Fr No w w') := by
  obtain ⟨g, hrow, hgT⟩ := h.row
  have HSp := hid (spare_any w x g c gk L K hrow hclk h.small hk)
  cases hi : spareI K.settled L with
  | none =>
    rw [hi, show idxZ none = -1 from rfl] at HSp
    have HL : Hid (sweepL K.settled L = L) := hid (by unfold sweepL; rw [hi])
    have HH := hid h
    rw [HL.out]
    dsimp only [Option.isSome]
    clear h hrow hclk hk hi hgT HL
    go_enter Tryz.func69, Tryz.ntmps69
    go_wp2_with (go_at_call 139; refine HSp.out.mono ?_; rintro e w2 ⟨rfl, f2⟩; have F2 := hid f2; clear f2)
    go_ret
    exact ⟨rfl, HH.out.frame F2.out (fun _ _ e => e), F2.out.mono (fun _ _ e => e.elim), fun _ => F2.out⟩
  | some i =>
    rw [hi, show idxZ (some i) = (i : Int) from rfl] at HSp
    have hil : i < L.length := (List.findIdx?_eq_some_iff_getElem.1 hi).1
    have HL : Hid (sweepL K.settled L = L.take i ++ L.drop (i + 1)) := hid (by unfold sweepL; rw [hi])
    obtain ⟨a, cap, g1, g2, g3, g4⟩ := hrow.ex
    obtain rfl := g3 (by omega)
    have x1 := cells1 g1
    have hin : ¬ (i : Int) < 0 := by omega
    have hw : wrap64 ((i : Int) + 1) = (i : Int) + 1 := by have := h.small; unfold wrap64; omega
    have HH := hid (⟨h, g1, g2, hil, hgT (by omega), g4⟩ : _ ∧ _ ∧ _ ∧ _ ∧ _ ∧ _)
    rw [HL.out]
    dsimp only [Option.isSome]
    have hsm := h.small
    have HDel := hid (fun (W : World) (hW : Fr No w W) => vdel_any W g cap L (fd_owns g2 hW) i hil hsm)
    clear hsm
    generalize hLn : L.length = n at *
    have HN := hid hLn
    clear h hrow hclk hk hi hgT HL g2 g3 g4 hil hLn
    go_enter Tryz.func69, Tryz.ntmps69
    go_wp2_with (first | (go_at_call 139; refine HSp.out.mono ?_; rintro e w2 ⟨rfl, f2⟩; have F2 := hid f2; have x1 := cells1 (f2.keep HH.out.2.1 (fun e => e)); clear f2) | (go_at_call 140; go_must (refine (HDel.out w2 F2.out).mono ?_); rintro e w3 ⟨rfl, o3, f3⟩; have O3 := hid (⟨o3, f3, f3.keep (F2.out.keep HH.out.2.1 (fun e => e)) (fun e => HH.out.2.2.2.2.2 e.symm)⟩ : _ ∧ _ ∧ _); clear o3 f3) | (refine wpList_store1 rfl 173 (.tmp 21) (.tmp 19) rfl x 0 rfl _ _ (.slice (some ⟨g, 0, none⟩) (n - 1) cap) rfl (by kernel_rfl) O3.out.2.2 (by simp) rfl ?_; intro w4 p4; have P4 := hid (show Put x #[.slice (some ⟨g, 0, none⟩) (n - 1) cap] 178 w3 w4 from p4); clear p4))
    go_ret
    obtain ⟨h, g1, g2, hil, hgT, hgx⟩ := HH.out
    have hF : Fr T w w4 := ((F2.out.mono (fun _ _ e => e.elim)).thenS (O3.out.2.1.mono (fun k _ e => by subst e; exact hgT))).thenS (P4.out.fr.mono (fun k _ e => by subst e; exact h.root))
    have hlen : (L.take i ++ L.drop (i + 1)).length = n - 1 := by
      have := HN.out
      rw [List.length_append, List.length_take, List.length_drop]; omega
    refine ⟨rfl, ⟨⟨_, P4.out.at_, ?_, fun k hk => ?_⟩, h.root, fun k hk => Nat.lt_of_lt_of_le (h.bound k hk) hF.size, by have := h.small; have := HN.out; omega⟩, hF, fun e => by cases e⟩
    · rw [hlen]
      exact P4.out.fr.owns O3.out.1 (fun k hk e => by
        obtain rfl : g = k := Option.some.inj hk
        exact hgx e)
    · obtain rfl : g = k := Option.some.inj hk
      exact ⟨hgT, hgx⟩
end Go.Proofs.YtibfpkfpmkghhaaGreatDoor.Ec

namespace Go.Lig
/-- a version without its value -/
def strip {α : Type} (y : Ver α) : Ver Unit := ⟨y.by_, (), y.gone⟩
theorem findIdx_map {α β : Type} (f : α → β) (p : β → Bool) (l : List α) : (l.map f).findIdx? p = l.findIdx? (fun x => p (f x)) := by
  induction l with
  | nil => rfl
  | cons x l ih => simp [List.findIdx?_cons, ih]
theorem spareB_strip {α : Type} (st : Int → Bool) (L : List (Ver α)) (y : Ver α) : spareB st (L.map strip) (strip y) = spareB st L y := by
  unfold spareB
  rw [findIdx_map, ← List.map_drop, List.any_map]
  rfl
theorem spareI_strip {α : Type} (st : Int → Bool) (L : List (Ver α)) : spareI st (L.map strip) = spareI st L := by
  unfold spareI
  rw [findIdx_map]
  congr 1
  funext y
  exact spareB_strip st L y
theorem spareI_congr {α β : Type} (st : Int → Bool) {L : List (Ver α)} {H : List (Ver β)} (h : H.map strip = L.map strip) : spareI st H = spareI st L := by
  rw [← spareI_strip st H, h, spareI_strip]
theorem spareI_lt {α : Type} {st : Int → Bool} {L : List (Ver α)} {i : Nat} (h : spareI st L = some i) : i < L.length := (List.findIdx?_eq_some_iff_getElem.1 h).1
end Go.Lig
namespace Go.Proofs.YtibfpkfpmkghhaaGreatDoor
open Go.RowKit Go.Lig

theorem VersIn.strip {w : World} {I : Nat → Prop} {H : List (Ver NodeV)} {L : List (Ver NodeD)} (h : VersIn w I H L) : H.map Go.Lig.strip = L.map Go.Lig.strip := by
  refine List.ext_getElem (by simp [h.len]) (fun j h1 h2 => ?_)
  simp only [List.length_map] at h1 h2
  have := h.at_ j _ _ (List.getElem?_eq_getElem h1) (List.getElem?_eq_getElem h2)
  simp [Go.Lig.strip, this.by_, this.gone]
theorem VersIn.sweep {w : World} {I : Nat → Prop} {H : List (Ver NodeV)} {L : List (Ver NodeD)} (h : VersIn w I H L) (st : Int → Bool) : VersIn w I (sweepL st H) (sweepL st L) := by
  unfold sweepL
  rw [spareI_congr st h.strip]
  cases hi : spareI st L with
  | none => exact h
  | some i =>
    have hil := spareI_lt hi
    have hl := h.len
    refine ⟨by simp [hl], fun j x d e1 e2 => ?_⟩
    rcases Nat.lt_or_ge j i with hj | hj
    · rw [List.getElem?_append_left (by simp; omega), List.getElem?_take_of_lt hj] at e1 e2
      exact h.at_ j x d e1 e2
    · rw [List.getElem?_append_right (by simp; omega), List.getElem?_drop] at e1 e2
      simp only [List.length_take] at e1 e2
      rw [show min i H.length = i by omega] at e1
      rw [show min i L.length = i by omega] at e2
      exact h.at_ _ x d e1 e2
theorem NCell.sweep {w : World} {T I : Nat → Prop} {x : Nat} {L : List (Ver NodeD)} (h : NCell w T I x L) (c gk : Nat) (K : Ck) (hk : ClkRow w c gk K) (hks : K.l.length ≤ 1000000) (hi : ∀ k, I k → ¬ T k) :
    Calls Tryz.prog 68 #[.pointer (some ⟨x, 0, none⟩), .pointer (some ⟨c, 0, none⟩)] w fun e w' => e = .returned (.bool (spareI K.settled L).isSome) ∧ NCell w' T I x (sweepL K.settled L) ∧ Fr T w w' ∧ ((spareI K.settled L).isSome = false → Fr No w w') := by
  obtain ⟨H, hc, hv⟩ := h.ex
  have := sweep_any w T x c gk H K hc hk hks
  rw [spareI_congr K.settled hv.strip] at this
  refine this.mono ?_
  rintro e w' ⟨rfl, h1, h2, h3⟩
  exact ⟨rfl, ⟨_, h1, (hv.sweep K.settled).frame h2 hi⟩, h2, h3⟩
/-- a version swept -/
def swN (M : PSt) (i : Nat) : PSt := { M with N := M.N.set i (sweepL M.K.settled (M.N[i]?.getD [])) }
def swE (M : PSt) (i : Nat) : PSt := { M with E := M.E.set i (sweepL M.K.settled (M.E[i]?.getD [])) }
section
variable {w w' : World} {ρ : Nat → Option Pt} {s : Nat} {A : Ad} {M : PSt} {F : Nat} (h : StAt w ρ s A M F)
include h
theorem StAt.swN_ {i : Nat} {L : List (Ver NodeD)} (hL : M.N[i]? = some L) (k : NCell w' (At ρ (.node i)) (At ρ .imm) (A.x i) (sweepL M.K.settled L)) (f : Fr (At ρ (.node i)) w w') :
    TurnsA w ρ s A (swN M i) F w' := by
  have hi := (List.getElem?_eq_some_iff.1 hL).1
  have := h.node_ (F' := F) hi k f (Grown.refl _ _) (Nat.le_refl _) (Nat.le_trans (sweep_len _ _) (h.at_ (.node i) L hL).2)
  unfold swN
  rw [hL]
  exact this
theorem StAt.swE_ {i : Nat} {L : List (Ver EdgeV)} (hL : M.E[i]? = some L) (k : Ec.CellAt w' (At ρ (.edge i)) (A.z i) (sweepL M.K.settled L)) (f : Fr (At ρ (.edge i)) w w') :
    TurnsA w ρ s A (swE M i) F w' := by
  have hi := (List.getElem?_eq_some_iff.1 hL).1
  have := h.edge_ (F' := F) hi k f (Grown.refl _ _) (Nat.le_refl _) (Nat.le_trans (sweep_len _ _) (h.at_ (.edge i) L hL).2)
  unfold swE
  rw [hL]
  exact this
end
end Go.Proofs.YtibfpkfpmkghhaaGreatDoor

namespace Go.Proofs.YtibfpkfpmkghhaaGreatDoor
open Go.RowKit Go.Lig

def sparN (M : PSt) (i : Nat) : Bool := (spareI M.K.settled (M.N[i]?.getD [])).isSome
def sparE (M : PSt) (i : Nat) : Bool := (spareI M.K.settled (M.E[i]?.getD [])).isSome
def firstB (f : Nat → Bool) (n : Nat) : Option Nat := (List.range n).find? f
theorem firstB_some {f : Nat → Bool} {n i : Nat} (hi : i < n) (hf : f i = true) (hb : ∀ k, k < i → f k = false) : firstB f n = some i := by
  unfold firstB
  rw [List.find?_range_eq_some]
  exact ⟨hf, by simpa using hi, fun k hk => by simp [hb k hk]⟩
theorem firstB_none {f : Nat → Bool} {n : Nat} (hb : ∀ k, k < n → f k = false) : firstB f n = none := by
  unfold firstB
  rw [List.find?_range_eq_none]
  exact fun k hk => by simp [hb k hk]
theorem firstB_is {f : Nat → Bool} {n i : Nat} (h : firstB f n = some i) : i < n ∧ f i = true ∧ ∀ k, k < i → f k = false := by
  unfold firstB at h
  rw [List.find?_range_eq_some] at h
  exact ⟨by simpa using h.2.1, h.1, fun k hk => by simpa using h.2.2 k hk⟩
def exVacN (p : PF) (i : Nat) : PF := (findsM (swN p.1 i) i, finF (swN p.1 i) i p.2)
def exVacE (p : PF) (j : Nat) : PF := (linkM (swE p.1 j) j, p.2 + 2)
def opVac (p : PF) : Bool × PF := match firstB (sparN p.1) p.1.N.length with
  | some i => (true, exVacN p i)
  | none => match firstB (sparE p.1) p.1.E.length with
    | some j => (true, exVacE p j)
    | none => (false, p)
def rmVac (p : PF) : Bool := match firstB (sparN p.1) p.1.N.length with
  | some i => decide (i < p.1.Y.length) && decide (finF (swN p.1 i) i p.2 < 999990)
  | none => decide (p.2 < 1000000)
set_option maxRecDepth 100000 in
set_option maxHeartbeats 4000000 in
theorem vacuum_any (w : World) (ρ : Nat → Option Pt) (s : Nat) (A : Ad) (p : PF) (h : StAt w ρ s A p.1 p.2) (hr : rmVac p = true) :
    Calls Tryz.prog 23 #[.pointer (some ⟨s, 0, none⟩)] w fun e w' => e = .returned (.bool (opVac p).1) ∧ TurnsA w ρ s A (opVac p).2.1 (opVac p).2.2 w' := by
  obtain ⟨M, F⟩ := p
  dsimp only at h
  have x1 := h.cells.2.1
  obtain ⟨an, cn, hnv⟩ := ownsRow_slice (h.at_ .nrow).1
  rw [hnv] at x1
  have hn6 := h.nlen
  obtain ⟨gk, hck, -⟩ := h.clock.row
  have hks := h.clock.small.1
  have HH := hid (⟨h, hnv, hck, hks⟩ : _ ∧ _ ∧ _ ∧ _)
  have HRm := hid hr
  clear h hnv hck hks hr
  go_enter Tryz.func23, Tryz.ntmps23
  go_wp2_with fail
  generalize hNe : M.N.length = n at *
  have HNe := hid hNe
  clear hNe
  go_loopw [14] (fun vi wr => ∃ i : Nat, i ≤ n ∧ vi = .int .i64 (i : Int) ∧ Hid (Fr No w wr ∧ ∀ k, k < i → sparN M k = false)) (fun vi _ => n - (intOf vi).toNat)
  case atStart => exact ⟨0, Nat.zero_le _, rfl, Fr.refl _ _, fun k hk => absurd hk (Nat.not_lt_zero _)⟩
  case round =>
    obtain ⟨i, hi, rfl, HI⟩ := hrel
    have h2 := HH.out.1.frame HI.out.1
    by_cases hlt : i < n
    · obtain ⟨L, hL⟩ : ∃ L, M.N[i]? = some L := ⟨M.N[i]'(by have := HNe.out; omega), List.getElem?_eq_getElem _⟩
      have hr2 := (h2.at_ .nrow).1
      rw [HH.out.2.1, HNe.out] at hr2
      obtain ⟨gr, cur, rfl, -, -⟩ := owns_at hr2 (by omega)
      have hc := owns_cell hr2 rfl (ptrs_get A.x n i hlt)
      have x0 := h2.cells.1
      have HU := hid ((h2.ncell hL).sweep A.c gk M.K (HH.out.2.2.1.frame HI.out.1) HH.out.2.2.2 (at_apart (by simp)))
      have hw : wrap64 ((i : Int) + 1) = (i : Int) + 1 := by unfold wrap64; omega
      have HS : Hid (sparN M i = (spareI M.K.settled L).isSome) := hid (by unfold sparN; rw [hL]; rfl)
      have H2 := hid (⟨h2, hL⟩ : _ ∧ _)
      clear h2 hL hr2
      cases hb : (spareI M.K.settled L).isSome with
      | false =>
        rw [hb] at HU HS
        clear hb
        go_wp2_with (go_at_call 68; refine HU.out.mono ?_; rintro e w3 ⟨rfl, -, -, f3⟩; have F3 := hid (HI.out.1.thenNo (f3 rfl)); clear f3)
        go_roundw
        case rel => exact ⟨i + 1, by omega, by go_num, F3.out, fun k hk => by
          rcases Nat.lt_succ_iff_lt_or_eq.1 hk with h | rfl
          · exact HI.out.2 k h
          · exact HS.out⟩
        case measure => simp [intOf]; omega
      | true =>
        rw [hb] at HU HS
        clear hb
        have hfb : firstB (sparN M) M.N.length = some i := firstB_some (by rw [HNe.out]; exact hlt) HS.out HI.out.2
        have HFB := hid hfb
        have hrm := HRm.out
        unfold rmVac at hrm
        dsimp only at hrm
        rw [hfb] at hrm
        simp only [Bool.and_eq_true, decide_eq_true_eq] at hrm
        have HFi := hid (finds_go (M := swN M i) (k := i) (F := F) (by simpa [swN] using hrm.1) (by simp [swN]; have := HNe.out; omega) hrm.2)
        have HO : Hid (opVac (M, F) = (true, exVacN (M, F) i)) := hid (by unfold opVac; dsimp only; rw [hfb])
        clear hfb hrm
        go_wp2_with (first | (go_at_call 68; refine HU.out.mono ?_; rintro e w3 ⟨rfl, k3, f3, -⟩; have T3 := hid (H2.out.1.swN_ H2.out.2 k3 f3); obtain ⟨ρ3, h3, g3⟩ := T3.out; have G3 := hid (⟨h3, (Gone.no HI.out.1).trans g3⟩ : _ ∧ _); clear k3 f3 h3 g3) | (go_at_call 59; go_must (refine (HFi.out w3 ρ3 s A G3.out.1).mono ?_); rintro e w4 ⟨rfl, t4⟩; have T4 := hid (TurnsA.trans G3.out.2 t4); clear t4))
        go_ret
        rw [HO.out]
        exact ⟨rfl, T4.out⟩
    · obtain rfl : i = n := by omega
      have hfn : firstB (sparN M) M.N.length = none := firstB_none (by rw [HNe.out]; exact HI.out.2)
      have HFN := hid hfn
      obtain ⟨a2, c2, hdv⟩ := ownsRow_slice (h2.at_ .edrow).1
      have x2 := h2.cells.2.2.1
      rw [hdv] at x2
      have HD := hid hdv
      have hel := h2.elen
      have hrm := HRm.out
      unfold rmVac at hrm
      dsimp only at hrm
      rw [hfn] at hrm
      simp only [decide_eq_true_eq] at hrm
      have HF6 := hid hrm
      have H2 := hid h2
      clear h2 hdv hfn hrm x1
      go_wp2_with fail
      generalize hEe : M.E.length = m at *
      have HEe := hid hEe
      clear hEe
      go_loopw [35] (fun vi wr2 => ∃ j : Nat, j ≤ m ∧ vi = .int .i64 (j : Int) ∧ Hid (Fr No w wr2 ∧ ∀ k, k < j → sparE M k = false)) (fun vi _ => m - (intOf vi).toNat)
      case atStart => exact ⟨0, Nat.zero_le _, rfl, HI.out.1, fun k hk => absurd hk (Nat.not_lt_zero _)⟩
      case round =>
        obtain ⟨j, hj, rfl, HJ⟩ := hrel
        have h3 := HH.out.1.frame HJ.out.1
        by_cases hlt2 : j < m
        · obtain ⟨L, hL⟩ : ∃ L, M.E[j]? = some L := ⟨M.E[j]'(by have := HEe.out; omega), List.getElem?_eq_getElem _⟩
          have hr2 := (h3.at_ .edrow).1
          rw [HD.out, HEe.out] at hr2
          obtain ⟨gr, cur, rfl, -, -⟩ := owns_at hr2 (by omega)
          have hc := owns_cell hr2 rfl (ptrs_get A.z m j hlt2)
          have x0 := h3.cells.1
          have HU := hid (Ec.sweep_any _ _ (A.z j) A.c gk L M.K (h3.ecell hL) (HH.out.2.2.1.frame HJ.out.1) HH.out.2.2.2)
          have hw : wrap64 ((j : Int) + 1) = (j : Int) + 1 := by unfold wrap64; omega
          have HS : Hid (sparE M j = (spareI M.K.settled L).isSome) := hid (by unfold sparE; rw [hL]; rfl)
          have H3 := hid (⟨h3, hL⟩ : _ ∧ _)
          clear h3 hL hr2
          cases hb : (spareI M.K.settled L).isSome with
          | false =>
            rw [hb] at HU HS
            clear hb
            go_wp2_with (go_at_call 69; refine HU.out.mono ?_; rintro e w4 ⟨rfl, -, -, f4⟩; have F4 := hid (HJ.out.1.thenNo (f4 rfl)); clear f4)
            go_roundw
            case rel => exact ⟨j + 1, by omega, by go_num, F4.out, fun k hk => by
              rcases Nat.lt_succ_iff_lt_or_eq.1 hk with h | rfl
              · exact HJ.out.2 k h
              · exact HS.out⟩
            case measure => simp [intOf]; omega
          | true =>
            rw [hb] at HU HS
            clear hb
            have hfb : firstB (sparE M) M.E.length = some j := firstB_some (by rw [HEe.out]; exact hlt2) HS.out HJ.out.2
            have HO : Hid (opVac (M, F) = (true, exVacE (M, F) j)) := hid (by unfold opVac; dsimp only; rw [HFN.out]; dsimp only; rw [hfb])
            clear hfb
            go_wp2_with (first | (go_at_call 69; refine HU.out.mono ?_; rintro e w4 ⟨rfl, k4, f4, -⟩; have T4 := hid (H3.out.1.swE_ H3.out.2 k4 f4); obtain ⟨ρ4, h4, g4⟩ := T4.out; have G4 := hid (⟨h4, (Gone.no HJ.out.1).trans g4⟩ : _ ∧ _); clear k4 f4 h4 g4) | (go_at_call 61; go_must (refine (links_any w4 ρ4 s A _ F G4.out.1 j (by simp [swE]; have := HEe.out; omega) HF6.out).mono ?_); rintro e w5 ⟨rfl, t5⟩; have T5 := hid (TurnsA.trans G4.out.2 t5); clear t5))
            go_ret
            rw [HO.out]
            exact ⟨rfl, T5.out⟩
        · obtain rfl : j = m := by omega
          have hfb : firstB (sparE M) M.E.length = none := firstB_none (by rw [HEe.out]; exact HJ.out.2)
          have HO : Hid (opVac (M, F) = (false, (M, F))) := hid (by unfold opVac; dsimp only; rw [HFN.out]; dsimp only; rw [hfb])
          clear hfb h3
          go_wp2_with fail
          go_ret
          rw [HO.out]
          exact ⟨rfl, ρ, HH.out.1.frame HJ.out.1, Gone.no HJ.out.1⟩
theorem x_vacuum {S : Nat → Prop} {w0 w : World} {s : Nat} {p : PF} (h : OwG S w0 w s p) (hr : rmVac p = true) : Calls Tryz.prog 23 #[.pointer (some ⟨s, 0, none⟩)] w fun e w' => e = .returned (.bool (opVac p).1) ∧ OwG S w0 w' s (opVac p).2 := by
  obtain ⟨ρ, A, h1, h2⟩ := h.ex
  exact (vacuum_any w ρ s A p h1 hr).mono (by rintro e w' ⟨rfl, t⟩; exact ⟨rfl, OwG.turns h2 h.fr t.turns⟩)
end Go.Proofs.YtibfpkfpmkghhaaGreatDoor
