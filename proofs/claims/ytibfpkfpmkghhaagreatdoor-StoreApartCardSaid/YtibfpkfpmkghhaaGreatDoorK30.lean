/- A part of the proof: contracts of functions of the program, for the row's text. -/
import Derived.Test.YtibfpkfpmkghhaaGreatDoorK08
import Derived.Test.YtibfpkfpmkghhaaGreatDoorK11
import Derived.Test.YtibfpkfpmkghhaaGreatDoorK29
namespace Go.Proofs.YtibfpkfpmkghhaaGreatDoor
open Go.RowKit Go.Lig

theorem wrote1_any (w : World) (y : Ver NodeV) (t : Int) (b : Nat) (hb : w.cell? ⟨b, 0, none⟩ = some (.int .i64 t)) :
    Calls Tryz.prog 263 #[.agg #[.int .i64 y.by_, .slice y.v.l.a y.v.l.n y.v.l.c, .slice y.v.p.a y.v.p.n y.v.p.c, .bool y.gone], .pointer (some ⟨b, 0, none⟩)] w fun e w' => e = .returned (.bool (y.by_ == t)) ∧ Fr No w w' := by
  have hlt : b < w.heap.size := World.block_lt_of_cell? w _ hb
  go_enter Tryz.func263, Tryz.ntmps263
  go_wp2
  go_ret
  exact ⟨rfl, (Fr.refl No w).alloc _⟩
theorem enter_wrote1 : ∀ args w, (callFunc 263 args).run Tryz.prog w = .ok (.enter 263 args) w := enters_of Tryz.func263 (by kernel_rfl) rfl
theorem anyv_any (w : World) (a : Option Addr) (g cap : Nat) (L : List (Ver NodeV)) (ha : 0 < L.length → a = some ⟨g, 0, none⟩) (hs : L.length ≤ 1000000) (hc : ∀ W, Fr No w W → ∀ j y, L[j]? = some y → NcAt W g j y) (cf : Nat) (clb : Array Value) (p : Ver NodeV → Bool)
    (hcf : ∀ args w, (callFunc cf args).run Tryz.prog w = .ok (.enter cf args) w)
    (hp : ∀ W y, Fr No w W → Calls Tryz.prog cf (#[.agg #[.int .i64 y.by_, .slice y.v.l.a y.v.l.n y.v.l.c, .slice y.v.p.a y.v.p.n y.v.p.c, .bool y.gone]] ++ clb) W fun e W' => e = .returned (.bool (p y)) ∧ Fr No W W') :
    Calls Tryz.prog 204 #[.slice a L.length cap, .func (.func cf) #[] clb] w fun e w' => e = .returned (.bool (L.any p)) ∧ Fr No w w' := by
  have HI := hid (idxv_any w a g cap L ha hs hc cf clb p hcf hp)
  have HA : Hid (∀ i : Int, ((i = -1 ∧ ∀ y ∈ L, p y = false) ∨ ∃ j : Nat, i = j ∧ j < L.length ∧ (∃ y, L[j]? = some y ∧ p y = true) ∧ ∀ k y, k < j → L[k]? = some y → p y = false) → decide (0 ≤ i) = L.any p) := hid (fun i hi => by
    rcases hi with ⟨rfl, h⟩ | ⟨j, rfl, -, ⟨y, hy, hpy⟩, -⟩
    · rw [List.any_eq_false.2 (fun y hy => by simp [h y hy])]
      rfl
    · rw [List.any_eq_true.2 ⟨y, List.mem_of_getElem? hy, hpy⟩]
      exact decide_eq_true (by omega))
  generalize L.any p = b at *
  clear ha hs hc hcf hp
  go_enter Tryz.func204, Tryz.ntmps204
  go_wp2_with (go_at_call 190; refine HI.out.mono ?_; rintro e w1 ⟨i, rfl, f1, h1⟩; have F1 := hid (⟨f1, h1⟩ : _ ∧ _); clear f1 h1)
  go_ret
  have e1 := HA.out i F1.out.2
  exact ⟨by rw [← e1]; rfl, F1.out.1⟩
/-- did t write one? -/
def wroteL (t : Int) (L : List (Ver NodeV)) : Bool := L.any (fun y => y.by_ == t)
set_option maxHeartbeats 1000000 in
theorem wrote_any (w : World) (T : Nat → Prop) (x : Nat) (L : List (Ver NodeV)) (h : CellAt w T x L) (t : Int) :
    Calls Tryz.prog 220 #[.pointer (some ⟨x, 0, none⟩), .int .i64 t] w fun e w' => e = .returned (.bool (wroteL t L)) ∧ Fr No w w' := by
  obtain ⟨g, hrow, -⟩ := h.row
  obtain ⟨a, cap, g1, g2, g3, -⟩ := hrow.ex
  have hf : Fr No w (w.alloc (.cells #[.int .i64 t] 3)) := (Fr.refl No w).alloc _
  have hb := heap1 w (.cells #[.int .i64 t] 3)
  have x1 := cells1 (hf.keep g1 (fun e => e))
  have HA := hid (fun (W : World) (hW : Fr No (w.alloc (.cells #[.int .i64 t] 3)) W) => anyv_any W a g cap L g3 h.small (fun U hU j y hy => (hrow.frame ((hf.thenNo hW).thenNo hU)).cell hy) 263 #[.pointer (some ⟨w.heap.size, 0, none⟩)] (fun y => y.by_ == t) enter_wrote1 (fun U y hU => wrote1_any U y t w.heap.size (cells1 ((hW.thenNo hU).keep hb (fun e => e)))))
  have HL : Hid (wroteL t L = L.any (fun y => y.by_ == t)) := hid rfl
  rw [HL.out]
  generalize L.any (fun y => y.by_ == t) = r at *
  generalize L.length = n at *
  have HF := hid hf
  clear HL h hrow g1 g2 g3 hf hb
  go_enter Tryz.func220, Tryz.ntmps220
  go_wp2_with (go_at_call 204; refine (HA.out _ (Fr.refl _ _)).mono ?_; rintro e w2 ⟨rfl, f2⟩; have F2 := hid (HF.out.thenNo f2); clear f2)
  go_ret
  exact ⟨rfl, F2.out⟩
end Go.Proofs.YtibfpkfpmkghhaaGreatDoor

namespace Go.Proofs.YtibfpkfpmkghhaaGreatDoor.Ec
open Go.RowKit Go.Lig

theorem wrote1_any (w : World) (y : Ver EdgeV) (t : Int) (b : Nat) (hb : w.cell? ⟨b, 0, none⟩ = some (.int .i64 t)) :
    Calls Tryz.prog 264 #[.agg #[.int .i64 y.by_, .int .i64 y.v.from_, .int .i64 y.v.to_, .string y.v.type, .float .f64 y.v.w, .bool y.gone], .pointer (some ⟨b, 0, none⟩)] w fun e w' => e = .returned (.bool (y.by_ == t)) ∧ Fr No w w' := by
  have hlt : b < w.heap.size := World.block_lt_of_cell? w _ hb
  go_enter Tryz.func264, Tryz.ntmps264
  go_wp2
  go_ret
  exact ⟨rfl, (Fr.refl No w).alloc _⟩
theorem enter_wrote1 : ∀ args w, (callFunc 264 args).run Tryz.prog w = .ok (.enter 264 args) w := enters_of Tryz.func264 (by kernel_rfl) rfl
theorem anyv_any (w : World) (a : Option Addr) (g cap : Nat) (L : List (Ver EdgeV)) (ha : 0 < L.length → a = some ⟨g, 0, none⟩) (hs : L.length ≤ 1000000) (hc : ∀ W, Fr No w W → ∀ j y, L[j]? = some y → NcAt W g j y) (cf : Nat) (clb : Array Value) (p : Ver EdgeV → Bool)
    (hcf : ∀ args w, (callFunc cf args).run Tryz.prog w = .ok (.enter cf args) w)
    (hp : ∀ W y, Fr No w W → Calls Tryz.prog cf (#[.agg #[.int .i64 y.by_, .int .i64 y.v.from_, .int .i64 y.v.to_, .string y.v.type, .float .f64 y.v.w, .bool y.gone]] ++ clb) W fun e W' => e = .returned (.bool (p y)) ∧ Fr No W W') :
    Calls Tryz.prog 208 #[.slice a L.length cap, .func (.func cf) #[] clb] w fun e w' => e = .returned (.bool (L.any p)) ∧ Fr No w w' := by
  have HI := hid (idxv_any w a g cap L ha hs hc cf clb p hcf hp)
  have HA : Hid (∀ i : Int, ((i = -1 ∧ ∀ y ∈ L, p y = false) ∨ ∃ j : Nat, i = j ∧ j < L.length ∧ (∃ y, L[j]? = some y ∧ p y = true) ∧ ∀ k y, k < j → L[k]? = some y → p y = false) → decide (0 ≤ i) = L.any p) := hid (fun i hi => by
    rcases hi with ⟨rfl, h⟩ | ⟨j, rfl, -, ⟨y, hy, hpy⟩, -⟩
    · rw [List.any_eq_false.2 (fun y hy => by simp [h y hy])]
      rfl
    · rw [List.any_eq_true.2 ⟨y, List.mem_of_getElem? hy, hpy⟩]
      exact decide_eq_true (by omega))
  generalize L.any p = b at *
  clear ha hs hc hcf hp
  go_enter Tryz.func208, Tryz.ntmps208
  go_wp2_with (go_at_call 196; refine HI.out.mono ?_; rintro e w1 ⟨i, rfl, f1, h1⟩; have F1 := hid (⟨f1, h1⟩ : _ ∧ _); clear f1 h1)
  go_ret
  have e1 := HA.out i F1.out.2
  exact ⟨by rw [← e1]; rfl, F1.out.1⟩
/-- did t write one? -/
def wroteL (t : Int) (L : List (Ver EdgeV)) : Bool := L.any (fun y => y.by_ == t)
set_option maxHeartbeats 1000000 in
theorem wrote_any (w : World) (T : Nat → Prop) (x : Nat) (L : List (Ver EdgeV)) (h : CellAt w T x L) (t : Int) :
    Calls Tryz.prog 223 #[.pointer (some ⟨x, 0, none⟩), .int .i64 t] w fun e w' => e = .returned (.bool (wroteL t L)) ∧ Fr No w w' := by
  obtain ⟨g, hrow, -⟩ := h.row
  obtain ⟨a, cap, g1, g2, g3, -⟩ := hrow.ex
  have hf : Fr No w (w.alloc (.cells #[.int .i64 t] 3)) := (Fr.refl No w).alloc _
  have hb := heap1 w (.cells #[.int .i64 t] 3)
  have x1 := cells1 (hf.keep g1 (fun e => e))
  have HA := hid (fun (W : World) (hW : Fr No (w.alloc (.cells #[.int .i64 t] 3)) W) => anyv_any W a g cap L g3 h.small (fun U hU j y hy => (hrow.frame ((hf.thenNo hW).thenNo hU)).cell hy) 264 #[.pointer (some ⟨w.heap.size, 0, none⟩)] (fun y => y.by_ == t) enter_wrote1 (fun U y hU => wrote1_any U y t w.heap.size (cells1 ((hW.thenNo hU).keep hb (fun e => e)))))
  have HL : Hid (wroteL t L = L.any (fun y => y.by_ == t)) := hid rfl
  rw [HL.out]
  generalize L.any (fun y => y.by_ == t) = r at *
  generalize L.length = n at *
  have HF := hid hf
  clear HL h hrow g1 g2 g3 hf hb
  go_enter Tryz.func223, Tryz.ntmps223
  go_wp2_with (go_at_call 208; refine (HA.out _ (Fr.refl _ _)).mono ?_; rintro e w2 ⟨rfl, f2⟩; have F2 := hid (HF.out.thenNo f2); clear f2)
  go_ret
  exact ⟨rfl, F2.out⟩
end Go.Proofs.YtibfpkfpmkghhaaGreatDoor.Ec

namespace Go.Proofs.YtibfpkfpmkghhaaGreatDoor
open Go.RowKit Go.Lig

theorem WrsO.cat {w0 wa wb w3 : World} {va vb v' : Value} {la lb : List WrD} {Ha Hb : List WrV} {Ja Jb : Nat → Prop} (ha : WrsO w0 wa va la) (hha : WrsH w0 wa va la Ha Ja) (hb : WrsO wa wb vb lb) (hhb : WrsH wa wb vb lb Hb Jb) (o : w3.ownsRow 0 71 9 v' (la.length + lb.length) (Ha.flatMap wrcell ++ Hb.flatMap wrcell)) (f : Fr (fun k => va.ownBlock = some k) wb w3)
    (bk : ∀ k, v'.ownBlock = some k → va.ownBlock = some k ∨ wb.heap.size ≤ k) : WrsO w0 w3 v' (la ++ lb) := by
  have hz := hb.fr.size
  have hz3 := f.size
  have hva : ∀ k, va.ownBlock = some k → k < wa.heap.size := fun k hk => (hha.row.lt k hk).2
  refine ⟨⟨Ha ++ Hb, fun k => Ja k ∨ Jb k, ⟨by simp [hha.len, hhb.len], ?_, ?_, ?_⟩⟩, ?_, ?_⟩
  · rw [List.length_append, List.flatMap_append]
    exact o
  · intro j x y e1 e2
    rcases Nat.lt_or_ge j Ha.length with hj | hj
    · rw [List.getElem?_append_left hj] at e1
      rw [List.getElem?_append_left (by rw [← hha.len]; exact hj)] at e2
      exact (((hha.ins j x y e1 e2).frame hb.fr (fun _ _ e => e)).frame f (fun k hk e => (hha.jb k hk).2.2 e)).mono (fun _ e => .inl e)
    · rw [List.getElem?_append_right hj] at e1
      rw [List.getElem?_append_right (by rw [← hha.len]; exact hj), ← hha.len] at e2
      exact ((hhb.ins _ x y e1 e2).frame f (fun k hk e => by have := hva k e; have := (hhb.jb k hk).1; omega)).mono (fun _ e => .inr e)
  · intro k hk
    rcases hk with hk | hk
    · have h1 := hha.jb k hk
      exact ⟨h1.1, by omega, fun e => by
        rcases bk k e with e1 | e1
        · exact h1.2.2 e1
        · omega⟩
    · have h1 := hhb.jb k hk
      exact ⟨by have := ha.fr.size; omega, by omega, fun e => by
        rcases bk k e with e1 | e1
        · have := hva k e1; omega
        · omega⟩
  · intro k hk
    rcases bk k hk with e | e
    · exact ha.blk k e
    · have := ha.fr.size; omega
  · exact (ha.fr.thenNo hb.fr).trans f (fun k hk e => by have := ha.blk k e; omega)
theorem pend1_any (w : World) (x b : Nat) (t : Int) (r : Bool) (hb : w.cell? ⟨b, 0, none⟩ = some (.int .i64 t)) (hw : Calls Tryz.prog 220 #[.pointer (some ⟨x, 0, none⟩), .int .i64 t] w fun e w' => e = .returned (.bool r) ∧ Fr No w w') :
    Calls Tryz.prog 219 #[.pointer (some ⟨x, 0, none⟩), .pointer (some ⟨b, 0, none⟩)] w fun e w' => e = .returned (.bool r) ∧ Fr No w w' := by
  have HW := hid hw
  clear hw
  go_enter Tryz.func219, Tryz.ntmps219
  go_wp2_with (go_at_call 220; refine HW.out.mono ?_; rintro e w1 ⟨rfl, f1⟩; have F1 := hid f1; clear f1)
  go_ret
  exact ⟨rfl, F1.out⟩
theorem enter_pend1_any : ∀ args w, (callFunc 219 args).run Tryz.prog w = .ok (.enter 219 args) w := enters_of Tryz.func219 (by kernel_rfl) rfl
theorem pend3_any (w : World) (x b : Nat) (t : Int) (r : Bool) (hb : w.cell? ⟨b, 0, none⟩ = some (.int .i64 t)) (hw : Calls Tryz.prog 223 #[.pointer (some ⟨x, 0, none⟩), .int .i64 t] w fun e w' => e = .returned (.bool r) ∧ Fr No w w') :
    Calls Tryz.prog 222 #[.pointer (some ⟨x, 0, none⟩), .pointer (some ⟨b, 0, none⟩)] w fun e w' => e = .returned (.bool r) ∧ Fr No w w' := by
  have HW := hid hw
  clear hw
  go_enter Tryz.func222, Tryz.ntmps222
  go_wp2_with (go_at_call 223; refine HW.out.mono ?_; rintro e w1 ⟨rfl, f1⟩; have F1 := hid f1; clear f1)
  go_ret
  exact ⟨rfl, F1.out⟩
theorem enter_pend3_any : ∀ args w, (callFunc 222 args).run Tryz.prog w = .ok (.enter 222 args) w := enters_of Tryz.func222 (by kernel_rfl) rfl
set_option maxRecDepth 100000 in
set_option maxHeartbeats 1000000 in
theorem pend2_any (w : World) (x s c b2 b3 : Nat) (t : Int) (la : Option Addr) (ln lc : Nat) (pa : Option Addr) (pn pc : Nat) (rb : Bool) (h2 : w.cell? ⟨b2, 0, none⟩ = some (.pointer (some ⟨s, 0, none⟩))) (h3 : w.cell? ⟨b3, 0, none⟩ = some (.int .i64 t)) (hc : w.cell? ⟨s, 0, none⟩ = some (.pointer (some ⟨c, 0, none⟩)))
    (hr : ∀ u, Fr No w u → Calls Tryz.prog 52 #[.pointer (some ⟨x, 0, none⟩), .pointer (some ⟨c, 0, none⟩), .int .i64 t] u fun e w' => e = .returned (.tuple #[.agg #[.slice la ln lc, .slice pa pn pc], .bool rb]) ∧ Fr No u w') :
    Calls Tryz.prog 221 #[.pointer (some ⟨x, 0, none⟩), .pointer (some ⟨b2, 0, none⟩), .pointer (some ⟨b3, 0, none⟩)] w fun e w' => e = .returned (.tuple #[.agg #[.slice la ln lc, .slice pa pn pc], .bool rb]) ∧ Fr No w w' := by
  have hb := heap1 w (.cells #[.slice none 0 0, .slice none 0 0] 31)
  have hf : Fr No w (w.alloc (.cells #[.slice none 0 0, .slice none 0 0] 31)) := (Fr.refl No w).alloc _
  have HSC : Hid (∀ j ∈ [s, b2, b3], j < w.heap.size) := hid (fun j hj => by
    rcases List.mem_cons.1 hj with rfl | hj
    · exact World.block_lt_of_cell? _ _ hc
    rcases List.mem_cons.1 hj with rfl | hj
    · exact World.block_lt_of_cell? _ _ h2
    rw [List.mem_singleton.1 hj]
    exact World.block_lt_of_cell? _ _ h3)
  have HR := hid hr
  have HC := hid (⟨hc, h2, h3⟩ : _ ∧ _ ∧ _)
  have e0 : ∀ b k, b < w.heap.size → (w.alloc (.cells #[.slice none 0 0, .slice none 0 0] 31)).cell? ⟨b, k, none⟩ = w.cell? ⟨b, k, none⟩ := fun b k hb => World.cell?_of_block (w := w) (hold hb)
  have c0 := (e0 s 0 (HSC.out s (by simp))).trans hc
  have c2 := (e0 b2 0 (HSC.out b2 (by simp))).trans h2
  have c3 := (e0 b3 0 (HSC.out b3 (by simp))).trans h3
  clear h2 h3 hc hr e0
  go_enter Tryz.func221, Tryz.ntmps221
  go_wp2_with fail
  generalize w.alloc (.cells #[.slice none 0 0, .slice none 0 0] 31) = w1 at *
  have HF := hid (⟨hf, hb⟩ : _ ∧ _)
  clear hf hb
  have hsc : ∀ j ∈ [s, b2, b3], j < w1.drew.heap.size ∧ ¬ No j := fun j hj => ⟨Nat.lt_of_lt_of_le (HSC.out j hj) HF.out.1.size, fun e => e⟩
  refine wp_region_sched (by kernel_rfl) 11 [6, 9] [0, 1, 2, 3, 4, 5, 6, 7, 8, 9, 10] (AgC [s, b2, b3] w1.drew) (by kernel_rfl) (AgC.refl _ _) ?_
  simp only [List.map_cons, List.map_nil, List.contains_cons, List.contains_nil, nth_zero, nth_succ, Nat.reduceBEq, Bool.false_or, Bool.or_false, Bool.or_true, Bool.true_or]
  repeat (refine sched_quiet (fun K hK => ?_); go_simp; refine hK _ ?_; clear hK K)
  refine sched_call (by first | rfl | go_simp) 52 #[.pointer (some ⟨x, 0, none⟩), .pointer (some ⟨c, 0, none⟩), .int .i64 t] (by first | kernel_rfl | go_simp) (HR.out _ HF.out.1.drew) ?_
  rintro e w2 ⟨rfl, f2⟩
  have a2 := (AgC.refl _ w1.drew).fr f2 hsc
  have F2 := hid (⟨HF.out.1.drew.thenNo f2, f2.keep (w := w1.drew) HF.out.2 (fun e => e)⟩ : _ ∧ _)
  refine ⟨_, rfl, a2, ?_⟩
  clear f2
  repeat (refine sched_quiet (fun K hK => ?_); go_simp; refine hK _ ?_; clear hK K)
  refine sched_loud (wpList_storeO rfl 31 (.tmp 4) (.tmp 13) rfl w.heap.size 0 rfl [.slice none 0 0, .slice none 0 0] 31 [.slice la ln lc, .slice pa pn pc] rfl (by kernel_rfl) F2.out.2 (by simp) (by simp [Value.oneCell']) ?_)
  intro w3 p3
  have P3 := hid (show Put w.heap.size #[.slice la ln lc, .slice pa pn pc] 31 w2 w3 from p3)
  refine sched_on (a2.fr p3.fr (fun j hj => ⟨(hsc j hj).1, fun e => by have := HSC.out j hj; omega⟩)) ?_
  clear p3 a2 hsc
  repeat (refine sched_quiet (fun K hK => ?_); go_simp; refine hK _ ?_; clear hK K)
  refine sched_nil ?_
  obtain ⟨r0, r1⟩ := cells2 P3.out.at_
  go_wp2_with fail
  refine bodyPost_ret (v := .tuple #[.agg #[.slice la ln lc, .slice pa pn pc], .bool rb]) ?_ rfl ⟨rfl, F2.out.1.fresh' P3.out.fr (fun k e => by omega)⟩
  simp [results, Tryz.f221, go_sem, r0, r1]
theorem enter_pend2_any : ∀ args w, (callFunc 221 args).run Tryz.prog w = .ok (.enter 221 args) w := enters_of Tryz.func221 (by kernel_rfl) rfl
set_option maxRecDepth 100000 in
set_option maxHeartbeats 1000000 in
theorem pend4_any (w : World) (x s c b2 b3 : Nat) (t : Int) (ef et : Int) (ey : ByteArray) (ew : Nat) (rb : Bool) (h2 : w.cell? ⟨b2, 0, none⟩ = some (.pointer (some ⟨s, 0, none⟩))) (h3 : w.cell? ⟨b3, 0, none⟩ = some (.int .i64 t)) (hc : w.cell? ⟨s, 0, none⟩ = some (.pointer (some ⟨c, 0, none⟩)))
    (hr : ∀ u, Fr No w u → Calls Tryz.prog 67 #[.pointer (some ⟨x, 0, none⟩), .pointer (some ⟨c, 0, none⟩), .int .i64 t] u fun e w' => e = .returned (.tuple #[.agg #[.int .i64 ef, .int .i64 et, .string ey, .float .f64 ew], .bool rb]) ∧ Fr No u w') :
    Calls Tryz.prog 224 #[.pointer (some ⟨x, 0, none⟩), .pointer (some ⟨b2, 0, none⟩), .pointer (some ⟨b3, 0, none⟩)] w fun e w' => e = .returned (.tuple #[.agg #[.int .i64 ef, .int .i64 et, .string ey, .float .f64 ew], .bool rb]) ∧ Fr No w w' := by
  have hb := heap1 w (.cells #[.int .i64 0, .int .i64 0, .string ⟨#[]⟩, .float .f64 0] 42)
  have hf : Fr No w (w.alloc (.cells #[.int .i64 0, .int .i64 0, .string ⟨#[]⟩, .float .f64 0] 42)) := (Fr.refl No w).alloc _
  have HSC : Hid (∀ j ∈ [s, b2, b3], j < w.heap.size) := hid (fun j hj => by
    rcases List.mem_cons.1 hj with rfl | hj
    · exact World.block_lt_of_cell? _ _ hc
    rcases List.mem_cons.1 hj with rfl | hj
    · exact World.block_lt_of_cell? _ _ h2
    rw [List.mem_singleton.1 hj]
    exact World.block_lt_of_cell? _ _ h3)
  have HR := hid hr
  have HC := hid (⟨hc, h2, h3⟩ : _ ∧ _ ∧ _)
  have e0 : ∀ b k, b < w.heap.size → (w.alloc (.cells #[.int .i64 0, .int .i64 0, .string ⟨#[]⟩, .float .f64 0] 42)).cell? ⟨b, k, none⟩ = w.cell? ⟨b, k, none⟩ := fun b k hb => World.cell?_of_block (w := w) (hold hb)
  have c0 := (e0 s 0 (HSC.out s (by simp))).trans hc
  have c2 := (e0 b2 0 (HSC.out b2 (by simp))).trans h2
  have c3 := (e0 b3 0 (HSC.out b3 (by simp))).trans h3
  clear h2 h3 hc hr e0
  go_enter Tryz.func224, Tryz.ntmps224
  go_wp2_with fail
  generalize w.alloc (.cells #[.int .i64 0, .int .i64 0, .string ⟨#[]⟩, .float .f64 0] 42) = w1 at *
  have HF := hid (⟨hf, hb⟩ : _ ∧ _)
  clear hf hb
  have hsc : ∀ j ∈ [s, b2, b3], j < w1.drew.heap.size ∧ ¬ No j := fun j hj => ⟨Nat.lt_of_lt_of_le (HSC.out j hj) HF.out.1.size, fun e => e⟩
  refine wp_region_sched (by kernel_rfl) 11 [6, 9] [0, 1, 2, 3, 4, 5, 6, 7, 8, 9, 10] (AgC [s, b2, b3] w1.drew) (by kernel_rfl) (AgC.refl _ _) ?_
  simp only [List.map_cons, List.map_nil, List.contains_cons, List.contains_nil, nth_zero, nth_succ, Nat.reduceBEq, Bool.false_or, Bool.or_false, Bool.or_true, Bool.true_or]
  repeat (refine sched_quiet (fun K hK => ?_); go_simp; refine hK _ ?_; clear hK K)
  refine sched_call (by first | rfl | go_simp) 67 #[.pointer (some ⟨x, 0, none⟩), .pointer (some ⟨c, 0, none⟩), .int .i64 t] (by first | kernel_rfl | go_simp) (HR.out _ HF.out.1.drew) ?_
  rintro e w2 ⟨rfl, f2⟩
  have a2 := (AgC.refl _ w1.drew).fr f2 hsc
  have F2 := hid (⟨HF.out.1.drew.thenNo f2, f2.keep (w := w1.drew) HF.out.2 (fun e => e)⟩ : _ ∧ _)
  refine ⟨_, rfl, a2, ?_⟩
  clear f2
  repeat (refine sched_quiet (fun K hK => ?_); go_simp; refine hK _ ?_; clear hK K)
  refine sched_loud (wpList_storeO rfl 42 (.tmp 4) (.tmp 13) rfl w.heap.size 0 rfl [.int .i64 0, .int .i64 0, .string ⟨#[]⟩, .float .f64 0] 42 [.int .i64 ef, .int .i64 et, .string ey, .float .f64 ew] rfl (by kernel_rfl) F2.out.2 (by simp) (by simp [Value.oneCell']) ?_)
  intro w3 p3
  have P3 := hid (show Put w.heap.size #[.int .i64 ef, .int .i64 et, .string ey, .float .f64 ew] 42 w2 w3 from p3)
  refine sched_on (a2.fr p3.fr (fun j hj => ⟨(hsc j hj).1, fun e => by have := HSC.out j hj; omega⟩)) ?_
  clear p3 a2 hsc
  repeat (refine sched_quiet (fun K hK => ?_); go_simp; refine hK _ ?_; clear hK K)
  refine sched_nil ?_
  obtain ⟨r0, r1, r2, r3⟩ := cells4 P3.out.at_
  go_wp2_with fail
  refine bodyPost_ret (v := .tuple #[.agg #[.int .i64 ef, .int .i64 et, .string ey, .float .f64 ew], .bool rb]) ?_ rfl ⟨rfl, F2.out.1.fresh' P3.out.fr (fun k e => by omega)⟩
  simp [results, Tryz.f224, go_sem, r0, r1, r2, r3]
theorem enter_pend4_any : ∀ args w, (callFunc 224 args).run Tryz.prog w = .ok (.enter 224 args) w := enters_of Tryz.func224 (by kernel_rfl) rfl
end Go.Proofs.YtibfpkfpmkghhaaGreatDoor

namespace Go.Proofs.YtibfpkfpmkghhaaGreatDoor
open Go.RowKit Go.Lig

/-- has t written a version? -/
def byL {α : Type} (t : Int) (L : List (Ver α)) : Bool := L.any (fun y => y.by_ == t)
def pendN (M : PSt) (t : Int) : List WrD := wrsN (fun i => byL t (M.N[i]?.getD [])) (fun i => readN M t ((i : Int) + 1)) M.N.length
def pendE (M : PSt) (t : Int) : List WrD := wrsE (fun i => byL t (M.E[i]?.getD [])) (fun i => readE M t ((i : Int) + 1)) M.E.length
/-- what t has written -/
def pendM (M : PSt) (t : Int) : List WrD := pendN M t ++ (pendE M t).map WrD.mark
theorem wrsN_len (m : Nat → Bool) (r : Nat → Option NodeD) : ∀ n, (wrsN m r n).length ≤ n
  | 0 => Nat.le_refl _
  | n + 1 => by
    have := wrsN_len m r n
    unfold wrsN
    rw [List.length_append]
    split <;> simp <;> omega
theorem wrsE_len (m : Nat → Bool) (r : Nat → Option EdgeV) : ∀ n, (wrsE m r n).length ≤ n
  | 0 => Nat.le_refl _
  | n + 1 => by
    have := wrsE_len m r n
    unfold wrsE
    rw [List.length_append]
    split <;> simp <;> omega
theorem VersIn.wrote {w : World} {I : Nat → Prop} {H : List (Ver NodeV)} {L : List (Ver NodeD)} (h : VersIn w I H L) (t : Int) : wroteL t H = byL t L := by
  unfold wroteL byL
  rw [Bool.eq_iff_iff, List.any_eq_true, List.any_eq_true]
  constructor
  · rintro ⟨x, hx, e⟩
    obtain ⟨j, hj, rfl⟩ := List.getElem_of_mem hx
    have hl : j < L.length := by rw [← h.len]; exact hj
    have := h.at_ j _ _ (List.getElem?_eq_getElem hj) (List.getElem?_eq_getElem hl)
    exact ⟨L[j], List.getElem_mem hl, by rw [← this.by_]; exact e⟩
  · rintro ⟨x, hx, e⟩
    obtain ⟨j, hj, rfl⟩ := List.getElem_of_mem hx
    have hl : j < H.length := by rw [h.len]; exact hj
    have := h.at_ j _ _ (List.getElem?_eq_getElem hl) (List.getElem?_eq_getElem hj)
    exact ⟨H[j], List.getElem_mem hl, by rw [this.by_]; exact e⟩
theorem ptrs_one (x : Nat → Nat) (n : Nat) : ∀ u ∈ ptrs x n, u.oneCell' = true := fun u hu => by
  obtain ⟨i, _, rfl⟩ := List.mem_map.1 hu
  rfl
section
variable (w : World) (ρ : Nat → Option Pt) (s : Nat) (A : Ad) (M : PSt) (F : Nat) (h : StAt w ρ s A M F) (t : Int)
include h
theorem pn_any (b2 b3 : Nat) (h2 : w.cell? ⟨b2, 0, none⟩ = some (.pointer (some ⟨s, 0, none⟩))) (h3 : w.cell? ⟨b3, 0, none⟩ = some (.int .i64 t)) : Calls Tryz.prog 169 #[A.nv, .func (.func 219) #[] #[.pointer (some ⟨b3, 0, none⟩)], .func (.func 221) #[] #[.pointer (some ⟨b2, 0, none⟩), .pointer (some ⟨b3, 0, none⟩)], .func (.func 171) #[] #[]] w fun e w' => ∃ v', e = .returned v' ∧ WrsO w w' v' (pendN M t) := by
  have hb2 := World.block_lt_of_cell? _ _ h2
  have hb3 := World.block_lt_of_cell? _ _ h3
  obtain ⟨hr, -, hn⟩ := h.at_ .nrow
  refine writesn_any w A.nv M.N.length A.x (Rd.of_owns hr (ptrs_one _ _)) hn _ _ _ _ _ _ enter_pend1_any enter_pend2_any (fun i hi W hW => ?_) (fun i hi => ?_)
  · obtain ⟨L, hL⟩ : ∃ L, M.N[i]? = some L := ⟨_, List.getElem?_eq_getElem hi⟩
    obtain ⟨H, hc, hv⟩ := ((h.frame hW).ncell hL).ex
    have := wrote_any W _ (A.x i) H hc t
    rw [hv.wrote] at this
    rw [hL]
    exact pend1_any W (A.x i) b3 t _ ((World.cell?_of_block (w := w) (hW.block b3 hb3 (fun e => e))).trans h3) this
  · obtain ⟨la, ln, lc, pa, pn, pc, hin, hr⟩ := h.rdN t ((i : Int) + 1)
    rw [ndP_some A M i hi] at hr
    refine ⟨la, ln, lc, pa, pn, pc, _, hin, fun W hW => pend2_any W (A.x i) s A.c b2 b3 t la ln lc pa pn pc _ ((World.cell?_of_block (w := w) (hW.block b2 hb2 (fun e => e))).trans h2) ((World.cell?_of_block (w := w) (hW.block b3 hb3 (fun e => e))).trans h3) (h.frame hW).cells.1 (fun u hu => hr u (hW.thenNo hu))⟩
theorem pe_any (b2 b3 : Nat) (h2 : w.cell? ⟨b2, 0, none⟩ = some (.pointer (some ⟨s, 0, none⟩))) (h3 : w.cell? ⟨b3, 0, none⟩ = some (.int .i64 t)) : Calls Tryz.prog 172 #[A.dv, .func (.func 222) #[] #[.pointer (some ⟨b3, 0, none⟩)], .func (.func 224) #[] #[.pointer (some ⟨b2, 0, none⟩), .pointer (some ⟨b3, 0, none⟩)], .func (.func 174) #[] #[]] w fun e w' => ∃ v', e = .returned v' ∧ WrsO w w' v' (pendE M t) := by
  have hb2 := World.block_lt_of_cell? _ _ h2
  have hb3 := World.block_lt_of_cell? _ _ h3
  obtain ⟨hr, -, hn⟩ := h.at_ .edrow
  refine writese_any w A.dv M.E.length A.z (Rd.of_owns hr (ptrs_one _ _)) hn _ _ _ _ _ _ enter_pend3_any enter_pend4_any (fun i hi W hW => ?_) (fun i hi W hW => ?_)
  · obtain ⟨L, hL⟩ : ∃ L, M.E[i]? = some L := ⟨_, List.getElem?_eq_getElem hi⟩
    rw [hL]
    exact pend3_any W (A.z i) b3 t _ ((World.cell?_of_block (w := w) (hW.block b3 hb3 (fun e => e))).trans h3) (Ec.wrote_any W _ (A.z i) L ((h.frame hW).ecell hL) t)
  · have hr := h.rdE t ((i : Int) + 1)
    rw [edP_some A M i hi] at hr
    exact pend4_any W (A.z i) s A.c b2 b3 t _ _ _ _ _ ((World.cell?_of_block (w := w) (hW.block b2 hb2 (fun e => e))).trans h2) ((World.cell?_of_block (w := w) (hW.block b3 hb3 (fun e => e))).trans h3) (h.frame hW).cells.1 (fun u hu => hr u (hW.thenNo hu))
end
end Go.Proofs.YtibfpkfpmkghhaaGreatDoor

namespace Go.Proofs.YtibfpkfpmkghhaaGreatDoor
open Go.RowKit Go.Lig

set_option maxRecDepth 100000 in
theorem pending_dead (w : World) (ρ : Nat → Option Pt) (s : Nat) (A : Ad) (M : PSt) (F : Nat) (h : StAt w ρ s A M F) (t : Int) (hl : M.K.live t = false) :
    Calls Tryz.prog 163 #[.pointer (some ⟨s, 0, none⟩), .int .i64 t] w fun e w' => e = .returned (.tuple #[.int .i64 0, .int .i64 0, .slice none 0 0, .int .i64 5]) ∧ Fr No w w' := by
  obtain ⟨k2, k3⟩ := heap2 w (.cells #[.pointer (some ⟨s, 0, none⟩)] 22) (.cells #[.int .i64 t] 3)
  have hf : Fr No w ((w.alloc (.cells #[.pointer (some ⟨s, 0, none⟩)] 22)).alloc (.cells #[.int .i64 t] 3)) := ((Fr.refl No w).alloc _).alloc _
  have HI := hid (islive_any _ ρ s A M F (h.frame hf) t)
  rw [hl] at HI
  have c2 := cells1 k2
  have c3 := cells1 k3
  have HF := hid hf
  clear hf k2 k3 h hl
  go_enter Tryz.func163, Tryz.ntmps163
  go_wp2_with (go_at_call 43; refine HI.out.mono ?_; rintro e w1 ⟨rfl, rfl⟩)
  refine bodyPost_ret (v := .tuple #[.int .i64 0, .int .i64 0, .slice none 0 0, .int .i64 5]) ?_ rfl ⟨rfl, HF.out⟩
  simp [results, Tryz.f163, go_sem]
set_option maxRecDepth 100000 in
set_option maxHeartbeats 4000000 in
theorem pending_any (w : World) (ρ : Nat → Option Pt) (s : Nat) (A : Ad) (M : PSt) (F : Nat) (h : StAt w ρ s A M F) (t : Int) (hl : M.K.live t = true) :
    Calls Tryz.prog 163 #[.pointer (some ⟨s, 0, none⟩), .int .i64 t] w fun e w' => ∃ v, e = .returned (.tuple #[.int .i64 (M.N.length : Int), .int .i64 (M.E.length : Int), v, .int .i64 0]) ∧ WrsO w w' v (pendM M t) := by
  obtain ⟨k2, k3⟩ := heap2 w (.cells #[.pointer (some ⟨s, 0, none⟩)] 22) (.cells #[.int .i64 t] 3)
  have hf : Fr No w ((w.alloc (.cells #[.pointer (some ⟨s, 0, none⟩)] 22)).alloc (.cells #[.int .i64 t] 3)) := ((Fr.refl No w).alloc _).alloc _
  have hsl := h.lt
  have h1 := h.frame hf
  have HI := hid (islive_any _ ρ s A M F h1 t)
  rw [hl] at HI
  have c2 := cells1 k2
  have c3 := cells1 k3
  obtain ⟨an, cn, hnv⟩ := ownsRow_slice (h.at_ .nrow).1
  obtain ⟨ad, cd, hdv⟩ := ownsRow_slice (h.at_ .edrow).1
  have HPn := hid (pn_any _ ρ s A M F h1 t w.heap.size (w.heap.size + 1) c2 c3)
  have HPe := hid (fun (W : World) (hW : Fr No ((w.alloc (.cells #[.pointer (some ⟨s, 0, none⟩)] 22)).alloc (.cells #[.int .i64 t] 3)) W) => pe_any W ρ s A M F (h1.frame hW) t w.heap.size (w.heap.size + 1) (cells1 (hW.keep k2 (fun e => e))) (cells1 (hW.keep k3 (fun e => e))))
  have HNl := hid (⟨h.nlen, h.elen, wrsN_len (fun i => byL t (M.N[i]?.getD [])) (fun i => readN M t ((i : Int) + 1)) M.N.length, wrsE_len (fun i => byL t (M.E[i]?.getD [])) (fun i => readE M t ((i : Int) + 1)) M.E.length⟩ : M.N.length ≤ 1000 ∧ M.E.length ≤ 1000 ∧ (pendN M t).length ≤ M.N.length ∧ (pendE M t).length ≤ M.E.length)
  have s1 := h1.cells.2.1
  have s2 := h1.cells.2.2.1
  have HH := hid (⟨h.cells.2.1, h.cells.2.2.1, hnv, hdv, hsl⟩ : _ ∧ _ ∧ _ ∧ _ ∧ _)
  rw [hnv] at HPn s1
  rw [hdv] at HPe s2
  have HF := hid (⟨hf, k2⟩ : _ ∧ _)
  have HPM : Hid (pendM M t = pendN M t ++ (pendE M t).map WrD.mark) := hid rfl
  rw [HPM.out]
  generalize pendN M t = ln at *
  generalize pendE M t = le at *
  generalize M.N.length = n at *
  generalize M.E.length = m at *
  clear hf k3 h h1 hl hnv hdv hsl HPM
  go_enter Tryz.func163, Tryz.ntmps163
  go_wp2_with (go_at_call 43; refine HI.out.mono ?_; rintro e w1 ⟨rfl, rfl⟩)
  generalize ((w.alloc (.cells #[.pointer (some ⟨s, 0, none⟩)] 22)).alloc (.cells #[.int .i64 t] 3)) = w1 at *
  refine HPn.out.mono ?_
  rintro e w2 ⟨v2, rfl, o2⟩
  have HO2 := hid o2
  have c2' := cells1 (o2.fr.keep k2 (fun e => e))
  have s2' := (World.cell?_of_block (w := w1) (o2.fr.block s (Nat.lt_of_lt_of_le HH.out.2.2.2.2 HF.out.1.size) (fun e => e))).trans s2
  clear o2 c2 c3 s1 s2 k2
  go_wp2_with fail
  refine (HPe.out w2 HO2.out.fr).mono ?_
  rintro e w3 ⟨v3, rfl, o3⟩
  have HO3 := hid o3
  clear o3 c2' s2'
  go_wp2_with fail
  have f3 := (HF.out.1.thenNo HO2.out.fr).thenNo HO3.out.fr
  have c2'' := cells1 ((HO2.out.fr.thenNo HO3.out.fr).keep HF.out.2 (fun e => e))
  have s1' := (World.cell?_of_block (w := w) (f3.block s HH.out.2.2.2.2 (fun e => e))).trans HH.out.1
  have s2'' := (World.cell?_of_block (w := w) (f3.block s HH.out.2.2.2.2 (fun e => e))).trans HH.out.2.1
  rw [HH.out.2.2.1] at s1'
  rw [HH.out.2.2.2.1] at s2''
  have hsc : ∀ j ∈ [s, w.heap.size], j < w3.drew.heap.size ∧ ¬ No j := fun j hj => ⟨by
    rcases List.mem_cons.1 hj with rfl | hj
    · exact Nat.lt_of_lt_of_le HH.out.2.2.2.2 f3.size
    · rw [List.mem_singleton.1 hj]; exact Nat.lt_of_lt_of_le (lt_of_block HF.out.2) (HO2.out.fr.thenNo HO3.out.fr).size, fun e => e⟩
  refine wp_region_sched (by kernel_rfl) 18 [12, 13] [0, 1, 2, 3, 4, 5, 6, 7, 8, 9, 10, 11, 12, 13, 14, 15, 16, 17] (AgC [s, w.heap.size] w3.drew) (by kernel_rfl) (AgC.refl _ _) ?_
  simp only [List.map_cons, List.map_nil, List.contains_cons, List.contains_nil, nth_zero, nth_succ, Nat.reduceBEq, Bool.false_or, Bool.or_false, Bool.or_true, Bool.true_or]
  repeat (refine sched_quiet (fun K hK => ?_); go_simp; refine hK _ ?_; clear hK K)
  have HO3d := HO3.out.next (Fr.refl No w3).drew
  refine sched_call (by first | rfl | go_simp) 175 #[v3] (by first | kernel_rfl | go_simp) (edged_any w2 w3.drew v3 le HO3d (Nat.le_trans HNl.out.2.2.2 HNl.out.2.1)) ?_
  rintro e w4 ⟨rfl, o4⟩
  have hlt2 : ∀ j ∈ [s, w.heap.size], j < w2.heap.size := fun j hj => by
    rcases List.mem_cons.1 hj with rfl | hj
    · exact Nat.lt_of_lt_of_le HH.out.2.2.2.2 (HF.out.1.thenNo HO2.out.fr).size
    · rw [List.mem_singleton.1 hj]; exact Nat.lt_of_lt_of_le (lt_of_block HF.out.2) HO2.out.fr.size
  have a4 : AgC [s, w.heap.size] w3.drew w4 := AgC.mk fun b hb => (o4.fr.block b (hlt2 b hb) (fun e => e)).trans (HO3d.fr.block b (hlt2 b hb) (fun e => e)).symm
  refine ⟨_, rfl, a4, ?_⟩
  have ha := HO2.out.ahead HF.out.1
  obtain ⟨Ha, Ja, hha⟩ := ha.ex
  obtain ⟨Hb, Jb, hhb⟩ := o4.ex
  obtain ⟨a2, e2, rfl⟩ := ownsRow_slice hha.row
  obtain ⟨a3, e3, rfl⟩ := ownsRow_slice hhb.row
  have HHA := hid (⟨ha, hha, o4, hhb⟩ : _ ∧ _ ∧ _ ∧ _)
  have HLM := hid (show (le.map WrD.mark).length = le.length from List.length_map _)
  generalize (le.map WrD.mark).length = k at *
  clear ha hha hhb
  repeat (refine sched_quiet (fun K hK => ?_); go_simp; refine hK _ ?_; clear hK K)
  refine sched_loud (wpList_app rfl (.tmp 38) (.tmp 40) 68 rfl 71 _ 9 112 Tryz.underlying68 infoWr (by kernel_rfl) (by decide) (.slice a2 ln.length e2) ln.length (Ha.flatMap wrcell) rfl (fd_owns HHA.out.2.1.row o4.fr) (.slice a3 k e3) k (Hb.flatMap wrcell) rfl (by have h0 := HHA.out.2.2.2.row; rw [List.length_map, ← HLM.out] at h0; exact Rd.of_owns h0 (fun u hu => wrcell_one u hu)) (by have := HNl.out; have := HLM.out; unfold maxLen; omega) (by have := HNl.out; have := HLM.out; omega) ?_)
  intro v5 w5 o5 f5 b5 _
  have hva : ∀ j ∈ [s, w.heap.size], ¬ (Value.slice a2 ln.length e2).ownBlock = some j := fun j hj e => by
    have h1 := HO2.out.blk j e
    have h2 : j < w1.heap.size := by
      rcases List.mem_cons.1 hj with rfl | hj
      · exact Nat.lt_of_lt_of_le HH.out.2.2.2.2 HF.out.1.size
      · rw [List.mem_singleton.1 hj]; exact lt_of_block HF.out.2
    omega
  refine sched_on (a4.fr f5 (fun j hj => ⟨(hsc j hj).1, hva j hj⟩)) ?_
  have HR := hid (WrsO.cat HHA.out.1 HHA.out.2.1 HHA.out.2.2.1 HHA.out.2.2.2 (by rw [List.length_map, ← HLM.out]; exact o5) f5 b5)
  clear o4 a4 hva o5 f5 b5 c2'' s1' s2'' hsc
  repeat (refine sched_quiet (fun K hK => ?_); go_simp; refine hK _ ?_; clear hK K)
  refine sched_nil ?_
  go_wp2_with fail
  refine bodyPost_ret (v := .tuple #[.int .i64 (n : Int), .int .i64 (m : Int), v5, .int .i64 0]) ?_ rfl ⟨v5, rfl, HR.out⟩
  simp [results, Tryz.f163, go_sem]
end Go.Proofs.YtibfpkfpmkghhaaGreatDoor
