/- A part of the proof: contracts of functions of the program, for the row's text. -/
import Derived.Test.YtibfpkfpmkghhaaGreatDoorJ20
import Derived.Test.YtibfpkfpmkghhaaGreatDoorJ03
import Derived.Test.YtibfpkfpmkghhaaGreatDoorJ07
namespace Go.Lig
open Go.RowKit
section
variable {P : Program} {ops : Array Oper} {rest : List Oper} {o : Oper} {a : Act} {w : World} {Q : Exit → Act → World → Prop}
/-- []T{x, y}, one cell each -/
theorem run_buildSlice2 (t elem : TypeId) (z : Value) (bytes : Nat) (hu : P.underlying t = some (.slice elem)) (hinfo : (P.info? elem).map (fun i => (i.zero, i.size, i.bytes)) = some (some z, 1, bytes))
    (u v : Value) (hu1 : u.oneCell' = true) (hv1 : v.oneCell' = true) :
    (Instr.buildSlice t 2 #[(0, u), (1, v)]).run P w = .ok (.slice (some ⟨w.heap.size, 0, none⟩) 2 2) (w.alloc (.cells #[u, v] elem)) := by
  obtain ⟨i, hi, hz, hsize, hby⟩ := info_parts hinfo
  have hfill : Instr.fill (fun i => some (i * 1, 1)) ((Array.range (2 * 1)).map (z.cells[· % z.cells.size]!)) [(0, u), (1, v)] = some #[u, v] := by
    simp only [Instr.fill, cells_one hu1, cells_one hv1]
    simp
    rw [show Array.range 2 = #[0, 1] from rfl]
    simp only [List.map_toArray, List.map_cons, List.map_nil, List.setIfInBounds_toArray, List.set_cons_zero, List.set_cons_succ]
  simp only [Nat.mul_one] at hfill
  simp [Instr.buildSlice, run_underlying hu, sizeOf, typeInfo, zeroValue, hi, hz, hsize, hfill, newRow]
theorem wpList_buildSlice2 (hgd : o.guard = none) (t elem : TypeId) (x y : Operand) (ho : o.op = .buildSlice t 2 #[(0, x), (1, y)]) (z : Value) (bytes : Nat) (hu : P.underlying t = some (.slice elem))
    (hinfo : (P.info? elem).map (fun i => (i.zero, i.size, i.bytes)) = some (some z, 1, bytes)) (u v : Value) (hx : a.eval x = u) (hy : a.eval y = v) (hu1 : u.oneCell' = true) (hv1 : v.oneCell' = true)
    (h : ∀ w', New #[u, v] elem w w' → wpList P ops Q rest (a.put o.dst (.slice (some ⟨w.heap.size, 0, none⟩) 2 2)) w') : wpList P ops Q (o :: rest) a w := by
  refine wpList_run hgd ?_ (h _ (New.alloc w _ elem))
  have hrun := run_buildSlice2 (P := P) (w := w) t elem z bytes hu hinfo u v hu1 hv1
  simp [execOp, ho, hx, hy, hrun, Result.andThen]
end
end Go.Lig
namespace Go.Proofs.YtibfpkfpmkghhaaGreatDoor
open Go.RowKit Go.Lig

section
variable (w : World) (ρ : Nat → Option Pt) (s : Nat) (A : Ad) (M : PSt) (F : Nat) (h : StAt w ρ s A M F) (t : Int) (ef et : Int) (ey : ByteArray) (ew : Nat)
include h
theorem addedge_dead (hl : M.K.live t = false) :
    Calls Tryz.prog 21 #[.pointer (some ⟨s, 0, none⟩), .int .i64 t, .agg #[.int .i64 ef, .int .i64 et, .string ey, .float .f64 ew]] w fun e w' => e = .returned (.tuple #[.int .i64 0, .int .i64 5]) ∧ Fr No w w' := by
  have hfr : Fr No w (w.alloc (.cells #[.int .i64 ef, .int .i64 et, .string ey, .float .f64 ew] 42)) := (Fr.refl No w).alloc _
  have HI := hid (islive_any _ ρ s A M F (h.frame hfr) t)
  rw [hl] at HI
  have HF := hid hfr
  clear h hl hfr
  go_enter Tryz.func21, Tryz.ntmps21
  go_wp2_with (go_at_call 43; refine HI.out.mono ?_; rintro e w1 ⟨rfl, rfl⟩)
  go_ret2
  exact ⟨rfl, HF.out⟩
variable (hl : M.K.live t = true)
include hl
theorem addedge_bad (hi : ∀ u, Fr No w u → Calls Tryz.prog 63 #[.agg #[.int .i64 ef, .int .i64 et, .string ey, .float .f64 ew]] u fun e w' => e = .returned (.bool false) ∧ Fr No u w') :
    Calls Tryz.prog 21 #[.pointer (some ⟨s, 0, none⟩), .int .i64 t, .agg #[.int .i64 ef, .int .i64 et, .string ey, .float .f64 ew]] w fun e w' => e = .returned (.tuple #[.int .i64 0, .int .i64 1]) ∧ Fr No w w' := by
  have hb := heap1 w (.cells #[.int .i64 ef, .int .i64 et, .string ey, .float .f64 ew] 42)
  have hfr : Fr No w (w.alloc (.cells #[.int .i64 ef, .int .i64 et, .string ey, .float .f64 ew] 42)) := (Fr.refl No w).alloc _
  have HI := hid (islive_any _ ρ s A M F (h.frame hfr) t)
  rw [hl] at HI
  have HF := hid (⟨hfr, hi, hb⟩ : _ ∧ _ ∧ _)
  clear h hl hfr hi hb
  go_enter Tryz.func21, Tryz.ntmps21
  go_wp2_with (first | (go_at_call 43; refine HI.out.mono ?_; rintro e w1 ⟨rfl, rfl⟩; obtain ⟨c0, c1, c2, c3⟩ := cells4 HF.out.2.2) | (go_at_call 63; refine (HF.out.2.1 _ HF.out.1).mono ?_; rintro e w2 ⟨rfl, f2⟩; have F2 := hid (HF.out.1.thenNo f2); clear f2))
  go_ret2
  exact ⟨rfl, F2.out⟩
variable (hi : ∀ u, Fr No w u → Calls Tryz.prog 63 #[.agg #[.int .i64 ef, .int .i64 et, .string ey, .float .f64 ew]] u fun e w' => e = .returned (.bool true) ∧ Fr No u w')
include hi
set_option maxRecDepth 100000 in
set_option maxHeartbeats 1000000 in
theorem addedge_none1 (hrf : (readN M t ef).isSome = false) :
    Calls Tryz.prog 21 #[.pointer (some ⟨s, 0, none⟩), .int .i64 t, .agg #[.int .i64 ef, .int .i64 et, .string ey, .float .f64 ew]] w fun e w' => e = .returned (.tuple #[.int .i64 0, .int .i64 4]) ∧ Fr No w w' := by
  have hrt : True := trivial
  have hb := heap1 w (.cells #[.int .i64 ef, .int .i64 et, .string ey, .float .f64 ew] 42)
  have hfr : Fr No w (w.alloc (.cells #[.int .i64 ef, .int .i64 et, .string ey, .float .f64 ew] 42)) := (Fr.refl No w).alloc _
  have HI := hid (islive_any _ ρ s A M F (h.frame hfr) t)
  rw [hl] at HI
  have hr1 : ∀ u, StAt u ρ s A M F → Calls Tryz.prog 45 #[.pointer (some ⟨s, 0, none⟩), .int .i64 t, .int .i64 ef] u fun e w' => e = .returned (.bool false) ∧ Fr No u w' := fun u hu => by
    have := reads_any u ρ s A M F hu t ef
    rwa [hrf] at this
  have HH := hid (⟨h, hfr, hb, hi, hr1, trivial⟩ : _ ∧ _ ∧ _ ∧ _ ∧ _ ∧ True)
  clear h hl hi hrf hb hfr hr1
  go_enter Tryz.func21, Tryz.ntmps21
  go_wp2_with (first
    | (go_at_call 43; refine HI.out.mono ?_; rintro e w1 ⟨rfl, rfl⟩; obtain ⟨c0, c1, c2, c3⟩ := cells4 HH.out.2.2.1)
    | (go_at_call 63; refine (HH.out.2.2.2.1 _ HH.out.2.1).mono ?_; rintro e w2 ⟨rfl, f2⟩; have F2 := hid (HH.out.2.1.thenNo f2); have B2 := hid (f2.keep HH.out.2.2.1 (fun e => e)); clear f2 c0 c1 c2 c3; obtain ⟨c0, c1, c2, c3⟩ := cells4 B2.out)
    | (go_at_call 45; refine (HH.out.2.2.2.2.1 _ (HH.out.1.frame F2.out)).mono ?_; rintro e w3 ⟨rfl, f3⟩; have F3 := hid (F2.out.thenNo f3); clear f3 c0 c1 c2 c3))
  go_ret2
  exact ⟨rfl, F3.out⟩
variable (hrf : (readN M t ef).isSome = true)
include hrf
set_option maxRecDepth 100000 in
set_option maxHeartbeats 1000000 in
theorem addedge_none2 (hrt : (readN M t et).isSome = false) :
    Calls Tryz.prog 21 #[.pointer (some ⟨s, 0, none⟩), .int .i64 t, .agg #[.int .i64 ef, .int .i64 et, .string ey, .float .f64 ew]] w fun e w' => e = .returned (.tuple #[.int .i64 0, .int .i64 4]) ∧ Fr No w w' := by
  have hb := heap1 w (.cells #[.int .i64 ef, .int .i64 et, .string ey, .float .f64 ew] 42)
  have hfr : Fr No w (w.alloc (.cells #[.int .i64 ef, .int .i64 et, .string ey, .float .f64 ew] 42)) := (Fr.refl No w).alloc _
  have HI := hid (islive_any _ ρ s A M F (h.frame hfr) t)
  rw [hl] at HI
  have hr1 : ∀ u, StAt u ρ s A M F → Calls Tryz.prog 45 #[.pointer (some ⟨s, 0, none⟩), .int .i64 t, .int .i64 ef] u fun e w' => e = .returned (.bool true) ∧ Fr No u w' := fun u hu => by
    have := reads_any u ρ s A M F hu t ef
    rwa [hrf] at this
  have hr2 : ∀ u, StAt u ρ s A M F → Calls Tryz.prog 45 #[.pointer (some ⟨s, 0, none⟩), .int .i64 t, .int .i64 et] u fun e w' => e = .returned (.bool false) ∧ Fr No u w' := fun u hu => by
    have := reads_any u ρ s A M F hu t et
    rwa [hrt] at this
  obtain ⟨ad, cd, hdv⟩ := ownsRow_slice (h.at_ .edrow).1
  obtain ⟨n, hNe⟩ : ∃ n, M.E.length = n := ⟨_, rfl⟩
  have HV := hid (⟨hdv, hNe⟩ : _ ∧ _)
  have HH := hid (⟨h, hfr, hb, hi, hr1, hr2⟩ : _ ∧ _ ∧ _ ∧ _ ∧ _ ∧ _)
  clear h hl hi hrf hrt hb hfr hr1 hr2 hdv hNe
  go_enter Tryz.func21, Tryz.ntmps21
  go_wp2_with (first
    | (go_at_call 43; refine HI.out.mono ?_; rintro e w1 ⟨rfl, rfl⟩; obtain ⟨c0, c1, c2, c3⟩ := cells4 HH.out.2.2.1)
        | (go_at_call 63; refine (HH.out.2.2.2.1 _ HH.out.2.1).mono ?_; rintro e w2 ⟨rfl, f2⟩; have F2 := hid (HH.out.2.1.thenNo f2); have B2 := hid (f2.keep HH.out.2.2.1 (fun e => e)); clear f2 c0 c1 c2 c3; obtain ⟨c0, c1, c2, c3⟩ := cells4 B2.out)
        | (go_at_call 45; refine (HH.out.2.2.2.2.1 _ (HH.out.1.frame F2.out)).mono ?_; rintro e w3 ⟨rfl, f3⟩; have F3 := hid (F2.out.thenNo f3); have B3 := hid (f3.keep B2.out (fun e => e)); clear f3 c0 c1 c2 c3 F2 B2; obtain ⟨c0, c1, c2, c3⟩ := cells4 B3.out)
        | (go_at_call 45; refine (HH.out.2.2.2.2.2 _ (HH.out.1.frame F3.out)).mono ?_; rintro e w4 ⟨rfl, f4⟩; have F4 := hid (F3.out.thenNo f4); have B4 := hid (f4.keep B3.out (fun e => e)); clear f4 c0 c1 c2 c3 F3 B3; obtain ⟨c0, c1, c2, c3⟩ := cells4 B4.out; have x2 := (HH.out.1.frame F4.out).cells.2.2.1; rw [HV.out.1, HV.out.2] at x2))
  go_ret2
  exact ⟨rfl, F4.out⟩
variable (hrt : (readN M t et).isSome = true)
include hrt
set_option maxRecDepth 100000 in
set_option maxHeartbeats 1000000 in
theorem addedge_full (hf : 32 ≤ M.E.length) :
    Calls Tryz.prog 21 #[.pointer (some ⟨s, 0, none⟩), .int .i64 t, .agg #[.int .i64 ef, .int .i64 et, .string ey, .float .f64 ew]] w fun e w' => e = .returned (.tuple #[.int .i64 0, .int .i64 3]) ∧ Fr No w w' := by
  have hb := heap1 w (.cells #[.int .i64 ef, .int .i64 et, .string ey, .float .f64 ew] 42)
  have hfr : Fr No w (w.alloc (.cells #[.int .i64 ef, .int .i64 et, .string ey, .float .f64 ew] 42)) := (Fr.refl No w).alloc _
  have HI := hid (islive_any _ ρ s A M F (h.frame hfr) t)
  rw [hl] at HI
  have hr1 : ∀ u, StAt u ρ s A M F → Calls Tryz.prog 45 #[.pointer (some ⟨s, 0, none⟩), .int .i64 t, .int .i64 ef] u fun e w' => e = .returned (.bool true) ∧ Fr No u w' := fun u hu => by
    have := reads_any u ρ s A M F hu t ef
    rwa [hrf] at this
  have hr2 : ∀ u, StAt u ρ s A M F → Calls Tryz.prog 45 #[.pointer (some ⟨s, 0, none⟩), .int .i64 t, .int .i64 et] u fun e w' => e = .returned (.bool true) ∧ Fr No u w' := fun u hu => by
    have := reads_any u ρ s A M F hu t et
    rwa [hrt] at this
  obtain ⟨ad, cd, hdv⟩ := ownsRow_slice (h.at_ .edrow).1
  have hn : (32 : Int) ≤ (M.E.length : Int) := by omega
  generalize hNe : M.E.length = n at hn
  have HV := hid (⟨hdv, hNe⟩ : _ ∧ _)
  have HH := hid (⟨h, hfr, hb, hi, hr1, hr2⟩ : _ ∧ _ ∧ _ ∧ _ ∧ _ ∧ _)
  clear h hl hi hrf hrt hb hfr hr1 hr2 hdv hf hNe
  go_enter Tryz.func21, Tryz.ntmps21
  go_wp2_with (first
    | (go_at_call 43; refine HI.out.mono ?_; rintro e w1 ⟨rfl, rfl⟩; obtain ⟨c0, c1, c2, c3⟩ := cells4 HH.out.2.2.1)
        | (go_at_call 63; refine (HH.out.2.2.2.1 _ HH.out.2.1).mono ?_; rintro e w2 ⟨rfl, f2⟩; have F2 := hid (HH.out.2.1.thenNo f2); have B2 := hid (f2.keep HH.out.2.2.1 (fun e => e)); clear f2 c0 c1 c2 c3; obtain ⟨c0, c1, c2, c3⟩ := cells4 B2.out)
        | (go_at_call 45; refine (HH.out.2.2.2.2.1 _ (HH.out.1.frame F2.out)).mono ?_; rintro e w3 ⟨rfl, f3⟩; have F3 := hid (F2.out.thenNo f3); have B3 := hid (f3.keep B2.out (fun e => e)); clear f3 c0 c1 c2 c3 F2 B2; obtain ⟨c0, c1, c2, c3⟩ := cells4 B3.out)
        | (go_at_call 45; refine (HH.out.2.2.2.2.2 _ (HH.out.1.frame F3.out)).mono ?_; rintro e w4 ⟨rfl, f4⟩; have F4 := hid (F3.out.thenNo f4); have B4 := hid (f4.keep B3.out (fun e => e)); clear f4 c0 c1 c2 c3 F3 B3; obtain ⟨c0, c1, c2, c3⟩ := cells4 B4.out; have x2 := (HH.out.1.frame F4.out).cells.2.2.1; rw [HV.out.1, HV.out.2] at x2))
  go_ret2
  exact ⟨rfl, F4.out⟩
variable (hf : M.E.length < 32)
include hf
set_option maxRecDepth 100000 in
set_option maxHeartbeats 1000000 in
theorem addedge_clash (hc : mayB M t 0 [ef, et] = true) (M1 : PSt) (F1 : Nat) (hu : UndoTo t M1 F1 { M with K := M.K.abort t } F 0) (hF : F1 + 3000 < 1000000) :
    Calls Tryz.prog 21 #[.pointer (some ⟨s, 0, none⟩), .int .i64 t, .agg #[.int .i64 ef, .int .i64 et, .string ey, .float .f64 ew]] w fun e w' => e = .returned (.tuple #[.int .i64 0, .int .i64 6]) ∧ TurnsA w ρ s A (undoEs t M1 M1.E.length) (F1 + 2 * M1.E.length) w' := by
  have hb := heap1 w (.cells #[.int .i64 ef, .int .i64 et, .string ey, .float .f64 ew] 42)
  have hfr : Fr No w (w.alloc (.cells #[.int .i64 ef, .int .i64 et, .string ey, .float .f64 ew] 42)) := (Fr.refl No w).alloc _
  have HI := hid (islive_any _ ρ s A M F (h.frame hfr) t)
  rw [hl] at HI
  have hr1 : ∀ u, StAt u ρ s A M F → Calls Tryz.prog 45 #[.pointer (some ⟨s, 0, none⟩), .int .i64 t, .int .i64 ef] u fun e w' => e = .returned (.bool true) ∧ Fr No u w' := fun u hu => by
    have := reads_any u ρ s A M F hu t ef
    rwa [hrf] at this
  have hr2 : ∀ u, StAt u ρ s A M F → Calls Tryz.prog 45 #[.pointer (some ⟨s, 0, none⟩), .int .i64 t, .int .i64 et] u fun e w' => e = .returned (.bool true) ∧ Fr No u w' := fun u hu => by
    have := reads_any u ρ s A M F hu t et
    rwa [hrt] at this
  obtain ⟨ad, cd, hdv⟩ := ownsRow_slice (h.at_ .edrow).1
  have hn : ¬ (32 : Int) ≤ (M.E.length : Int) := by omega
  have HL := hid hl
  generalize hNe : M.E.length = n at hn
  have HV := hid (⟨hdv, hNe⟩ : _ ∧ _)
  have HC := hid (⟨hc, hu, hF⟩ : _ ∧ _ ∧ _)
  have HH := hid (⟨h, hfr, hb, hi, hr1, hr2⟩ : _ ∧ _ ∧ _ ∧ _ ∧ _ ∧ _)
  clear h hl hi hrf hrt hb hfr hr1 hr2 hdv hf hNe hc hu hF
  go_enter Tryz.func21, Tryz.ntmps21
  go_wp2_with (first
    | (go_at_call 43; refine HI.out.mono ?_; rintro e w1 ⟨rfl, rfl⟩; obtain ⟨c0, c1, c2, c3⟩ := cells4 HH.out.2.2.1)
        | (go_at_call 63; refine (HH.out.2.2.2.1 _ HH.out.2.1).mono ?_; rintro e w2 ⟨rfl, f2⟩; have F2 := hid (HH.out.2.1.thenNo f2); have B2 := hid (f2.keep HH.out.2.2.1 (fun e => e)); clear f2 c0 c1 c2 c3; obtain ⟨c0, c1, c2, c3⟩ := cells4 B2.out)
        | (go_at_call 45; refine (HH.out.2.2.2.2.1 _ (HH.out.1.frame F2.out)).mono ?_; rintro e w3 ⟨rfl, f3⟩; have F3 := hid (F2.out.thenNo f3); have B3 := hid (f3.keep B2.out (fun e => e)); clear f3 c0 c1 c2 c3 F2 B2; obtain ⟨c0, c1, c2, c3⟩ := cells4 B3.out)
        | (go_at_call 45; refine (HH.out.2.2.2.2.2 _ (HH.out.1.frame F3.out)).mono ?_; rintro e w4 ⟨rfl, f4⟩; have F4 := hid (F3.out.thenNo f4); have B4 := hid (f4.keep B3.out (fun e => e)); clear f4 c0 c1 c2 c3 F3 B3; obtain ⟨c0, c1, c2, c3⟩ := cells4 B4.out; have x2 := (HH.out.1.frame F4.out).cells.2.2.1; rw [HV.out.1, HV.out.2] at x2)
    | (refine wpList_buildSlice2 rfl 35 3 (.tmp 43) (.tmp 45) rfl _ 8 Tryz.underlying35 infoInt (.int .i64 ef) (.int .i64 et) rfl rfl rfl rfl ?_; intro w5 p5; have P5 := hid (show New [iv ef, iv et].toArray 3 w4 w5 from p5); clear p5))
  refine (may_any _ ρ s A M F (HH.out.1.frame (F4.out.thenNo P5.out.fr)) t 0 HL.out (.slice (some ⟨w4.heap.size, 0, none⟩) 2 2) [ef, et] (Rd.block P5.out.at_ 2 1 2 rfl (by simp [iv, Value.oneCell']) (Nat.le_refl _) (by simp [maxLen])) (by simp) M1 F1 (fun _ => HC.out.2)).mono ?_
  rintro e w6 ⟨rfl, -, h6⟩
  have G6 := hid (TurnsA.trans (Gone.no (F4.out.thenNo P5.out.fr)) (h6 HC.out.1))
  rw [HC.out.1, show errN true = 6 from rfl]
  clear h6
  go_wp2_with fail
  go_ret2
  exact ⟨rfl, G6.out⟩
end
end Go.Proofs.YtibfpkfpmkghhaaGreatDoor

namespace Go.Proofs.YtibfpkfpmkghhaaGreatDoor
open Go.RowKit Go.Lig

set_option maxRecDepth 100000 in
set_option maxHeartbeats 1000000 in
theorem order_any {P : ValR → Prop} {c : ValR → ValR → Int} (hc : CmpOk P c) (w : World) (x y : EntR) (hx : P x.v) (hy : P y.v) :
    Calls Tryz.prog 193 #[entV x, entV y] w fun e w' => e = .returned (.int .i64 (cmpE c x y)) ∧ Fr No w w' := by
  have HC := hid (hc x.v y.v hx hy)
  have HE : Hid (cmpE c x y = if c x.v y.v = 0 then cmpI x.id y.id else c x.v y.v) := hid rfl
  obtain ⟨⟨xk, xb, xn, xf, xt⟩, xi⟩ := x
  obtain ⟨⟨yk, yb, yn, yf, yt⟩, yi⟩ := y
  dsimp only [entV] at HC HE ⊢
  obtain ⟨k1, k2⟩ := heap2 w (.cells #[.int .i64 xk, .bool xb, .int .i64 xn, .float .f64 xf, .string xt, .int .i64 xi] 91) (.cells #[.int .i64 yk, .bool yb, .int .i64 yn, .float .f64 yf, .string yt, .int .i64 yi] 91)
  have hf : Fr No w ((w.alloc (.cells #[.int .i64 xk, .bool xb, .int .i64 xn, .float .f64 xf, .string xt, .int .i64 xi] 91)).alloc (.cells #[.int .i64 yk, .bool yb, .int .i64 yn, .float .f64 yf, .string yt, .int .i64 yi] 91)) := ((Fr.refl No w).alloc _).alloc _
  generalize hq : c ⟨xk, xb, xn, xf, xt⟩ ⟨yk, yb, yn, yf, yt⟩ = q at *
  clear hq hx hy
  go_enter Tryz.func193, Tryz.ntmps193
  go_wp2_with fail
  generalize (w.alloc (.cells #[.int .i64 xk, .bool xb, .int .i64 xn, .float .f64 xf, .string xt, .int .i64 xi] 91)).alloc (.cells #[.int .i64 yk, .bool yb, .int .i64 yn, .float .f64 yf, .string yt, .int .i64 yi] 91) = w2 at *
  obtain ⟨c0, c1, c2, c3, c4, c5⟩ := cells6 k1
  obtain ⟨d0, d1, d2, d3, d4, d5⟩ := cells6 k2
  have HF := hid hf
  have HZ := hid (⟨lt_of_block k1, lt_of_block k2⟩ : _ ∧ _)
  generalize hb1 : w.heap.size + 1 = b1 at *
  clear hf k1 k2 hb1
  refine wp_region_sched (by kernel_rfl) 13 [4, 9, 10, 11] [0, 1, 2, 3, 5, 6, 7, 8, 4, 9, 10, 11, 12] (AgC [w.heap.size, b1] w2.drew) (by kernel_rfl) (AgC.refl _ _) ?_
  simp only [List.map_cons, List.map_nil, List.contains_cons, List.contains_nil, nth_zero, nth_succ, Nat.reduceBEq, Bool.or_false, Bool.or_true]
  repeat (refine sched_quiet (fun K hK => ?_); go_simp; refine hK _ ?_; clear hK K)
  have hsc : ∀ j ∈ [w.heap.size, b1], j < w2.drew.heap.size ∧ ¬ No j := fun j hj => ⟨by rcases List.mem_cons.1 hj with rfl | hj; exact HZ.out.1; rw [List.mem_singleton.1 hj]; exact HZ.out.2, fun e => e⟩
  refine sched_call (by first | rfl | go_simp) 181 #[.agg #[.int .i64 xk, .bool xb, .int .i64 xn, .float .f64 xf, .string xt], .agg #[.int .i64 yk, .bool yb, .int .i64 yn, .float .f64 yf, .string yt]] (by first | kernel_rfl | go_simp) (HC.out _) ?_
  rintro e w3 ⟨rfl, f3⟩
  have a3 := (AgC.refl [w.heap.size, b1] w2.drew).fr f3 hsc
  refine ⟨_, rfl, a3, ?_⟩
  repeat (refine sched_quiet (fun K hK => ?_); go_simp; refine hK _ ?_; clear hK K)
  refine sched_call (by first | rfl | go_simp) 233 #[.int .i64 xi, .int .i64 yi] (by first | kernel_rfl | go_simp) (cmpint_any _ _ _) ?_
  rintro e w4 ⟨rfl, rfl⟩
  refine ⟨_, rfl, a3, ?_⟩
  repeat (refine sched_quiet (fun K hK => ?_); go_simp; refine hK _ ?_; clear hK K)
  refine sched_loud (wpList_buildSlice2 rfl 35 3 (.tmp 9) (.tmp 14) rfl _ 8 Tryz.underlying35 infoInt (.int .i64 q) (.int .i64 (cmpI xi yi)) rfl rfl rfl rfl ?_)
  intro w5 p5
  have a5 := a3.fr p5.fr hsc
  refine sched_on a5 ?_
  obtain ⟨e0, e1⟩ := cells2 p5.at_
  have F5 := hid ((HF.out.drew.thenNo f3).thenNo p5.fr)
  repeat (refine sched_quiet (fun K hK => ?_); go_simp; refine hK _ ?_; clear hK K)
  refine sched_call (by first | rfl | go_simp) 240 #[.slice (some ⟨w3.heap.size, 0, none⟩) 2 2] (by first | kernel_rfl | go_simp) (or2_any w5 w3.heap.size 2 q (cmpI xi yi) e0 e1) ?_
  rintro e w6 ⟨rfl, rfl⟩
  refine ⟨_, rfl, a5, ?_⟩
  clear f3 a3 p5 a5 hsc e0 e1
  rw [← HE.out]
  repeat (refine sched_quiet (fun K hK => ?_); go_simp; refine hK _ ?_; clear hK K)
  refine sched_nil ?_
  go_wp2_with fail
  go_ret
  exact ⟨rfl, F5.out⟩
/-- the first place from i up to j at which f does not hold, by halves -/
def bsN (f : Nat → Bool) : Nat → Nat → Nat → Nat
  | 0, i, _ => i
  | n + 1, i, j => if i < j then (if f ((i + j) / 2) then bsN f n ((i + j) / 2 + 1) j else bsN f n i ((i + j) / 2)) else i
theorem bsN_fuel (f : Nat → Bool) : ∀ (n m i j : Nat), j - i ≤ n → j - i ≤ m → bsN f n i j = bsN f m i j
  | 0, 0, _, _, _, _ => rfl
  | 0, m + 1, i, j, h, _ => by rw [bsN, bsN, if_neg (by omega)]
  | n + 1, 0, i, j, _, h => by rw [bsN, bsN, if_neg (by omega)]
  | n + 1, m + 1, i, j, h1, h2 => by
    rw [bsN, bsN]
    by_cases hij : i < j
    · rw [if_pos hij, if_pos hij, bsN_fuel f n m ((i + j) / 2 + 1) j (by omega) (by omega), bsN_fuel f n m i ((i + j) / 2) (by omega) (by omega)]
    · rw [if_neg hij, if_neg hij]
theorem bsN_le (f : Nat → Bool) : ∀ (n i j : Nat), i ≤ j → i ≤ bsN f n i j ∧ bsN f n i j ≤ j
  | 0, i, j, h => ⟨Nat.le_refl _, h⟩
  | n + 1, i, j, h => by
    rw [bsN]
    split
    · split
      · have := bsN_le f n ((i + j) / 2 + 1) j (by omega); omega
      · have := bsN_le f n i ((i + j) / 2) (by omega); omega
    · exact ⟨Nat.le_refl _, h⟩
def entAt (l : List EntR) (i : Nat) : EntR := l[i]?.getD ⟨default, 0⟩
/-- where x belongs -/
def place (c : ValR → ValR → Int) (l : List EntR) (x : EntR) : Nat := bsN (fun h => decide (cmpE c (entAt l h) x < 0)) l.length 0 l.length
/-- is x there? -/
def isThere (c : ValR → ValR → Int) (l : List EntR) (x : EntR) : Bool := decide (place c l x < l.length) && decide (cmpE c (entAt l (place c l x)) x = 0)
theorem place_le (c : ValR → ValR → Int) (l : List EntR) (x : EntR) : place c l x ≤ l.length := (bsN_le _ _ _ _ (Nat.zero_le _)).2
end Go.Proofs.YtibfpkfpmkghhaaGreatDoor

namespace Go.Proofs.YtibfpkfpmkghhaaGreatDoor
open Go.RowKit Go.Lig

/-- entry j's cells -/
structure EnCells (w : World) (g j : Nat) (y : EntR) : Prop where
  c0 : w.cell? ⟨g, j * 6, none⟩ = some (.int .i64 y.v.kind)
  c1 : w.cell? ⟨g, j * 6 + 1, none⟩ = some (.bool y.v.b)
  c2 : w.cell? ⟨g, j * 6 + 2, none⟩ = some (.int .i64 y.v.n)
  c3 : w.cell? ⟨g, j * 6 + 3, none⟩ = some (.float .f64 y.v.f)
  c4 : w.cell? ⟨g, j * 6 + 4, none⟩ = some (.string y.v.t)
  c5 : w.cell? ⟨g, j * 6 + 5, none⟩ = some (.int .i64 y.id)
theorem encells_of {w : World} {base g n cap : Nat} {l : List EntR} (h : w.ownsRow base 91 6 (.slice (some ⟨g, 0, none⟩) n cap) n (l.flatMap ncellE)) {j : Nat} {y : EntR} (hy : l[j]? = some y) : EnCells w g j y := by
  have g0 : ∀ t, t < 6 → (l.flatMap ncellE)[j * 6 + t]? = (ncellE y)[t]? := fun t ht => flat_get (f := ncellE) (m := 6) (fun _ => rfl) _ _ _ hy t ht
  exact ⟨owns_cell h rfl (by rw [← Nat.add_zero (j * 6), g0 0 (by decide)]; rfl), owns_cell h rfl (by rw [g0 1 (by decide)]; rfl), owns_cell h rfl (by rw [g0 2 (by decide)]; rfl), owns_cell h rfl (by rw [g0 3 (by decide)]; rfl), owns_cell h rfl (by rw [g0 4 (by decide)]; rfl), owns_cell h rfl (by rw [g0 5 (by decide)]; rfl)⟩
theorem entAt_of {l : List EntR} {j : Nat} {y : EntR} (h : l[j]? = some y) : entAt l j = y := by
  unfold entAt
  rw [h]
  rfl
theorem bsN_step (f : Nat → Bool) (n i j : Nat) (hij : i < j) (hj : j ≤ n) : bsN f n i j = if f ((i + j) / 2) then bsN f n ((i + j) / 2 + 1) j else bsN f n i ((i + j) / 2) := by
  cases n with
  | zero => omega
  | succ m =>
    conv => lhs; rw [bsN, if_pos hij]
    split
    · exact bsN_fuel f m (m + 1) _ _ (by omega) (by omega)
    · exact bsN_fuel f m (m + 1) _ _ (by omega) (by omega)
set_option maxRecDepth 100000 in
set_option maxHeartbeats 1000000 in
theorem bsearch_any {P : ValR → Prop} {c : ValR → ValR → Int} (hcm : CmpOk P c) (w : World) (l : List EntR) (v : Value) (ho : w.ownsRow 0 91 6 v l.length (l.flatMap ncellE)) (hs : l.length ≤ 1000000) (x : EntR) (hP : ∀ y ∈ l, P y.v) (hx : P x.v) :
    Calls Tryz.prog 192 #[v, entV x, .func (.func 193) #[] #[]] w fun e w' => e = .returned (.tuple #[.int .i64 (place c l x : Int), .bool (isThere c l x)]) ∧ Fr No w w' := by
  obtain ⟨a, cap, rfl⟩ := ownsRow_slice ho
  have HC := hid (fun (W : World) (hW : Fr No w W) (y : EntR) (hy : P y.v) => order_any hcm W y x hy hx)
  have HO := hid (⟨ho, hP⟩ : _ ∧ _)
  have HE := hid (show entV x = .agg #[.int .i64 x.v.kind, .bool x.v.b, .int .i64 x.v.n, .float .f64 x.v.f, .string x.v.t, .int .i64 x.id] from rfl)
  have hpl : bsN (fun h => decide (cmpE c (entAt l h) x < 0)) l.length 0 l.length = place c l x := rfl
  have HPl := hid hpl
  have HTh : Hid (isThere c l x = (decide (place c l x < l.length) && decide (cmpE c (entAt l (place c l x)) x = 0))) := hid rfl
  generalize hf : (fun h => decide (cmpE c (entAt l h) x < 0)) = f at *
  have HFd : Hid (∀ h, f h = decide (cmpE c (entAt l h) x < 0)) := hid (fun h => by rw [← hf])
  have hb := heap1 w (.cells #[.int .i64 x.v.kind, .bool x.v.b, .int .i64 x.v.n, .float .f64 x.v.f, .string x.v.t, .int .i64 x.id] 91)
  have hfr : Fr No w (w.alloc (.cells #[.int .i64 x.v.kind, .bool x.v.b, .int .i64 x.v.n, .float .f64 x.v.f, .string x.v.t, .int .i64 x.id] 91)) := (Fr.refl No w).alloc _
  rw [HE.out]
  generalize place c l x = p at *
  generalize isThere c l x = th at *
  clear ho hP hx hpl hf
  go_enter Tryz.func192, Tryz.ntmps192
  go_wp2_with fail
  generalize w.alloc (.cells #[.int .i64 x.v.kind, .bool x.v.b, .int .i64 x.v.n, .float .f64 x.v.f, .string x.v.t, .int .i64 x.id] 91) = w1 at *
  have HF := hid (⟨hfr, hb⟩ : _ ∧ _)
  have HZ := hid (lt_of_block hb)
  generalize hn : l.length = n at *
  have HN := hid hn
  clear hfr hb hn
  go_loopw [9, 10] (fun vi vj wr => ∃ i j : Nat, i ≤ j ∧ j ≤ n ∧ vi = .int .i64 (i : Int) ∧ vj = .int .i64 (j : Int) ∧ Hid (bsN f n i j = p ∧ Fr No w1 wr)) (fun vi vj _ => (intOf vj).toNat - (intOf vi).toNat)
  case atStart => exact ⟨0, n, Nat.zero_le _, Nat.le_refl _, rfl, rfl, HPl.out, Fr.refl _ _⟩
  case round =>
    obtain ⟨i, j, hij, hj, rfl, rfl, HI⟩ := hrel
    by_cases hlt : i < j
    · have hlti : (i : Int) < (j : Int) := by omega
      go_wp2_with fail
      obtain ⟨h, hh, hlo, hhi, hhe⟩ : ∃ h : Nat, (((i : Int) + (j : Int)) / 2 = (h : Int)) ∧ i ≤ h ∧ h < j ∧ h = (i + j) / 2 := ⟨(i + j) / 2, by omega, by omega, by omega, rfl⟩
      obtain ⟨y, hy⟩ : ∃ y, l[h]? = some y := ⟨l[h]'(by have := HN.out; omega), List.getElem?_eq_getElem _⟩
      obtain ⟨g, cur, rfl, -, hgk, -⟩ := owns_at HO.out.1 (by omega)
      have HGL := hid (lt_of_block hgk)
      clear hgk
      have HQ : Hid (f h = decide (cmpE c y x < 0)) := hid (by rw [HFd.out, entAt_of hy])
      have HYP := hid (HO.out.2 y (List.mem_of_getElem? hy))
      obtain ⟨e0, e1, e2, e3, e4, e5⟩ := encells_of (fd_owns HO.out.1 (HF.out.1.thenNo HI.out.2)) hy
      obtain ⟨d0, d1, d2, d3, d4, d5⟩ := cells6 (HI.out.2.keep HF.out.2 (fun e => e))
      have hhn : (h : Int) < (n : Int) := by omega
      rw [hh]
      have HHE := hid hhe
      clear hh hhe hy
      have hsc : ∀ q ∈ [g, w.heap.size], q < wr.drew.heap.size ∧ ¬ No q := fun q hq => ⟨by
        rcases List.mem_cons.1 hq with rfl | hq
        · exact Nat.lt_of_lt_of_le HGL.out ((HF.out.1.thenNo HI.out.2)).size
        · rw [List.mem_singleton.1 hq]; exact Nat.lt_of_lt_of_le HZ.out HI.out.2.size, fun e => e⟩
      refine wp_region_sched (by kernel_rfl) 8 [6] [0, 1, 2, 3, 4, 5, 6, 7] (AgC [g, w.heap.size] wr.drew) (by kernel_rfl) (AgC.refl _ _) ?_
      simp only [List.map_cons, List.map_nil, List.contains_cons, List.contains_nil, nth_zero, nth_succ, Nat.reduceBEq, Bool.or_false]
      repeat (refine sched_quiet (fun K hK => ?_); go_simp; refine hK _ ?_; clear hK K)
      refine sched_call (by first | rfl | go_simp) 193 #[entV y, entV x] (by go_simp; exact ⟨rfl, rfl⟩) (HC.out _ (((HF.out.1.thenNo HI.out.2)).drew) y HYP) ?_
      rintro e w3 ⟨rfl, f3⟩
      have a3 := (AgC.refl [g, w.heap.size] wr.drew).fr f3 hsc
      refine ⟨_, rfl, a3, ?_⟩
      clear e0 e1 e2 e3 e4 e5 d0 d1 d2 d3 d4 d5 a3 hsc
      have F3 := hid ((HI.out.2.drew).thenNo f3)
      clear f3
      repeat (refine sched_quiet (fun K hK => ?_); go_simp; refine hK _ ?_; clear hK K)
      refine sched_nil ?_
      generalize cmpE c y x = q at *
      by_cases hq : q < 0
      · go_wp2_with fail
        have hf2 : f h = true := by rw [HQ.out]; exact decide_eq_true hq
        refine ⟨⟨h + 1, j, by omega, hj, rfl, rfl, hid ⟨?_, F3.out⟩⟩, ?_⟩
        · have := HI.out.1
          rw [bsN_step f n i j hlt hj, ← HHE.out, hf2] at this
          exact this
        · show ((j : Int)).toNat - ((h : Int) + 1).toNat < ((j : Int)).toNat - ((i : Int)).toNat
          omega
      · go_wp2_with fail
        have hf2 : f h = false := by rw [HQ.out]; exact decide_eq_false hq
        refine ⟨⟨i, h, hlo, by omega, rfl, rfl, hid ⟨?_, F3.out⟩⟩, ?_⟩
        · have := HI.out.1
          rw [bsN_step f n i j hlt hj, ← HHE.out, hf2] at this
          exact this
        · show ((h : Int)).toNat - ((i : Int)).toNat < ((j : Int)).toNat - ((i : Int)).toNat
          omega
    · have hnlt : ¬ (i : Int) < (j : Int) := by omega
      have hip : i = p := by
        have h1 := HI.out.1
        cases n with
        | zero => exact h1
        | succ m => rw [bsN, if_neg hlt] at h1; exact h1
      go_wp2_with fail
      subst hip
      by_cases hin : i < n
      · obtain ⟨y, hy⟩ : ∃ y, l[i]? = some y := ⟨l[i]'(by have := HN.out; omega), List.getElem?_eq_getElem _⟩
        obtain ⟨g, cur, rfl, -, hgk, -⟩ := owns_at HO.out.1 (by omega)
        have HGL := hid (lt_of_block hgk)
        clear hgk
        have HTT : Hid (th = decide (cmpE c y x = 0)) := hid (by rw [HTh.out, entAt_of hy, decide_eq_true hin, Bool.true_and])
        have HYP := hid (HO.out.2 y (List.mem_of_getElem? hy))
        obtain ⟨e0, e1, e2, e3, e4, e5⟩ := encells_of (fd_owns HO.out.1 (HF.out.1.thenNo HI.out.2)) hy
        obtain ⟨d0, d1, d2, d3, d4, d5⟩ := cells6 (HI.out.2.keep HF.out.2 (fun e => e))
        have hhn : (i : Int) < (n : Int) := by omega
        clear hy hlt hij hnlt
        have hsc : ∀ q ∈ [g, w.heap.size], q < wr.drew.heap.size ∧ ¬ No q := fun q hq => ⟨by
          rcases List.mem_cons.1 hq with rfl | hq
          · exact Nat.lt_of_lt_of_le HGL.out ((HF.out.1.thenNo HI.out.2)).size
          · rw [List.mem_singleton.1 hq]; exact Nat.lt_of_lt_of_le HZ.out HI.out.2.size, fun e => e⟩
        refine wp_region_sched (by kernel_rfl) 16 [11] [0, 1, 2, 3, 4, 5, 6, 7, 8, 9, 10, 11, 12, 13, 14, 15] (AgC [g, w.heap.size] wr.drew) (by kernel_rfl) (AgC.refl _ _) ?_
        simp only [List.map_cons, List.map_nil, List.contains_cons, List.contains_nil, nth_zero, nth_succ, Nat.reduceBEq, Bool.or_false]
        repeat (refine sched_quiet (fun K hK => ?_); go_simp; refine hK _ ?_; clear hK K)
        refine sched_call (by first | rfl | go_simp) 193 #[entV y, entV x] (by go_simp; exact ⟨rfl, rfl⟩) (HC.out _ (((HF.out.1.thenNo HI.out.2)).drew) y HYP.out) ?_
        rintro e w3 ⟨rfl, f3⟩
        have a3 := (AgC.refl [g, w.heap.size] wr.drew).fr f3 hsc
        refine ⟨_, rfl, a3, ?_⟩
        clear e0 e1 e2 e3 e4 e5 d0 d1 d2 d3 d4 d5 a3 hsc
        have F3 := hid ((HF.out.1.thenNo HI.out.2).drew.thenNo f3)
        clear f3
        repeat (refine sched_quiet (fun K hK => ?_); go_simp; refine hK _ ?_; clear hK K)
        refine sched_nil ?_
        go_wp2_with fail
        go_ret2
        refine ⟨?_, F3.out⟩
        rw [HTT.out]; rfl
      · have hin' : ¬ (i : Int) < (n : Int) := by omega
        have HTT : Hid (th = false) := hid (by rw [HTh.out, decide_eq_false hin, Bool.false_and])
        clear hlt hij hnlt
        refine wp_region_sched (by kernel_rfl) 16 [11] [0, 1, 2, 3, 4, 5, 6, 7, 8, 9, 10, 11, 12, 13, 14, 15] (AgC [] wr.drew) (by kernel_rfl) (AgC.refl _ _) ?_
        simp only [List.map_cons, List.map_nil, List.contains_cons, List.contains_nil, nth_zero, nth_succ, Nat.reduceBEq, Bool.or_false]
        repeat (refine sched_quiet (fun K hK => ?_); go_simp; refine hK _ ?_; clear hK K)
        refine sched_skip (by first | rfl | go_simp) (AgC.refl _ _) ?_
        repeat (refine sched_quiet (fun K hK => ?_); go_simp; refine hK _ ?_; clear hK K)
        refine sched_nil ?_
        go_wp2_with fail
        go_ret2
        refine ⟨?_, (HF.out.1.thenNo HI.out.2).drew⟩
        rw [HTT.out]; rfl
end Go.Proofs.YtibfpkfpmkghhaaGreatDoor

namespace Go.Lig
open Go.RowKit
theorem flat_take {α β : Type} {f : α → List β} {m : Nat} (hf : ∀ x, (f x).length = m) : ∀ (l : List α) (k : Nat), (l.flatMap f).take (k * m) = (l.take k).flatMap f
  | [], k => by simp
  | x :: l, 0 => by simp
  | x :: l, k + 1 => by
    have e : (k + 1) * m = (f x).length + k * m := by rw [hf, Nat.add_mul, Nat.one_mul, Nat.add_comm]
    rw [List.flatMap_cons, List.take_succ_cons, List.flatMap_cons, e, List.take_length_add_append, flat_take hf l k]
theorem flat_drop {α β : Type} {f : α → List β} {m : Nat} (hf : ∀ x, (f x).length = m) : ∀ (l : List α) (k : Nat), (l.flatMap f).drop (k * m) = (l.drop k).flatMap f
  | [], k => by simp
  | x :: l, 0 => by simp
  | x :: l, k + 1 => by
    have e : (k + 1) * m = (f x).length + k * m := by rw [hf, Nat.add_mul, Nat.one_mul, Nat.add_comm]
    rw [List.flatMap_cons, List.drop_succ_cons, e, List.drop_length_add_append, flat_drop hf l k]
theorem run_slice_fromI {P : Program} (w : World) (t e : TypeId) (size : Nat) (ht : P.underlying t = some (.slice e)) (hj : (P.info? e).map (·.size) = some size) (g n cap q : Nat) (qv : Int) (hq : qv = (q : Int)) (h1 : q ≤ n) (h2 : n ≤ cap) : (Instr.slice t (.slice (some ⟨g, 0, none⟩) n cap) (some (.int .i64 qv)) none none).run P w = .ok (.slice (some (if cap = q then ⟨g, 0, none⟩ else ⟨g, q * size, none⟩)) (n - q) (cap - q)) w := by
  subst hq
  cases hi : P.info? e with
  | none => rw [hi] at hj; cases hj
  | some j =>
    rw [hi] at hj
    obtain rfl : j.size = size := by simpa using hj
    by_cases c2 : cap = q
    · simp [Instr.slice, run_underlying ht, Instr.sliceBounds, Instr.sliceBound, asIntOf, sizeOf, typeInfo, hi, h1, c2, Addr.add]
    · simp [Instr.slice, run_underlying ht, Instr.sliceBounds, Instr.sliceBound, asIntOf, sizeOf, typeInfo, hi, h1, c2, Addr.add]
      by_cases h0 : q * j.size = 0 <;> simp [h0]
theorem wpList_append_at {P : Program} {ops : Array Oper} {rest : List Oper} {o : Oper} {a : Act} {w : World} {Q : Exit → Act → World → Prop} (hgd : o.guard = none) (x y : Operand) (t e : TypeId) (ho : o.op = .call { callee := .builtin .append, args := #[x, y], argTypes := #[t, t] }) (z : Value) (size bytes : Nat)
    (ht : P.underlying t = some (.slice e)) (hinfo : (P.info? e).map (fun i => (i.zero, i.size, i.bytes)) = some (some z, size, bytes)) (g n c : Nat) (hx : a.eval x = .slice (some ⟨g, 0, none⟩) n c) (cur : Array Value) (hg : w.heap[g]? = some (.cells cur e (0, 0)))
    (ad : Addr) (m c' : Nat) (news : List Value) (hy : a.eval y = .slice (some ad) m c') (hl : news.length = m * size) (hnews : ∀ j u, news[j]? = some u → w.cell? (ad.add j) = some u) (h1 : ∀ u ∈ news, u.oneCell' = true) (hroom : n + m ≤ c) (hfit : n * size + news.length ≤ cur.size)
    (h : ∀ w', Put g (cur.toList.take (n * size) ++ news ++ cur.toList.drop (n * size + news.length)).toArray e w w' → wpList P ops Q rest (a.put o.dst (.slice (some ⟨g, 0, none⟩) (n + m) c)) w') : wpList P ops Q (o :: rest) a w := by
  obtain ⟨i, hi, hz, hsize, hby⟩ := info_parts hinfo
  subst hsize
  have hr := run_append_room (P := P) (w := w) t o.type e i ht hi g n c cur hg ad m c' news hl hnews h1 hroom hfit
  refine wpList_run hgd (v := .slice (some ⟨g, 0, none⟩) (n + m) c) ?_ (h _ (Put.row hg))
  simp [execOp, ho, resolve, invoke, builtin, hx, hy, hr, Result.andThen]
end Go.Lig
namespace Go.Proofs.YtibfpkfpmkghhaaGreatDoor
open Go.RowKit Go.Lig

theorem infoEntry : (Tryz.prog.info? 91).map (fun i => (i.zero, i.size, i.bytes)) = some (some (.agg #[.int .i64 0, .bool false, .int .i64 0, .float .f64 0, .string (ByteArray.mk #[]), .int .i64 0]), 6, 56) := by kernel_rfl
theorem ncellE_one {l : List EntR} {u : Value} (h : u ∈ l.flatMap ncellE) : u.oneCell' = true := by
  obtain ⟨y, -, hu⟩ := List.mem_flatMap.1 h
  simp only [ncellE, List.mem_cons, List.not_mem_nil, or_false] at hu
  rcases hu with rfl | rfl | rfl | rfl | rfl | rfl <;> rfl
set_option maxRecDepth 100000 in
set_option maxHeartbeats 1000000 in
theorem delete_any (w : World) (g cap : Nat) (l : List EntR) (ho : w.ownsRow 0 91 6 (.slice (some ⟨g, 0, none⟩) l.length cap) l.length (l.flatMap ncellE)) (i : Nat) (hi : i < l.length) (hs : l.length ≤ 1000000) :
    Calls Tryz.prog 194 #[.slice (some ⟨g, 0, none⟩) l.length cap, .int .i64 (i : Int), .int .i64 ((i : Int) + 1)] w fun e w' =>
      e = .returned (.slice (some ⟨g, 0, none⟩) (l.length - 1) cap) ∧ w'.ownsRow 0 91 6 (.slice (some ⟨g, 0, none⟩) (l.length - 1) cap) (l.length - 1) ((l.take i ++ l.drop (i + 1)).flatMap ncellE) ∧ Fr (fun k => k = g) w w' := by
  obtain ⟨g', cur, hg', -, hg, hnc, hcs, htk⟩ := owns_at ho (by omega)
  obtain rfl : g = g' := by simpa using hg'
  have HO := hid ho
  have HG := hid hg
  have HZ := hid (⟨hnc, hcs, htk⟩ : _ ∧ _ ∧ _)
  generalize hn : l.length = n at *
  have HN := hid hn
  clear ho hg hg' hcs htk hn
  have hin : (i : Int) + 1 ≤ (n : Int) := by omega
  have hne : ¬ (i : Int) = (i : Int) + 1 := by omega
  have hni : i + 1 ≤ cap := by omega
  go_enter Tryz.func194, Tryz.ntmps194
  go_wp2_with fail
  have hln : (l.drop (i + 1)).length = n - (i + 1) := by rw [List.length_drop, HN.out]
  have HL := hid (show ((l.drop (i + 1)).flatMap ncellE).length = (n - (i + 1)) * 6 by rw [flat_len (f := ncellE) (m := 6) (fun _ => rfl), hln])
  have HD := hid (flat_drop (f := ncellE) (m := 6) (fun _ => rfl) l (i + 1))
  have HT := hid (flat_take (f := ncellE) (m := 6) (fun _ => rfl) l i)
  obtain ⟨ad, had, hadn⟩ : ∃ ad : Addr, ad = (if cap = i + 1 then ⟨g, 0, none⟩ else ⟨g, (i + 1) * 6, none⟩ : Addr) ∧ ∀ j u, ((l.drop (i + 1)).flatMap ncellE)[j]? = some u → w.cell? (ad.add j) = some u := by
    by_cases hc : cap = i + 1
    · refine ⟨_, rfl, fun j u hj => ?_⟩
      have : ((l.drop (i + 1)).flatMap ncellE) = [] := List.eq_nil_of_length_eq_zero (by rw [HL.out]; omega)
      rw [this] at hj
      simp at hj
    · refine ⟨_, rfl, fun j u hj => ?_⟩
      rw [if_neg hc, Addr.add_lit]
      exact owns_cell HO.out rfl (by rw [← HD.out, List.getElem?_drop] at hj; exact hj)
  have HA := hid hadn
  replace had := hid had
  clear hadn hln
  refine wp_region_sched (by kernel_rfl) 8 [6] [0, 1, 2, 3, 4, 5, 6, 7] (AgC [] w.drew) (by kernel_rfl) (AgC.refl _ _) ?_
  simp only [List.map_cons, List.map_nil, List.contains_cons, List.contains_nil, nth_zero, nth_succ, Nat.reduceBEq, Bool.or_false]
  repeat (refine sched_quiet (fun K hK => ?_); go_simp; refine hK _ ?_; clear hK K)
  refine sched_slice rfl 86 91 Tryz.underlying86 (.tmp 20) none (some (.tmp 21)) rfl (.slice (some ⟨g, 0, none⟩) n cap) rfl none (some (.int .i64 (i : Int))) rfl rfl (.slice (some ⟨g, 0, none⟩) i cap) (fun w' => by obtain ⟨j, hj, -⟩ := info_parts infoEntry; exact run_slice_to w' _ _ j Tryz.underlying86 hj g n cap i (by omega)) ?_
  repeat (refine sched_quiet (fun K hK => ?_); go_simp; refine hK _ ?_; clear hK K)
  refine sched_slice rfl 86 91 Tryz.underlying86 (.tmp 23) (some (.tmp 24)) none rfl (.slice (some ⟨g, 0, none⟩) n cap) rfl (some (.int .i64 ((i : Int) + 1))) none rfl rfl (.slice (some ad) (n - (i + 1)) (cap - (i + 1))) (fun w' => by rw [had.out]; exact run_slice_fromI w' _ _ 6 Tryz.underlying86 (by kernel_rfl) g n cap (i + 1) _ rfl hi HZ.out.1) ?_
  refine sched_loud (wpList_append_at rfl (.tmp 22) (.tmp 25) 86 91 rfl _ 6 56 Tryz.underlying86 infoEntry g i cap rfl cur HG.out ad (n - (i + 1)) (cap - (i + 1)) _ rfl HL.out (fun j u hj => HA.out j u hj) (fun u hu => ncellE_one hu) (by omega) (by rw [HL.out]; have := HZ.out.2.1; omega) ?_)
  intro w1 p1
  refine sched_on (AgC.mk (fun _ h => by cases h)) ?_
  repeat (refine sched_quiet (fun K hK => ?_); go_simp; refine hK _ ?_; clear hK K)
  refine sched_nil ?_
  have o1 := owns_putSeg (w := w.drew) HO.out HG.out (by rw [HL.out]; omega) (fun u hu => ncellE_one hu) p1
  have g1 := p1.at_
  have F1 := hid ((Fr.refl (fun k => k = g) w).drew.trans p1.fr (fun _ _ e => e))
  have O1 := hid o1
  have G1 := hid g1
  clear p1 o1 g1
  have hnn : i + (n - (i + 1)) = n - 1 := by omega
  have hnn1 : ((n - 1 : Nat) : Int) ≤ (n : Int) := by omega
  rw [hnn]
  obtain ⟨cur1, hcur1, hcs1⟩ : ∃ cur1 : Array Value, w1.heap[g]? = some (.cells cur1 91 (0, 0)) ∧ cur1.size = cap * 6 := ⟨_, G1.out, by
    have := HZ.out.2.1
    have hh : ∀ ns : List Value, ns.length = (n - (i + 1)) * 6 → (cur.toList.take (i * 6) ++ ns ++ cur.toList.drop (i * 6 + ns.length)).toArray.size = cap * 6 := by
      intro ns h2
      simp
      omega
    exact hh _ HL.out⟩
  obtain ⟨w2, zs, hzl, p2, hcl⟩ : ∃ (w2 : World) (zs : List Value), zs.length = (n - (n - 1)) * 6 ∧ Put g (cur1.toList.take ((n - 1) * 6) ++ zs ++ cur1.toList.drop ((n - 1) * 6 + (n - (n - 1)) * 6)).toArray 91 w1 w2 ∧ ∀ ty c, (Builtin.clear_ #[86] ty #[.slice (some ⟨g, (n - 1) * 6, none⟩) (n - (n - 1)) c]).run Tryz.prog w1 = .ok (.tuple #[]) w2 := by
    obtain ⟨j, hj, hz, hsz, -⟩ := info_parts infoEntry
    refine ⟨_, _, ?_, Put.row hcur1, fun ty c => run_clear_rows w1 86 91 ty j _ Tryz.underlying86 hj hz g ((n - 1) * 6) (n - (n - 1)) c (by omega) cur1 hcur1 ?_ ?_ (by decide)⟩
    · simp [Builtin.zeroCells, Value.cells]
    · rw [hcs1]; show (n - 1) * 6 + (n - (n - 1)) * 6 ≤ cap * 6; have := HZ.out.1; omega
    · intro v hv
      simp [Value.cells] at hv
      rcases hv with rfl | rfl | rfl | rfl | rfl | rfl <;> rfl
  have o2 := owns_cut O1.out hcur1 (q := n - 1) (by omega) hzl p2
  have O2 := hid o2
  have F2 := hid (F1.out.thenS p2.fr)
  clear o2 p2 hcs1 hcur1 hzl F1 O1 G1
  go_wp2_with fail
  go_ret
  refine ⟨rfl, ?_, F2.out⟩
  have hx : ((l.flatMap ncellE).take (i * 6) ++ (l.drop (i + 1)).flatMap ncellE ++ (l.flatMap ncellE).drop (i * 6 + ((l.drop (i + 1)).flatMap ncellE).length)).take ((n - 1) * 6) = (l.take i ++ l.drop (i + 1)).flatMap ncellE := by
    have l1 : ((l.flatMap ncellE).take (i * 6) ++ (l.drop (i + 1)).flatMap ncellE).length = (n - 1) * 6 := by
      rw [List.length_append, HL.out, HT.out, flat_len (f := ncellE) (m := 6) (fun _ => rfl), List.length_take, HN.out]; omega
    rw [← l1, List.take_left, HT.out, List.flatMap_append]
  rw [← hx]
  exact O2.out
end Go.Proofs.YtibfpkfpmkghhaaGreatDoor
