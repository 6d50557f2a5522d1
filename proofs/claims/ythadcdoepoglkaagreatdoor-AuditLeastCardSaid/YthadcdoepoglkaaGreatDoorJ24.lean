/- A part of the proof: contracts of functions of the program, for the row's text. -/
import Derived.Test.YthadcdoepoglkaaGreatDoorJ23
import Derived.Test.YthadcdoepoglkaaGreatDoorJ21
import Derived.Test.YthadcdoepoglkaaGreatDoorJ20
import Derived.Laws.Externs
namespace Go.Proofs.YthadcdoepoglkaaGreatDoor
open Go.RowKit Go.Lig
theorem _root_.Go.Lig.NodeOf.frameO {w w' : World} {S : Nat → Prop} {sl sp : Value} {d : NodeD} (h : NodeOf w sl sp d) (hf : Fr S w w') (h1 : ∀ k, slBlock sl = some k → d.L ≠ [] → ¬ S k) (h2 : ∀ k, slBlock sp = some k → d.Q ≠ [] → ¬ S k) : NodeOf w' sl sp d :=
 ⟨h.l.frameE hf (fun k hk hx => h1 k hk (fun e => hx (by rw [e]; rfl))), h.p.frameE hf (fun k hk hx => h2 k hk (fun e => hx (by rw [e]; rfl))), h.ok, h.ls⟩
section
variable (w : World) (ρ : Nat → Option Pt) (s : Nat) (A : Ad) (M : PSt) (F : Nat)
theorem grows_node (h : StAt w ρ s A M F) (hn : M.N.length < 1000) : Calls Tryz.prog 56 #[.pointer (some ⟨s, 0, none⟩), .int .i64 ((M.N.length : Int) + 1), .int .i64 0] w fun e w' => e = .returned (.tuple #[]) ∧ Turns w ρ s (growN M) F w' := by
 have := grows_any w ρ s A M F h (M.N.length + 1) 0 (by omega) (by omega)
 rw [show M.N.length + 1 - M.N.length = 1 by omega, show 0 - M.E.length = 0 by omega, growEs_zero, ← growNs_succ, growNs_zero] at this
 exact this
theorem grows_edge (h : StAt w ρ s A M F) (hn : M.E.length < 1000) : Calls Tryz.prog 56 #[.pointer (some ⟨s, 0, none⟩), .int .i64 0, .int .i64 ((M.E.length : Int) + 1)] w fun e w' => e = .returned (.tuple #[]) ∧ Turns w ρ s (growE M) F w' := by
 have := grows_any w ρ s A M F h 0 (M.E.length + 1) (by omega) (by omega)
 rw [show M.E.length + 1 - M.E.length = 1 by omega, show 0 - M.N.length = 0 by omega, growNs_zero, ← growEs_succ, growEs_zero] at this
 exact this
variable {w ρ s A M F}
theorem StAt.same_e {w' : World} {ρ' : Nat → Option Pt} {M' : PSt} {F' : Nat} (h : StAt w ρ s A M F) (h' : StAt w' ρ' s A M' F') : M'.E.length = M.E.length := row_len (h'.at_ .edrow).1 (h.at_ .edrow).1
end
section
variable (w : World) (ρ : Nat → Option Pt) (s : Nat) (A : Ad) (M : PSt) (F : Nat) (h : StAt w ρ s A M F) (t : Int) (la pa : Option Addr) (ln lc pn pc : Nat)
include h
theorem addnode_dead (hl : M.K.live t = false) :
  Calls Tryz.prog 22 #[.pointer (some ⟨s, 0, none⟩), .int .i64 t, .agg #[.slice la ln lc, .slice pa pn pc]] w fun e w' => e = .returned (.tuple #[.int .i64 0, .int .i64 5]) ∧ Fr No w w' := by
 have hfr : Fr No w (w.alloc (.cells #[.slice la ln lc, .slice pa pn pc] 34)) := (Fr.refl No w).alloc _
 have HI := hid (islive_any _ ρ s A M F (h.frame hfr) t)
 rw [hl] at HI
 have HF := hid hfr
 clear h hl hfr
 go_enter Tryz.func22, Tryz.ntmps22
 go_wp2_with (go_at_call 51; refine HI.out.mono ?_; rintro e w1 ⟨rfl, rfl⟩)
 go_ret2
 exact ⟨rfl, HF.out⟩
variable (hl : M.K.live t = true)
include hl
theorem addnode_bad (hi : ∀ u, Fr No w u → Calls Tryz.prog 52 #[.agg #[.slice la ln lc, .slice pa pn pc]] u fun e w' => e = .returned (.bool false) ∧ Fr No u w') :
  Calls Tryz.prog 22 #[.pointer (some ⟨s, 0, none⟩), .int .i64 t, .agg #[.slice la ln lc, .slice pa pn pc]] w fun e w' => e = .returned (.tuple #[.int .i64 0, .int .i64 1]) ∧ Fr No w w' := by
 have hb := heap1 w (.cells #[.slice la ln lc, .slice pa pn pc] 34)
 have hfr : Fr No w (w.alloc (.cells #[.slice la ln lc, .slice pa pn pc] 34)) := (Fr.refl No w).alloc _
 have HI := hid (islive_any _ ρ s A M F (h.frame hfr) t)
 rw [hl] at HI
 have HF := hid (⟨hfr, hi, hb⟩ : _ ∧ _ ∧ _)
 clear h hl hfr hi hb
 go_enter Tryz.func22, Tryz.ntmps22
 go_wp2_with (first | (go_at_call 51; refine HI.out.mono ?_; rintro e w1 ⟨rfl, rfl⟩; obtain ⟨c0, c1'⟩ := cells2 HF.out.2.2) | (go_at_call 52; refine (HF.out.2.1 _ HF.out.1).mono ?_; rintro e w2 ⟨rfl, f2⟩; have F2 := hid (HF.out.1.thenNo f2); clear f2))
 go_ret2
 exact ⟨rfl, F2.out⟩
variable (hi : ∀ u, Fr No w u → Calls Tryz.prog 52 #[.agg #[.slice la ln lc, .slice pa pn pc]] u fun e w' => e = .returned (.bool true) ∧ Fr No u w')
include hi
set_option maxRecDepth 100000 in
set_option maxHeartbeats 1000000 in
theorem addnode_full (hf : 24 ≤ M.N.length) :
  Calls Tryz.prog 22 #[.pointer (some ⟨s, 0, none⟩), .int .i64 t, .agg #[.slice la ln lc, .slice pa pn pc]] w fun e w' => e = .returned (.tuple #[.int .i64 0, .int .i64 3]) ∧ Fr No w w' := by
 have hb := heap1 w (.cells #[.slice la ln lc, .slice pa pn pc] 34)
 have hfr : Fr No w (w.alloc (.cells #[.slice la ln lc, .slice pa pn pc] 34)) := (Fr.refl No w).alloc _
 have HI := hid (islive_any _ ρ s A M F (h.frame hfr) t)
 rw [hl] at HI
 have HH := hid (⟨h, hfr, hb, hi⟩ : _ ∧ _ ∧ _ ∧ _)
 obtain ⟨a1, c1, hnv⟩ := ownsRow_slice (h.at_ .nrow).1
 have HV := hid hnv
 have hn : (24 : Int) ≤ (M.N.length : Int) := by omega
 generalize hNe : M.N.length = n at hn
 have HNe := hid hNe
 clear h hl hf hb hfr hnv hNe hi
 go_enter Tryz.func22, Tryz.ntmps22
 go_wp2_with (first | (go_at_call 51; refine HI.out.mono ?_; rintro e w1 ⟨rfl, rfl⟩; obtain ⟨c0, c1'⟩ := cells2 HH.out.2.2.1) | (go_at_call 52; refine (HH.out.2.2.2 _ HH.out.2.1).mono ?_; rintro e w2 ⟨rfl, f2⟩; have F2 := hid (HH.out.2.1.thenNo f2); clear f2; have x1 := (HH.out.1.frame F2.out).cells.2.1; rw [HV.out, HNe.out] at x1))
 go_ret2
 exact ⟨rfl, F2.out⟩
set_option maxRecDepth 100000 in
set_option maxHeartbeats 1000000 in
theorem addnode_ok (d : NodeD) (hd : NodeOf w (.slice la ln lc) (.slice pa pn pc) d) (hd1 : d.L.length ≤ 1000000) (hd2 : d.Q.length ≤ 1000000) (hb1 : ∀ k, slBlock (.slice la ln lc) = some k → d.L ≠ [] → ¬ Go.Lig.Own ρ k) (hb2 : ∀ k, slBlock (.slice pa pn pc) = some k → d.Q ≠ [] → ¬ Go.Lig.Own ρ k) (hf : M.N.length < 24) (hF : F < 1000000) (M' : PSt) (F' : Nat) (hfind : FindsTo (putM (growN M) t M.N.length d false) M' (F + 1) F' M.N.length) :
  Calls Tryz.prog 22 #[.pointer (some ⟨s, 0, none⟩), .int .i64 t, .agg #[.slice la ln lc, .slice pa pn pc]] w fun e w' => e = .returned (.tuple #[.int .i64 ((M.N.length : Int) + 1), .int .i64 0]) ∧ Turns w ρ s M' F' w' := by
 have hb := heap1 w (.cells #[.slice la ln lc, .slice pa pn pc] 34)
 have hfr : Fr No w (w.alloc (.cells #[.slice la ln lc, .slice pa pn pc] 34)) := (Fr.refl No w).alloc _
 have HI := hid (islive_any _ ρ s A M F (h.frame hfr) t)
 rw [hl] at HI
 have HH := hid (⟨h, hfr, hb, hi⟩ : _ ∧ _ ∧ _ ∧ _)
 have HD := hid (⟨hd, hd1, hd2, hF, hfind⟩ : _ ∧ _ ∧ _ ∧ _ ∧ _)
 obtain ⟨a1, c1, hnv⟩ := ownsRow_slice (h.at_ .nrow).1
 have HV := hid hnv
 have hn : ¬ (24 : Int) ≤ (M.N.length : Int) := by omega
 have HLt := hid hf
 have hlen : (growN M).N.length = M.N.length + 1 := by simp [growN]
 have HLen := hid hlen
 have HU : Hid (¬ Go.Lig.Own ρ w.heap.size) := hid (fun e => by have := HH.out.1.bound _ e; omega)
 have HO := hid (⟨hb1, hb2⟩ : _ ∧ _)
 generalize hNe : M.N.length = n at hn HD ⊢
 have HNe := hid hNe
 clear h hl hf hb hfr hnv hNe hi hd hd1 hd2 hF hfind hlen hb1 hb2
 go_enter Tryz.func22, Tryz.ntmps22
 go_wp2_with (first | (go_at_call 51; refine HI.out.mono ?_; rintro e w1 ⟨rfl, rfl⟩; obtain ⟨c0, c1'⟩ := cells2 HH.out.2.2.1) | (go_at_call 52; refine (HH.out.2.2.2 _ HH.out.2.1).mono ?_; rintro e w2 ⟨rfl, f2⟩; have F2 := hid (HH.out.2.1.thenNo f2); have B2 := hid (f2.keep HH.out.2.2.1 (fun e => e)); clear f2 c0 c1'; have x1 := (HH.out.1.frame F2.out).cells.2.1; rw [HV.out, HNe.out] at x1))
 rw [← HNe.out]
 refine (grows_node _ ρ s A M F (HH.out.1.frame F2.out) (by have := HLt.out; omega)).mono ?_
 rintro e w3 ⟨rfl, ρ3, A3, h3, g3⟩
 obtain ⟨B3, U3⟩ := g3.keep B2.out HU.out
 have hd3 : NodeOf w3 (.slice la ln lc) (.slice pa pn pc) d := (HD.out.1.frame F2.out).frameO g3.fr HO.out.1 HO.out.2
 have G3 := hid (⟨h3, (Gone.no F2.out).trans g3, B3, U3, hd3⟩ : _ ∧ _ ∧ _ ∧ _ ∧ _)
 clear h3 g3 B3 U3 hd3 x1
 obtain ⟨y0, y1, -⟩ := G3.out.1.cells
 obtain ⟨a3, c3, hnv3⟩ := ownsRow_slice (G3.out.1.at_ .nrow).1
 rw [hnv3, HLen.out, HNe.out] at y1
 obtain ⟨d0, d1⟩ := cells2 G3.out.2.2.1
 have HS3 := hid (⟨G3.out.1.lt, lt_of_block G3.out.2.2.1⟩ : s < w3.heap.size ∧ w.heap.size < w3.heap.size)
 have HV3 := hid hnv3
 clear hnv3
 rw [HNe.out]
 go_wp2_with fail
 refine wp_region_sched (by kernel_rfl) 8 [8] [0, 1, 2, 3, 4, 5, 6, 7, 8] (AgC [s, w.heap.size] w3.drew) (by kernel_rfl) (AgC.refl _ _) ?_
 simp only [List.map_cons, List.map_nil, List.contains_cons, List.contains_nil, nth_zero, nth_succ, Nat.reduceBEq, Bool.or_false]
 repeat (refine sched_quiet (fun K hK => ?_); go_simp; refine hK _ ?_; clear hK K)
 refine sched_callL (by first | rfl | go_simp) 55 #[.pointer (some ⟨s, 0, none⟩), .int .i64 t, .int .i64 ((n : Int) + 1), .agg #[.slice la ln lc, .slice pa pn pc], .bool false] (by first | kernel_rfl | go_simp) (puts_any _ ρ3 s A3 (growN M) F (G3.out.1.frame (Fr.refl No w3).drew) t n (by rw [HLen.out, HNe.out]; omega) la pa ln lc pn pc d (G3.out.2.2.2.2.frame (Fr.refl No w3).drew) HD.out.2.1 HD.out.2.2.1 false HD.out.2.2.2.1 M' F' HD.out.2.2.2.2) ?_
 rintro e w4 ⟨rfl, ρ4, h4, g4⟩
 refine ⟨_, rfl, ?_⟩
 have G4 := hid (⟨h4, (G3.out.2.1.nextNo (Fr.refl No w3).drew).trans g4⟩ : _ ∧ _)
 obtain ⟨z0, z1, -⟩ := h4.cells
 rw [HV3.out, HLen.out, HNe.out] at z1
 clear h4 g4 y0 y1 d0 d1
 refine sched_nil ?_
 go_wp2_with fail
 go_ret2
 exact ⟨by simp, ρ4, A3, G4.out⟩
end
end Go.Proofs.YthadcdoepoglkaaGreatDoor
namespace Go.Lig
open Go.RowKit
section
variable {P : Program} {ops : Array Oper} {rest : List Oper} {o : Oper} {a : Act} {w : World} {Q : Exit → Act → World → Prop}
theorem run_buildSlice2 (t elem : TypeId) (z : Value) (bytes : Nat) (hu : P.underlying t = some (.slice elem)) (hinfo : (P.info? elem).map (fun i => (i.zero, i.size, i.bytes)) = some (some z, 1, bytes))
  (u v : Value) (hu1 : u.oneCell' = true) (hv1 : v.oneCell' = true) :
  (Instr.buildSlice t 2 #[(0, u), (1, v)]).run P w = .ok (.slice (some ⟨w.heap.size, 0, none⟩) 2 2) (w.alloc (.cells #[u, v] elem)) := by
 obtain ⟨i, hi, hz, hsize, hby⟩ := info_parts hinfo
 have hfill : Instr.fill (fun i => some (i * 1, 1)) ((Array.range (2 * 1)).map (z.cells[· % z.cells.size]!)) [(0, u), (1, v)] = some #[u, v] := by
  simp only [Instr.fill, cells_one hu1, cells_one hv1]
  simp
  rw [show Array.range 2 = #[0, 1] from rfl]
  simp only [List.map_toArray, List.map_cons, List.map_nil, List.setIfInBounds_toArray, List.set_cons_zero, List.set_cons_succ]
 simp only [Nat.mul_one] at hfill
 simp [Instr.buildSlice, run_underlying hu, sizeOf, typeInfo, zeroValue, hi, hz, hsize, hfill, newRow]
theorem wpList_buildSlice2 (hgd : o.guard = none) (t elem : TypeId) (x y : Operand) (ho : o.op = .buildSlice t 2 #[(0, x), (1, y)]) (z : Value) (bytes : Nat) (hu : P.underlying t = some (.slice elem))
  (hinfo : (P.info? elem).map (fun i => (i.zero, i.size, i.bytes)) = some (some z, 1, bytes)) (u v : Value) (hx : a.eval x = u) (hy : a.eval y = v) (hu1 : u.oneCell' = true) (hv1 : v.oneCell' = true)
  (h : ∀ w', New #[u, v] elem w w' → wpList P ops Q rest (a.put o.dst (.slice (some ⟨w.heap.size, 0, none⟩) 2 2)) w') : wpList P ops Q (o :: rest) a w := by
 refine wpList_run hgd ?_ (h _ (New.alloc w _ elem))
 have hrun := run_buildSlice2 (P := P) (w := w) t elem z bytes hu hinfo u v hu1 hv1
 simp [execOp, ho, hx, hy, hrun, Result.andThen]
end
end Go.Lig
namespace Go.Proofs.YthadcdoepoglkaaGreatDoor
open Go.RowKit Go.Lig
section
variable (w : World) (ρ : Nat → Option Pt) (s : Nat) (A : Ad) (M : PSt) (F : Nat) (h : StAt w ρ s A M F) (t : Int) (ef et : Int) (ey : ByteArray) (ew : Nat)
include h
theorem addedge_dead (hl : M.K.live t = false) :
  Calls Tryz.prog 23 #[.pointer (some ⟨s, 0, none⟩), .int .i64 t, .agg #[.int .i64 ef, .int .i64 et, .string ey, .float .f64 ew]] w fun e w' => e = .returned (.tuple #[.int .i64 0, .int .i64 5]) ∧ Fr No w w' := by
 have hfr : Fr No w (w.alloc (.cells #[.int .i64 ef, .int .i64 et, .string ey, .float .f64 ew] 48)) := (Fr.refl No w).alloc _
 have HI := hid (islive_any _ ρ s A M F (h.frame hfr) t)
 rw [hl] at HI
 have HF := hid hfr
 clear h hl hfr
 go_enter Tryz.func23, Tryz.ntmps23
 go_wp2_with (go_at_call 51; refine HI.out.mono ?_; rintro e w1 ⟨rfl, rfl⟩)
 go_ret2
 exact ⟨rfl, HF.out⟩
variable (hl : M.K.live t = true)
include hl
theorem addedge_bad (hi : ∀ u, Fr No w u → Calls Tryz.prog 57 #[.agg #[.int .i64 ef, .int .i64 et, .string ey, .float .f64 ew]] u fun e w' => e = .returned (.bool false) ∧ Fr No u w') :
  Calls Tryz.prog 23 #[.pointer (some ⟨s, 0, none⟩), .int .i64 t, .agg #[.int .i64 ef, .int .i64 et, .string ey, .float .f64 ew]] w fun e w' => e = .returned (.tuple #[.int .i64 0, .int .i64 1]) ∧ Fr No w w' := by
 have hb := heap1 w (.cells #[.int .i64 ef, .int .i64 et, .string ey, .float .f64 ew] 48)
 have hfr : Fr No w (w.alloc (.cells #[.int .i64 ef, .int .i64 et, .string ey, .float .f64 ew] 48)) := (Fr.refl No w).alloc _
 have HI := hid (islive_any _ ρ s A M F (h.frame hfr) t)
 rw [hl] at HI
 have HF := hid (⟨hfr, hi, hb⟩ : _ ∧ _ ∧ _)
 clear h hl hfr hi hb
 go_enter Tryz.func23, Tryz.ntmps23
 go_wp2_with (first | (go_at_call 51; refine HI.out.mono ?_; rintro e w1 ⟨rfl, rfl⟩; obtain ⟨c0, c1, c2, c3⟩ := cells4 HF.out.2.2) | (go_at_call 57; refine (HF.out.2.1 _ HF.out.1).mono ?_; rintro e w2 ⟨rfl, f2⟩; have F2 := hid (HF.out.1.thenNo f2); clear f2))
 go_ret2
 exact ⟨rfl, F2.out⟩
variable (hi : ∀ u, Fr No w u → Calls Tryz.prog 57 #[.agg #[.int .i64 ef, .int .i64 et, .string ey, .float .f64 ew]] u fun e w' => e = .returned (.bool true) ∧ Fr No u w')
include hi
set_option maxRecDepth 100000 in
set_option maxHeartbeats 1000000 in
theorem addedge_none1 (hrf : (readN M t ef).isSome = false) :
  Calls Tryz.prog 23 #[.pointer (some ⟨s, 0, none⟩), .int .i64 t, .agg #[.int .i64 ef, .int .i64 et, .string ey, .float .f64 ew]] w fun e w' => e = .returned (.tuple #[.int .i64 0, .int .i64 4]) ∧ Fr No w w' := by
 have hrt : True := trivial
 have hb := heap1 w (.cells #[.int .i64 ef, .int .i64 et, .string ey, .float .f64 ew] 48)
 have hfr : Fr No w (w.alloc (.cells #[.int .i64 ef, .int .i64 et, .string ey, .float .f64 ew] 48)) := (Fr.refl No w).alloc _
 have HI := hid (islive_any _ ρ s A M F (h.frame hfr) t)
 rw [hl] at HI
 have hr1 : ∀ u, StAt u ρ s A M F → Calls Tryz.prog 53 #[.pointer (some ⟨s, 0, none⟩), .int .i64 t, .int .i64 ef] u fun e w' => e = .returned (.bool false) ∧ Fr No u w' := fun u hu => by
  have := reads_any u ρ s A M F hu t ef
  rwa [hrf] at this
 have HH := hid (⟨h, hfr, hb, hi, hr1, trivial⟩ : _ ∧ _ ∧ _ ∧ _ ∧ _ ∧ True)
 clear h hl hi hrf hb hfr hr1
 go_enter Tryz.func23, Tryz.ntmps23
 go_wp2_with (first
  | (go_at_call 51; refine HI.out.mono ?_; rintro e w1 ⟨rfl, rfl⟩; obtain ⟨c0, c1, c2, c3⟩ := cells4 HH.out.2.2.1)
  | (go_at_call 57; refine (HH.out.2.2.2.1 _ HH.out.2.1).mono ?_; rintro e w2 ⟨rfl, f2⟩; have F2 := hid (HH.out.2.1.thenNo f2); have B2 := hid (f2.keep HH.out.2.2.1 (fun e => e)); clear f2 c0 c1 c2 c3; obtain ⟨c0, c1, c2, c3⟩ := cells4 B2.out)
  | (go_at_call 53; refine (HH.out.2.2.2.2.1 _ (HH.out.1.frame F2.out)).mono ?_; rintro e w3 ⟨rfl, f3⟩; have F3 := hid (F2.out.thenNo f3); clear f3 c0 c1 c2 c3))
 go_ret2
 exact ⟨rfl, F3.out⟩
variable (hrf : (readN M t ef).isSome = true)
include hrf
set_option maxRecDepth 100000 in
set_option maxHeartbeats 1000000 in
theorem addedge_none2 (hrt : (readN M t et).isSome = false) :
  Calls Tryz.prog 23 #[.pointer (some ⟨s, 0, none⟩), .int .i64 t, .agg #[.int .i64 ef, .int .i64 et, .string ey, .float .f64 ew]] w fun e w' => e = .returned (.tuple #[.int .i64 0, .int .i64 4]) ∧ Fr No w w' := by
 have hb := heap1 w (.cells #[.int .i64 ef, .int .i64 et, .string ey, .float .f64 ew] 48)
 have hfr : Fr No w (w.alloc (.cells #[.int .i64 ef, .int .i64 et, .string ey, .float .f64 ew] 48)) := (Fr.refl No w).alloc _
 have HI := hid (islive_any _ ρ s A M F (h.frame hfr) t)
 rw [hl] at HI
 have hr1 : ∀ u, StAt u ρ s A M F → Calls Tryz.prog 53 #[.pointer (some ⟨s, 0, none⟩), .int .i64 t, .int .i64 ef] u fun e w' => e = .returned (.bool true) ∧ Fr No u w' := fun u hu => by
  have := reads_any u ρ s A M F hu t ef
  rwa [hrf] at this
 have hr2 : ∀ u, StAt u ρ s A M F → Calls Tryz.prog 53 #[.pointer (some ⟨s, 0, none⟩), .int .i64 t, .int .i64 et] u fun e w' => e = .returned (.bool false) ∧ Fr No u w' := fun u hu => by
  have := reads_any u ρ s A M F hu t et
  rwa [hrt] at this
 obtain ⟨ad, cd, hdv⟩ := ownsRow_slice (h.at_ .edrow).1
 obtain ⟨n, hNe⟩ : ∃ n, M.E.length = n := ⟨_, rfl⟩
 have HV := hid (⟨hdv, hNe⟩ : _ ∧ _)
 have HH := hid (⟨h, hfr, hb, hi, hr1, hr2⟩ : _ ∧ _ ∧ _ ∧ _ ∧ _ ∧ _)
 clear h hl hi hrf hrt hb hfr hr1 hr2 hdv hNe
 go_enter Tryz.func23, Tryz.ntmps23
 go_wp2_with (first
  | (go_at_call 51; refine HI.out.mono ?_; rintro e w1 ⟨rfl, rfl⟩; obtain ⟨c0, c1, c2, c3⟩ := cells4 HH.out.2.2.1)
    | (go_at_call 57; refine (HH.out.2.2.2.1 _ HH.out.2.1).mono ?_; rintro e w2 ⟨rfl, f2⟩; have F2 := hid (HH.out.2.1.thenNo f2); have B2 := hid (f2.keep HH.out.2.2.1 (fun e => e)); clear f2 c0 c1 c2 c3; obtain ⟨c0, c1, c2, c3⟩ := cells4 B2.out)
    | (go_at_call 53; refine (HH.out.2.2.2.2.1 _ (HH.out.1.frame F2.out)).mono ?_; rintro e w3 ⟨rfl, f3⟩; have F3 := hid (F2.out.thenNo f3); have B3 := hid (f3.keep B2.out (fun e => e)); clear f3 c0 c1 c2 c3 F2 B2; obtain ⟨c0, c1, c2, c3⟩ := cells4 B3.out)
    | (go_at_call 53; refine (HH.out.2.2.2.2.2 _ (HH.out.1.frame F3.out)).mono ?_; rintro e w4 ⟨rfl, f4⟩; have F4 := hid (F3.out.thenNo f4); have B4 := hid (f4.keep B3.out (fun e => e)); clear f4 c0 c1 c2 c3 F3 B3; obtain ⟨c0, c1, c2, c3⟩ := cells4 B4.out; have x2 := (HH.out.1.frame F4.out).cells.2.2.1; rw [HV.out.1, HV.out.2] at x2))
 go_ret2
 exact ⟨rfl, F4.out⟩
variable (hrt : (readN M t et).isSome = true)
include hrt
set_option maxRecDepth 100000 in
set_option maxHeartbeats 1000000 in
theorem addedge_full (hf : 32 ≤ M.E.length) :
  Calls Tryz.prog 23 #[.pointer (some ⟨s, 0, none⟩), .int .i64 t, .agg #[.int .i64 ef, .int .i64 et, .string ey, .float .f64 ew]] w fun e w' => e = .returned (.tuple #[.int .i64 0, .int .i64 3]) ∧ Fr No w w' := by
 have hb := heap1 w (.cells #[.int .i64 ef, .int .i64 et, .string ey, .float .f64 ew] 48)
 have hfr : Fr No w (w.alloc (.cells #[.int .i64 ef, .int .i64 et, .string ey, .float .f64 ew] 48)) := (Fr.refl No w).alloc _
 have HI := hid (islive_any _ ρ s A M F (h.frame hfr) t)
 rw [hl] at HI
 have hr1 : ∀ u, StAt u ρ s A M F → Calls Tryz.prog 53 #[.pointer (some ⟨s, 0, none⟩), .int .i64 t, .int .i64 ef] u fun e w' => e = .returned (.bool true) ∧ Fr No u w' := fun u hu => by
  have := reads_any u ρ s A M F hu t ef
  rwa [hrf] at this
 have hr2 : ∀ u, StAt u ρ s A M F → Calls Tryz.prog 53 #[.pointer (some ⟨s, 0, none⟩), .int .i64 t, .int .i64 et] u fun e w' => e = .returned (.bool true) ∧ Fr No u w' := fun u hu => by
  have := reads_any u ρ s A M F hu t et
  rwa [hrt] at this
 obtain ⟨ad, cd, hdv⟩ := ownsRow_slice (h.at_ .edrow).1
 have hn : (32 : Int) ≤ (M.E.length : Int) := by omega
 generalize hNe : M.E.length = n at hn
 have HV := hid (⟨hdv, hNe⟩ : _ ∧ _)
 have HH := hid (⟨h, hfr, hb, hi, hr1, hr2⟩ : _ ∧ _ ∧ _ ∧ _ ∧ _ ∧ _)
 clear h hl hi hrf hrt hb hfr hr1 hr2 hdv hf hNe
 go_enter Tryz.func23, Tryz.ntmps23
 go_wp2_with (first
  | (go_at_call 51; refine HI.out.mono ?_; rintro e w1 ⟨rfl, rfl⟩; obtain ⟨c0, c1, c2, c3⟩ := cells4 HH.out.2.2.1)
    | (go_at_call 57; refine (HH.out.2.2.2.1 _ HH.out.2.1).mono ?_; rintro e w2 ⟨rfl, f2⟩; have F2 := hid (HH.out.2.1.thenNo f2); have B2 := hid (f2.keep HH.out.2.2.1 (fun e => e)); clear f2 c0 c1 c2 c3; obtain ⟨c0, c1, c2, c3⟩ := cells4 B2.out)
    | (go_at_call 53; refine (HH.out.2.2.2.2.1 _ (HH.out.1.frame F2.out)).mono ?_; rintro e w3 ⟨rfl, f3⟩; have F3 := hid (F2.out.thenNo f3); have B3 := hid (f3.keep B2.out (fun e => e)); clear f3 c0 c1 c2 c3 F2 B2; obtain ⟨c0, c1, c2, c3⟩ := cells4 B3.out)
    | (go_at_call 53; refine (HH.out.2.2.2.2.2 _ (HH.out.1.frame F3.out)).mono ?_; rintro e w4 ⟨rfl, f4⟩; have F4 := hid (F3.out.thenNo f4); have B4 := hid (f4.keep B3.out (fun e => e)); clear f4 c0 c1 c2 c3 F3 B3; obtain ⟨c0, c1, c2, c3⟩ := cells4 B4.out; have x2 := (HH.out.1.frame F4.out).cells.2.2.1; rw [HV.out.1, HV.out.2] at x2))
 go_ret2
 exact ⟨rfl, F4.out⟩
variable (hf : M.E.length < 32)
include hf
set_option maxRecDepth 100000 in
set_option maxHeartbeats 1000000 in
theorem addedge_clash (hc : mayB M t 0 [ef, et] = true) (M1 : PSt) (F1 : Nat) (hu : UndoTo t M1 F1 { M with K := M.K.abort t } F 0) (hF : F1 + 3000 < 1000000) :
  Calls Tryz.prog 23 #[.pointer (some ⟨s, 0, none⟩), .int .i64 t, .agg #[.int .i64 ef, .int .i64 et, .string ey, .float .f64 ew]] w fun e w' => e = .returned (.tuple #[.int .i64 0, .int .i64 6]) ∧ TurnsA w ρ s A (undoEs t M1 M1.E.length) (F1 + 2 * M1.E.length) w' := by
 have hb := heap1 w (.cells #[.int .i64 ef, .int .i64 et, .string ey, .float .f64 ew] 48)
 have hfr : Fr No w (w.alloc (.cells #[.int .i64 ef, .int .i64 et, .string ey, .float .f64 ew] 48)) := (Fr.refl No w).alloc _
 have HI := hid (islive_any _ ρ s A M F (h.frame hfr) t)
 rw [hl] at HI
 have hr1 : ∀ u, StAt u ρ s A M F → Calls Tryz.prog 53 #[.pointer (some ⟨s, 0, none⟩), .int .i64 t, .int .i64 ef] u fun e w' => e = .returned (.bool true) ∧ Fr No u w' := fun u hu => by
  have := reads_any u ρ s A M F hu t ef
  rwa [hrf] at this
 have hr2 : ∀ u, StAt u ρ s A M F → Calls Tryz.prog 53 #[.pointer (some ⟨s, 0, none⟩), .int .i64 t, .int .i64 et] u fun e w' => e = .returned (.bool true) ∧ Fr No u w' := fun u hu => by
  have := reads_any u ρ s A M F hu t et
  rwa [hrt] at this
 obtain ⟨ad, cd, hdv⟩ := ownsRow_slice (h.at_ .edrow).1
 have hn : ¬ (32 : Int) ≤ (M.E.length : Int) := by omega
 have HL := hid hl
 generalize hNe : M.E.length = n at hn
 have HV := hid (⟨hdv, hNe⟩ : _ ∧ _)
 have HC := hid (⟨hc, hu, hF⟩ : _ ∧ _ ∧ _)
 have HH := hid (⟨h, hfr, hb, hi, hr1, hr2⟩ : _ ∧ _ ∧ _ ∧ _ ∧ _ ∧ _)
 clear h hl hi hrf hrt hb hfr hr1 hr2 hdv hf hNe hc hu hF
 go_enter Tryz.func23, Tryz.ntmps23
 go_wp2_with (first
  | (go_at_call 51; refine HI.out.mono ?_; rintro e w1 ⟨rfl, rfl⟩; obtain ⟨c0, c1, c2, c3⟩ := cells4 HH.out.2.2.1)
    | (go_at_call 57; refine (HH.out.2.2.2.1 _ HH.out.2.1).mono ?_; rintro e w2 ⟨rfl, f2⟩; have F2 := hid (HH.out.2.1.thenNo f2); have B2 := hid (f2.keep HH.out.2.2.1 (fun e => e)); clear f2 c0 c1 c2 c3; obtain ⟨c0, c1, c2, c3⟩ := cells4 B2.out)
    | (go_at_call 53; refine (HH.out.2.2.2.2.1 _ (HH.out.1.frame F2.out)).mono ?_; rintro e w3 ⟨rfl, f3⟩; have F3 := hid (F2.out.thenNo f3); have B3 := hid (f3.keep B2.out (fun e => e)); clear f3 c0 c1 c2 c3 F2 B2; obtain ⟨c0, c1, c2, c3⟩ := cells4 B3.out)
    | (go_at_call 53; refine (HH.out.2.2.2.2.2 _ (HH.out.1.frame F3.out)).mono ?_; rintro e w4 ⟨rfl, f4⟩; have F4 := hid (F3.out.thenNo f4); have B4 := hid (f4.keep B3.out (fun e => e)); clear f4 c0 c1 c2 c3 F3 B3; obtain ⟨c0, c1, c2, c3⟩ := cells4 B4.out; have x2 := (HH.out.1.frame F4.out).cells.2.2.1; rw [HV.out.1, HV.out.2] at x2)
  | (refine wpList_buildSlice2 rfl 36 3 (.tmp 43) (.tmp 45) rfl _ 8 Tryz.underlying36 infoInt (.int .i64 ef) (.int .i64 et) rfl rfl rfl rfl ?_; intro w5 p5; have P5 := hid (show New [iv ef, iv et].toArray 3 w4 w5 from p5); clear p5))
 refine (may_any _ ρ s A M F (HH.out.1.frame (F4.out.thenNo P5.out.fr)) t 0 HL.out (.slice (some ⟨w4.heap.size, 0, none⟩) 2 2) [ef, et] (Rd.block P5.out.at_ 2 1 2 rfl (by simp [iv, Value.oneCell']) (Nat.le_refl _) (by simp [maxLen])) (by simp) M1 F1 (fun _ => HC.out.2)).mono ?_
 rintro e w6 ⟨rfl, -, h6⟩
 have G6 := hid (TurnsA.trans (Gone.no (F4.out.thenNo P5.out.fr)) (h6 HC.out.1))
 rw [HC.out.1, show errN true = 6 from rfl]
 clear h6
 go_wp2_with fail
 go_ret2
 exact ⟨rfl, G6.out⟩
end
end Go.Proofs.YthadcdoepoglkaaGreatDoor
namespace Go.Proofs.YthadcdoepoglkaaGreatDoor
open Go.RowKit Go.Lig
set_option maxRecDepth 100000 in
set_option maxHeartbeats 1000000 in
theorem order_any {P : ValR → Prop} {c : ValR → ValR → Int} (hc : CmpOk P c) (w : World) (x y : EntR) (hx : P x.v) (hy : P y.v) :
  Calls Tryz.prog 171 #[entV x, entV y] w fun e w' => e = .returned (.int .i64 (cmpE c x y)) ∧ Fr No w w' := by
 have HC := hid (hc x.v y.v hx hy)
 have HE : Hid (cmpE c x y = if c x.v y.v = 0 then cmpI x.id y.id else c x.v y.v) := hid rfl
 obtain ⟨⟨xk, xb, xn, xf, xt⟩, xi⟩ := x
 obtain ⟨⟨yk, yb, yn, yf, yt⟩, yi⟩ := y
 dsimp only [entV] at HC HE ⊢
 obtain ⟨k1, k2⟩ := heap2 w (.cells #[.int .i64 xk, .bool xb, .int .i64 xn, .float .f64 xf, .string xt, .int .i64 xi] 165) (.cells #[.int .i64 yk, .bool yb, .int .i64 yn, .float .f64 yf, .string yt, .int .i64 yi] 165)
 have hf : Fr No w ((w.alloc (.cells #[.int .i64 xk, .bool xb, .int .i64 xn, .float .f64 xf, .string xt, .int .i64 xi] 165)).alloc (.cells #[.int .i64 yk, .bool yb, .int .i64 yn, .float .f64 yf, .string yt, .int .i64 yi] 165)) := ((Fr.refl No w).alloc _).alloc _
 generalize hq : c ⟨xk, xb, xn, xf, xt⟩ ⟨yk, yb, yn, yf, yt⟩ = q at *
 clear hq hx hy
 go_enter Tryz.func171, Tryz.ntmps171
 go_wp2_with fail
 generalize (w.alloc (.cells #[.int .i64 xk, .bool xb, .int .i64 xn, .float .f64 xf, .string xt, .int .i64 xi] 165)).alloc (.cells #[.int .i64 yk, .bool yb, .int .i64 yn, .float .f64 yf, .string yt, .int .i64 yi] 165) = w2 at *
 obtain ⟨c0, c1, c2, c3, c4, c5⟩ := cells6 k1
 obtain ⟨d0, d1, d2, d3, d4, d5⟩ := cells6 k2
 have HF := hid hf
 have HZ := hid (⟨lt_of_block k1, lt_of_block k2⟩ : _ ∧ _)
 generalize hb1 : w.heap.size + 1 = b1 at *
 clear hf k1 k2 hb1
 refine wp_region_sched (by kernel_rfl) 13 [4, 9, 10, 11] [0, 1, 2, 3, 5, 6, 7, 8, 4, 9, 10, 11, 12] (AgC [w.heap.size, b1] w2.drew) (by kernel_rfl) (AgC.refl _ _) ?_
 simp only [List.map_cons, List.map_nil, List.contains_cons, List.contains_nil, nth_zero, nth_succ, Nat.reduceBEq, Bool.or_false, Bool.or_true]
 repeat (refine sched_quiet (fun K hK => ?_); go_simp; refine hK _ ?_; clear hK K)
 have hsc : ∀ j ∈ [w.heap.size, b1], j < w2.drew.heap.size ∧ ¬ No j := fun j hj => ⟨by rcases List.mem_cons.1 hj with rfl | hj; exact HZ.out.1; rw [List.mem_singleton.1 hj]; exact HZ.out.2, fun e => e⟩
 refine sched_call (by first | rfl | go_simp) 206 #[.agg #[.int .i64 xk, .bool xb, .int .i64 xn, .float .f64 xf, .string xt], .agg #[.int .i64 yk, .bool yb, .int .i64 yn, .float .f64 yf, .string yt]] (by first | kernel_rfl | go_simp) (HC.out _) ?_
 rintro e w3 ⟨rfl, f3⟩
 have a3 := (AgC.refl [w.heap.size, b1] w2.drew).fr f3 hsc
 refine ⟨_, rfl, a3, ?_⟩
 repeat (refine sched_quiet (fun K hK => ?_); go_simp; refine hK _ ?_; clear hK K)
 refine sched_call (by first | rfl | go_simp) 207 #[.int .i64 xi, .int .i64 yi] (by first | kernel_rfl | go_simp) (cmpint_any _ _ _) ?_
 rintro e w4 ⟨rfl, rfl⟩
 refine ⟨_, rfl, a3, ?_⟩
 repeat (refine sched_quiet (fun K hK => ?_); go_simp; refine hK _ ?_; clear hK K)
 refine sched_loud (wpList_buildSlice2 rfl 36 3 (.tmp 9) (.tmp 14) rfl _ 8 Tryz.underlying36 infoInt (.int .i64 q) (.int .i64 (cmpI xi yi)) rfl rfl rfl rfl ?_)
 intro w5 p5
 have a5 := a3.fr p5.fr hsc
 refine sched_on a5 ?_
 obtain ⟨e0, e1⟩ := cells2 p5.at_
 have F5 := hid ((HF.out.drew.thenNo f3).thenNo p5.fr)
 repeat (refine sched_quiet (fun K hK => ?_); go_simp; refine hK _ ?_; clear hK K)
 refine sched_call (by first | rfl | go_simp) 205 #[.slice (some ⟨w3.heap.size, 0, none⟩) 2 2] (by first | kernel_rfl | go_simp) (or2_any w5 w3.heap.size 2 q (cmpI xi yi) e0 e1) ?_
 rintro e w6 ⟨rfl, rfl⟩
 refine ⟨_, rfl, a5, ?_⟩
 clear f3 a3 p5 a5 hsc e0 e1
 rw [← HE.out]
 repeat (refine sched_quiet (fun K hK => ?_); go_simp; refine hK _ ?_; clear hK K)
 refine sched_nil ?_
 go_wp2_with fail
 go_ret
 exact ⟨rfl, F5.out⟩
def bsN (f : Nat → Bool) : Nat → Nat → Nat → Nat
 | 0, i, _ => i
 | n + 1, i, j => if i < j then (if f ((i + j) / 2) then bsN f n ((i + j) / 2 + 1) j else bsN f n i ((i + j) / 2)) else i
theorem bsN_fuel (f : Nat → Bool) : ∀ (n m i j : Nat), j - i ≤ n → j - i ≤ m → bsN f n i j = bsN f m i j
 | 0, 0, _, _, _, _ => rfl
 | 0, m + 1, i, j, h, _ => by rw [bsN, bsN, if_neg (by omega)]
 | n + 1, 0, i, j, _, h => by rw [bsN, bsN, if_neg (by omega)]
 | n + 1, m + 1, i, j, h1, h2 => by
  rw [bsN, bsN]
  by_cases hij : i < j
  ·rw [if_pos hij, if_pos hij, bsN_fuel f n m ((i + j) / 2 + 1) j (by omega) (by omega), bsN_fuel f n m i ((i + j) / 2) (by omega) (by omega)]
  ·rw [if_neg hij, if_neg hij]
theorem bsN_le (f : Nat → Bool) : ∀ (n i j : Nat), i ≤ j → i ≤ bsN f n i j ∧ bsN f n i j ≤ j
 | 0, i, j, h => ⟨Nat.le_refl _, h⟩
 | n + 1, i, j, h => by
  rw [bsN]
  split
  ·split
   ·have := bsN_le f n ((i + j) / 2 + 1) j (by omega); omega
   ·have := bsN_le f n i ((i + j) / 2) (by omega); omega
  ·exact ⟨Nat.le_refl _, h⟩
def entAt (l : List EntR) (i : Nat) : EntR := l[i]?.getD ⟨default, 0⟩
def place (c : ValR → ValR → Int) (l : List EntR) (x : EntR) : Nat := bsN (fun h => decide (cmpE c (entAt l h) x < 0)) l.length 0 l.length
def isThere (c : ValR → ValR → Int) (l : List EntR) (x : EntR) : Bool := decide (place c l x < l.length) && decide (cmpE c (entAt l (place c l x)) x = 0)
theorem place_le (c : ValR → ValR → Int) (l : List EntR) (x : EntR) : place c l x ≤ l.length := (bsN_le _ _ _ _ (Nat.zero_le _)).2
end Go.Proofs.YthadcdoepoglkaaGreatDoor
namespace Go.Proofs.YthadcdoepoglkaaGreatDoor
open Go.RowKit Go.Lig
def nanF (a : Nat) : Bool := FloatKind.f64.format.order a a != some Ordering.eq
theorem isnan_any (w : World) (a : Nat) : Calls Tryz.prog 231 #[.float .f64 a] w fun e w' => e = .returned (.bool (nanF a)) ∧ w = w' := by
 unfold nanF
 go_enter Tryz.func231, Tryz.ntmps231
 go_wp2_with fail
 go_ret
 exact ⟨rfl, rfl⟩
def normF (a : Nat) : Nat := if nanF a then 9221120237041090560 else a
set_option maxRecDepth 100000 in
theorem norm_any (w : World) (a : Nat) : Calls Tryz.prog 211 #[.float .f64 a] w fun e w' => e = .returned (.float .f64 (normF a)) ∧ w = w' := by
 have hfb : (callFunc 204 #[.int .u64 9221120237041090560]).run Tryz.prog w = .ok (.value (.float .f64 9221120237041090560)) w := by
  rw [run_callFunc_extern Tryz.func204 (by kernel_rfl) (by kernel_rfl) (by kernel_rfl) (e := Extern.MathFloatBits.float64frombits) (by kernel_rfl)]
  rfl
 unfold normF
 cases hn : nanF a with
 | true =>
  go_enter Tryz.func211, Tryz.ntmps211
  go_wp2_with (go_at_call 231; refine (isnan_any _ _).mono ?_; rintro e w1 ⟨rfl, rfl⟩; rw [hn])
  go_ret
  exact ⟨rfl, rfl⟩
 | false =>
  go_enter Tryz.func211, Tryz.ntmps211
  go_wp2_with (go_at_call 231; refine (isnan_any _ _).mono ?_; rintro e w1 ⟨rfl, rfl⟩; rw [hn])
  go_ret
  exact ⟨rfl, rfl⟩
theorem bits_run (w : World) (b : Nat) : (callFunc 161 #[.float .f64 b]).run Tryz.prog w = .ok (.value (.int .u64 (b : Int))) w := by
 rw [run_callFunc_extern Tryz.func161 (by kernel_rfl) (by kernel_rfl) (by kernel_rfl) (e := Extern.MathFloatBits.float64bits) (by kernel_rfl)]
 rfl
def keyF (a : Nat) : Int := if Go.bits .and .u64 (normF a : Int) 9223372036854775808 = 0 then Go.bits .or .u64 (normF a : Int) 9223372036854775808 else Go.bits .xor .u64 IntKind.u64.max (normF a : Int)
set_option maxRecDepth 100000 in
theorem key_any (w : World) (a : Nat) : Calls Tryz.prog 239 #[.float .f64 a] w fun e w' => e = .returned (.int .u64 (keyF a)) ∧ w = w' := by
 have hfb := bits_run w (normF a)
 unfold keyF
 by_cases hz : Go.bits .and .u64 (normF a : Int) 9223372036854775808 = 0
 ·rw [if_pos hz]
  go_enter Tryz.func239, Tryz.ntmps239
  go_wp2_with (go_at_call 211; refine (norm_any _ _).mono ?_; rintro e w1 ⟨rfl, rfl⟩)
  go_ret
  exact ⟨rfl, rfl⟩
 ·rw [if_neg hz]
  go_enter Tryz.func239, Tryz.ntmps239
  go_wp2_with (go_at_call 211; refine (norm_any _ _).mono ?_; rintro e w1 ⟨rfl, rfl⟩)
  go_ret
  exact ⟨rfl, rfl⟩
theorem rcmp_any (w : World) (a b : Nat) : Calls Tryz.prog 227 #[.float .f64 a, .float .f64 b] w fun e w' => e = .returned (.int .i64 (cmpI (keyF a) (keyF b))) ∧ w = w' := by
 go_enter Tryz.func227, Tryz.ntmps227
 go_wp2_with (first | (go_at_call 239; refine (key_any _ _).mono ?_; rintro e w1 ⟨rfl, rfl⟩) | (go_at_call 238; refine (cmpu64_any _ _ _).mono ?_; rintro e w1 ⟨rfl, rfl⟩))
 go_ret
 exact ⟨rfl, rfl⟩
def cmpV (a b : ValR) : Int := if a.kind ≠ b.kind then cmpI a.kind b.kind else if a.kind = 1 then boolN a.b - boolN b.b else if a.kind = 2 then cmpI a.n b.n else if a.kind = 3 then cmpI (keyF a.f) (keyF b.f) else if a.kind = 4 then cmpS a.t b.t else 0
set_option maxRecDepth 100000 in
set_option maxHeartbeats 1000000 in
theorem cmp_all : CmpOk (fun _ => True) cmpV := by
 intro a b _ _ w
 obtain ⟨ak, ab, an, af, at'⟩ := a
 obtain ⟨bk, bb, bn, bf, bt⟩ := b
 obtain ⟨k1, k2⟩ := heap2 w (.cells #[.int .i64 ak, .bool ab, .int .i64 an, .float .f64 af, .string at'] 56) (.cells #[.int .i64 bk, .bool bb, .int .i64 bn, .float .f64 bf, .string bt] 56)
 have hf : Hid (Fr No w ((w.alloc (.cells #[.int .i64 ak, .bool ab, .int .i64 an, .float .f64 af, .string at'] 56)).alloc (.cells #[.int .i64 bk, .bool bb, .int .i64 bn, .float .f64 bf, .string bt] 56))) := hid (((Fr.refl No w).alloc _).alloc _)
 obtain ⟨c0, c1, c2, c3, c4⟩ := cells5 k1
 obtain ⟨d0, d1, d2, d3, d4⟩ := cells5 k2
 dsimp only
 clear k1 k2
 by_cases hk : ak = bk
 ·subst hk
  by_cases h1 : ak = 1
  ·subst h1
   have HV : Hid (cmpV ⟨1, ab, an, af, at'⟩ ⟨1, bb, bn, bf, bt⟩ = boolN ab - boolN bb) := hid (by unfold cmpV; simp)
   rw [HV.out]
   clear HV
   go_enter Tryz.func206, Tryz.ntmps206
   go_wp2_with fail
   have hlt := hid (⟨World.block_lt_of_cell? _ _ c0, World.block_lt_of_cell? _ _ d0⟩ : _ ∧ _)
   generalize (w.alloc (.cells #[.int .i64 1, .bool ab, .int .i64 an, .float .f64 af, .string at'] 56)).alloc (.cells #[.int .i64 1, .bool bb, .int .i64 bn, .float .f64 bf, .string bt] 56) = w2 at *
   generalize hb1 : w.heap.size + 1 = b1 at *
   clear hb1
   have hwr : IntKind.i64.wrap (boolN ab - boolN bb) = boolN ab - boolN bb := by cases ab <;> cases bb <;> rfl
   refine wp_region_sched (by kernel_rfl) 8 [2, 5] [0, 1, 3, 4, 2, 5, 6, 7] (AgC [w.heap.size, b1] w2.drew) (by kernel_rfl) (AgC.refl _ _) ?_
   simp only [List.map_cons, List.map_nil, List.contains_cons, List.contains_nil, nth_zero, nth_succ, Nat.reduceBEq, Bool.or_false, Bool.or_true]
   repeat (refine sched_quiet (fun K hK => ?_); go_simp; refine hK _ ?_; clear hK K)
   refine sched_call (by first | rfl | go_simp) 226 #[.bool ab] (by first | kernel_rfl | go_simp) (vnumber_any _ _) ?_
   rintro e w3 ⟨rfl, rfl⟩
   refine ⟨_, rfl, AgC.refl _ _, ?_⟩
   repeat (refine sched_quiet (fun K hK => ?_); go_simp; refine hK _ ?_; clear hK K)
   refine sched_call (by first | rfl | go_simp) 226 #[.bool bb] (by first | kernel_rfl | go_simp) (vnumber_any _ _) ?_
   rintro e w3 ⟨rfl, rfl⟩
   refine ⟨_, rfl, AgC.refl _ _, ?_⟩
   repeat (refine sched_quiet (fun K hK => ?_); go_simp; refine hK _ ?_; clear hK K)
   refine sched_nil ?_
   go_wp2_with fail
   go_ret
   exact ⟨rfl, hf.out.drew⟩
  ·by_cases h2 : ak = 2
   ·subst h2
    have HV : Hid (cmpV ⟨2, ab, an, af, at'⟩ ⟨2, bb, bn, bf, bt⟩ = cmpI an bn) := hid (by unfold cmpV; simp)
    rw [HV.out]
    clear HV
    go_enter Tryz.func206, Tryz.ntmps206
    go_wp2_with (go_at_call 207; refine (cmpint_any _ _ _).mono ?_; rintro e w1 ⟨rfl, rfl⟩)
    go_ret
    exact ⟨rfl, hf.out⟩
   ·by_cases h3 : ak = 3
    ·subst h3
     have HV : Hid (cmpV ⟨3, ab, an, af, at'⟩ ⟨3, bb, bn, bf, bt⟩ = cmpI (keyF af) (keyF bf)) := hid (by unfold cmpV; simp)
     rw [HV.out]
     clear HV
     go_enter Tryz.func206, Tryz.ntmps206
     go_wp2_with (go_at_call 227; refine (rcmp_any _ _ _).mono ?_; rintro e w1 ⟨rfl, rfl⟩)
     go_ret
     exact ⟨rfl, hf.out⟩
    ·by_cases h4 : ak = 4
     ·subst h4
      have HV : Hid (cmpV ⟨4, ab, an, af, at'⟩ ⟨4, bb, bn, bf, bt⟩ = cmpS at' bt) := hid (by unfold cmpV; simp)
      rw [HV.out]
      clear HV
      go_enter Tryz.func206, Tryz.ntmps206
      go_wp2_with (go_at_call 228; refine (cmpstr_any _ _ _).mono ?_; rintro e w1 ⟨rfl, rfl⟩)
      go_ret
      exact ⟨rfl, hf.out⟩
     ·skip
      have HV : Hid (cmpV ⟨ak, ab, an, af, at'⟩ ⟨ak, bb, bn, bf, bt⟩ = 0) := hid (by unfold cmpV; simp [h1, h2, h3, h4])
      rw [HV.out]
      clear HV
      go_enter Tryz.func206, Tryz.ntmps206
      go_wp2_with fail
      go_ret
      exact ⟨rfl, hf.out⟩
 ·skip
  have HV : Hid (cmpV ⟨ak, ab, an, af, at'⟩ ⟨bk, bb, bn, bf, bt⟩ = cmpI ak bk) := hid (by unfold cmpV; simp [hk])
  rw [HV.out]
  clear HV
  go_enter Tryz.func206, Tryz.ntmps206
  go_wp2_with (go_at_call 207; refine (cmpint_any _ _ _).mono ?_; rintro e w1 ⟨rfl, rfl⟩)
  go_ret
  exact ⟨rfl, hf.out⟩
end Go.Proofs.YthadcdoepoglkaaGreatDoor
