/- The plain store: DropNode, AddEdge where there is a clash. -/
import Derived.Test.YtofjbigojbnmfaaGreatDoorStK
import Derived.Test.YtofjbigojbnmfaaGreatDoorRecE
namespace Go.Lig
open Go.RowKit
section
variable {P : Program} {ops : Array Oper} {rest : List Oper} {o : Oper} {a : Act} {w : World} {Q : Exit → Act → World → Prop}
/-- []T{x, y}, one cell each -/
theorem run_buildSlice2 (t elem : TypeId) (z : Value) (bytes : Nat) (hu : P.underlying t = some (.slice elem)) (hinfo : (P.info? elem).map (fun i => (i.zero, i.size, i.bytes)) = some (some z, 1, bytes))
    (u v : Value) (hu1 : u.oneCell' = true) (hv1 : v.oneCell' = true) :
    (Instr.buildSlice t 2 #[(0, u), (1, v)]).run P w = .ok (.slice (some ⟨w.heap.size, 0, none⟩) 2 2) (w.alloc (.cells #[u, v] elem)) := by
  obtain ⟨i, hi, hz, hsize, hby⟩ := info_parts hinfo
  have hfill : Instr.fill (fun i => some (i * 1, 1)) ((Array.range (2 * 1)).map (z.cells[· % z.cells.size]!)) [(0, u), (1, v)] = some #[u, v] := by
    simp only [Instr.fill, cells_one hu1, cells_one hv1]
    simp
    rw [show Array.range 2 = #[0, 1] from rfl]
    simp only [List.map_toArray, List.map_cons, List.map_nil, List.setIfInBounds_toArray, List.set_cons_zero, List.set_cons_succ]
  simp only [Nat.mul_one] at hfill
  simp [Instr.buildSlice, run_underlying hu, sizeOf, typeInfo, zeroValue, hi, hz, hsize, hfill, newRow]
theorem wpList_buildSlice2 (hgd : o.guard = none) (t elem : TypeId) (x y : Operand) (ho : o.op = .buildSlice t 2 #[(0, x), (1, y)]) (z : Value) (bytes : Nat) (hu : P.underlying t = some (.slice elem))
    (hinfo : (P.info? elem).map (fun i => (i.zero, i.size, i.bytes)) = some (some z, 1, bytes)) (u v : Value) (hx : a.eval x = u) (hy : a.eval y = v) (hu1 : u.oneCell' = true) (hv1 : v.oneCell' = true)
    (h : ∀ w', New #[u, v] elem w w' → wpList P ops Q rest (a.put o.dst (.slice (some ⟨w.heap.size, 0, none⟩) 2 2)) w') : wpList P ops Q (o :: rest) a w := by
  refine wpList_run hgd ?_ (h _ (New.alloc w _ elem))
  have hrun := run_buildSlice2 (P := P) (w := w) t elem z bytes hu hinfo u v hu1 hv1
  simp [execOp, ho, hx, hy, hrun, Result.andThen]
end
end Go.Lig
namespace Go.Proofs.YtofjbigojbnmfaaGreatDoor
open Go.RowKit Go.Lig

theorem key_small' (n : Nat) (h : n ≤ 1000000) : keyOk (n : Int) := by
  have e : (Lit.int .i64 (n : Int)).wf = (decide (IntKind.i64.min ≤ (n : Int)) && decide ((n : Int) ≤ IntKind.i64.max)) := rfl
  have e1 : IntKind.i64.min = -9223372036854775808 := rfl
  have e2 : IntKind.i64.max = 9223372036854775807 := rfl
  unfold keyOk
  rw [e, Bool.and_eq_true, e1, e2]
  exact ⟨decide_eq_true (by omega), decide_eq_true (by omega)⟩
theorem clB_some {M : PSt} {t : Int} {k : Nat} (hk : k < M.N.length) : clB M t ((k : Int) + 1) = clashL M.K t (M.N[k]?.getD []) := by
  unfold clB
  rw [if_pos (by omega), show ((k : Int) + 1 - 1).toNat = k by omega]
theorem may_fine (w : World) (ρ : Nat → Option Pt) (s : Nat) (A : Ad) (M : PSt) (h : StAt w ρ s A M) (t : Int) (hl : M.K.live t = true) (v : Value) (l : List Int) (hr : Rd w v l.length 1 (l.map iv)) (hlen : l.length ≤ 1000000) (hb : l.any (clB M t) = false) :
    Calls Tryz.prog 45 #[.pointer (some ⟨s, 0, none⟩), .int .i64 t, .int .i64 0, v] w fun e w' => e = .returned (.int .i64 0) ∧ ∃ ρ', StAt w' ρ' s A M ∧ Gone (Go.Lig.Own ρ) w (Go.Lig.Own ρ') w' := by
  have h1 := may_any w ρ s A M h t hl v l hr hlen
  rw [hb] at h1
  exact h1
theorem may_clash (w : World) (ρ : Nat → Option Pt) (s : Nat) (A : Ad) (M : PSt) (h : StAt w ρ s A M) (t : Int) (hl : M.K.live t = true) (v : Value) (l : List Int) (hr : Rd w v l.length 1 (l.map iv)) (hlen : l.length ≤ 1000000) (hb : l.any (clB M t) = true) :
    Calls Tryz.prog 45 #[.pointer (some ⟨s, 0, none⟩), .int .i64 t, .int .i64 0, v] w fun e w' => e = .returned (.int .i64 6) ∧ ∃ ρ', StAt w' ρ' s A (abortM t M) ∧ Gone (Go.Lig.Own ρ) w (Go.Lig.Own ρ') w' := by
  have h1 := may_any w ρ s A M h t hl v l hr hlen
  rw [hb] at h1
  exact h1
set_option maxRecDepth 100000 in
set_option maxHeartbeats 4000000 in
theorem dropnode_ok (w : World) (ρ : Nat → Option Pt) (s : Nat) (A : Ad) (M : PSt) (h : StAt w ρ s A M) (t : Int) (k : Nat) (hk : k < M.N.length) (hl : M.K.live t = true) (hr : rdB M t ((k : Int) + 1) = true) (hc : clB M t ((k : Int) + 1) = false) (hL1 : (M.N[k]?.getD []).length < 1000000) :
    Calls Tryz.prog 19 #[.pointer (some ⟨s, 0, none⟩), .int .i64 t, .int .i64 ((k : Int) + 1)] w fun e w' => e = .returned (.int .i64 0) ∧ ∃ ρ', StAt w' ρ' s A (putM M t k true) ∧ Gone (Go.Lig.Own ρ) w (Go.Lig.Own ρ') w' := by
  have hko : keyOk ((k : Int) + 1) := key_small' (k + 1) (by have := h.small; omega)
  have HI := hid (islive_any w ρ s A M h t)
  rw [hl] at HI
  have HR := hid (reads_any w ρ s A M h t ((k : Int) + 1))
  rw [hr] at HR
  have HH := hid (⟨h, hk, hl, hc, hL1⟩ : _ ∧ _ ∧ _ ∧ _ ∧ _)
  have HK := hid hko
  have HC1 : Hid ([(k : Int) + 1].any (clB M t) = false) := hid (by simp [hc])
  clear h hk hl hr hc hL1 hko
  go_enter Tryz.func19, Tryz.ntmps19
  go_wp2_with (first
    | (go_at_call 33; refine HI.out.mono ?_; rintro e w1 ⟨rfl, rfl⟩)
    | (go_at_call 43; refine HR.out.mono ?_; rintro e w2 ⟨rfl, f2⟩; have F2 := hid f2; clear f2)
    | (go_at_call 24; refine (out_none _ ρ s A M (HH.out.1.frame F2.out) t _ HK.out HH.out.2.2.1).mono ?_; rintro e w3 ⟨rfl, f3⟩; have F3 := hid (F2.out.thenNo f3); clear f3)
    | (go_at_call 25; refine (in_none _ ρ s A M (HH.out.1.frame F3.out) t _ HK.out HH.out.2.2.1).mono ?_; rintro e w4 ⟨rfl, f4⟩; have F4 := hid (F3.out.thenNo f4); clear f4)
    | (refine wpList_buildSlice1 rfl 34 3 (.tmp 34) rfl _ 1 8 Tryz.underlying34 infoInt (by decide) (by decide) (.int .i64 ((k : Int) + 1)) rfl rfl ?_; intro w5 p5; have P5 := hid (show New [iv ((k : Int) + 1)].toArray 3 w4 w5 from p5); clear p5)
    | (go_at_call 45; refine (may_fine _ ρ s A M (HH.out.1.frame (F4.out.thenNo P5.out.fr)) t HH.out.2.2.1 (.slice (some ⟨w4.heap.size, 0, none⟩) 1 1) [(k : Int) + 1] (Rd.block P5.out.at_ 1 1 1 rfl (by simp [iv, Value.oneCell']) (Nat.le_refl _) (by simp [maxLen])) (by simp) HC1.out).mono ?_; rintro e w6 ⟨rfl, ρ6, h6, g6⟩; have G6 := hid (⟨h6, (Gone.no (F4.out.thenNo P5.out.fr)).trans g6⟩ : _ ∧ _); clear h6 g6)
    | (go_at_call 36; refine (puts_any _ ρ6 s A M G6.out.1 t k HH.out.2.1 true HH.out.2.2.2.2).mono ?_; rintro e w7 ⟨rfl, ρ7, h7, g7⟩; have G7 := hid (⟨h7, G6.out.2.trans g7⟩ : _ ∧ _); clear h7 g7))
  go_ret
  exact ⟨rfl, ρ7, G7.out⟩
theorem infoEd : (Tryz.prog.info? 41).map (fun i => (i.size)) = some 4 := by kernel_rfl
set_option maxRecDepth 100000 in
set_option maxHeartbeats 4000000 in
theorem addedge_clash (w : World) (ρ : Nat → Option Pt) (s : Nat) (A : Ad) (M : PSt) (h : StAt w ρ s A M) (t : Int) (k : Nat) (hk : k < M.N.length) (hk24 : k < 24) (hl : M.K.live t = true) (hr : rdB M t ((k : Int) + 1) = true) (hc : clB M t ((k : Int) + 1) = true) (c : ByteArray) (hn : isNameB c = true) (hcl : c.size ≤ 9223372036854775807) :
    Calls Tryz.prog 13 #[.pointer (some ⟨s, 0, none⟩), .int .i64 t, .agg #[.int .i64 ((k : Int) + 1), .int .i64 ((k : Int) + 1), .string c, .float FloatKind.f64 0]] w fun e w' => e = .returned (.tuple #[.int .i64 0, .int .i64 6]) ∧ ∃ ρ', StAt w' ρ' s A (abortM t M) ∧ Gone (Go.Lig.Own ρ) w (Go.Lig.Own ρ') w' := by
  have hb := heap1 w (.cells #[.int .i64 ((k : Int) + 1), .int .i64 ((k : Int) + 1), .string c, .float FloatKind.f64 0] 41)
  have hfr : Fr No w (w.alloc (.cells #[.int .i64 ((k : Int) + 1), .int .i64 ((k : Int) + 1), .string c, .float FloatKind.f64 0] 41)) := (Fr.refl No w).alloc _
  have HI := hid (islive_any _ ρ s A M (h.frame hfr) t)
  rw [hl] at HI
  have hrd : ∀ u, StAt u ρ s A M → Calls Tryz.prog 43 #[.pointer (some ⟨s, 0, none⟩), .int .i64 t, .int .i64 ((k : Int) + 1)] u fun e w' => e = .returned (.bool true) ∧ Fr No u w' := fun u hu => by
    have := reads_any u ρ s A M hu t ((k : Int) + 1)
    rwa [hr] at this
  have HE := hid (fun u => isedge_ok u ((k : Int) + 1) ((k : Int) + 1) c (.float FloatKind.f64 0) (by omega) (by omega) hn hcl rfl weight_zero)
  have HC2 : Hid ([(k : Int) + 1, (k : Int) + 1].any (clB M t) = true) := hid (by simp [hc])
  have HH := hid (⟨h, hk, hl, hc, hrd, hfr, hb⟩ : _ ∧ _ ∧ _ ∧ _ ∧ _ ∧ _ ∧ _)
  clear h hk hl hr hc hrd hfr hb
  go_enter Tryz.func13, Tryz.ntmps13
  go_wp2_with (first
    | (go_at_call 33; refine HI.out.mono ?_; rintro e w1 ⟨rfl, rfl⟩; obtain ⟨c0, c1, c2, c3⟩ := cells4 HH.out.2.2.2.2.2.2)
    | (go_at_call 44; refine (HE.out _).mono ?_; rintro e w2 ⟨rfl, f2⟩; have F2 := hid (HH.out.2.2.2.2.2.1.thenNo f2); have B2 := hid (f2.keep HH.out.2.2.2.2.2.2 (fun e => e)); clear f2 c0 c1 c2 c3; obtain ⟨c0, c1, c2, c3⟩ := cells4 B2.out)
    | (go_at_call 43; refine (HH.out.2.2.2.2.1 _ (HH.out.1.frame F2.out)).mono ?_; rintro e w3 ⟨rfl, f3⟩; have F3 := hid (F2.out.thenNo f3); have B3 := hid (f3.keep B2.out (fun e => e)); clear f3 c0 c1 c2 c3 F2 B2; obtain ⟨c0, c1, c2, c3⟩ := cells4 B3.out)
    | (go_at_call 43; refine (HH.out.2.2.2.2.1 _ (HH.out.1.frame F3.out)).mono ?_; rintro e w4 ⟨rfl, f4⟩; have F4 := hid (F3.out.thenNo f4); have B4 := hid (f4.keep B3.out (fun e => e)); clear f4 c0 c1 c2 c3 F3 B3; obtain ⟨c0, c1, c2, c3⟩ := cells4 B4.out; obtain ⟨-, -, x2, -⟩ := (HH.out.1.frame F4.out).cells)
    | (refine wpList_buildSlice2 rfl 34 3 (.tmp 43) (.tmp 45) rfl _ 8 Tryz.underlying34 infoInt (.int .i64 ((k : Int) + 1)) (.int .i64 ((k : Int) + 1)) rfl rfl rfl rfl ?_; intro w5 p5; have P5 := hid (show New [iv ((k : Int) + 1), iv ((k : Int) + 1)].toArray 3 w4 w5 from p5); clear p5)
    | (go_at_call 45; refine (may_clash _ ρ s A M (HH.out.1.frame (F4.out.thenNo P5.out.fr)) t HH.out.2.2.1 (.slice (some ⟨w4.heap.size, 0, none⟩) 2 2) [(k : Int) + 1, (k : Int) + 1] (Rd.block P5.out.at_ 2 1 2 rfl (by simp [iv, Value.oneCell']) (Nat.le_refl _) (by simp [maxLen])) (by simp) HC2.out).mono ?_; rintro e w6 ⟨rfl, ρ6, h6, g6⟩; have G6 := hid (⟨h6, (Gone.no (F4.out.thenNo P5.out.fr)).trans g6⟩ : _ ∧ _); clear h6 g6))
  go_ret2
  exact ⟨rfl, ρ6, G6.out⟩
end Go.Proofs.YtofjbigojbnmfaaGreatDoor
