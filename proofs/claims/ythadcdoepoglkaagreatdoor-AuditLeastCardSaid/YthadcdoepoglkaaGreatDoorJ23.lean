/- A part of the proof: contracts of functions of the program, for the row's text. -/
import Derived.Test.YthadcdoepoglkaaGreatDoorJ22
namespace Go.Lig
theorem flat_seg {α β : Type} {f : α → List β} {m : Nat} (hf : ∀ x, (f x).length = m) (y : α) : ∀ (l : List α) (k : Nat), k < l.length → (l.flatMap f).take (k * m) ++ f y ++ (l.flatMap f).drop (k * m + m) = (l.set k y).flatMap f := by
 intro l
 induction l with
 | nil => intro k hk; simp at hk
 | cons x l ih =>
  intro k hk
  cases k with
  | zero =>
   simp only [Nat.zero_mul, List.take_zero, List.nil_append, Nat.zero_add, List.set_cons_zero, List.flatMap_cons]
   rw [List.drop_append_of_le_length (by rw [hf]; exact Nat.le_refl _), List.drop_eq_nil_of_le (by rw [hf]; exact Nat.le_refl _), List.nil_append]
  | succ k =>
   have e : (k + 1) * m = (f x).length + k * m := by rw [hf, Nat.succ_mul]; omega
   rw [List.flatMap_cons, List.set_cons_succ, List.flatMap_cons, ← ih k (by simpa using hk), e, List.take_length_add_append, Nat.add_assoc, List.drop_length_add_append, List.append_assoc, List.append_assoc, List.append_assoc]
end Go.Lig
namespace Go.Proofs.YthadcdoepoglkaaGreatDoor
open Go.RowKit Go.Lig
theorem eclashL (K : Ck) (t : Int) (L : List (Ver EdgeV)) : Ec.clashL K t L = clashV K t L := by
 unfold Ec.clashL clashV
 cases L.getLast? <;> rfl
theorem ewriteL (K : Ck) (t : Int) (v : EdgeV) (g : Bool) (L : List (Ver EdgeV)) : Ec.writeL K t v g L = writeV K t v g L := by
 unfold Ec.writeL writeV
 rw [eclashL]
 cases L.getLast? <;> rfl
theorem eundoL (t : Int) (L : List (Ver EdgeV)) : Ec.undoL t L = undoV t L := rfl
def endsM (M : PSt) (k : Nat) (v : EdgeV) (g : Bool) : PSt := if g then M else { M with D := M.D.set k (v.from_, v.to_) }
def writeE (M : PSt) (t : Int) (k : Nat) (v : EdgeV) (g : Bool) : PSt := { M with E := M.E.set k (writeV M.K t v g (M.E[k]?.getD [])) }
def tieM (M : PSt) (t : Int) (k : Nat) (v : EdgeV) (g : Bool) : PSt := linkM (writeE (endsM M k v g) t k v g) k
theorem built_ends (f t : Int) : Tryz.prog.built 182 [(0, .int .i64 f), (1, .int .i64 t)] = some #[.int .i64 f, .int .i64 t] := by kernel_rfl
section
variable {w w' : World} {ρ : Nat → Option Pt} {s : Nat} {A : Ad} {M : PSt} {F : Nat}
theorem StAt.ends_ (h : StAt w ρ s A M F) {gf cf k : Nat} {cur : Array Value} {f t : Int} (hfv : A.fv = .slice (some ⟨gf, 0, none⟩) M.D.length cf) (hg : w.heap[gf]? = some (.cells cur 182 (0, 0))) (hk : k < M.D.length) (hf : keyOk f ∧ keyOk t)
  (p : Put gf (cur.toList.take (k * 2) ++ [Value.int .i64 f, .int .i64 t] ++ cur.toList.drop (k * 2 + [Value.int .i64 f, .int .i64 t].length)).toArray 182 w w') : TurnsA w ρ s A { M with D := M.D.set k (f, t) } F w' := by
 obtain ⟨ho, hb, hl, hkk⟩ := h.at_ .enrow
 rw [hfv] at ho
 have hgT : At ρ .enrow gf := hb gf (by rw [hfv]; rfl)
 have hfr : Fr (At ρ .enrow) w w' := p.fr.mono (fun b _ e => by subst e; exact hgT)
 have o2 := owns_putSeg ho hg (o := k * 2) (cs := [Value.int .i64 f, .int .i64 t]) (by simp; omega) (by simp [Value.oneCell']) p
 have e2 : (ecells M.D).take (k * 2) ++ [Value.int .i64 f, .int .i64 t] ++ (ecells M.D).drop (k * 2 + [Value.int .i64 f, .int .i64 t].length) = ecells (M.D.set k (f, t)) := flat_seg (f := fun p : Int × Int => [Value.int .i64 p.1, .int .i64 p.2]) (m := 2) (fun _ => rfl) (f, t) M.D k hk
 rw [e2, ← hfv] at o2
 have tr : Trn w w' ρ .enrow (At ρ .enrow) := ⟨hfr, Grown.refl _ _, fun b hb => Nat.lt_of_lt_of_le (h.rho hb) hfr.size⟩
 refine ⟨_, h.upd tr (by simp) ⟨by simpa using o2, hb, by simpa using hl, fun q hq => ?_⟩ (fun q hq R hr => ?_), gone_turn tr⟩
 ·rcases List.mem_or_eq_of_mem_set hq with e | rfl
  ·exact hkk q e
  ·exact hf
 ·cases q <;> first | exact hr | exact absurd rfl hq
end
set_option maxRecDepth 100000 in
set_option maxHeartbeats 1000000 in
theorem ties_any (w : World) (ρ : Nat → Option Pt) (s : Nat) (A : Ad) (M : PSt) (F : Nat) (h : StAt w ρ s A M F) (t : Int) (k : Nat) (hk : k < M.E.length) (v : EdgeV) (gone : Bool) (hv : gone = false → keyOk v.from_ ∧ keyOk v.to_) (hF : F + 1 < 1000000) :
  Calls Tryz.prog 59 #[.pointer (some ⟨s, 0, none⟩), .int .i64 t, .int .i64 ((k : Int) + 1), .agg (edgeCs v), .bool gone] w fun e w' => e = .returned (.tuple #[]) ∧ TurnsA w ρ s A (tieM M t k v gone) (F + 3) w' := by
 obtain ⟨ef, et, ey, ew⟩ := v
 dsimp only [edgeCs]
 have hb := heap1 w (.cells #[.int .i64 ef, .int .i64 et, .string ey, .float .f64 ew] 48)
 have hf : Fr No w (w.alloc (.cells #[.int .i64 ef, .int .i64 et, .string ey, .float .f64 ew] 48)) := (Fr.refl No w).alloc _
 have HV := hid hv
 have HU := hid (show ¬ Go.Lig.Own ρ w.heap.size from fun e => by have := h.bound _ e; omega)
 cases gone with
 | true =>
  go_enter Tryz.func59, Tryz.ntmps59
  go_wp2_with fail
  generalize w.alloc (.cells #[.int .i64 ef, .int .i64 et, .string ey, .float .f64 ew] 48) = w1 at *
  have h1 := h.frame hf
  have HH := hid (⟨h1, hk, hF⟩ : _ ∧ _ ∧ _)
  have HM : Hid (StAt w1 ρ s A M F ∧ k < M.E.length ∧ Gone (Go.Lig.Own ρ) w (Go.Lig.Own ρ) w1 ∧ w1.heap[w.heap.size]? = some (.cells #[.int .i64 ef, .int .i64 et, .string ey, .float .f64 ew] 48 (0, 0))) := hid ⟨h1, hk, Gone.no hf, hb⟩
  obtain ⟨ρ1, hρ1⟩ : ∃ ρ1, ρ1 = ρ := ⟨_, rfl⟩
  obtain ⟨M1, hM1⟩ : ∃ M1, M1 = M := ⟨_, rfl⟩
  have HM : Hid (StAt w1 ρ1 s A M1 F ∧ k < M1.E.length ∧ Gone (Go.Lig.Own ρ) w (Go.Lig.Own ρ1) w1 ∧ w1.heap[w.heap.size]? = some (.cells #[.int .i64 ef, .int .i64 et, .string ey, .float .f64 ew] 48 (0, 0))) := by rw [hρ1, hM1]; exact HM
  have HT : Hid (tieM M t k ⟨ef, et, ey, ew⟩ true = linkM (writeE M1 t k ⟨ef, et, ey, ew⟩ true) k) := hid (by rw [hM1]; rfl)
  clear h h1 hk hF hf hb hv hρ1 hM1
  obtain ⟨x0, -⟩ := HM.out.1.cells
  obtain ⟨gk, hck, -⟩ := HM.out.1.clock.row
  obtain ⟨L, hL⟩ : ∃ L, M1.E[k]? = some L := ⟨_, List.getElem?_eq_getElem HM.out.2.1⟩
  have hc := HM.out.1.ecell hL
  have hLF := (HM.out.1.at_ (.edge k) L hL).2
  have HC := hid (⟨hck, hL, hc, hLF⟩ : _ ∧ _ ∧ _ ∧ _)
  obtain ⟨b0, b1, b2, b3⟩ := cells4 HM.out.2.2.2
  have HS1 := hid (⟨HM.out.1.lt, lt_of_block HM.out.2.2.2⟩ : _ ∧ _)
  clear hck hL hc hLF
  refine wp_region_sched (by kernel_rfl) 10 [2, 10] [0, 1, 3, 4, 5, 6, 7, 8, 9, 2, 10] (AgC [s, w.heap.size] w1.drew) (by kernel_rfl) (AgC.refl _ _) ?_
  simp only [List.map_cons, List.map_nil, List.contains_cons, List.contains_nil, nth_zero, nth_succ, Nat.reduceBEq, Bool.or_false, Bool.or_true]
  repeat (refine sched_quiet (fun K hK => ?_); go_simp; refine hK _ ?_; clear hK K)
  refine sched_call (by first | rfl | go_simp) 106 #[.pointer (some ⟨s, 0, none⟩), .int .i64 ((k : Int) + 1)] (by first | kernel_rfl | go_simp) (edge_any _ ρ1 s A M1 F (HM.out.1.frame (Fr.refl No _).drew) _) ?_
  rintro e w2 ⟨rfl, rfl⟩
  refine ⟨_, rfl, AgC.refl _ _, ?_⟩
  rw [edP_some A M1 k HM.out.2.1]
  repeat (refine sched_quiet (fun K hK => ?_); go_simp; refine hK _ ?_; clear hK K)
  refine sched_callL (by first | rfl | go_simp) 123 #[.pointer (some ⟨A.z k, 0, none⟩), .pointer (some ⟨A.c, 0, none⟩), .int .i64 t, .agg #[.int .i64 ef, .int .i64 et, .string ey, .float .f64 ew], .bool true] (by first | kernel_rfl | go_simp) (Ec.write_any _ (At ρ1 (.edge k)) (A.z k) A.c gk M1.K L (HC.out.2.2.1.frame (Fr.refl No _).drew (fun _ _ e => e)) (HC.out.1.frame (Fr.refl No _).drew) HM.out.1.clock.small.1 (by have := HC.out.2.2.2; have := HH.out.2.2; omega) t ⟨ef, et, ey, ew⟩ true) ?_
  rintro e w4 ⟨rfl, T', k4, f4, g4⟩
  refine ⟨_, rfl, ?_⟩
  rw [ewriteL] at k4
  have t4 := (HM.out.1.frame (Fr.refl No _).drew).edge_ (F' := F + 1) HM.out.2.1 k4 f4 g4 (Nat.le_succ _) (Nat.le_trans (writeV_len _ _ _ _ _) (Nat.succ_le_succ HC.out.2.2.2))
  have hM : writeE M1 t k ⟨ef, et, ey, ew⟩ true = { M1 with E := M1.E.set k (writeV M1.K t ⟨ef, et, ey, ew⟩ true L) } := by unfold writeE; rw [HC.out.2.1]; rfl
  rw [← hM] at t4
  obtain ⟨ρ4, h4, g4'⟩ := t4
  have H4 := hid (⟨h4, (HM.out.2.2.1.nextNo (Fr.refl No _).drew).trans g4'⟩ : _ ∧ _)
  have hlen : k < (writeE M1 t k ⟨ef, et, ey, ew⟩ true).E.length := by unfold writeE; simpa using HM.out.2.1
  have HL4 := hid hlen
  clear k4 f4 g4 hM h4 g4' hlen
  refine sched_nil ?_
  go_wp2_with (go_at_call 44; refine (links_any _ ρ4 s A _ (F + 1) H4.out.1 k HL4.out (by have := HH.out.2.2; omega)).mono ?_; rintro e w5 ⟨rfl, h5⟩; have H5 := hid h5; clear h5)
  go_end0
  obtain ⟨ρ5, h5, g5⟩ := H5.out
  exact ⟨rfl, ρ5, by rw [HT.out]; exact h5, H4.out.2.trans g5⟩
 | false =>
  go_enter Tryz.func59, Tryz.ntmps59
  go_wp2_with fail
  generalize w.alloc (.cells #[.int .i64 ef, .int .i64 et, .string ey, .float .f64 ew] 48) = w0 at *
  have h0 := h.frame hf
  have HH := hid (⟨h0, hk, hF⟩ : _ ∧ _ ∧ _)
  obtain ⟨hfo, hfb, hfl, hfk⟩ := h0.at_ .enrow
  obtain ⟨af, cf, hfv⟩ := ownsRow_slice hfo
  have x3 := h0.cells.2.2.2.1
  rw [hfv] at x3 hfo
  obtain ⟨gf, cur, rfl, -, hgf, hnc, hcs, -⟩ := owns_at hfo (by omega)
  have n2 : IntKind.i64.wrap (k : Int) = (k : Int) := IntWalk.i64_in _ (by have := h.elen; omega)
  obtain ⟨c0, c1, c2, c3⟩ := cells4 hb
  have HG := hid (⟨hfv, hgf, hf, hb⟩ : _ ∧ _ ∧ _ ∧ _)
  have HC : Hid (k * 2 + 2 ≤ cur.size) := hid (by have : M.D.length * 2 ≤ cf * 2 := Nat.mul_le_mul_right _ hnc; omega)
  have HS0 := hid (⟨h0.lt, lt_of_block hb⟩ : _ ∧ _)
  have hkD : k < M.D.length := by omega
  have HKD := hid hkD
  have hDl : M.D.length ≤ 1000 := by have := h.elen; omega
  generalize hn : M.D.length = n at *
  have HN := hid hn
  clear h h0 hk hF hf hb hv hfo hfb hfl hfk hfv hgf hn hnc hcs
  refine wp_region_sched (by kernel_rfl) 12 [12] [0, 1, 2, 3, 4, 5, 6, 7, 8, 9, 10, 11, 12] (AgC [s, w.heap.size] w0.drew) (by kernel_rfl) (AgC.refl _ _) ?_
  simp only [List.map_cons, List.map_nil, List.contains_cons, List.contains_nil, nth_zero, nth_succ, Nat.reduceBEq, Bool.or_false, Bool.or_true]
  repeat (first | (refine sched_build rfl 182 [(0, .tmp 19), (1, .tmp 21)] rfl [(0, .int .i64 ef), (1, .int .i64 et)] rfl _ (built_ends ..) ?_) | (refine sched_quiet (fun K hK => ?_); go_simp; refine hK _ ?_; clear hK K))
  refine sched_loud (wpList_storeO rfl 182 (.tmp 23) (.tmp 22) rfl gf (k * 2) rfl cur.toList 182 [.int .i64 ef, .int .i64 et] rfl (by kernel_rfl) HG.out.2.1 (by have := HC.out; simp; omega) (by simp [Value.oneCell']) ?_)
  intro w1 p1
  have P1 := hid p1
  clear p1
  refine sched_last ?_
  refine sched_nil ?_
  have h0 := HH.out.1.frame (Fr.refl No w0).drew
  have t1 := h0.ends_ (k := k) (f := ef) (t := et) (by rw [HN.out]; exact HG.out.1) HG.out.2.1 (by rw [HN.out]; exact HKD.out) (HV.out (by simp)) P1.out
  obtain ⟨ρ1, h1, g1⟩ := t1
  have g01 := (Gone.no (U := Go.Lig.Own ρ) HG.out.2.2.1.drew).trans g1
  obtain ⟨hb1, -⟩ := g1.keep (w := w0.drew) HG.out.2.2.2 HU.out
  have hE : tieM M t k ⟨ef, et, ey, ew⟩ false = linkM (writeE { M with D := M.D.set k (ef, et) } t k ⟨ef, et, ey, ew⟩ false) k := rfl
  generalize hM1 : ({ M with D := M.D.set k (ef, et) } : PSt) = M1 at *
  have HT := hid hE
  have HM : Hid (StAt w1 ρ1 s A M1 F ∧ k < M1.E.length ∧ Gone (Go.Lig.Own ρ) w (Go.Lig.Own ρ1) w1 ∧ w1.heap[w.heap.size]? = some (.cells #[.int .i64 ef, .int .i64 et, .string ey, .float .f64 ew] 48 (0, 0))) := hid ⟨h1, by rw [← hM1]; exact HH.out.2.1, g01, hb1⟩
  clear h0 h1 g1 g01 hb1 hE hM1 x3 c0 c1 c2 c3
  go_wp2_with fail
  obtain ⟨x0, -⟩ := HM.out.1.cells
  obtain ⟨gk, hck, -⟩ := HM.out.1.clock.row
  obtain ⟨L, hL⟩ : ∃ L, M1.E[k]? = some L := ⟨_, List.getElem?_eq_getElem HM.out.2.1⟩
  have hc := HM.out.1.ecell hL
  have hLF := (HM.out.1.at_ (.edge k) L hL).2
  have HC := hid (⟨hck, hL, hc, hLF⟩ : _ ∧ _ ∧ _ ∧ _)
  obtain ⟨b0, b1, b2, b3⟩ := cells4 HM.out.2.2.2
  have HS1 := hid (⟨HM.out.1.lt, lt_of_block HM.out.2.2.2⟩ : _ ∧ _)
  clear hck hL hc hLF
  refine wp_region_sched (by kernel_rfl) 10 [2, 10] [0, 1, 3, 4, 5, 6, 7, 8, 9, 2, 10] (AgC [s, w.heap.size] w1.drew) (by kernel_rfl) (AgC.refl _ _) ?_
  simp only [List.map_cons, List.map_nil, List.contains_cons, List.contains_nil, nth_zero, nth_succ, Nat.reduceBEq, Bool.or_false, Bool.or_true]
  repeat (refine sched_quiet (fun K hK => ?_); go_simp; refine hK _ ?_; clear hK K)
  refine sched_call (by first | rfl | go_simp) 106 #[.pointer (some ⟨s, 0, none⟩), .int .i64 ((k : Int) + 1)] (by first | kernel_rfl | go_simp) (edge_any _ ρ1 s A M1 F (HM.out.1.frame (Fr.refl No _).drew) _) ?_
  rintro e w2 ⟨rfl, rfl⟩
  refine ⟨_, rfl, AgC.refl _ _, ?_⟩
  rw [edP_some A M1 k HM.out.2.1]
  repeat (refine sched_quiet (fun K hK => ?_); go_simp; refine hK _ ?_; clear hK K)
  refine sched_callL (by first | rfl | go_simp) 123 #[.pointer (some ⟨A.z k, 0, none⟩), .pointer (some ⟨A.c, 0, none⟩), .int .i64 t, .agg #[.int .i64 ef, .int .i64 et, .string ey, .float .f64 ew], .bool false] (by first | kernel_rfl | go_simp) (Ec.write_any _ (At ρ1 (.edge k)) (A.z k) A.c gk M1.K L (HC.out.2.2.1.frame (Fr.refl No _).drew (fun _ _ e => e)) (HC.out.1.frame (Fr.refl No _).drew) HM.out.1.clock.small.1 (by have := HC.out.2.2.2; have := HH.out.2.2; omega) t ⟨ef, et, ey, ew⟩ false) ?_
  rintro e w4 ⟨rfl, T', k4, f4, g4⟩
  refine ⟨_, rfl, ?_⟩
  rw [ewriteL] at k4
  have t4 := (HM.out.1.frame (Fr.refl No _).drew).edge_ (F' := F + 1) HM.out.2.1 k4 f4 g4 (Nat.le_succ _) (Nat.le_trans (writeV_len _ _ _ _ _) (Nat.succ_le_succ HC.out.2.2.2))
  have hM : writeE M1 t k ⟨ef, et, ey, ew⟩ false = { M1 with E := M1.E.set k (writeV M1.K t ⟨ef, et, ey, ew⟩ false L) } := by unfold writeE; rw [HC.out.2.1]; rfl
  rw [← hM] at t4
  obtain ⟨ρ4, h4, g4'⟩ := t4
  have H4 := hid (⟨h4, (HM.out.2.2.1.nextNo (Fr.refl No _).drew).trans g4'⟩ : _ ∧ _)
  have hlen : k < (writeE M1 t k ⟨ef, et, ey, ew⟩ false).E.length := by unfold writeE; simpa using HM.out.2.1
  have HL4 := hid hlen
  clear k4 f4 g4 hM h4 g4' hlen
  refine sched_nil ?_
  go_wp2_with (go_at_call 44; refine (links_any _ ρ4 s A _ (F + 1) H4.out.1 k HL4.out (by have := HH.out.2.2; omega)).mono ?_; rintro e w5 ⟨rfl, h5⟩; have H5 := hid h5; clear h5)
  go_end0
  obtain ⟨ρ5, h5, g5⟩ := H5.out
  exact ⟨rfl, ρ5, by rw [HT.out]; exact h5, H4.out.2.trans g5⟩
end Go.Proofs.YthadcdoepoglkaaGreatDoor
namespace Go.Proofs.YthadcdoepoglkaaGreatDoor
open Go.RowKit Go.Lig
def undoNM (M : PSt) (t : Int) (i : Nat) : PSt := { M with N := M.N.set i (undoV t (M.N[i]?.getD [])) }
def undoEM (M : PSt) (t : Int) (i : Nat) : PSt := { M with E := M.E.set i (undoV t (M.E[i]?.getD [])) }
inductive UndoTo (t : Int) (M' : PSt) (F' : Nat) : PSt → Nat → Nat → Prop
 | done {i : Nat} (h : M'.N.length ≤ i) : UndoTo t M' F' M' F' i
 | step {M M1 : PSt} {F F1 i : Nat} (h : i < M.N.length) (hf : FindsTo (undoNM M t i) M1 F F1 i) (r : UndoTo t M' F' M1 F1 (i + 1)) : UndoTo t M' F' M F i
def undoEs (t : Int) (M : PSt) : Nat → PSt
 | 0 => M
 | j + 1 => linkM (undoEM (undoEs t M j) t j) j
theorem linkM_E (M : PSt) (k : Nat) : (linkM M k).E = M.E := by
 unfold linkM
 split
 ·split <;> rfl
 ·rfl
theorem undoEs_len (t : Int) (M : PSt) : ∀ j, (undoEs t M j).E.length = M.E.length
 | 0 => rfl
 | j + 1 => by rw [undoEs, linkM_E]; simp [undoEM, undoEs_len t M j]
theorem StAt.undoN_ {w w' : World} {ρ : Nat → Option Pt} {s : Nat} {A : Ad} {M : PSt} {F : Nat} (h : StAt w ρ s A M F) {t : Int} {i : Nat} {L : List (Ver NodeD)} (hL : M.N[i]? = some L) (k : NCell w' (At ρ (.node i)) (At ρ .imm) (A.x i) (undoV t L)) (f : Fr (At ρ (.node i)) w w') :
  TurnsA w ρ s A (undoNM M t i) F w' := by
 have hi := (List.getElem?_eq_some_iff.1 hL).1
 have := h.node_ (F' := F) hi k f (Grown.refl _ _) (Nat.le_refl _) (Nat.le_trans (undoV_len _ _) (h.at_ (.node i) L hL).2)
 unfold undoNM
 rw [hL]
 exact this
theorem StAt.undoE_ {w w' : World} {ρ : Nat → Option Pt} {s : Nat} {A : Ad} {M : PSt} {F : Nat} (h : StAt w ρ s A M F) {t : Int} {i : Nat} {L : List (Ver EdgeV)} (hL : M.E[i]? = some L) (k : Ec.CellAt w' (At ρ (.edge i)) (A.z i) (undoV t L)) (f : Fr (At ρ (.edge i)) w w') :
  TurnsA w ρ s A (undoEM M t i) F w' := by
 have hi := (List.getElem?_eq_some_iff.1 hL).1
 have := h.edge_ (F' := F) hi k f (Grown.refl _ _) (Nat.le_refl _) (Nat.le_trans (undoV_len _ _) (h.at_ (.edge i) L hL).2)
 unfold undoEM
 rw [hL]
 exact this
theorem row_len {w w' : World} {b : Nat} {e e' : TypeId} {z z' : Nat} {v : Value} {n m : Nat} {xs ys : List Value} (h : w.ownsRow b e z v n xs) (h' : w'.ownsRow b e' z' v m ys) : n = m := by
 obtain ⟨a, c, rfl⟩ := ownsRow_slice h
 obtain ⟨a', c', e⟩ := ownsRow_slice h'
 exact (Value.slice.inj e).2.1
set_option maxRecDepth 100000 in
set_option maxHeartbeats 1000000 in
theorem abort_any (w : World) (ρ : Nat → Option Pt) (s : Nat) (A : Ad) (M : PSt) (F : Nat) (h : StAt w ρ s A M F) (t : Int) (hl : M.K.live t = true) (M1 : PSt) (F1 : Nat) (hu : UndoTo t M1 F1 { M with K := M.K.abort t } F 0) (hF : F1 + 3000 < 1000000) :
  Calls Tryz.prog 24 #[.pointer (some ⟨s, 0, none⟩), .int .i64 t] w fun e w' => e = .returned (.int .i64 0) ∧ TurnsA w ρ s A (undoEs t M1 M1.E.length) (F1 + 2 * M1.E.length) w' := by
 have HC := hid (abort_ok w (At ρ .clock) A.c M.K h.clock t hl)
 obtain ⟨x0, -⟩ := h.cells
 have HH := hid (⟨h, hu, hF⟩ : _ ∧ _ ∧ _)
 obtain ⟨a1, c1, hnv⟩ := ownsRow_slice (h.at_ .nrow).1
 have HV := hid hnv
 have HS := hid h.nlen
 clear h hl hnv hu hF
 go_enter Tryz.func24, Tryz.ntmps24
 go_wp2_with fail
 refine HC.out.mono ?_
 rintro e w1 ⟨rfl, k1, f1⟩
 have t1 := HH.out.1.clock_ (F' := F) k1 f1 (Grown.refl _ _) (Nat.le_refl _) (by rw [ck_abort_len]; exact (HH.out.1.at_ .clock).2.1) (by rw [ck_abort_commits]; exact (HH.out.1.at_ .clock).2.2)
 have T1 := hid t1
 obtain ⟨ρ1, h1, g1⟩ := t1
 have x1 := h1.cells.2.1
 rw [HV.out] at x1
 clear k1 f1 h1 g1 x0
 go_wp2_with fail
 generalize hNe : M.N.length = n at *
 have HNe := hid hNe
 have hn6 : n ≤ 1000 := HS.out
 clear hNe
 go_loopw [26] (fun vi wr => ∃ i : Nat, i ≤ n ∧ vi = .int .i64 (i : Int) ∧ Hid (∃ M2 F2, TurnsA w ρ s A M2 F2 wr ∧ UndoTo t M1 F1 M2 F2 i)) (fun vi _ => n - (intOf vi).toNat)
 case atStart => exact ⟨0, Nat.zero_le _, rfl, _, F, T1.out, HH.out.2.1⟩
 case round =>
  obtain ⟨i, hi, rfl, HI⟩ := hrel
  obtain ⟨M2, F2, ⟨ρ2, h2, g2⟩, hu2⟩ := HI.out
  have hml : M2.N.length = n := by
   have e := (h2.at_ .nrow).1
   rw [HV.out] at e
   obtain ⟨a', c', e'⟩ := ownsRow_slice e
   exact (Value.slice.inj e').2.1.symm
  by_cases hlt : i < n
  ·obtain ⟨M3, F3, hf3, hu3⟩ : ∃ M3 F3, FindsTo (undoNM M2 t i) M3 F2 F3 i ∧ UndoTo t M1 F1 M3 F3 (i + 1) := by
    cases hu2 with
    | done h => omega
    | step h hf r => exact ⟨_, _, hf, r⟩
   obtain ⟨L, hL⟩ : ∃ L, M2.N[i]? = some L := ⟨_, List.getElem?_eq_getElem (by omega)⟩
   have hr2 := (h2.at_ .nrow).1
   rw [HV.out, hml] at hr2
   obtain ⟨gr, cur, rfl, -, -⟩ := owns_at hr2 (by omega)
   have hc := owns_cell hr2 rfl (ptrs_get A.x n i hlt)
   have HU := hid ((h2.ncell hL).undo t (at_apart (by simp)))
   have hw : wrap64 ((i : Int) + 1) = (i : Int) + 1 := by unfold wrap64; omega
   have H2 := hid (⟨h2, g2, hL, hf3, hu3⟩ : _ ∧ _ ∧ _ ∧ _ ∧ _)
   clear h2 g2 hL hr2 hf3 hu3 hu2 hml
   go_wp2_with (first | (go_at_call 61; refine HU.out.mono ?_; rintro e w3 ⟨rfl, k3, f3⟩; have T3 := hid (H2.out.1.undoN_ H2.out.2.2.1 k3 f3); obtain ⟨ρ3, h3, g3⟩ := T3.out; have G3 := hid (⟨h3, H2.out.2.1.trans g3⟩ : _ ∧ _); clear k3 f3 h3 g3) | (go_at_call 42; refine (H2.out.2.2.2.1 w3 ρ3 s A G3.out.1).mono ?_; rintro e w4 ⟨rfl, t4⟩; have T4 := hid (TurnsA.trans G3.out.2 t4); clear t4))
   go_roundw
   case rel => exact ⟨i + 1, by omega, by go_num, M3, F3, T4.out, H2.out.2.2.2.2⟩
   case measure => simp [intOf]; omega
  ·obtain rfl : i = n := by omega
   obtain ⟨e1, e2⟩ : M2 = M1 ∧ F2 = F1 := by
    cases hu2 with
    | done h => exact ⟨rfl, rfl⟩
    | step h hf r => omega
   subst e1 e2
   obtain ⟨a2, c2, hdv⟩ := ownsRow_slice (h2.at_ .edrow).1
   have x2 := h2.cells.2.2.1
   rw [hdv] at x2
   have HD := hid hdv
   have hel := h2.elen
   have H2 := hid (⟨ρ2, h2, g2⟩ : TurnsA _ _ _ _ _ _ _)
   clear h2 g2 hdv hu2 hml HI HC
   go_wp2_with fail
   generalize hEe : M2.E.length = m at *
   have HEe := hid hEe
   clear hEe
   go_loopw [44] (fun vi wr => ∃ j : Nat, j ≤ m ∧ vi = .int .i64 (j : Int) ∧ Hid (TurnsA w ρ s A (undoEs t M2 j) (F2 + 2 * j) wr)) (fun vi _ => m - (intOf vi).toNat)
   case atStart => exact ⟨0, Nat.zero_le _, rfl, hid (by obtain ⟨ρ2, h2, g2⟩ := H2.out; exact ⟨ρ2, h2, g2⟩)⟩
   case round =>
    obtain ⟨j, hj, rfl, HJ⟩ := hrel
    obtain ⟨ρ3, h3, g3⟩ := HJ.out
    have hml : (undoEs t M2 j).E.length = m := by rw [undoEs_len]; exact HEe.out
    by_cases hlt : j < m
    ·obtain ⟨L, hL⟩ : ∃ L, (undoEs t M2 j).E[j]? = some L := ⟨_, List.getElem?_eq_getElem (by omega)⟩
     have hr2 := (h3.at_ .edrow).1
     rw [HD.out, hml] at hr2
     obtain ⟨gr, cur, rfl, -, -⟩ := owns_at hr2 (by omega)
     have hc := owns_cell hr2 rfl (ptrs_get A.z m j hlt)
     have HU := hid (Ec.undo_any wr (At ρ3 (.edge j)) (A.z j) L (h3.ecell hL) t)
     have hw : wrap64 ((j : Int) + 1) = (j : Int) + 1 := by unfold wrap64; omega
     have H3 := hid (⟨h3, g3, hL⟩ : _ ∧ _ ∧ _)
     have hkl : j < (undoEM (undoEs t M2 j) t j).E.length := by simp [undoEM]; omega
     have HKL := hid hkl
     clear h3 g3 hL hr2 hml hkl
     go_wp2_with (first | (go_at_call 62; refine HU.out.mono ?_; rintro e w4 ⟨rfl, k4, f4⟩; rw [eundoL] at k4; have T4 := hid (H3.out.1.undoE_ H3.out.2.2 k4 f4); obtain ⟨ρ4, h4, g4⟩ := T4.out; have G4 := hid (⟨h4, H3.out.2.1.trans g4⟩ : _ ∧ _); clear k4 f4 h4 g4) | (go_at_call 44; refine (links_any w4 ρ4 s A _ (F2 + 2 * j) G4.out.1 j HKL.out (by have := HH.out.2.2; omega)).mono ?_; rintro e w5 ⟨rfl, t5⟩; have T5 := hid (TurnsA.trans G4.out.2 t5); clear t5))
     go_roundw
     case rel => exact ⟨j + 1, by omega, by go_num, hid T5.out⟩
     case measure => simp [intOf]; omega
    ·obtain rfl : j = m := by omega
     have T3 := hid (⟨ρ3, h3, g3⟩ : TurnsA _ _ _ _ _ _ _)
     clear h3 g3 hml
     go_wp2_with fail
     go_ret
     exact ⟨rfl, by rw [HEe.out]; exact T3.out⟩
end Go.Proofs.YthadcdoepoglkaaGreatDoor
namespace Go.Proofs.YthadcdoepoglkaaGreatDoor
open Go.RowKit Go.Lig
def clB (M : PSt) (t id : Int) : Bool := if 1 ≤ id ∧ id ≤ (M.N.length : Int) then clashV M.K t (M.N[(id - 1).toNat]?.getD []) else false
def ceB (M : PSt) (t id : Int) : Bool := if 1 ≤ id ∧ id ≤ (M.E.length : Int) then clashV M.K t (M.E[(id - 1).toNat]?.getD []) else false
theorem clB_none {M : PSt} {t id : Int} (h : ¬ (1 ≤ id ∧ id ≤ (M.N.length : Int))) : clB M t id = false := if_neg h
theorem ceB_none {M : PSt} {t id : Int} (h : ¬ (1 ≤ id ∧ id ≤ (M.E.length : Int))) : ceB M t id = false := if_neg h
def mayB (M : PSt) (t ed : Int) (l : List Int) : Bool := ceB M t ed || l.any (clB M t)
def errN (b : Bool) : Int := if b then 6 else 0
theorem errI_N (b : Bool) : errI b = .int .i64 (errN b) := by cases b <;> rfl
theorem any_take {α : Type} (f : α → Bool) (l : List α) (i : Nat) (x : α) (h : l[i]? = some x) : (l.take (i + 1)).any f = ((l.take i).any f || f x) := by
 rw [List.take_add_one, h, Option.toList_some, List.any_append]
 simp
section
variable {w : World} {ρ : Nat → Option Pt} {s : Nat} {A : Ad} {M : PSt} {F : Nat}
theorem StAt.checkN (h : StAt w ρ s A M F) (t id : Int) (hv : 1 ≤ id ∧ id ≤ (M.N.length : Int)) :
  Calls Tryz.prog 115 #[.pointer (ndP A M id), .pointer (some ⟨A.c, 0, none⟩), .int .i64 t] w fun e w' => e = .returned (.int .i64 (errN (clB M t id))) ∧ Fr No w w' := by
 obtain ⟨gk, hk, -⟩ := h.clock.row
 obtain ⟨L, hL⟩ : ∃ L, M.N[(id - 1).toNat]? = some L := ⟨_, List.getElem?_eq_getElem (by omega)⟩
 rw [show ndP A M id = some ⟨A.x (id - 1).toNat, 0, none⟩ from if_pos hv, show clB M t id = clashV M.K t L by unfold clB; rw [if_pos hv, hL]; rfl, ← errI_N]
 exact (h.ncell hL).check A.c gk M.K hk h.clock.small.1 t
theorem StAt.checkE (h : StAt w ρ s A M F) (t id : Int) (hv : 1 ≤ id ∧ id ≤ (M.E.length : Int)) :
  Calls Tryz.prog 114 #[.pointer (edP A M id), .pointer (some ⟨A.c, 0, none⟩), .int .i64 t] w fun e w' => e = .returned (.int .i64 (errN (ceB M t id))) ∧ Fr No w w' := by
 obtain ⟨gk, hk, -⟩ := h.clock.row
 obtain ⟨L, hL⟩ : ∃ L, M.E[(id - 1).toNat]? = some L := ⟨_, List.getElem?_eq_getElem (by omega)⟩
 obtain ⟨g, hr, -⟩ := (h.ecell hL).row
 rw [show edP A M id = some ⟨A.z (id - 1).toNat, 0, none⟩ from if_pos hv, show ceB M t id = clashV M.K t L by unfold ceB; rw [if_pos hv, hL]; rfl, ← errI_N, ← eclashL]
 exact Ec.check_any w _ g A.c gk M.K L hr (h.ecell hL).small hk h.clock.small.1 t
end
set_option maxRecDepth 100000 in
set_option maxHeartbeats 1000000 in
theorem may_any (w : World) (ρ : Nat → Option Pt) (s : Nat) (A : Ad) (M : PSt) (F : Nat) (h : StAt w ρ s A M F) (t ed : Int) (hl : M.K.live t = true) (v : Value) (l : List Int) (hr : Rd w v l.length 1 (l.map iv)) (hlen : l.length ≤ 1000) (M1 : PSt) (F1 : Nat)
  (hu : mayB M t ed l = true → UndoTo t M1 F1 { M with K := M.K.abort t } F 0 ∧ F1 + 3000 < 1000000) :
  Calls Tryz.prog 54 #[.pointer (some ⟨s, 0, none⟩), .int .i64 t, .int .i64 ed, v] w fun e w' => e = .returned (.int .i64 (errN (mayB M t ed l))) ∧ (mayB M t ed l = false → Fr No w w') ∧ (mayB M t ed l = true → TurnsA w ρ s A (undoEs t M1 M1.E.length) (F1 + 2 * M1.E.length) w') := by
 have HE := hid (edge_any w ρ s A M F h ed)
 obtain ⟨x0, -⟩ := h.cells
 obtain ⟨ao, ca, rfl, -⟩ := rd_len hr
 have HH := hid (⟨h, hu, hr⟩ : _ ∧ _ ∧ _)
 have HL := hid hl
 have HCE := hid (fun hv => h.checkE t ed hv)
 generalize hne : l.length = n at *
 have HNe := hid hne
 clear h hl hr hne hu
 by_cases hv : 1 ≤ ed ∧ ed ≤ (M.E.length : Int)
 ·have HC2 := hid (HCE.out hv)
  rw [show edP A M ed = some ⟨A.z (ed - 1).toNat, 0, none⟩ from if_pos hv] at HE HC2
  clear HCE hv
  generalize A.z (ed - 1).toNat = zb at *
  generalize hq : ceB M t ed = q at *
  have HB0 := hid hq
  go_enter Tryz.func54, Tryz.ntmps54
  clear hq
  go_wp2_with (first | (go_at_call 106; refine HE.out.mono ?_; rintro e w1 ⟨rfl, rfl⟩) | (go_at_call 114; refine HC2.out.mono ?_; rintro e w2 ⟨rfl, f2⟩; have F0 := hid f2; clear f2))
  clear x0 HC2 HE
  go_loopw [9, 28] (fun ve vi wr => ∃ (i : Nat) (b : Bool), i ≤ n ∧ ve = .int .i64 (errN b) ∧ vi = .int .i64 (i : Int) ∧ Hid (b = (ceB M t ed || (l.take i).any (clB M t)) ∧ Fr No w wr)) (fun _ vi _ => n - (intOf vi).toNat)
  case atStart => exact ⟨0, ceB M t ed, Nat.zero_le _, (by first | (rw [HB0.out]; done) | (rw [HB0.out]; rfl)), rfl, by simp, F0.out⟩
  case round =>
   obtain ⟨i, b, hi, rfl, rfl, HR⟩ := hrel
   have hwr := HH.out.1.frame HR.out.2
   obtain ⟨x0, -⟩ := hwr.cells
   by_cases hlt : i < n
   ·obtain ⟨id0, hid0⟩ : ∃ id0, l[i]? = some id0 := ⟨_, List.getElem?_eq_getElem (by have := HNe.out; omega)⟩
    obtain ⟨ba, oa, ca', hva, hca⟩ := HH.out.2.2.at1 (k := i) (u := iv id0) (by simp [hid0])
    obtain ⟨rfl, rfl⟩ : ao = some ⟨ba, oa, none⟩ ∧ ca = ca' := by simpa using hva
    have c1 : wr.cell? ⟨ba, oa + i, none⟩ = some (.int .i64 id0) := hca wr HR.out.2
    have HN := hid (node_any wr ρ s A M F hwr id0)
    have HC := hid (fun hv => hwr.checkN t id0 hv)
    have HA := hid (any_take (clB M t) l i id0 hid0)
    have hw : wrap64 ((i : Int) + 1) = (i : Int) + 1 := by have := HNe.out; unfold wrap64; omega
    clear hva hca hid0 hwr
    by_cases hv : 1 ≤ id0 ∧ id0 ≤ (M.N.length : Int)
    ·have HC2 := hid (HC.out hv)
     rw [show ndP A M id0 = some ⟨A.x (id0 - 1).toNat, 0, none⟩ from if_pos hv] at HN HC2
     clear HC
     have HV := hid hv
     clear hv
     generalize A.x (id0 - 1).toNat = xb at *
     cases b with
     | false =>
      rw [show errN false = 0 from rfl]
      generalize hq : clB M t id0 = q at *
      have HQ := hid hq
      clear hq
      go_wp2_with (first | (go_at_call 100; refine HN.out.mono ?_; rintro e w2 ⟨rfl, rfl⟩) | (go_at_call 115; refine HC2.out.mono ?_; rintro e w2 ⟨rfl, f2⟩; have F2 := hid f2; clear f2))
      go_roundw
      case rel => exact ⟨i + 1, q, by omega, rfl, by go_num, by rw [HA.out, ← Bool.or_assoc, ← HR.out.1]; simp, HR.out.2.thenNo F2.out⟩
      case measure => simp [intOf]; omega
     | true =>
      rw [show errN true = 6 from rfl]
      go_wp2_with (first | (go_at_call 100; refine HN.out.mono ?_; rintro e w2 ⟨rfl, rfl⟩))
      go_roundw
      case rel => exact ⟨i + 1, true, by omega, rfl, by go_num, by rw [HA.out, ← Bool.or_assoc, ← HR.out.1]; simp, HR.out.2⟩
      case measure => simp [intOf]; omega
    ·rw [show ndP A M id0 = none from if_neg hv] at HN
     have HQ := hid (clB_none (t := t) hv)
     clear hv HC
     go_wp2_with (first | (go_at_call 100; refine HN.out.mono ?_; rintro e w2 ⟨rfl, rfl⟩))
     go_roundw
     case rel => exact ⟨i + 1, b, by omega, rfl, by go_num, by rw [HA.out, ← Bool.or_assoc, ← HR.out.1, HQ.out]; simp, HR.out.2⟩
     case measure => simp [intOf]; omega
   ·obtain rfl : i = n := by omega
    have hb : b = mayB M t ed l := by rw [HR.out.1, List.take_of_length_le (by have := HNe.out; omega)]; rfl
    have HF := hid HR.out.2
    have HW := hid hwr
    clear HR hwr
    cases hbb : mayB M t ed l with
    | false =>
     rw [hbb] at hb
     subst hb
     have HBB := hid hbb
     clear hbb
     rw [show errN false = 0 from rfl]
     go_wp2_with fail
     go_ret
     rw [HBB.out]
     exact ⟨rfl, fun _ => HF.out, fun e => (by cases e)⟩
    | true =>
     rw [hbb] at hb
     subst hb
     obtain ⟨hu1, hu2⟩ := HH.out.2.1 hbb
     have HB := hid (abort_any wr ρ s A M F HW.out t HL.out M1 F1 hu1 hu2)
     have HBB := hid hbb
     clear hbb hu1 hu2
     rw [show errN true = 6 from rfl]
     go_wp2_with (go_at_call 24; refine HB.out.mono ?_; rintro e w2 ⟨rfl, t2⟩; have T2 := hid (TurnsA.trans (Gone.no HF.out) t2); clear t2)
     go_ret
     rw [HBB.out]
     exact ⟨rfl, fun e => (by cases e), fun _ => T2.out⟩
 ·rw [show edP A M ed = none from if_neg hv] at HE
  have HB0 := hid (ceB_none (t := t) hv)
  clear HCE hv
  have F0 := hid (Fr.refl No w)
  go_enter Tryz.func54, Tryz.ntmps54
  go_wp2_with (first | (go_at_call 106; refine HE.out.mono ?_; rintro e w1 ⟨rfl, rfl⟩))
  clear x0 HE
  go_loopw [9, 28] (fun ve vi wr => ∃ (i : Nat) (b : Bool), i ≤ n ∧ ve = .int .i64 (errN b) ∧ vi = .int .i64 (i : Int) ∧ Hid (b = (ceB M t ed || (l.take i).any (clB M t)) ∧ Fr No w wr)) (fun _ vi _ => n - (intOf vi).toNat)
  case atStart => exact ⟨0, ceB M t ed, Nat.zero_le _, (by first | (rw [HB0.out]; done) | (rw [HB0.out]; rfl)), rfl, by simp, F0.out⟩
  case round =>
   obtain ⟨i, b, hi, rfl, rfl, HR⟩ := hrel
   have hwr := HH.out.1.frame HR.out.2
   obtain ⟨x0, -⟩ := hwr.cells
   by_cases hlt : i < n
   ·obtain ⟨id0, hid0⟩ : ∃ id0, l[i]? = some id0 := ⟨_, List.getElem?_eq_getElem (by have := HNe.out; omega)⟩
    obtain ⟨ba, oa, ca', hva, hca⟩ := HH.out.2.2.at1 (k := i) (u := iv id0) (by simp [hid0])
    obtain ⟨rfl, rfl⟩ : ao = some ⟨ba, oa, none⟩ ∧ ca = ca' := by simpa using hva
    have c1 : wr.cell? ⟨ba, oa + i, none⟩ = some (.int .i64 id0) := hca wr HR.out.2
    have HN := hid (node_any wr ρ s A M F hwr id0)
    have HC := hid (fun hv => hwr.checkN t id0 hv)
    have HA := hid (any_take (clB M t) l i id0 hid0)
    have hw : wrap64 ((i : Int) + 1) = (i : Int) + 1 := by have := HNe.out; unfold wrap64; omega
    clear hva hca hid0 hwr
    by_cases hv : 1 ≤ id0 ∧ id0 ≤ (M.N.length : Int)
    ·have HC2 := hid (HC.out hv)
     rw [show ndP A M id0 = some ⟨A.x (id0 - 1).toNat, 0, none⟩ from if_pos hv] at HN HC2
     clear HC
     have HV := hid hv
     clear hv
     generalize A.x (id0 - 1).toNat = xb at *
     cases b with
     | false =>
      rw [show errN false = 0 from rfl]
      generalize hq : clB M t id0 = q at *
      have HQ := hid hq
      clear hq
      go_wp2_with (first | (go_at_call 100; refine HN.out.mono ?_; rintro e w2 ⟨rfl, rfl⟩) | (go_at_call 115; refine HC2.out.mono ?_; rintro e w2 ⟨rfl, f2⟩; have F2 := hid f2; clear f2))
      go_roundw
      case rel => exact ⟨i + 1, q, by omega, rfl, by go_num, by rw [HA.out, ← Bool.or_assoc, ← HR.out.1]; simp, HR.out.2.thenNo F2.out⟩
      case measure => simp [intOf]; omega
     | true =>
      rw [show errN true = 6 from rfl]
      go_wp2_with (first | (go_at_call 100; refine HN.out.mono ?_; rintro e w2 ⟨rfl, rfl⟩))
      go_roundw
      case rel => exact ⟨i + 1, true, by omega, rfl, by go_num, by rw [HA.out, ← Bool.or_assoc, ← HR.out.1]; simp, HR.out.2⟩
      case measure => simp [intOf]; omega
    ·rw [show ndP A M id0 = none from if_neg hv] at HN
     have HQ := hid (clB_none (t := t) hv)
     clear hv HC
     go_wp2_with (first | (go_at_call 100; refine HN.out.mono ?_; rintro e w2 ⟨rfl, rfl⟩))
     go_roundw
     case rel => exact ⟨i + 1, b, by omega, rfl, by go_num, by rw [HA.out, ← Bool.or_assoc, ← HR.out.1, HQ.out]; simp, HR.out.2⟩
     case measure => simp [intOf]; omega
   ·obtain rfl : i = n := by omega
    have hb : b = mayB M t ed l := by rw [HR.out.1, List.take_of_length_le (by have := HNe.out; omega)]; rfl
    have HF := hid HR.out.2
    have HW := hid hwr
    clear HR hwr
    cases hbb : mayB M t ed l with
    | false =>
     rw [hbb] at hb
     subst hb
     have HBB := hid hbb
     clear hbb
     rw [show errN false = 0 from rfl]
     go_wp2_with fail
     go_ret
     rw [HBB.out]
     exact ⟨rfl, fun _ => HF.out, fun e => (by cases e)⟩
    | true =>
     rw [hbb] at hb
     subst hb
     obtain ⟨hu1, hu2⟩ := HH.out.2.1 hbb
     have HB := hid (abort_any wr ρ s A M F HW.out t HL.out M1 F1 hu1 hu2)
     have HBB := hid hbb
     clear hbb hu1 hu2
     rw [show errN true = 6 from rfl]
     go_wp2_with (go_at_call 24; refine HB.out.mono ?_; rintro e w2 ⟨rfl, t2⟩; have T2 := hid (TurnsA.trans (Gone.no HF.out) t2); clear t2)
     go_ret
     rw [HBB.out]
     exact ⟨rfl, fun e => (by cases e), fun _ => T2.out⟩
end Go.Proofs.YthadcdoepoglkaaGreatDoor
