/- A part of the proof: contracts of functions of the program, for the row's text. -/
import Derived.Test.YtibfpkfpmkghhaaGreatDoorJ19
import Derived.Test.YtibfpkfpmkghhaaGreatDoorJ18
namespace Go.Proofs.YtibfpkfpmkghhaaGreatDoor
open Go.RowKit Go.Lig

def undoNM (M : PSt) (t : Int) (i : Nat) : PSt := { M with N := M.N.set i (undoV t (M.N[i]?.getD [])) }
def undoEM (M : PSt) (t : Int) (i : Nat) : PSt := { M with E := M.E.set i (undoV t (M.E[i]?.getD [])) }
/-- what the undoing of nodes leaves, from node i on -/
inductive UndoTo (t : Int) (M' : PSt) (F' : Nat) : PSt → Nat → Nat → Prop
  | done {i : Nat} (h : M'.N.length ≤ i) : UndoTo t M' F' M' F' i
  | step {M M1 : PSt} {F F1 i : Nat} (h : i < M.N.length) (hf : FindsTo (undoNM M t i) M1 F F1 i) (r : UndoTo t M' F' M1 F1 (i + 1)) : UndoTo t M' F' M F i
/-- .. and of edges, up to edge j -/
def undoEs (t : Int) (M : PSt) : Nat → PSt
  | 0 => M
  | j + 1 => linkM (undoEM (undoEs t M j) t j) j
theorem linkM_E (M : PSt) (k : Nat) : (linkM M k).E = M.E := by
  unfold linkM
  split
  · split <;> rfl
  · rfl
theorem undoEs_len (t : Int) (M : PSt) : ∀ j, (undoEs t M j).E.length = M.E.length
  | 0 => rfl
  | j + 1 => by rw [undoEs, linkM_E]; simp [undoEM, undoEs_len t M j]
theorem StAt.undoN_ {w w' : World} {ρ : Nat → Option Pt} {s : Nat} {A : Ad} {M : PSt} {F : Nat} (h : StAt w ρ s A M F) {t : Int} {i : Nat} {L : List (Ver NodeD)} (hL : M.N[i]? = some L) (k : NCell w' (At ρ (.node i)) (At ρ .imm) (A.x i) (undoV t L)) (f : Fr (At ρ (.node i)) w w') :
    TurnsA w ρ s A (undoNM M t i) F w' := by
  have hi := (List.getElem?_eq_some_iff.1 hL).1
  have := h.node_ (F' := F) hi k f (Grown.refl _ _) (Nat.le_refl _) (Nat.le_trans (undoV_len _ _) (h.at_ (.node i) L hL).2)
  unfold undoNM
  rw [hL]
  exact this
theorem StAt.undoE_ {w w' : World} {ρ : Nat → Option Pt} {s : Nat} {A : Ad} {M : PSt} {F : Nat} (h : StAt w ρ s A M F) {t : Int} {i : Nat} {L : List (Ver EdgeV)} (hL : M.E[i]? = some L) (k : Ec.CellAt w' (At ρ (.edge i)) (A.z i) (undoV t L)) (f : Fr (At ρ (.edge i)) w w') :
    TurnsA w ρ s A (undoEM M t i) F w' := by
  have hi := (List.getElem?_eq_some_iff.1 hL).1
  have := h.edge_ (F' := F) hi k f (Grown.refl _ _) (Nat.le_refl _) (Nat.le_trans (undoV_len _ _) (h.at_ (.edge i) L hL).2)
  unfold undoEM
  rw [hL]
  exact this
theorem row_len {w w' : World} {b : Nat} {e e' : TypeId} {z z' : Nat} {v : Value} {n m : Nat} {xs ys : List Value} (h : w.ownsRow b e z v n xs) (h' : w'.ownsRow b e' z' v m ys) : n = m := by
  obtain ⟨a, c, rfl⟩ := ownsRow_slice h
  obtain ⟨a', c', e⟩ := ownsRow_slice h'
  exact (Value.slice.inj e).2.1
theorem abort_no_any (w : World) (ρ : Nat → Option Pt) (s : Nat) (A : Ad) (M : PSt) (F : Nat) (h : StAt w ρ s A M F) (t : Int) (hl : M.K.live t = false) :
    Calls Tryz.prog 18 #[.pointer (some ⟨s, 0, none⟩), .int .i64 t] w fun e w' => e = .returned (.int .i64 5) ∧ w = w' := by
  have HC := hid (abort_no w (At ρ .clock) A.c M.K h.clock t hl)
  obtain ⟨x0, -⟩ := h.cells
  clear h hl
  go_enter Tryz.func18, Tryz.ntmps18
  go_wp2_with (go_at_call 57; refine HC.out.mono ?_; rintro e w1 ⟨rfl, rfl⟩)
  go_ret
  exact ⟨rfl, rfl⟩
set_option maxRecDepth 100000 in
set_option maxHeartbeats 1000000 in
theorem abort_any (w : World) (ρ : Nat → Option Pt) (s : Nat) (A : Ad) (M : PSt) (F : Nat) (h : StAt w ρ s A M F) (t : Int) (hl : M.K.live t = true) (M1 : PSt) (F1 : Nat) (hu : UndoTo t M1 F1 { M with K := M.K.abort t } F 0) (hF : F1 + 3000 < 1000000) :
    Calls Tryz.prog 18 #[.pointer (some ⟨s, 0, none⟩), .int .i64 t] w fun e w' => e = .returned (.int .i64 0) ∧ TurnsA w ρ s A (undoEs t M1 M1.E.length) (F1 + 2 * M1.E.length) w' := by
  have HC := hid (abort_ok w (At ρ .clock) A.c M.K h.clock t hl)
  obtain ⟨x0, -⟩ := h.cells
  have HH := hid (⟨h, hu, hF⟩ : _ ∧ _ ∧ _)
  obtain ⟨a1, c1, hnv⟩ := ownsRow_slice (h.at_ .nrow).1
  have HV := hid hnv
  have HS := hid h.nlen
  clear h hl hnv hu hF
  go_enter Tryz.func18, Tryz.ntmps18
  go_wp2_with fail
  refine HC.out.mono ?_
  rintro e w1 ⟨rfl, k1, f1⟩
  have t1 := HH.out.1.clock_ (F' := F) k1 f1 (Grown.refl _ _) (Nat.le_refl _) (by rw [ck_abort_len]; exact (HH.out.1.at_ .clock).2.1) (by rw [ck_abort_commits]; exact (HH.out.1.at_ .clock).2.2)
  have T1 := hid t1
  obtain ⟨ρ1, h1, g1⟩ := t1
  have x1 := h1.cells.2.1
  rw [HV.out] at x1
  clear k1 f1 h1 g1 x0
  go_wp2_with fail
  generalize hNe : M.N.length = n at *
  have HNe := hid hNe
  have hn6 : n ≤ 1000 := HS.out
  clear hNe
  go_loopw [26] (fun vi wr => ∃ i : Nat, i ≤ n ∧ vi = .int .i64 (i : Int) ∧ Hid (∃ M2 F2, TurnsA w ρ s A M2 F2 wr ∧ UndoTo t M1 F1 M2 F2 i)) (fun vi _ => n - (intOf vi).toNat)
  case atStart => exact ⟨0, Nat.zero_le _, rfl, _, F, T1.out, HH.out.2.1⟩
  case round =>
    obtain ⟨i, hi, rfl, HI⟩ := hrel
    obtain ⟨M2, F2, ⟨ρ2, h2, g2⟩, hu2⟩ := HI.out
    have hml : M2.N.length = n := by
      have e := (h2.at_ .nrow).1
      rw [HV.out] at e
      obtain ⟨a', c', e'⟩ := ownsRow_slice e
      exact (Value.slice.inj e').2.1.symm
    by_cases hlt : i < n
    · obtain ⟨M3, F3, hf3, hu3⟩ : ∃ M3 F3, FindsTo (undoNM M2 t i) M3 F2 F3 i ∧ UndoTo t M1 F1 M3 F3 (i + 1) := by
        cases hu2 with
        | done h => omega
        | step h hf r => exact ⟨_, _, hf, r⟩
      obtain ⟨L, hL⟩ : ∃ L, M2.N[i]? = some L := ⟨_, List.getElem?_eq_getElem (by omega)⟩
      have hr2 := (h2.at_ .nrow).1
      rw [HV.out, hml] at hr2
      obtain ⟨gr, cur, rfl, -, -⟩ := owns_at hr2 (by omega)
      have hc := owns_cell hr2 rfl (ptrs_get A.x n i hlt)
      have HU := hid ((h2.ncell hL).undo t (at_apart (by simp)))
      have hw : wrap64 ((i : Int) + 1) = (i : Int) + 1 := by unfold wrap64; omega
      have H2 := hid (⟨h2, g2, hL, hf3, hu3⟩ : _ ∧ _ ∧ _ ∧ _ ∧ _)
      clear h2 g2 hL hr2 hf3 hu3 hu2 hml
      go_wp2_with (first | (go_at_call 58; refine HU.out.mono ?_; rintro e w3 ⟨rfl, k3, f3⟩; have T3 := hid (H2.out.1.undoN_ H2.out.2.2.1 k3 f3); obtain ⟨ρ3, h3, g3⟩ := T3.out; have G3 := hid (⟨h3, H2.out.2.1.trans g3⟩ : _ ∧ _); clear k3 f3 h3 g3) | (go_at_call 59; refine (H2.out.2.2.2.1 w3 ρ3 s A G3.out.1).mono ?_; rintro e w4 ⟨rfl, t4⟩; have T4 := hid (TurnsA.trans G3.out.2 t4); clear t4))
      go_roundw
      case rel => exact ⟨i + 1, by omega, by go_num, M3, F3, T4.out, H2.out.2.2.2.2⟩
      case measure => simp [intOf]; omega
    · obtain rfl : i = n := by omega
      obtain ⟨e1, e2⟩ : M2 = M1 ∧ F2 = F1 := by
        cases hu2 with
        | done h => exact ⟨rfl, rfl⟩
        | step h hf r => omega
      subst e1 e2
      obtain ⟨a2, c2, hdv⟩ := ownsRow_slice (h2.at_ .edrow).1
      have x2 := h2.cells.2.2.1
      rw [hdv] at x2
      have HD := hid hdv
      have hel := h2.elen
      have H2 := hid (⟨ρ2, h2, g2⟩ : TurnsA _ _ _ _ _ _ _)
      clear h2 g2 hdv hu2 hml HI HC
      go_wp2_with fail
      generalize hEe : M2.E.length = m at *
      have HEe := hid hEe
      clear hEe
      go_loopw [44] (fun vi wr => ∃ j : Nat, j ≤ m ∧ vi = .int .i64 (j : Int) ∧ Hid (TurnsA w ρ s A (undoEs t M2 j) (F2 + 2 * j) wr)) (fun vi _ => m - (intOf vi).toNat)
      case atStart => exact ⟨0, Nat.zero_le _, rfl, hid (by obtain ⟨ρ2, h2, g2⟩ := H2.out; exact ⟨ρ2, h2, g2⟩)⟩
      case round =>
        obtain ⟨j, hj, rfl, HJ⟩ := hrel
        obtain ⟨ρ3, h3, g3⟩ := HJ.out
        have hml : (undoEs t M2 j).E.length = m := by rw [undoEs_len]; exact HEe.out
        by_cases hlt : j < m
        · obtain ⟨L, hL⟩ : ∃ L, (undoEs t M2 j).E[j]? = some L := ⟨_, List.getElem?_eq_getElem (by omega)⟩
          have hr2 := (h3.at_ .edrow).1
          rw [HD.out, hml] at hr2
          obtain ⟨gr, cur, rfl, -, -⟩ := owns_at hr2 (by omega)
          have hc := owns_cell hr2 rfl (ptrs_get A.z m j hlt)
          have HU := hid (Ec.undo_any wr (At ρ3 (.edge j)) (A.z j) L (h3.ecell hL) t)
          have hw : wrap64 ((j : Int) + 1) = (j : Int) + 1 := by unfold wrap64; omega
          have H3 := hid (⟨h3, g3, hL⟩ : _ ∧ _ ∧ _)
          have hkl : j < (undoEM (undoEs t M2 j) t j).E.length := by simp [undoEM]; omega
          have HKL := hid hkl
          clear h3 g3 hL hr2 hml hkl
          go_wp2_with (first | (go_at_call 60; refine HU.out.mono ?_; rintro e w4 ⟨rfl, k4, f4⟩; rw [eundoL] at k4; have T4 := hid (H3.out.1.undoE_ H3.out.2.2 k4 f4); obtain ⟨ρ4, h4, g4⟩ := T4.out; have G4 := hid (⟨h4, H3.out.2.1.trans g4⟩ : _ ∧ _); clear k4 f4 h4 g4) | (go_at_call 61; refine (links_any w4 ρ4 s A _ (F2 + 2 * j) G4.out.1 j HKL.out (by have := HH.out.2.2; omega)).mono ?_; rintro e w5 ⟨rfl, t5⟩; have T5 := hid (TurnsA.trans G4.out.2 t5); clear t5))
          go_roundw
          case rel => exact ⟨j + 1, by omega, by go_num, hid T5.out⟩
          case measure => simp [intOf]; omega
        · obtain rfl : j = m := by omega
          have T3 := hid (⟨ρ3, h3, g3⟩ : TurnsA _ _ _ _ _ _ _)
          clear h3 g3 hml
          go_wp2_with fail
          go_ret
          exact ⟨rfl, by rw [HEe.out]; exact T3.out⟩
end Go.Proofs.YtibfpkfpmkghhaaGreatDoor

namespace Go.Proofs.YtibfpkfpmkghhaaGreatDoor
open Go.RowKit Go.Lig

/-- is there a clash about node id, about edge id? -/
def clB (M : PSt) (t id : Int) : Bool := if 1 ≤ id ∧ id ≤ (M.N.length : Int) then clashV M.K t (M.N[(id - 1).toNat]?.getD []) else false
def ceB (M : PSt) (t id : Int) : Bool := if 1 ≤ id ∧ id ≤ (M.E.length : Int) then clashV M.K t (M.E[(id - 1).toNat]?.getD []) else false
theorem clB_none {M : PSt} {t id : Int} (h : ¬ (1 ≤ id ∧ id ≤ (M.N.length : Int))) : clB M t id = false := if_neg h
theorem ceB_none {M : PSt} {t id : Int} (h : ¬ (1 ≤ id ∧ id ≤ (M.E.length : Int))) : ceB M t id = false := if_neg h
def mayB (M : PSt) (t ed : Int) (l : List Int) : Bool := ceB M t ed || l.any (clB M t)
def errN (b : Bool) : Int := if b then 6 else 0
theorem errI_N (b : Bool) : errI b = .int .i64 (errN b) := by cases b <;> rfl
theorem any_take {α : Type} (f : α → Bool) (l : List α) (i : Nat) (x : α) (h : l[i]? = some x) : (l.take (i + 1)).any f = ((l.take i).any f || f x) := by
  rw [List.take_add_one, h, Option.toList_some, List.any_append]
  simp
section
variable {w : World} {ρ : Nat → Option Pt} {s : Nat} {A : Ad} {M : PSt} {F : Nat}
theorem StAt.checkN (h : StAt w ρ s A M F) (t id : Int) (hv : 1 ≤ id ∧ id ≤ (M.N.length : Int)) :
    Calls Tryz.prog 107 #[.pointer (ndP A M id), .pointer (some ⟨A.c, 0, none⟩), .int .i64 t] w fun e w' => e = .returned (.int .i64 (errN (clB M t id))) ∧ Fr No w w' := by
  obtain ⟨gk, hk, -⟩ := h.clock.row
  obtain ⟨L, hL⟩ : ∃ L, M.N[(id - 1).toNat]? = some L := ⟨_, List.getElem?_eq_getElem (by omega)⟩
  rw [show ndP A M id = some ⟨A.x (id - 1).toNat, 0, none⟩ from if_pos hv, show clB M t id = clashV M.K t L by unfold clB; rw [if_pos hv, hL]; rfl, ← errI_N]
  exact (h.ncell hL).check A.c gk M.K hk h.clock.small.1 t
theorem StAt.checkE (h : StAt w ρ s A M F) (t id : Int) (hv : 1 ≤ id ∧ id ≤ (M.E.length : Int)) :
    Calls Tryz.prog 106 #[.pointer (edP A M id), .pointer (some ⟨A.c, 0, none⟩), .int .i64 t] w fun e w' => e = .returned (.int .i64 (errN (ceB M t id))) ∧ Fr No w w' := by
  obtain ⟨gk, hk, -⟩ := h.clock.row
  obtain ⟨L, hL⟩ : ∃ L, M.E[(id - 1).toNat]? = some L := ⟨_, List.getElem?_eq_getElem (by omega)⟩
  obtain ⟨g, hr, -⟩ := (h.ecell hL).row
  rw [show edP A M id = some ⟨A.z (id - 1).toNat, 0, none⟩ from if_pos hv, show ceB M t id = clashV M.K t L by unfold ceB; rw [if_pos hv, hL]; rfl, ← errI_N, ← eclashL]
  exact Ec.check_any w _ g A.c gk M.K L hr (h.ecell hL).small hk h.clock.small.1 t
end
set_option maxRecDepth 100000 in
set_option maxHeartbeats 1000000 in
theorem may_any (w : World) (ρ : Nat → Option Pt) (s : Nat) (A : Ad) (M : PSt) (F : Nat) (h : StAt w ρ s A M F) (t ed : Int) (hl : M.K.live t = true) (v : Value) (l : List Int) (hr : Rd w v l.length 1 (l.map iv)) (hlen : l.length ≤ 1000) (M1 : PSt) (F1 : Nat)
    (hu : mayB M t ed l = true → UndoTo t M1 F1 { M with K := M.K.abort t } F 0 ∧ F1 + 3000 < 1000000) :
    Calls Tryz.prog 46 #[.pointer (some ⟨s, 0, none⟩), .int .i64 t, .int .i64 ed, v] w fun e w' => e = .returned (.int .i64 (errN (mayB M t ed l))) ∧ (mayB M t ed l = false → Fr No w w') ∧ (mayB M t ed l = true → TurnsA w ρ s A (undoEs t M1 M1.E.length) (F1 + 2 * M1.E.length) w') := by
  have HE := hid (edge_any w ρ s A M F h ed)
  obtain ⟨x0, -⟩ := h.cells
  obtain ⟨ao, ca, rfl, -⟩ := rd_len hr
  have HH := hid (⟨h, hu, hr⟩ : _ ∧ _ ∧ _)
  have HL := hid hl
  have HCE := hid (fun hv => h.checkE t ed hv)
  generalize hne : l.length = n at *
  have HNe := hid hne
  clear h hl hr hne hu
  by_cases hv : 1 ≤ ed ∧ ed ≤ (M.E.length : Int)
  · have HC2 := hid (HCE.out hv)
    rw [show edP A M ed = some ⟨A.z (ed - 1).toNat, 0, none⟩ from if_pos hv] at HE HC2
    clear HCE hv
    generalize A.z (ed - 1).toNat = zb at *
    generalize hq : ceB M t ed = q at *
    have HB0 := hid hq
    go_enter Tryz.func46, Tryz.ntmps46
    clear hq
    go_wp2_with (first | (go_at_call 66; refine HE.out.mono ?_; rintro e w1 ⟨rfl, rfl⟩) | (go_at_call 106; refine HC2.out.mono ?_; rintro e w2 ⟨rfl, f2⟩; have F0 := hid f2; clear f2))
    clear x0 HC2 HE
    go_loopw [9, 28] (fun ve vi wr => ∃ (i : Nat) (b : Bool), i ≤ n ∧ ve = .int .i64 (errN b) ∧ vi = .int .i64 (i : Int) ∧ Hid (b = (ceB M t ed || (l.take i).any (clB M t)) ∧ Fr No w wr)) (fun _ vi _ => n - (intOf vi).toNat)
    case atStart => exact ⟨0, ceB M t ed, Nat.zero_le _, (by first | (rw [HB0.out]; done) | (rw [HB0.out]; rfl)), rfl, by simp, F0.out⟩
    case round =>
      obtain ⟨i, b, hi, rfl, rfl, HR⟩ := hrel
      have hwr := HH.out.1.frame HR.out.2
      obtain ⟨x0, -⟩ := hwr.cells
      by_cases hlt : i < n
      · obtain ⟨id0, hid0⟩ : ∃ id0, l[i]? = some id0 := ⟨_, List.getElem?_eq_getElem (by have := HNe.out; omega)⟩
        obtain ⟨ba, oa, ca', hva, hca⟩ := HH.out.2.2.at1 (k := i) (u := iv id0) (by simp [hid0])
        obtain ⟨rfl, rfl⟩ : ao = some ⟨ba, oa, none⟩ ∧ ca = ca' := by simpa using hva
        have c1 : wr.cell? ⟨ba, oa + i, none⟩ = some (.int .i64 id0) := hca wr HR.out.2
        have HN := hid (node_any wr ρ s A M F hwr id0)
        have HC := hid (fun hv => hwr.checkN t id0 hv)
        have HA := hid (any_take (clB M t) l i id0 hid0)
        have hw : wrap64 ((i : Int) + 1) = (i : Int) + 1 := by have := HNe.out; unfold wrap64; omega
        clear hva hca hid0 hwr
        by_cases hv : 1 ≤ id0 ∧ id0 ≤ (M.N.length : Int)
        · have HC2 := hid (HC.out hv)
          rw [show ndP A M id0 = some ⟨A.x (id0 - 1).toNat, 0, none⟩ from if_pos hv] at HN HC2
          clear HC
          have HV := hid hv
          clear hv
          generalize A.x (id0 - 1).toNat = xb at *
          cases b with
          | false =>
            rw [show errN false = 0 from rfl]
            generalize hq : clB M t id0 = q at *
            have HQ := hid hq
            clear hq
            go_wp2_with (first | (go_at_call 51; refine HN.out.mono ?_; rintro e w2 ⟨rfl, rfl⟩) | (go_at_call 107; refine HC2.out.mono ?_; rintro e w2 ⟨rfl, f2⟩; have F2 := hid f2; clear f2))
            go_roundw
            case rel => exact ⟨i + 1, q, by omega, rfl, by go_num, by rw [HA.out, ← Bool.or_assoc, ← HR.out.1]; simp, HR.out.2.thenNo F2.out⟩
            case measure => simp [intOf]; omega
          | true =>
            rw [show errN true = 6 from rfl]
            go_wp2_with (first | (go_at_call 51; refine HN.out.mono ?_; rintro e w2 ⟨rfl, rfl⟩))
            go_roundw
            case rel => exact ⟨i + 1, true, by omega, rfl, by go_num, by rw [HA.out, ← Bool.or_assoc, ← HR.out.1]; simp, HR.out.2⟩
            case measure => simp [intOf]; omega
        · rw [show ndP A M id0 = none from if_neg hv] at HN
          have HQ := hid (clB_none (t := t) hv)
          clear hv HC
          go_wp2_with (first | (go_at_call 51; refine HN.out.mono ?_; rintro e w2 ⟨rfl, rfl⟩))
          go_roundw
          case rel => exact ⟨i + 1, b, by omega, rfl, by go_num, by rw [HA.out, ← Bool.or_assoc, ← HR.out.1, HQ.out]; simp, HR.out.2⟩
          case measure => simp [intOf]; omega
      · obtain rfl : i = n := by omega
        have hb : b = mayB M t ed l := by rw [HR.out.1, List.take_of_length_le (by have := HNe.out; omega)]; rfl
        have HF := hid HR.out.2
        have HW := hid hwr
        clear HR hwr
        cases hbb : mayB M t ed l with
        | false =>
          rw [hbb] at hb
          subst hb
          have HBB := hid hbb
          clear hbb
          rw [show errN false = 0 from rfl]
          go_wp2_with fail
          go_ret
          rw [HBB.out]
          exact ⟨rfl, fun _ => HF.out, fun e => (by cases e)⟩
        | true =>
          rw [hbb] at hb
          subst hb
          obtain ⟨hu1, hu2⟩ := HH.out.2.1 hbb
          have HB := hid (abort_any wr ρ s A M F HW.out t HL.out M1 F1 hu1 hu2)
          have HBB := hid hbb
          clear hbb hu1 hu2
          rw [show errN true = 6 from rfl]
          go_wp2_with (go_at_call 18; refine HB.out.mono ?_; rintro e w2 ⟨rfl, t2⟩; have T2 := hid (TurnsA.trans (Gone.no HF.out) t2); clear t2)
          go_ret
          rw [HBB.out]
          exact ⟨rfl, fun e => (by cases e), fun _ => T2.out⟩
  · rw [show edP A M ed = none from if_neg hv] at HE
    have HB0 := hid (ceB_none (t := t) hv)
    clear HCE hv
    have F0 := hid (Fr.refl No w)
    go_enter Tryz.func46, Tryz.ntmps46
    go_wp2_with (first | (go_at_call 66; refine HE.out.mono ?_; rintro e w1 ⟨rfl, rfl⟩))
    clear x0 HE
    go_loopw [9, 28] (fun ve vi wr => ∃ (i : Nat) (b : Bool), i ≤ n ∧ ve = .int .i64 (errN b) ∧ vi = .int .i64 (i : Int) ∧ Hid (b = (ceB M t ed || (l.take i).any (clB M t)) ∧ Fr No w wr)) (fun _ vi _ => n - (intOf vi).toNat)
    case atStart => exact ⟨0, ceB M t ed, Nat.zero_le _, (by first | (rw [HB0.out]; done) | (rw [HB0.out]; rfl)), rfl, by simp, F0.out⟩
    case round =>
      obtain ⟨i, b, hi, rfl, rfl, HR⟩ := hrel
      have hwr := HH.out.1.frame HR.out.2
      obtain ⟨x0, -⟩ := hwr.cells
      by_cases hlt : i < n
      · obtain ⟨id0, hid0⟩ : ∃ id0, l[i]? = some id0 := ⟨_, List.getElem?_eq_getElem (by have := HNe.out; omega)⟩
        obtain ⟨ba, oa, ca', hva, hca⟩ := HH.out.2.2.at1 (k := i) (u := iv id0) (by simp [hid0])
        obtain ⟨rfl, rfl⟩ : ao = some ⟨ba, oa, none⟩ ∧ ca = ca' := by simpa using hva
        have c1 : wr.cell? ⟨ba, oa + i, none⟩ = some (.int .i64 id0) := hca wr HR.out.2
        have HN := hid (node_any wr ρ s A M F hwr id0)
        have HC := hid (fun hv => hwr.checkN t id0 hv)
        have HA := hid (any_take (clB M t) l i id0 hid0)
        have hw : wrap64 ((i : Int) + 1) = (i : Int) + 1 := by have := HNe.out; unfold wrap64; omega
        clear hva hca hid0 hwr
        by_cases hv : 1 ≤ id0 ∧ id0 ≤ (M.N.length : Int)
        · have HC2 := hid (HC.out hv)
          rw [show ndP A M id0 = some ⟨A.x (id0 - 1).toNat, 0, none⟩ from if_pos hv] at HN HC2
          clear HC
          have HV := hid hv
          clear hv
          generalize A.x (id0 - 1).toNat = xb at *
          cases b with
          | false =>
            rw [show errN false = 0 from rfl]
            generalize hq : clB M t id0 = q at *
            have HQ := hid hq
            clear hq
            go_wp2_with (first | (go_at_call 51; refine HN.out.mono ?_; rintro e w2 ⟨rfl, rfl⟩) | (go_at_call 107; refine HC2.out.mono ?_; rintro e w2 ⟨rfl, f2⟩; have F2 := hid f2; clear f2))
            go_roundw
            case rel => exact ⟨i + 1, q, by omega, rfl, by go_num, by rw [HA.out, ← Bool.or_assoc, ← HR.out.1]; simp, HR.out.2.thenNo F2.out⟩
            case measure => simp [intOf]; omega
          | true =>
            rw [show errN true = 6 from rfl]
            go_wp2_with (first | (go_at_call 51; refine HN.out.mono ?_; rintro e w2 ⟨rfl, rfl⟩))
            go_roundw
            case rel => exact ⟨i + 1, true, by omega, rfl, by go_num, by rw [HA.out, ← Bool.or_assoc, ← HR.out.1]; simp, HR.out.2⟩
            case measure => simp [intOf]; omega
        · rw [show ndP A M id0 = none from if_neg hv] at HN
          have HQ := hid (clB_none (t := t) hv)
          clear hv HC
          go_wp2_with (first | (go_at_call 51; refine HN.out.mono ?_; rintro e w2 ⟨rfl, rfl⟩))
          go_roundw
          case rel => exact ⟨i + 1, b, by omega, rfl, by go_num, by rw [HA.out, ← Bool.or_assoc, ← HR.out.1, HQ.out]; simp, HR.out.2⟩
          case measure => simp [intOf]; omega
      · obtain rfl : i = n := by omega
        have hb : b = mayB M t ed l := by rw [HR.out.1, List.take_of_length_le (by have := HNe.out; omega)]; rfl
        have HF := hid HR.out.2
        have HW := hid hwr
        clear HR hwr
        cases hbb : mayB M t ed l with
        | false =>
          rw [hbb] at hb
          subst hb
          have HBB := hid hbb
          clear hbb
          rw [show errN false = 0 from rfl]
          go_wp2_with fail
          go_ret
          rw [HBB.out]
          exact ⟨rfl, fun _ => HF.out, fun e => (by cases e)⟩
        | true =>
          rw [hbb] at hb
          subst hb
          obtain ⟨hu1, hu2⟩ := HH.out.2.1 hbb
          have HB := hid (abort_any wr ρ s A M F HW.out t HL.out M1 F1 hu1 hu2)
          have HBB := hid hbb
          clear hbb hu1 hu2
          rw [show errN true = 6 from rfl]
          go_wp2_with (go_at_call 18; refine HB.out.mono ?_; rintro e w2 ⟨rfl, t2⟩; have T2 := hid (TurnsA.trans (Gone.no HF.out) t2); clear t2)
          go_ret
          rw [HBB.out]
          exact ⟨rfl, fun e => (by cases e), fun _ => T2.out⟩
end Go.Proofs.YtibfpkfpmkghhaaGreatDoor

namespace Go.Proofs.YtibfpkfpmkghhaaGreatDoor
open Go.RowKit Go.Lig

/-- a node that lies elsewhere -/
theorem _root_.Go.Lig.NodeOf.frameO {w w' : World} {S : Nat → Prop} {sl sp : Value} {d : NodeD} (h : NodeOf w sl sp d) (hf : Fr S w w') (h1 : ∀ k, slBlock sl = some k → d.L ≠ [] → ¬ S k) (h2 : ∀ k, slBlock sp = some k → d.Q ≠ [] → ¬ S k) : NodeOf w' sl sp d :=
  ⟨h.l.frameE hf (fun k hk hx => h1 k hk (fun e => hx (by rw [e]; rfl))), h.p.frameE hf (fun k hk hx => h2 k hk (fun e => hx (by rw [e]; rfl))), h.ok, h.ls⟩
section
variable (w : World) (ρ : Nat → Option Pt) (s : Nat) (A : Ad) (M : PSt) (F : Nat)
theorem grows_node (h : StAt w ρ s A M F) (hn : M.N.length < 1000) : Calls Tryz.prog 62 #[.pointer (some ⟨s, 0, none⟩), .int .i64 ((M.N.length : Int) + 1), .int .i64 0] w fun e w' => e = .returned (.tuple #[]) ∧ Turns w ρ s (growN M) F w' := by
  have := grows_any w ρ s A M F h (M.N.length + 1) 0 (by omega) (by omega)
  rw [show M.N.length + 1 - M.N.length = 1 by omega, show 0 - M.E.length = 0 by omega, growEs_zero, ← growNs_succ, growNs_zero] at this
  exact this
theorem grows_edge (h : StAt w ρ s A M F) (hn : M.E.length < 1000) : Calls Tryz.prog 62 #[.pointer (some ⟨s, 0, none⟩), .int .i64 0, .int .i64 ((M.E.length : Int) + 1)] w fun e w' => e = .returned (.tuple #[]) ∧ Turns w ρ s (growE M) F w' := by
  have := grows_any w ρ s A M F h 0 (M.E.length + 1) (by omega) (by omega)
  rw [show M.E.length + 1 - M.E.length = 1 by omega, show 0 - M.N.length = 0 by omega, growNs_zero, ← growEs_succ, growEs_zero] at this
  exact this
variable {w ρ s A M F}
theorem StAt.same_e {w' : World} {ρ' : Nat → Option Pt} {M' : PSt} {F' : Nat} (h : StAt w ρ s A M F) (h' : StAt w' ρ' s A M' F') : M'.E.length = M.E.length := row_len (h'.at_ .edrow).1 (h.at_ .edrow).1
end
section
variable (w : World) (ρ : Nat → Option Pt) (s : Nat) (A : Ad) (M : PSt) (F : Nat) (h : StAt w ρ s A M F) (t : Int) (la pa : Option Addr) (ln lc pn pc : Nat)
include h
theorem addnode_dead (hl : M.K.live t = false) :
    Calls Tryz.prog 19 #[.pointer (some ⟨s, 0, none⟩), .int .i64 t, .agg #[.slice la ln lc, .slice pa pn pc]] w fun e w' => e = .returned (.tuple #[.int .i64 0, .int .i64 5]) ∧ Fr No w w' := by
  have hfr : Fr No w (w.alloc (.cells #[.slice la ln lc, .slice pa pn pc] 31)) := (Fr.refl No w).alloc _
  have HI := hid (islive_any _ ρ s A M F (h.frame hfr) t)
  rw [hl] at HI
  have HF := hid hfr
  clear h hl hfr
  go_enter Tryz.func19, Tryz.ntmps19
  go_wp2_with (go_at_call 43; refine HI.out.mono ?_; rintro e w1 ⟨rfl, rfl⟩)
  go_ret2
  exact ⟨rfl, HF.out⟩
variable (hl : M.K.live t = true)
include hl
theorem addnode_bad (hi : ∀ u, Fr No w u → Calls Tryz.prog 44 #[.agg #[.slice la ln lc, .slice pa pn pc]] u fun e w' => e = .returned (.bool false) ∧ Fr No u w') :
    Calls Tryz.prog 19 #[.pointer (some ⟨s, 0, none⟩), .int .i64 t, .agg #[.slice la ln lc, .slice pa pn pc]] w fun e w' => e = .returned (.tuple #[.int .i64 0, .int .i64 1]) ∧ Fr No w w' := by
  have hb := heap1 w (.cells #[.slice la ln lc, .slice pa pn pc] 31)
  have hfr : Fr No w (w.alloc (.cells #[.slice la ln lc, .slice pa pn pc] 31)) := (Fr.refl No w).alloc _
  have HI := hid (islive_any _ ρ s A M F (h.frame hfr) t)
  rw [hl] at HI
  have HF := hid (⟨hfr, hi, hb⟩ : _ ∧ _ ∧ _)
  clear h hl hfr hi hb
  go_enter Tryz.func19, Tryz.ntmps19
  go_wp2_with (first | (go_at_call 43; refine HI.out.mono ?_; rintro e w1 ⟨rfl, rfl⟩; obtain ⟨c0, c1'⟩ := cells2 HF.out.2.2) | (go_at_call 44; refine (HF.out.2.1 _ HF.out.1).mono ?_; rintro e w2 ⟨rfl, f2⟩; have F2 := hid (HF.out.1.thenNo f2); clear f2))
  go_ret2
  exact ⟨rfl, F2.out⟩
variable (hi : ∀ u, Fr No w u → Calls Tryz.prog 44 #[.agg #[.slice la ln lc, .slice pa pn pc]] u fun e w' => e = .returned (.bool true) ∧ Fr No u w')
include hi
set_option maxRecDepth 100000 in
set_option maxHeartbeats 1000000 in
theorem addnode_full (hf : 24 ≤ M.N.length) :
    Calls Tryz.prog 19 #[.pointer (some ⟨s, 0, none⟩), .int .i64 t, .agg #[.slice la ln lc, .slice pa pn pc]] w fun e w' => e = .returned (.tuple #[.int .i64 0, .int .i64 3]) ∧ Fr No w w' := by
  have hb := heap1 w (.cells #[.slice la ln lc, .slice pa pn pc] 31)
  have hfr : Fr No w (w.alloc (.cells #[.slice la ln lc, .slice pa pn pc] 31)) := (Fr.refl No w).alloc _
  have HI := hid (islive_any _ ρ s A M F (h.frame hfr) t)
  rw [hl] at HI
  have HH := hid (⟨h, hfr, hb, hi⟩ : _ ∧ _ ∧ _ ∧ _)
  obtain ⟨a1, c1, hnv⟩ := ownsRow_slice (h.at_ .nrow).1
  have HV := hid hnv
  have hn : (24 : Int) ≤ (M.N.length : Int) := by omega
  generalize hNe : M.N.length = n at hn
  have HNe := hid hNe
  clear h hl hf hb hfr hnv hNe hi
  go_enter Tryz.func19, Tryz.ntmps19
  go_wp2_with (first | (go_at_call 43; refine HI.out.mono ?_; rintro e w1 ⟨rfl, rfl⟩; obtain ⟨c0, c1'⟩ := cells2 HH.out.2.2.1) | (go_at_call 44; refine (HH.out.2.2.2 _ HH.out.2.1).mono ?_; rintro e w2 ⟨rfl, f2⟩; have F2 := hid (HH.out.2.1.thenNo f2); clear f2; have x1 := (HH.out.1.frame F2.out).cells.2.1; rw [HV.out, HNe.out] at x1))
  go_ret2
  exact ⟨rfl, F2.out⟩
set_option maxRecDepth 100000 in
set_option maxHeartbeats 1000000 in
theorem addnode_ok (d : NodeD) (hd : NodeOf w (.slice la ln lc) (.slice pa pn pc) d) (hd1 : d.L.length ≤ 1000000) (hd2 : d.Q.length ≤ 1000000) (hb1 : ∀ k, slBlock (.slice la ln lc) = some k → d.L ≠ [] → ¬ Go.Lig.Own ρ k) (hb2 : ∀ k, slBlock (.slice pa pn pc) = some k → d.Q ≠ [] → ¬ Go.Lig.Own ρ k) (hf : M.N.length < 24) (hF : F < 1000000) (M' : PSt) (F' : Nat) (hfind : FindsTo (putM (growN M) t M.N.length d false) M' (F + 1) F' M.N.length) :
    Calls Tryz.prog 19 #[.pointer (some ⟨s, 0, none⟩), .int .i64 t, .agg #[.slice la ln lc, .slice pa pn pc]] w fun e w' => e = .returned (.tuple #[.int .i64 ((M.N.length : Int) + 1), .int .i64 0]) ∧ Turns w ρ s M' F' w' := by
  have hb := heap1 w (.cells #[.slice la ln lc, .slice pa pn pc] 31)
  have hfr : Fr No w (w.alloc (.cells #[.slice la ln lc, .slice pa pn pc] 31)) := (Fr.refl No w).alloc _
  have HI := hid (islive_any _ ρ s A M F (h.frame hfr) t)
  rw [hl] at HI
  have HH := hid (⟨h, hfr, hb, hi⟩ : _ ∧ _ ∧ _ ∧ _)
  have HD := hid (⟨hd, hd1, hd2, hF, hfind⟩ : _ ∧ _ ∧ _ ∧ _ ∧ _)
  obtain ⟨a1, c1, hnv⟩ := ownsRow_slice (h.at_ .nrow).1
  have HV := hid hnv
  have hn : ¬ (24 : Int) ≤ (M.N.length : Int) := by omega
  have HLt := hid hf
  have hlen : (growN M).N.length = M.N.length + 1 := by simp [growN]
  have HLen := hid hlen
  have HU : Hid (¬ Go.Lig.Own ρ w.heap.size) := hid (fun e => by have := HH.out.1.bound _ e; omega)
  have HO := hid (⟨hb1, hb2⟩ : _ ∧ _)
  generalize hNe : M.N.length = n at hn HD ⊢
  have HNe := hid hNe
  clear h hl hf hb hfr hnv hNe hi hd hd1 hd2 hF hfind hlen hb1 hb2
  go_enter Tryz.func19, Tryz.ntmps19
  go_wp2_with (first | (go_at_call 43; refine HI.out.mono ?_; rintro e w1 ⟨rfl, rfl⟩; obtain ⟨c0, c1'⟩ := cells2 HH.out.2.2.1) | (go_at_call 44; refine (HH.out.2.2.2 _ HH.out.2.1).mono ?_; rintro e w2 ⟨rfl, f2⟩; have F2 := hid (HH.out.2.1.thenNo f2); have B2 := hid (f2.keep HH.out.2.2.1 (fun e => e)); clear f2 c0 c1'; have x1 := (HH.out.1.frame F2.out).cells.2.1; rw [HV.out, HNe.out] at x1))
  rw [← HNe.out]
  refine (grows_node _ ρ s A M F (HH.out.1.frame F2.out) (by have := HLt.out; omega)).mono ?_
  rintro e w3 ⟨rfl, ρ3, A3, h3, g3⟩
  obtain ⟨B3, U3⟩ := g3.keep B2.out HU.out
  have hd3 : NodeOf w3 (.slice la ln lc) (.slice pa pn pc) d := (HD.out.1.frame F2.out).frameO g3.fr HO.out.1 HO.out.2
  have G3 := hid (⟨h3, (Gone.no F2.out).trans g3, B3, U3, hd3⟩ : _ ∧ _ ∧ _ ∧ _ ∧ _)
  clear h3 g3 B3 U3 hd3 x1
  obtain ⟨y0, y1, -⟩ := G3.out.1.cells
  obtain ⟨a3, c3, hnv3⟩ := ownsRow_slice (G3.out.1.at_ .nrow).1
  rw [hnv3, HLen.out, HNe.out] at y1
  obtain ⟨d0, d1⟩ := cells2 G3.out.2.2.1
  have HS3 := hid (⟨G3.out.1.lt, lt_of_block G3.out.2.2.1⟩ : s < w3.heap.size ∧ w.heap.size < w3.heap.size)
  have HV3 := hid hnv3
  clear hnv3
  rw [HNe.out]
  go_wp2_with fail
  refine wp_region_sched (by kernel_rfl) 8 [8] [0, 1, 2, 3, 4, 5, 6, 7, 8] (AgC [s, w.heap.size] w3.drew) (by kernel_rfl) (AgC.refl _ _) ?_
  simp only [List.map_cons, List.map_nil, List.contains_cons, List.contains_nil, nth_zero, nth_succ, Nat.reduceBEq, Bool.or_false]
  repeat (refine sched_quiet (fun K hK => ?_); go_simp; refine hK _ ?_; clear hK K)
  refine sched_callL (by first | rfl | go_simp) 47 #[.pointer (some ⟨s, 0, none⟩), .int .i64 t, .int .i64 ((n : Int) + 1), .agg #[.slice la ln lc, .slice pa pn pc], .bool false] (by first | kernel_rfl | go_simp) (puts_any _ ρ3 s A3 (growN M) F (G3.out.1.frame (Fr.refl No w3).drew) t n (by rw [HLen.out, HNe.out]; omega) la pa ln lc pn pc d (G3.out.2.2.2.2.frame (Fr.refl No w3).drew) HD.out.2.1 HD.out.2.2.1 false HD.out.2.2.2.1 M' F' HD.out.2.2.2.2) ?_
  rintro e w4 ⟨rfl, ρ4, h4, g4⟩
  refine ⟨_, rfl, ?_⟩
  have G4 := hid (⟨h4, (G3.out.2.1.nextNo (Fr.refl No w3).drew).trans g4⟩ : _ ∧ _)
  obtain ⟨z0, z1, -⟩ := h4.cells
  rw [HV3.out, HLen.out, HNe.out] at z1
  clear h4 g4 y0 y1 d0 d1
  refine sched_nil ?_
  go_wp2_with fail
  go_ret2
  exact ⟨by simp, ρ4, A3, G4.out⟩
end
end Go.Proofs.YtibfpkfpmkghhaaGreatDoor
