/- The plain store: may. -/
import Derived.Test.YtofjbigojbnmfaaGreatDoorStI
namespace Go.Proofs.YtofjbigojbnmfaaGreatDoor
open Go.RowKit Go.Lig

/-- is there a clash about node id? -/
def clB (M : PSt) (t id : Int) : Bool := if 1 ≤ id ∧ id ≤ (M.N.length : Int) then clashL M.K t (M.N[(id - 1).toNat]?.getD []) else false
theorem clB_none {M : PSt} {t id : Int} (h : ¬ (1 ≤ id ∧ id ≤ (M.N.length : Int))) : clB M t id = false := if_neg h
theorem stcheck (w : World) (ρ : Nat → Option Pt) (s : Nat) (A : Ad) (M : PSt) (h : StAt w ρ s A M) (t id : Int) (hv : 1 ≤ id ∧ id ≤ (M.N.length : Int)) :
    Calls Tryz.prog 113 #[.pointer (ndP A M id), .pointer (some ⟨A.c, 0, none⟩), .int .i64 t] w fun e w' => e = .returned (errI (clB M t id)) ∧ Fr No w w' := by
  obtain ⟨gk, hk, -⟩ := h.clock.row
  obtain ⟨L, hL⟩ : ∃ L, M.N[(id - 1).toNat]? = some L := ⟨_, List.getElem?_eq_getElem (by omega)⟩
  obtain ⟨g, hr, -⟩ := (h.cell _ L hL).row
  rw [show ndP A M id = some ⟨A.x (id - 1).toNat, 0, none⟩ from if_pos hv, show clB M t id = clashL M.K t L by unfold clB; rw [if_pos hv, hL]; rfl]
  exact check_any w _ g A.c gk M.K L hr (h.cell _ L hL).small hk h.clock.small.1 t
theorem any_take {α : Type} (f : α → Bool) (l : List α) (i : Nat) (x : α) (h : l[i]? = some x) : (l.take (i + 1)).any f = ((l.take i).any f || f x) := by
  rw [List.take_add_one, h, Option.toList_some, List.any_append]
  simp
def errN (b : Bool) : Int := if b then 6 else 0
theorem errI_N (b : Bool) : errI b = .int .i64 (errN b) := by cases b <;> rfl
def mayM (M : PSt) (t : Int) (b : Bool) : PSt := if b then abortM t M else M
set_option maxRecDepth 100000 in
set_option maxHeartbeats 4000000 in
theorem may_any (w : World) (ρ : Nat → Option Pt) (s : Nat) (A : Ad) (M : PSt) (h : StAt w ρ s A M) (t : Int) (hl : M.K.live t = true) (v : Value) (l : List Int) (hr : Rd w v l.length 1 (l.map iv)) (hlen : l.length ≤ 1000000) :
    Calls Tryz.prog 45 #[.pointer (some ⟨s, 0, none⟩), .int .i64 t, .int .i64 0, v] w fun e w' => e = .returned (.int .i64 (errN (l.any (clB M t)))) ∧ ∃ ρ', StAt w' ρ' s A (mayM M t (l.any (clB M t))) ∧ Gone (Go.Lig.Own ρ) w (Go.Lig.Own ρ') w' := by
  have HE := hid (edge_none w s h.cells.2.2.1 0)
  obtain ⟨ao, ca, rfl, -⟩ := rd_len hr
  have HH := hid (⟨h, hl, hr⟩ : _ ∧ _ ∧ _)
  generalize hne : l.length = n at *
  have HNe := hid hne
  clear h hl hr hne
  go_enter Tryz.func45, Tryz.ntmps45
  go_wp2_with (go_at_call 51; refine HE.out.mono ?_; rintro e w1 ⟨rfl, rfl⟩)
  go_loopw [9, 28] (fun ve vi wr => ∃ (i : Nat) (b : Bool), i ≤ n ∧ ve = .int .i64 (errN b) ∧ vi = .int .i64 (i : Int) ∧ Hid (b = (l.take i).any (clB M t) ∧ Fr No w wr)) (fun _ vi _ => n - (intOf vi).toNat)
  case atStart => exact ⟨0, false, Nat.zero_le _, rfl, rfl, by simp, Fr.refl _ _⟩
  case round =>
    obtain ⟨i, b, hi, rfl, rfl, HR⟩ := hrel
    have hwr := HH.out.1.frame HR.out.2
    obtain ⟨x0, -⟩ := hwr.cells
    by_cases hlt : i < n
    · obtain ⟨id0, hid0⟩ : ∃ id0, l[i]? = some id0 := ⟨_, List.getElem?_eq_getElem (by have := HNe.out; omega)⟩
      obtain ⟨ba, oa, ca', hva, hca⟩ := HH.out.2.2.at1 (k := i) (u := iv id0) (by simp [hid0])
      obtain ⟨rfl, rfl⟩ : ao = some ⟨ba, oa, none⟩ ∧ ca = ca' := by simpa using hva
      have c1 : wr.cell? ⟨ba, oa + i, none⟩ = some (.int .i64 id0) := hca wr HR.out.2
      have HN := hid (node_any wr ρ s A M hwr id0)
      have HC := hid (fun hv => stcheck wr ρ s A M hwr t id0 hv)
      have HA := hid (any_take (clB M t) l i id0 hid0)
      have hw : wrap64 ((i : Int) + 1) = (i : Int) + 1 := by unfold wrap64; omega
      clear hva hca hid0 hwr
      by_cases hv : 1 ≤ id0 ∧ id0 ≤ (M.N.length : Int)
      · have HC2 := hid (HC.out hv)
        rw [show ndP A M id0 = some ⟨A.x (id0 - 1).toNat, 0, none⟩ from if_pos hv] at HN HC2
        clear HC
        have HV := hid hv
        clear hv
        generalize A.x (id0 - 1).toNat = xb at *
        cases b with
        | false =>
          rw [show errN false = 0 from rfl]
          generalize hq : clB M t id0 = q at *
          rw [errI_N] at HC2
          have HQ := hid hq
          clear hq
          go_wp2_with (first | (go_at_call 48; refine HN.out.mono ?_; rintro e w2 ⟨rfl, rfl⟩) | (go_at_call 113; refine HC2.out.mono ?_; rintro e w2 ⟨rfl, f2⟩; have F2 := hid f2; clear f2))
          go_roundw
          case rel => exact ⟨i + 1, q, by omega, rfl, by go_num, by rw [HA.out, ← HR.out.1]; simp, HR.out.2.thenNo F2.out⟩
          case measure => simp [intOf]; omega
        | true =>
          rw [show errN true = 6 from rfl]
          go_wp2_with (first | (go_at_call 48; refine HN.out.mono ?_; rintro e w2 ⟨rfl, rfl⟩))
          go_roundw
          case rel => exact ⟨i + 1, true, by omega, rfl, by go_num, by rw [HA.out, ← HR.out.1]; simp, HR.out.2⟩
          case measure => simp [intOf]; omega
      · rw [show ndP A M id0 = none from if_neg hv] at HN
        have HQ := hid (clB_none (t := t) hv)
        clear hv HC
        go_wp2_with (first | (go_at_call 48; refine HN.out.mono ?_; rintro e w2 ⟨rfl, rfl⟩))
        go_roundw
        case rel => exact ⟨i + 1, b, by omega, rfl, by go_num, by rw [HA.out, ← HR.out.1, HQ.out]; simp, HR.out.2⟩
        case measure => simp [intOf]; omega
    · obtain rfl : i = n := by omega
      have hb : b = l.any (clB M t) := by rw [HR.out.1, List.take_of_length_le (by have := HNe.out; omega)]
      have HF := hid HR.out.2
      have HW := hid hwr
      clear HR hwr
      cases hbb : l.any (clB M t) with
      | false =>
        rw [hbb] at hb
        subst hb
        have HBB := hid hbb
        clear hbb
        rw [show errN false = 0 from rfl]
        go_wp2_with fail
        go_ret
        rw [HBB.out]
        exact ⟨rfl, ρ, HW.out, Gone.no HF.out⟩
      | true =>
        rw [hbb] at hb
        subst hb
        have HBB := hid hbb
        clear hbb
        rw [show errN true = 6 from rfl]
        have HB := hid (stabort_any wr ρ s A M HW.out t HH.out.2.1)
        go_wp2_with (go_at_call 9; refine HB.out.mono ?_; rintro e w2 ⟨rfl, ρ2, h2, g2⟩; have G2 := hid (⟨h2, g2⟩ : _ ∧ _); clear h2 g2)
        go_ret
        rw [HBB.out]
        exact ⟨rfl, ρ2, G2.out.1, (Gone.no HF.out).trans G2.out.2⟩
end Go.Proofs.YtofjbigojbnmfaaGreatDoor
