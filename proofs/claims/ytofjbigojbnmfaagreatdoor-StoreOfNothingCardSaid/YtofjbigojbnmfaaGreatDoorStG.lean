/- The plain store: Abort, Nodes. -/
import Derived.Test.YtofjbigojbnmfaaGreatDoorStF
namespace Go.Proofs.YtofjbigojbnmfaaGreatDoor
open Go.RowKit Go.Lig

def abortM (t : Int) (M : PSt) : PSt := { K := M.K.abort t, N := M.N.map (undoL t) }
def midN (t : Int) (N : List (List (Ver NodeV))) (i : Nat) : List (List (Ver NodeV)) := (N.take i).map (undoL t) ++ N.drop i
theorem midN_len (t : Int) (N : List (List (Ver NodeV))) (i : Nat) (hi : i ≤ N.length) : (midN t N i).length = N.length := by simp [midN]; omega
theorem midN_get {t : Int} {N : List (List (Ver NodeV))} {i : Nat} (hi : i < N.length) : (midN t N i)[i]? = N[i]? := by
  unfold midN
  rw [List.getElem?_append_right (by simp; omega), List.getElem?_drop]
  congr 1
  simp
  omega
theorem midN_set {t : Int} {N : List (List (Ver NodeV))} {i : Nat} {L : List (Ver NodeV)} (hL : N[i]? = some L) : (midN t N i).set i (undoL t L) = midN t N (i + 1) := by
  have hi := (List.getElem?_eq_some_iff.1 hL).1
  unfold midN
  rw [List.set_append_right _ _ (by simp; omega), List.take_add_one, hL, Option.toList_some, List.map_append]
  have e : i - ((N.take i).map (undoL t)).length = 0 := by simp; omega
  rw [e, List.drop_eq_getElem_cons hi, List.set_cons_zero, List.append_assoc]
  rfl
theorem undoL_plain {t : Int} {L : List (Ver NodeV)} (h : ∀ y ∈ L, y.v = NodeV.none) : ∀ y ∈ undoL t L, y.v = NodeV.none := fun y hy => h y (List.mem_filter.1 hy).1
theorem undo_step {w w' : World} {ρ : Nat → Option Pt} {s : Nat} {A : Ad} {K : Ck} {t : Int} {N : List (List (Ver NodeV))} {i : Nat} {L : List (Ver NodeV)} (h : StAt w ρ s A ⟨K, midN t N i⟩) (hL : N[i]? = some L) (k : CellAt w' (At ρ (.node i)) (A.x i) (undoL t L)) (f : Fr (At ρ (.node i)) w w') :
    ∃ ρ', StAt w' ρ' s A ⟨K, midN t N (i + 1)⟩ ∧ Gone (Go.Lig.Own ρ) w (Go.Lig.Own ρ') w' := by
  have hi := (List.getElem?_eq_some_iff.1 hL).1
  have tr : Trn w w' ρ (.node i) (At ρ (.node i)) := ⟨f, Grown.refl _ _, k.bound⟩
  have hm : i < (midN t N i).length := by rw [midN_len _ _ _ (by omega)]; exact hi
  have h3 := h.node_ tr hm k (undoL_plain (h.plain L (List.mem_of_getElem? ((midN_get hi).trans hL))))
  rw [← midN_set hL]
  exact ⟨_, h3, gone_turn tr⟩
theorem clock_step {w w' : World} {ρ : Nat → Option Pt} {s : Nat} {A : Ad} {M : PSt} {K' : Ck} (h : StAt w ρ s A M) (k : ClockAt w' (At ρ .clock) A.c K') (f : Fr (At ρ .clock) w w') : ∃ ρ', StAt w' ρ' s A { M with K := K' } ∧ Gone (Go.Lig.Own ρ) w (Go.Lig.Own ρ') w' := by
  have tr : Trn w w' ρ .clock (At ρ .clock) := ⟨f, Grown.refl _ _, k.bound⟩
  exact ⟨_, h.clock_ tr k, gone_turn tr⟩
set_option maxRecDepth 100000 in
set_option maxHeartbeats 4000000 in
theorem stabort_any (w : World) (ρ : Nat → Option Pt) (s : Nat) (A : Ad) (M : PSt) (h : StAt w ρ s A M) (t : Int) (hl : M.K.live t = true) :
    Calls Tryz.prog 9 #[.pointer (some ⟨s, 0, none⟩), .int .i64 t] w fun e w' => e = .returned (.int .i64 0) ∧ ∃ ρ', StAt w' ρ' s A (abortM t M) ∧ Gone (Go.Lig.Own ρ) w (Go.Lig.Own ρ') w' := by
  have HC := hid (abort_ok w (At ρ .clock) A.c M.K h.clock t hl)
  obtain ⟨x0, -⟩ := h.cells
  have HH := hid h
  obtain ⟨a1, c1, hnv⟩ := ownsRow_slice h.nrow
  have HV := hid hnv
  have HS := hid h.small
  clear h hl hnv
  go_enter Tryz.func9, Tryz.ntmps9
  go_wp2_with (go_at_call 38; refine HC.out.mono ?_; rintro e w1 ⟨rfl, k1, f1⟩; obtain ⟨ρ1, h1, g1⟩ := clock_step HH.out k1 f1; have G1 := hid (⟨h1, g1⟩ : _ ∧ _); have x1 := h1.cells.2.1; rw [HV.out] at x1; clear k1 f1 h1 g1)
  generalize hNe : M.N.length = n at *
  have HNe := hid hNe
  have hn6 : n ≤ 1000000 := HS.out
  clear hNe
  go_loopw [26] (fun vi wr => ∃ i : Nat, i ≤ n ∧ vi = .int .i64 (i : Int) ∧ Hid (∃ ρ', StAt wr ρ' s A ⟨M.K.abort t, midN t M.N i⟩ ∧ Gone (Go.Lig.Own ρ) w (Go.Lig.Own ρ') wr)) (fun vi _ => n - (intOf vi).toNat)
  case atStart => exact ⟨0, Nat.zero_le _, rfl, _, by simpa [midN] using G1.out.1, G1.out.2⟩
  case round =>
    obtain ⟨i, hi, rfl, HI⟩ := hrel
    by_cases hlt : i < n
    · obtain ⟨ρ2, h2, g2⟩ := HI.out
      have hiN : i < M.N.length := by have := HNe.out; omega
      obtain ⟨L, hL⟩ : ∃ L, M.N[i]? = some L := ⟨_, List.getElem?_eq_getElem hiN⟩
      have hml : (midN t M.N i).length = n := by rw [midN_len _ _ _ (by omega)]; exact HNe.out
      have hL2 : (midN t M.N i)[i]? = some L := (midN_get hiN).trans hL
      have hr2 := h2.nrow
      rw [HV.out] at hr2
      simp only [hml] at hr2
      obtain ⟨gr, cur, rfl, -, -⟩ := owns_at hr2 (by omega)
      have hc := owns_cell hr2 rfl (ptrs_get A.x n i hlt)
      have HU := hid (undo_any wr (At ρ2 (.node i)) (A.x i) L (h2.cell i L hL2) t)
      have hw : wrap64 ((i : Int) + 1) = (i : Int) + 1 := by unfold wrap64; omega
      have hm2 : i < (midN t M.N (i + 1)).length := by rw [midN_len _ _ _ (by omega)]; exact hiN
      have H2 := hid (⟨h2, g2, hL, hL2, hml, hm2⟩ : _ ∧ _ ∧ _ ∧ _ ∧ _ ∧ _)
      clear h2 g2 hL hL2 hml hr2 hiN hm2
      go_wp2_with (first | (go_at_call 39; refine HU.out.mono ?_; rintro e w3 ⟨rfl, k3, f3⟩; obtain ⟨ρ3, h3, g3⟩ := undo_step H2.out.1 H2.out.2.2.1 k3 f3; have G3 := hid (⟨h3, H2.out.2.1.trans g3⟩ : _ ∧ _); clear k3 f3 h3 g3) | (go_at_call 40; refine (finds_any w3 ρ3 s A ⟨M.K.abort t, midN t M.N (i + 1)⟩ G3.out.1 i H2.out.2.2.2.2.2).mono ?_; rintro e w4 ⟨rfl, h4, f4⟩; have G4 := hid (⟨h4, G3.out.2.trans ⟨f4, Grown.refl _ _⟩⟩ : _ ∧ _); clear h4 f4))
      go_roundw
      case rel => exact ⟨i + 1, by omega, by go_num, _, G4.out⟩
      case measure => simp [intOf]; omega
    · obtain rfl : i = n := by omega
      obtain ⟨ρ2, h2, g2⟩ := HI.out
      have hm : midN t M.N i = M.N.map (undoL t) := by unfold midN; rw [List.take_of_length_le (by have := HNe.out; omega), List.drop_eq_nil_of_le (by have := HNe.out; omega), List.append_nil]
      rw [hm] at h2
      have x2 := h2.cells.2.2.1
      have H2 := hid (⟨h2, g2⟩ : _ ∧ _)
      clear h2 g2 hm
      obtain ⟨wo, hwo⟩ : ∃ wo : World, wo = wr := ⟨_, rfl⟩
      go_wp2_with fail
      go_loopw [44] (fun vi wr => vi = .int .i64 0 ∧ wr = wo) (fun _ _ => 0)
      case atStart => exact ⟨rfl, hwo.symm⟩
      case round =>
        obtain ⟨rfl, rfl⟩ := hrel
        subst hwo
        go_wp2_with fail
        go_ret
        exact ⟨rfl, ρ2, H2.out⟩
end Go.Proofs.YtofjbigojbnmfaaGreatDoor
