/- A part of the proof: contracts of functions of the program, for the row's text. -/
import Derived.Test.YtibfpkfpmkghhaaGreatDoorK34
import Derived.Test.YtibfpkfpmkghhaaGreatDoorK36
import Derived.Test.YtibfpkfpmkghhaaGreatDoorK01
import Derived.LaidMore
import Derived.Lay
import Derived.Stop.Joined
namespace Go.Proofs.YtibfpkfpmkghhaaGreatDoor
open Go.RowKit Go.Lig

def syA : NodeD := ⟨[⟨#[97]⟩], []⟩
def sy1 (p : PF) : PF := (opBegin p).2
def sy2 (p : PF) (i : Nat) : PF := (opAddNode (sy1 p) ((i : Int) + 3) true syA).2
def sy3 (p : PF) (i : Nat) : PF := if i = 1 then (opDropEdge (sy2 p i) ((i : Int) + 3) 1).2 else if i = 2 then (opDropNode (sy2 p i) ((i : Int) + 3) 1).2 else sy2 p i
def sy4 (p : PF) (i : Nat) : PF := (opCommit (sy3 p i) ((i : Int) + 3)).2
def sy5 (v : Bool) (p : PF) (i : Nat) : PF := if v then (opVac (sy4 p i)).2 else sy4 p i
def syS (v : Bool) : Nat → PF
  | 0 => p1
  | i + 1 => sy5 v (syS v i) i
/-- all that a round asks -/
def syC (v : Bool) (i : Nat) : Bool :=
  let p := syS v i
  decide ((opBegin p).1 = ((i : Int) + 3, 0)) && decide (p.2 < 1000000) && decide ((opAddNode (sy1 p) ((i : Int) + 3) true syA).1 = ((i : Int) + 3, 0)) && decide ((sy1 p).2 < 1000000) && rmAddNode (sy1 p) ((i : Int) + 3) true syA &&
  (if i = 1 then decide ((opDropEdge (sy2 p i) ((i : Int) + 3) 1).1 = 0) && rmDropEdge (sy2 p i) ((i : Int) + 3) 1 else if i = 2 then decide ((opDropNode (sy2 p i) ((i : Int) + 3) 1).1 = 0) && decide ((sy2 p i).2 < 1000000) && rmDropNode (sy2 p i) ((i : Int) + 3) 1 else true) &&
  decide ((opCommit (sy3 p i) ((i : Int) + 3)).1 = 0) && decide ((sy3 p i).2 < 1000000) && rmVac (sy4 p i)
/-- and what is read behind -/
def syD (v : Bool) (i : Nat) : Bool :=
  let p := syS v i
  decide (gNodes p.1 2 = [1, 2]) && decide (gEdges p.1 2 = [1]) && decide (gLabel p.1 2 ⟨#[97]⟩ = [1]) && decide (outM p.1 2 1 = [1]) && decide (inM p.1 2 2 = [1]) && decide (p.2 < 1000000)
theorem syC_all : ((List.range 10).all (syC true) && (List.range 10).all (syC false)) = true := by kernel_rfl
theorem syD_all : ((List.range 11).all (syD true) && (List.range 11).all (syD false)) = true := by kernel_rfl
theorem syC_ok (v : Bool) {i : Nat} (hi : i < 10) : syC v i = true := by
  have h := syC_all
  rw [Bool.and_eq_true] at h
  cases v with
  | true => exact List.all_eq_true.1 h.1 i (List.mem_range.2 hi)
  | false => exact List.all_eq_true.1 h.2 i (List.mem_range.2 hi)
theorem syD_ok (v : Bool) {i : Nat} (hi : i < 11) : syD v i = true := by
  have h := syD_all
  rw [Bool.and_eq_true] at h
  cases v with
  | true => exact List.all_eq_true.1 h.1 i (List.mem_range.2 hi)
  | false => exact List.all_eq_true.1 h.2 i (List.mem_range.2 hi)
theorem pair_of {α β γ : Type} {x : (α × β) × γ} {a : α} {b : β} (h : x.1 = (a, b)) : x = ((a, b), x.2) := by rw [← h]
theorem pair_of1 {α γ : Type} {x : α × γ} {a : α} (h : x.1 = a) : x = (a, x.2) := by rw [← h]
structure SyRound (v : Bool) (i : Nat) : Prop where
  b : opBegin (syS v i) = (((i : Int) + 3, 0), sy1 (syS v i))
  bs : decide ((syS v i).2 < 1000000) = true
  a : opAddNode (sy1 (syS v i)) ((i : Int) + 3) true ⟨[⟨#[97]⟩], []⟩ = (((i : Int) + 3, 0), sy2 (syS v i) i)
  asm : decide ((sy1 (syS v i)).2 < 1000000) = true
  ar : rmAddNode (sy1 (syS v i)) ((i : Int) + 3) true ⟨[⟨#[97]⟩], []⟩ = true
  d : i = 1 → opDropEdge (sy2 (syS v i) i) ((i : Int) + 3) 1 = (0, sy3 (syS v i) i) ∧ rmDropEdge (sy2 (syS v i) i) ((i : Int) + 3) 1 = true
  n : i = 2 → opDropNode (sy2 (syS v i) i) ((i : Int) + 3) 1 = (0, sy3 (syS v i) i) ∧ decide ((sy2 (syS v i) i).2 < 1000000) = true ∧ rmDropNode (sy2 (syS v i) i) ((i : Int) + 3) 1 = true
  o : i ≠ 1 → i ≠ 2 → sy2 (syS v i) i = sy3 (syS v i) i
  c : opCommit (sy3 (syS v i) i) ((i : Int) + 3) = (0, sy4 (syS v i) i)
  cs : decide ((sy3 (syS v i) i).2 < 1000000) = true
  v : rmVac (sy4 (syS v i) i) = true
theorem sy_round (v : Bool) {i : Nat} (hi : i < 10) : SyRound v i := by
  have h := syC_ok v hi
  unfold syC at h
  dsimp only at h
  simp only [Bool.and_eq_true] at h
  obtain ⟨⟨⟨⟨⟨⟨⟨⟨h1, h2⟩, h3⟩, h4⟩, h5⟩, h6⟩, h7⟩, h8⟩, h9⟩ := h
  refine ⟨pair_of (of_decide_eq_true h1), h2, pair_of (of_decide_eq_true h3), h4, h5, fun e => ?_, fun e => ?_, fun e1 e2 => ?_, pair_of1 (of_decide_eq_true h7), h8, h9⟩
  · rw [if_pos e, Bool.and_eq_true] at h6
    have e3 : sy3 (syS v i) i = (opDropEdge (sy2 (syS v i) i) ((i : Int) + 3) 1).2 := by unfold sy3; rw [if_pos e]
    rw [e3]
    exact ⟨pair_of1 (of_decide_eq_true h6.1), h6.2⟩
  · have e1 : i ≠ 1 := by omega
    rw [if_neg e1, if_pos e, Bool.and_eq_true, Bool.and_eq_true] at h6
    have e3 : sy3 (syS v i) i = (opDropNode (sy2 (syS v i) i) ((i : Int) + 3) 1).2 := by unfold sy3; rw [if_neg e1, if_pos e]
    rw [e3]
    exact ⟨pair_of1 (of_decide_eq_true h6.1.1), h6.1.2, h6.2⟩
  · unfold sy3
    rw [if_neg e1, if_neg e2]
theorem sy_next (i : Nat) : syS true (i + 1) = (opVac (sy4 (syS true i) i)).2 ∧ syS false (i + 1) = sy4 (syS false i) i := ⟨rfl, rfl⟩
structure SyEnd (v : Bool) (i : Nat) : Prop where
  rn : gNodes (syS v i).1 2 = [1, 2]
  re : gEdges (syS v i).1 2 = [1]
  rl : gLabel (syS v i).1 2 ⟨#[97]⟩ = [1]
  ro : outM (syS v i).1 2 1 = [1]
  ri : inM (syS v i).1 2 2 = [1]
  rs : decide ((syS v i).2 < 1000000) = true
theorem sy_end (v : Bool) {i : Nat} (hi : i < 11) : SyEnd v i := by
  have h := syD_ok v hi
  unfold syD at h
  dsimp only at h
  simp only [Bool.and_eq_true] at h
  obtain ⟨⟨⟨⟨⟨h1, h2⟩, h3⟩, h4⟩, h5⟩, h6⟩ := h
  exact ⟨of_decide_eq_true h1, of_decide_eq_true h2, of_decide_eq_true h3, of_decide_eq_true h4, of_decide_eq_true h5, h6⟩
end Go.Proofs.YtibfpkfpmkghhaaGreatDoor

namespace Go.Proofs.YtibfpkfpmkghhaaGreatDoor
open Go.RowKit Go.Lig

set_option maxRecDepth 100000 in
set_option maxHeartbeats 8000000 in
theorem stays_in (w : World) (n : Nat) (hn : n ≤ 10) (c : Bool) : Calls Tryz.prog 5 #[.int .i64 (n : Int), .bool c] w fun e w' => e = .returned (.bool true) ∧ Fr No w w' := by
  have hb1 : ¬ (n : Int) < 0 := by omega
  have hb2 : ¬ (10 : Int) < (n : Int) := by omega
  have HRs := hid (fun (i : Nat) (hi : i < 10) => sy_round c hi)
  go_enter Tryz.func5, Tryz.ntmps5
  go_wp2_with fail
  refine (own_two _).mono ?_
  rintro e w1 ⟨s, rfl, h1⟩
  have H1 := hid h1
  clear h1
  go_wp2_with fail
  refine (is_begin H1.out (i := 2) (e := 0) (q := p1) (by kernel_rfl) (by kernel_rfl)).mono ?_
  rintro e w2 ⟨rfl, h2⟩
  have H2 := hid h2
  clear h2
  go_wp2_with fail
  go_loopw [8] (fun vi wr => ∃ i : Nat, i ≤ n ∧ vi = .int .i64 (i : Int) ∧ Hid (OwS w wr s (syS c i))) (fun vi _ => n - (intOf vi).toNat)
  case atStart => exact ⟨0, Nat.zero_le _, rfl, H2.out⟩
  case round =>
    obtain ⟨i, hi, rfl, HO⟩ := hrel
    by_cases hlt : i < n
    · have HRo := hid (HRs.out i (by omega))
      go_wp2_with fail
      refine (is_begin HO.out (i := (i : Int) + 3) (e := 0) (q := sy1 (syS c i)) HRo.out.b HRo.out.bs).mono ?_
      rintro e w3 ⟨rfl, h3⟩
      have H3 := hid h3
      clear h3
      go_wp2_with fail
      refine (is_addnode1 H3.out (t := (i : Int) + 3) (i := (i : Int) + 3) (e := 0) (x := ⟨#[97]⟩) (q := sy2 (syS c i) i) HRo.out.a HRo.out.asm HRo.out.ar (by kernel_rfl)).mono ?_
      rintro e w4 ⟨rfl, h4⟩
      have H4 := hid h4
      clear h4
      by_cases h1 : i = 1
      · have e1 : ((i : Int) == 1) = true := by rw [beq_iff_eq]; omega
        have e2 : ((i : Int) == 2) = false := by rw [beq_eq_false_iff_ne]; omega
        have HD := hid (HRo.out.d h1)
        clear h1
        go_wp2_with fail
        refine (is_dropedge H4.out (t := (i : Int) + 3) (id := 1) (e := 0) (q := sy3 (syS c i) i) HD.out.1 HD.out.2).mono ?_
        rintro e w5 ⟨rfl, h5⟩
        have H5 := hid h5
        clear h5
        cases c with
        | true =>
          go_wp2_with (first | (go_at_call 12; go_must (refine (is_commit H5.out (t := (i : Int) + 3) (e := 0) (q := sy4 (syS true i) i) HRo.out.c HRo.out.cs).mono ?_); rintro e w6 ⟨rfl, h6⟩; have H6 := hid h6; clear h6) | (go_at_call 23; go_must (refine (x_vacuum H6.out HRo.out.v).mono ?_); rintro e w7 ⟨rfl, h7⟩; have H7 := hid h7; clear h7))
          go_roundw
          case rel => exact ⟨i + 1, by omega, by go_num, by rw [(sy_next i).1]; exact H7.out⟩
          case measure => simp [intOf]; omega
        | false =>
          go_wp2_with (first | (go_at_call 12; go_must (refine (is_commit H5.out (t := (i : Int) + 3) (e := 0) (q := sy4 (syS false i) i) HRo.out.c HRo.out.cs).mono ?_); rintro e w6 ⟨rfl, h6⟩; have H6 := hid h6; clear h6))
          go_roundw
          case rel => exact ⟨i + 1, by omega, by go_num, by rw [(sy_next i).2]; exact H6.out⟩
          case measure => simp [intOf]; omega
      · by_cases h2 : i = 2
        · have e1 : ((i : Int) == 1) = false := by rw [beq_eq_false_iff_ne]; omega
          have e2 : ((i : Int) == 2) = true := by rw [beq_iff_eq]; omega
          have HD := hid (HRo.out.n h2)
          clear h1 h2
          go_wp2_with fail
          refine (is_dropnode H4.out (t := (i : Int) + 3) (id := 1) (e := 0) (q := sy3 (syS c i) i) HD.out.1 HD.out.2.1 HD.out.2.2).mono ?_
          rintro e w5 ⟨rfl, h5⟩
          have H5 := hid h5
          clear h5
          cases c with
          | true =>
            go_wp2_with (first | (go_at_call 12; go_must (refine (is_commit H5.out (t := (i : Int) + 3) (e := 0) (q := sy4 (syS true i) i) HRo.out.c HRo.out.cs).mono ?_); rintro e w6 ⟨rfl, h6⟩; have H6 := hid h6; clear h6) | (go_at_call 23; go_must (refine (x_vacuum H6.out HRo.out.v).mono ?_); rintro e w7 ⟨rfl, h7⟩; have H7 := hid h7; clear h7))
            go_roundw
            case rel => exact ⟨i + 1, by omega, by go_num, by rw [(sy_next i).1]; exact H7.out⟩
            case measure => simp [intOf]; omega
          | false =>
            go_wp2_with (first | (go_at_call 12; go_must (refine (is_commit H5.out (t := (i : Int) + 3) (e := 0) (q := sy4 (syS false i) i) HRo.out.c HRo.out.cs).mono ?_); rintro e w6 ⟨rfl, h6⟩; have H6 := hid h6; clear h6))
            go_roundw
            case rel => exact ⟨i + 1, by omega, by go_num, by rw [(sy_next i).2]; exact H6.out⟩
            case measure => simp [intOf]; omega
        · have e1 : ((i : Int) == 1) = false := by rw [beq_eq_false_iff_ne]; omega
          have e2 : ((i : Int) == 2) = false := by rw [beq_eq_false_iff_ne]; omega
          have h5 := H4.out
          rw [HRo.out.o h1 h2] at h5
          have H5 := hid h5
          clear h1 h2 h5
          cases c with
          | true =>
            go_wp2_with (first | (go_at_call 12; go_must (refine (is_commit H5.out (t := (i : Int) + 3) (e := 0) (q := sy4 (syS true i) i) HRo.out.c HRo.out.cs).mono ?_); rintro e w6 ⟨rfl, h6⟩; have H6 := hid h6; clear h6) | (go_at_call 23; go_must (refine (x_vacuum H6.out HRo.out.v).mono ?_); rintro e w7 ⟨rfl, h7⟩; have H7 := hid h7; clear h7))
            go_roundw
            case rel => exact ⟨i + 1, by omega, by go_num, by rw [(sy_next i).1]; exact H7.out⟩
            case measure => simp [intOf]; omega
          | false =>
            go_wp2_with (first | (go_at_call 12; go_must (refine (is_commit H5.out (t := (i : Int) + 3) (e := 0) (q := sy4 (syS false i) i) HRo.out.c HRo.out.cs).mono ?_); rintro e w6 ⟨rfl, h6⟩; have H6 := hid h6; clear h6))
            go_roundw
            case rel => exact ⟨i + 1, by omega, by go_num, by rw [(sy_next i).2]; exact H6.out⟩
            case measure => simp [intOf]; omega
    · obtain rfl : i = n := by omega
      have HE := hid (sy_end c (i := i) (by omega))
      clear HRs
      go_wp2_with (first | (go_at_call 27; go_must (refine (is_nodes HO.out (t := 2) (l := [1, 2]) (n := 2) HE.out.rn rfl).mono ?_); rintro e w20 ⟨a20, c20, rfl, q20, h20⟩; have H20 := hid (⟨q20, h20⟩ : _ ∧ _); clear q20 h20) | (refine wpList_buildSlice2 rfl 35 3 (.const (.int .i64 1)) (.const (.int .i64 2)) rfl _ 8 Tryz.underlying35 infoInt (.int .i64 1) (.int .i64 2) rfl rfl rfl rfl ?_; intro w25 p25; have P25 := hid (show New [iv 1, iv 2].toArray 3 w20 w25 from p25); clear p25) | (go_at_call_of 14 (Value.slice a20 2 c20); go_must (refine (same_any w25 (.slice a20 2 c20) (.slice (some ⟨w20.heap.size, 0, none⟩) 2 2) [1, 2] [1, 2] (H20.out.1.next P25.out.fr).rd (Rd.block (cs := [iv 1, iv 2]) P25.out.at_ 2 1 2 rfl (by simp [iv, Value.oneCell']) (Nat.le_refl _) (by simp [maxLen]))).mono ?_); rintro e w21 ⟨rfl, f21⟩; rw [decide_eq_true (show ([1, 2] : List Int) = [1, 2] from rfl)]; have H21 := hid ((H20.out.2.next P25.out.fr).next f21); clear f21) | (go_at_call 24; go_must (refine (is_edges H21.out (t := 2) (l := [1]) (n := 1) HE.out.re rfl).mono ?_); rintro e w30 ⟨a30, c30, rfl, q30, h30⟩; have H30 := hid (⟨q30, h30⟩ : _ ∧ _); clear q30 h30) | (go_at_call_of 14 (Value.slice a30 1 c30); go_must (refine (same_any (w30.alloc (.cells [iv 1].toArray 3)) (.slice a30 1 c30) (.slice (some ⟨w30.heap.size, 0, none⟩) 1 1) [1] [1] (H30.out.1.next ((Fr.refl No w30).alloc _)).rd (Rd.block (cs := [iv 1]) (heap1 w30 _) 1 1 1 rfl (by simp [iv, Value.oneCell']) (Nat.le_refl _) (by simp [maxLen]))).mono ?_); rintro e w31 ⟨rfl, f31⟩; rw [decide_eq_true (show ([1] : List Int) = [1] from rfl)]; have H31 := hid ((H30.out.2.next ((Fr.refl No w30).alloc _)).next f31); clear f31) | (go_at_call 15; go_must (refine (is_label H31.out (t := 2) (x := ⟨#[97]⟩) (l := [1]) (n := 1) HE.out.rl rfl HE.out.rs).mono ?_); rintro e w40 ⟨a40, c40, rfl, q40, h40⟩; have H40 := hid (⟨q40, h40⟩ : _ ∧ _); clear q40 h40) | (go_at_call_of 14 (Value.slice a40 1 c40); go_must (refine (same_any (w40.alloc (.cells [iv 1].toArray 3)) (.slice a40 1 c40) (.slice (some ⟨w40.heap.size, 0, none⟩) 1 1) [1] [1] (H40.out.1.next ((Fr.refl No w40).alloc _)).rd (Rd.block (cs := [iv 1]) (heap1 w40 _) 1 1 1 rfl (by simp [iv, Value.oneCell']) (Nat.le_refl _) (by simp [maxLen]))).mono ?_); rintro e w41 ⟨rfl, f41⟩; rw [decide_eq_true (show ([1] : List Int) = [1] from rfl)]; have H41 := hid ((H40.out.2.next ((Fr.refl No w40).alloc _)).next f41); clear f41) | (go_at_call 28; go_must (refine (is_out H41.out (t := 2) (id := 1) (l := [1]) (n := 1) HE.out.ro rfl (by kernel_rfl) HE.out.rs).mono ?_); rintro e w50 ⟨a50, c50, rfl, q50, h50⟩; have H50 := hid (⟨q50, h50⟩ : _ ∧ _); clear q50 h50) | (go_at_call_of 14 (Value.slice a50 1 c50); go_must (refine (same_any (w50.alloc (.cells [iv 1].toArray 3)) (.slice a50 1 c50) (.slice (some ⟨w50.heap.size, 0, none⟩) 1 1) [1] [1] (H50.out.1.next ((Fr.refl No w50).alloc _)).rd (Rd.block (cs := [iv 1]) (heap1 w50 _) 1 1 1 rfl (by simp [iv, Value.oneCell']) (Nat.le_refl _) (by simp [maxLen]))).mono ?_); rintro e w51 ⟨rfl, f51⟩; rw [decide_eq_true (show ([1] : List Int) = [1] from rfl)]; have H51 := hid ((H50.out.2.next ((Fr.refl No w50).alloc _)).next f51); clear f51) | (go_at_call 29; go_must (refine (is_in H51.out (t := 2) (id := 2) (l := [1]) (n := 1) HE.out.ri rfl (by kernel_rfl) HE.out.rs).mono ?_); rintro e w60 ⟨a60, c60, rfl, q60, h60⟩; have H60 := hid (⟨q60, h60⟩ : _ ∧ _); clear q60 h60) | (go_at_call_of 14 (Value.slice a60 1 c60); go_must (refine (same_any (w60.alloc (.cells [iv 1].toArray 3)) (.slice a60 1 c60) (.slice (some ⟨w60.heap.size, 0, none⟩) 1 1) [1] [1] (H60.out.1.next ((Fr.refl No w60).alloc _)).rd (Rd.block (cs := [iv 1]) (heap1 w60 _) 1 1 1 rfl (by simp [iv, Value.oneCell']) (Nat.le_refl _) (by simp [maxLen]))).mono ?_); rintro e w61 ⟨rfl, f61⟩; rw [decide_eq_true (show ([1] : List Int) = [1] from rfl)]; have H61 := hid ((H60.out.2.next ((Fr.refl No w60).alloc _)).next f61); clear f61) | (go_at_call 13; refine (known_any _).mono ?_; rintro e w70 ⟨rfl, f70⟩; have F70 := hid (H61.out.fr.thenNo f70); clear f70))
      go_ret
      exact ⟨rfl, F70.out⟩
theorem stays_any (w : World) (n : Int) (c : Bool) : Calls Tryz.prog 5 #[.int .i64 n, .bool c] w fun e w' => e = .returned (.bool true) ∧ Fr No w w' := by
  by_cases h1 : n < 0
  · go_enter Tryz.func5, Tryz.ntmps5
    go_wp2_with fail
    go_ret
    exact ⟨rfl, Fr.refl _ _⟩
  by_cases h2 : 10 < n
  · go_enter Tryz.func5, Tryz.ntmps5
    go_wp2_with fail
    go_ret
    exact ⟨rfl, Fr.refl _ _⟩
  obtain ⟨k, rfl⟩ : ∃ k : Nat, n = (k : Int) := ⟨n.toNat, by omega⟩
  exact stays_in w k (by omega) c
end Go.Proofs.YtibfpkfpmkghhaaGreatDoor

namespace Go.Lig
open Go.RowKit Go.ChangeShapes Go.WideShapes Go.ChangeAt Go.Deep

theorem law_liftedT {C : Checked} {os : Os} {n : FuncId} {fn : Func} {s : ChangeSpec} {conds : List PathCond} {H : Type} {enc : TypeId × Value → H} {tb : TypeId} {laid : List (String × DataW Unit)} (own : ownKnob C.prog.godebug = none) (started : os.Started) (noInit : C.prog.inits.idxOf? n = none) (hfn : C.prog.funcs[n]? = some fn)
    (witness : ∃ (w : World) (tape : Tape) (i : Input), w.os = os ∧ (w.forCall tape i).Shaped C.prog ∧ i.vars = [] ∧ Input.okWide C.prog (w.forCall tape i) .any w.heap.size n i ∧
      ((s.pre enc C.prog fn conds false (w.forCall tape i).memory i.args ∧ laidMetH C.prog laid (w.forCall tape i).memory) ∧ sizedMet enc C.prog fn (OpenSpec.ofChange s) false (w.forCall tape i).memory i.args) ∧ Assume.holds {} C.prog (lone (Frame.enter C.prog n i.args .normal) [] (w.forCall tape i)))
    (hl : laidOutB C.prog = true) (hv : s.vars = []) (htb : C.prog.underlying tb = some .bool) (hr : fn.resultTypes = #[tb])
    (hts : ∀ t ∈ fn.params.toList, C.prog.readableRec t = true ∧ t < C.prog.types.size) (hspec : ∀ xs : List (DataW H), xs.length = fn.params.size → s.fn H xs = { results := [.lit (.bool true)], args := xs })
    (contract : ∀ (W : World) (base : Nat) (args : Array Value) (ds : List (DataW H)) (p : List MemPlace), (∀ (j : Nat) t v, fn.params[j]? = some t → args[j]? = some v → Value.okWide C.prog W .any base t v) →
      DataW.TrodAll enc C.prog W 0 (fun _ => true) true fn.params.toList args.toList ds p →
      Calls C.prog n args W fun e W' => e = .returned (.bool true) ∧ Below W.heap.size W W') :
    ReturnsInHanded {} C os n .any (fun w args => (s.pre enc C.prog fn conds false w args ∧ laidMetH C.prog laid w) ∧ sizedMet enc C.prog fn (OpenSpec.ofChange s) false w args) (s.post enc C.prog fn false true false false) := by
  refine returnsInHanded_of_change_and (C := C) (X := fun w _ => laidMetH C.prog laid w) (fun _ _ _ hh h => h.of_heap hh) own started noInit hfn witness ?_
  intro W base args ds gs before hval hW _ _ _ _
  obtain ⟨p, q, hA, _⟩ := id hW
  exact (contract W base args ds p hval hA).mono fun e W' ⟨he, hb⟩ => ⟨_, he, law_post hl hv htb hr hts hspec hW hb⟩
end Go.Lig
