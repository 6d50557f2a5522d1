/- A part of the proof: contracts of functions of the program, for the row's text. -/
import Derived.Test.YtfaapjcgmjjheaaGreatDoorK35
namespace Go.Proofs.YtfaapjcgmjjheaaGreatDoor
open Go.RowKit Go.Lig

def oN : ByteArray := ⟨#[110, 101, 119]⟩
def o3 : PF := (opAddNode p2 2 true ⟨[oN], []⟩).2
def o4 : PF := (opAddEdge o3 2 true ⟨3, 1, ⟨#[101]⟩, 0⟩).2
def o5 : Bool → PF
  | true => (opCommit o4 2).2
  | false => (opAbort o4 2).2
def o6 (c : Bool) : PF := (opBegin (o5 c)).2
def oL : Bool → List Int
  | true => [3]
  | false => []
def oI : Bool → List Int
  | true => [2]
  | false => []
theorem o6_f (c : Bool) : decide ((o6 c).2 < 1000000) = true := by cases c <;> kernel_rfl
theorem o6_l (c : Bool) : gLabel (o6 c).1 3 ⟨#[110, 101, 119]⟩ = [] ∧ gLabel (o6 c).1 4 ⟨#[110, 101, 119]⟩ = oL c ∧ inM (o6 c).1 4 1 = oI c := by cases c <;> exact ⟨by kernel_rfl, by kernel_rfl, by kernel_rfl⟩
set_option maxRecDepth 100000 in
set_option maxHeartbeats 4000000 in
theorem own_any (w : World) (c : Bool) : Calls Tryz.prog 4 #[.bool c] w fun e w' => e = .returned (.bool true) ∧ Fr No w w' := by
  go_enter Tryz.func4, Tryz.ntmps4
  go_wp2_with fail
  refine (own_two _).mono ?_
  rintro e w1 ⟨s, rfl, h1⟩
  have H1 := hid h1
  clear h1
  go_wp2_with fail
  refine (is_begin H1.out (i := 2) (e := 0) (q := p1) (by kernel_rfl) (by kernel_rfl)).mono ?_
  rintro e w2 ⟨rfl, h2⟩
  have H2 := hid h2
  clear h2
  go_wp2_with fail
  refine (is_begin H2.out (i := 3) (e := 0) (q := p2) (by kernel_rfl) (by kernel_rfl)).mono ?_
  rintro e w3 ⟨rfl, h3⟩
  have H3 := hid h3
  clear h3
  go_wp2_with fail
  refine (is_addnode1 H3.out (t := 2) (i := 3) (e := 0) (x := ⟨#[110, 101, 119]⟩) (q := o3) (by kernel_rfl) (by kernel_rfl) (by kernel_rfl) (by kernel_rfl)).mono ?_
  rintro e w4 ⟨rfl, h4⟩
  have H4 := hid h4
  clear h4
  go_wp2_with fail
  refine (is_addedge H4.out (t := 2) (i := 2) (e := 0) (q := o4) (by kernel_rfl) (by kernel_rfl) (by kernel_rfl) (fun u => weight_zero u)).mono ?_
  rintro e w5 ⟨rfl, h5⟩
  have H5 := hid h5
  clear h5
  cases c with
  | true =>
    go_wp2_with (first | (go_at_call_of 20 (Value.int .i64 2); go_must (refine (is_label H5.out (t := 2) (x := ⟨#[110, 101, 119]⟩) (l := [3]) (n := 1) (by kernel_rfl) rfl (by kernel_rfl)).mono ?_); rintro e w20 ⟨a20, c20, rfl, q20, h20⟩; have H20 := hid (⟨q20, h20⟩ : _ ∧ _); clear q20 h20) | (go_at_call_of 19 (Value.slice a20 1 c20); go_must (refine (same_any (w20.alloc (.cells [iv 3].toArray 3)) (.slice a20 1 c20) (.slice (some ⟨w20.heap.size, 0, none⟩) 1 1) [3] [3] (H20.out.1.next ((Fr.refl No w20).alloc _)).rd (Rd.block (cs := [iv 3]) (heap1 w20 _) 1 1 1 rfl (by simp [iv, Value.oneCell']) (Nat.le_refl _) (by simp [maxLen]))).mono ?_); rintro e w22 ⟨rfl, f22⟩; rw [decide_eq_true (show ([3] : List Int) = [3] from rfl)]; have H22 := hid ((H20.out.2.next ((Fr.refl No w20).alloc _)).next f22); clear f22) | (go_at_call_of 21 (Value.int .i64 2); go_must (refine (is_in H22.out (t := 2) (id := 1) (l := [2]) (n := 1) (by kernel_rfl) rfl (by kernel_rfl) (by kernel_rfl)).mono ?_); rintro e w30 ⟨a30, c30, rfl, q30, h30⟩; have H30 := hid (⟨q30, h30⟩ : _ ∧ _); clear q30 h30) | (go_at_call_of 19 (Value.slice a30 1 c30); go_must (refine (same_any (w30.alloc (.cells [iv 2].toArray 3)) (.slice a30 1 c30) (.slice (some ⟨w30.heap.size, 0, none⟩) 1 1) [2] [2] (H30.out.1.next ((Fr.refl No w30).alloc _)).rd (Rd.block (cs := [iv 2]) (heap1 w30 _) 1 1 1 rfl (by simp [iv, Value.oneCell']) (Nat.le_refl _) (by simp [maxLen]))).mono ?_); rintro e w32 ⟨rfl, f32⟩; rw [decide_eq_true (show ([2] : List Int) = [2] from rfl)]; have H32 := hid ((H30.out.2.next ((Fr.refl No w30).alloc _)).next f32); clear f32) | (go_at_call_of 20 (Value.int .i64 3); with_reducible (refine (is_label H32.out (t := 3) (x := ⟨#[110, 101, 119]⟩) (l := []) (n := 0) (by kernel_rfl) rfl (by kernel_rfl)).mono ?_); rintro e w40 ⟨a40, c40, rfl, q40, h40⟩; have H40 := hid h40; clear q40 h40) | (go_at_call_of 21 (Value.int .i64 3); go_must (refine (is_in H40.out (t := 3) (id := 1) (l := []) (n := 0) (by kernel_rfl) rfl (by kernel_rfl) (by kernel_rfl)).mono ?_); rintro e w6 ⟨a50, c50, rfl, q50, h50⟩; have H6 := hid h50; clear q50 h50) | (go_at_call 13; go_must (refine (is_commit H6.out (t := 2) (e := 0) (q := o5 true) (by kernel_rfl) (by kernel_rfl)).mono ?_); rintro e w7 ⟨rfl, h7⟩; have H7 := hid h7; clear h7) | (go_at_call 22; go_must (refine (is_abort H6.out (t := 2) (e := 0) (q := o5 false) (by kernel_rfl) (by kernel_rfl)).mono ?_); rintro e w7 ⟨rfl, h7⟩; have H7 := hid h7; clear h7) | (go_at_call 10; go_must (refine (is_begin H7.out (i := 4) (e := 0) (q := o6 true) (by kernel_rfl) (by kernel_rfl)).mono ?_); rintro e w8 ⟨rfl, h8⟩; have H8 := hid h8; clear h8) | (go_at_call_of 20 (Value.int .i64 3); with_reducible (refine (is_label H8.out (t := 3) (x := ⟨#[110, 101, 119]⟩) (l := []) (n := 0) (o6_l true).1 rfl (o6_f true)).mono ?_); rintro e w20 ⟨a20, c20, rfl, q20, h20⟩; have H20 := hid h20; clear q20 h20) | (go_at_call_of 20 (Value.int .i64 4); go_must (refine (is_label H20.out (t := 4) (x := ⟨#[110, 101, 119]⟩) (l := oL true) (n := 1) (o6_l true).2.1 rfl (o6_f true)).mono ?_); rintro e w30 ⟨a30, c30, rfl, q30, h30⟩; have H30 := hid h30; clear q30 h30) | (go_at_call 21; go_must (refine (is_in H30.out (t := 4) (id := 1) (l := oI true) (n := 1) (o6_l true).2.2 rfl (by kernel_rfl) (o6_f true)).mono ?_); rintro e w40 ⟨a40, c40, rfl, q40, h40⟩; have H40 := hid h40; clear q40 h40) | (go_at_call 16; refine (known_any _).mono ?_; rintro e w50 ⟨rfl, f50⟩; have F50 := hid (H40.out.fr.thenNo f50); clear f50))
    go_ret
    exact ⟨rfl, F50.out⟩
  | false =>
    go_wp2_with (first | (go_at_call_of 20 (Value.int .i64 2); go_must (refine (is_label H5.out (t := 2) (x := ⟨#[110, 101, 119]⟩) (l := [3]) (n := 1) (by kernel_rfl) rfl (by kernel_rfl)).mono ?_); rintro e w20 ⟨a20, c20, rfl, q20, h20⟩; have H20 := hid (⟨q20, h20⟩ : _ ∧ _); clear q20 h20) | (go_at_call_of 19 (Value.slice a20 1 c20); go_must (refine (same_any (w20.alloc (.cells [iv 3].toArray 3)) (.slice a20 1 c20) (.slice (some ⟨w20.heap.size, 0, none⟩) 1 1) [3] [3] (H20.out.1.next ((Fr.refl No w20).alloc _)).rd (Rd.block (cs := [iv 3]) (heap1 w20 _) 1 1 1 rfl (by simp [iv, Value.oneCell']) (Nat.le_refl _) (by simp [maxLen]))).mono ?_); rintro e w22 ⟨rfl, f22⟩; rw [decide_eq_true (show ([3] : List Int) = [3] from rfl)]; have H22 := hid ((H20.out.2.next ((Fr.refl No w20).alloc _)).next f22); clear f22) | (go_at_call_of 21 (Value.int .i64 2); go_must (refine (is_in H22.out (t := 2) (id := 1) (l := [2]) (n := 1) (by kernel_rfl) rfl (by kernel_rfl) (by kernel_rfl)).mono ?_); rintro e w30 ⟨a30, c30, rfl, q30, h30⟩; have H30 := hid (⟨q30, h30⟩ : _ ∧ _); clear q30 h30) | (go_at_call_of 19 (Value.slice a30 1 c30); go_must (refine (same_any (w30.alloc (.cells [iv 2].toArray 3)) (.slice a30 1 c30) (.slice (some ⟨w30.heap.size, 0, none⟩) 1 1) [2] [2] (H30.out.1.next ((Fr.refl No w30).alloc _)).rd (Rd.block (cs := [iv 2]) (heap1 w30 _) 1 1 1 rfl (by simp [iv, Value.oneCell']) (Nat.le_refl _) (by simp [maxLen]))).mono ?_); rintro e w32 ⟨rfl, f32⟩; rw [decide_eq_true (show ([2] : List Int) = [2] from rfl)]; have H32 := hid ((H30.out.2.next ((Fr.refl No w30).alloc _)).next f32); clear f32) | (go_at_call_of 20 (Value.int .i64 3); with_reducible (refine (is_label H32.out (t := 3) (x := ⟨#[110, 101, 119]⟩) (l := []) (n := 0) (by kernel_rfl) rfl (by kernel_rfl)).mono ?_); rintro e w40 ⟨a40, c40, rfl, q40, h40⟩; have H40 := hid h40; clear q40 h40) | (go_at_call_of 21 (Value.int .i64 3); go_must (refine (is_in H40.out (t := 3) (id := 1) (l := []) (n := 0) (by kernel_rfl) rfl (by kernel_rfl) (by kernel_rfl)).mono ?_); rintro e w6 ⟨a50, c50, rfl, q50, h50⟩; have H6 := hid h50; clear q50 h50) | (go_at_call 13; go_must (refine (is_commit H6.out (t := 2) (e := 0) (q := o5 true) (by kernel_rfl) (by kernel_rfl)).mono ?_); rintro e w7 ⟨rfl, h7⟩; have H7 := hid h7; clear h7) | (go_at_call 22; go_must (refine (is_abort H6.out (t := 2) (e := 0) (q := o5 false) (by kernel_rfl) (by kernel_rfl)).mono ?_); rintro e w7 ⟨rfl, h7⟩; have H7 := hid h7; clear h7) | (go_at_call 10; go_must (refine (is_begin H7.out (i := 4) (e := 0) (q := o6 false) (by kernel_rfl) (by kernel_rfl)).mono ?_); rintro e w8 ⟨rfl, h8⟩; have H8 := hid h8; clear h8) | (go_at_call_of 20 (Value.int .i64 3); with_reducible (refine (is_label H8.out (t := 3) (x := ⟨#[110, 101, 119]⟩) (l := []) (n := 0) (o6_l false).1 rfl (o6_f false)).mono ?_); rintro e w20 ⟨a20, c20, rfl, q20, h20⟩; have H20 := hid h20; clear q20 h20) | (go_at_call_of 20 (Value.int .i64 4); go_must (refine (is_label H20.out (t := 4) (x := ⟨#[110, 101, 119]⟩) (l := oL false) (n := 0) (o6_l false).2.1 rfl (o6_f false)).mono ?_); rintro e w30 ⟨a30, c30, rfl, q30, h30⟩; have H30 := hid h30; clear q30 h30) | (go_at_call 21; go_must (refine (is_in H30.out (t := 4) (id := 1) (l := oI false) (n := 0) (o6_l false).2.2 rfl (by kernel_rfl) (o6_f false)).mono ?_); rintro e w40 ⟨a40, c40, rfl, q40, h40⟩; have H40 := hid h40; clear q40 h40) | (go_at_call 16; refine (known_any _).mono ?_; rintro e w50 ⟨rfl, f50⟩; have F50 := hid (H40.out.fr.thenNo f50); clear f50))
    go_ret
    exact ⟨rfl, F50.out⟩
end Go.Proofs.YtfaapjcgmjjheaaGreatDoor
