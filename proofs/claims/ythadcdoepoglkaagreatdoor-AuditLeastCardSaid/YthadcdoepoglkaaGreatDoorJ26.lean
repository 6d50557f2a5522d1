/- A part of the proof: contracts of functions of the program, for the row's text. -/
import Derived.Test.YthadcdoepoglkaaGreatDoorJ25
import Derived.Test.YthadcdoepoglkaaGreatDoorJ19
import Derived.Test.YthadcdoepoglkaaGreatDoorJ24
namespace Go.Proofs.YthadcdoepoglkaaGreatDoor
open Go.RowKit Go.Lig
def wgeB (x : Nat) : Bool := (FloatKind.f64.format.order x 0 == some .gt) || (FloatKind.f64.format.order x 0 == some .eq)
def isEdgeB (v : EdgeV) : Bool := decide (1 ≤ v.from_ ∧ v.from_ ≤ 24) && (decide (1 ≤ v.to_ ∧ v.to_ ≤ 24) && (isNameB v.type && wgeB v.w))
theorem weight_any (w : World) (x : Nat) : Calls Tryz.prog 122 #[.float FloatKind.f64 x] w fun e w' => e = .returned (.bool (wgeB x)) ∧ w = w' := weight_of w _ _ (fun u => rfl)
set_option maxHeartbeats 2000000 in
theorem isedge_any (w : World) (v : EdgeV) (hl : v.type.size ≤ maxLen) :
  Calls Tryz.prog 57 #[.agg #[.int .i64 v.from_, .int .i64 v.to_, .string v.type, .float .f64 v.w]] w fun e w' => e = .returned (.bool (isEdgeB v)) ∧ Fr No w w' := by
 obtain ⟨ef, et, ey, ew⟩ := v
 dsimp only at hl ⊢
 have HE : Hid (isEdgeB ⟨ef, et, ey, ew⟩ = (decide (1 ≤ ef ∧ ef ≤ 24) && (decide (1 ≤ et ∧ et ≤ 24) && (isNameB ey && wgeB ew)))) := hid rfl
 generalize isEdgeB ⟨ef, et, ey, ew⟩ = r at *
 have HI1 := hid (fun W => isin_any W ef 1 24)
 have HI2 := hid (fun W => isin_any W et 1 24)
 have HS := hid (fun W => isname_any W ey hl)
 have HX := hid (fun W => weight_any W ew)
 generalize decide (1 ≤ ef ∧ ef ≤ 24) = b1 at *
 generalize decide (1 ≤ et ∧ et ≤ 24) = b2 at *
 generalize isNameB ey = b3 at *
 generalize wgeB ew = b4 at *
 clear hl
 have hb := heap1 w (.cells #[.int .i64 ef, .int .i64 et, .string ey, .float .f64 ew] 48)
 obtain ⟨c0, c1, c2, c3⟩ := cells4 hb
 have hf : Hid (Fr No w (w.alloc (.cells #[.int .i64 ef, .int .i64 et, .string ey, .float .f64 ew] 48))) := hid ((Fr.refl No w).alloc _)
 go_enter Tryz.func57, Tryz.ntmps57
 cases b1 with
 | false =>
  go_wp2_with (go_at_call 120; (with_reducible refine (HI1.out _).mono ?_); rintro e w' ⟨rfl, rfl⟩)
  go_ret
  exact ⟨by rw [HE.out]; rfl, hf.out⟩
 | true =>
  cases b2 with
  | false =>
   go_wp2_with (go_at_call 120; (first | with_reducible refine (HI1.out _).mono ?_ | with_reducible refine (HI2.out _).mono ?_); rintro e w' ⟨rfl, rfl⟩)
   go_ret
   exact ⟨by rw [HE.out]; rfl, hf.out⟩
  | true =>
   cases b3 with
   | false =>
    go_wp2_with (first | (go_at_call 120; (first | with_reducible refine (HI1.out _).mono ?_ | with_reducible refine (HI2.out _).mono ?_); rintro e w' ⟨rfl, rfl⟩) | (go_at_call 121; refine (HS.out _).mono ?_; rintro e w2 ⟨rfl, f2⟩; have F2 := hid (hf.out.thenNo f2); clear f2))
    go_ret
    exact ⟨by rw [HE.out]; rfl, F2.out⟩
   | true =>
    go_wp2_with (first | (go_at_call 120; (first | with_reducible refine (HI1.out _).mono ?_ | with_reducible refine (HI2.out _).mono ?_); rintro e w' ⟨rfl, rfl⟩) | (go_at_call 121; refine (HS.out _).mono ?_; rintro e w2 ⟨rfl, f2⟩; have F2 := hid (hf.out.thenNo f2); have c4 := (cells4 (f2.keep hb (fun e => e))).2.2.2; clear f2) | (go_at_call 122; refine (HX.out _).mono ?_; rintro e w3 ⟨rfl, rfl⟩))
    go_ret
    exact ⟨by rw [HE.out]; rfl, F2.out⟩
end Go.Proofs.YthadcdoepoglkaaGreatDoor
namespace Go.Proofs.YthadcdoepoglkaaGreatDoor
open Go.RowKit Go.Lig
set_option maxRecDepth 100000 in
theorem rnan_any (w : World) : Calls Tryz.prog 162 #[] w fun e w' => e = .returned (.float .f64 9221120237041090560) ∧ w = w' := by
 have hfb : (callFunc 204 #[.int .u64 9221120237041090560]).run Tryz.prog w = .ok (.value (.float .f64 9221120237041090560)) w := by
  rw [run_callFunc_extern Tryz.func204 (by kernel_rfl) (by kernel_rfl) (by kernel_rfl) (e := Extern.MathFloatBits.float64frombits) (by kernel_rfl)]
  rfl
 go_enter Tryz.func162, Tryz.ntmps162
 go_wp2_with fail
 go_ret
 exact ⟨rfl, rfl⟩
set_option maxRecDepth 100000 in
theorem rnorm_any (w : World) (a : Nat) : Calls Tryz.prog 93 #[.float .f64 a] w fun e w' => e = .returned (.float .f64 (normF a)) ∧ w = w' := by
 unfold normF
 cases hn : nanF a with
 | true =>
  have h1 : (FloatKind.f64.format.order a a != some Ordering.eq) = true := hn
  go_enter Tryz.func93, Tryz.ntmps93
  go_wp2_with (go_at_call 162; refine (rnan_any _).mono ?_; rintro e w1 ⟨rfl, rfl⟩)
  go_ret
  exact ⟨rfl, rfl⟩
 | false =>
  have h1 : (FloatKind.f64.format.order a a != some Ordering.eq) = false := hn
  go_enter Tryz.func93, Tryz.ntmps93
  go_wp2_with (go_at_call 162; refine (rnan_any _).mono ?_; rintro e w1 ⟨rfl, rfl⟩)
  go_ret
  exact ⟨rfl, rfl⟩
theorem rsame_any (w : World) (a b : Nat) : Calls Tryz.prog 92 #[.float .f64 a, .float .f64 b] w fun e w' => e = .returned (.bool (decide (a = b))) ∧ w = w' := by
 have ha := bits_run w a
 have hb := bits_run w b
 have e1 : decide (a = b) = (((a : Nat) : Int) == ((b : Nat) : Int)) := by
  by_cases h : a = b
  ·subst h; simp
  ·rw [decide_eq_false h]; symm; rw [beq_eq_false_iff_ne]; omega
 rw [e1]
 go_enter Tryz.func92, Tryz.ntmps92
 go_wp2_with fail
 go_ret
 exact ⟨rfl, rfl⟩
theorem rweight_any (w : World) (x : Nat) : Calls Tryz.prog 68 #[.float FloatKind.f64 x] w fun e w' => e = .returned (.bool (wgeB x)) ∧ w = w' := by
 unfold wgeB
 go_enter Tryz.func68, Tryz.ntmps68
 go_wp2_with fail
 go_ret
 exact ⟨rfl, rfl⟩
set_option maxHeartbeats 2000000 in
theorem risedge_any (w : World) (v : EdgeV) (hl : v.type.size ≤ 140737488355328) :
  Calls Tryz.prog 30 #[.agg #[.int .i64 v.from_, .int .i64 v.to_, .string v.type, .float .f64 v.w]] w fun e w' => e = .returned (.bool (isEdgeB v)) ∧ Fr No w w' := by
 obtain ⟨ef, et, ey, ew⟩ := v
 dsimp only at hl ⊢
 have HE : Hid (isEdgeB ⟨ef, et, ey, ew⟩ = (decide (1 ≤ ef ∧ ef ≤ 24) && (decide (1 ≤ et ∧ et ≤ 24) && (isNameB ey && wgeB ew)))) := hid rfl
 generalize isEdgeB ⟨ef, et, ey, ew⟩ = r at *
 have HS := hid (fun W => rname_any W ey hl)
 have HX := hid (fun W => rweight_any W ew)
 generalize isNameB ey = b3 at *
 generalize wgeB ew = b4 at *
 clear hl
 by_cases h1 : 1 ≤ ef
 ·by_cases h2 : ef ≤ 24
  ·rw [decide_eq_true (⟨h1, h2⟩ : 1 ≤ ef ∧ ef ≤ 24), Bool.true_and] at HE
   by_cases h3 : 1 ≤ et
   ·by_cases h4 : et ≤ 24
    ·rw [decide_eq_true (⟨h3, h4⟩ : 1 ≤ et ∧ et ≤ 24), Bool.true_and] at HE
     cases b3 with
     | false =>
      have hb := heap1 w (.cells #[.int .i64 ef, .int .i64 et, .string ey, .float .f64 ew] 48)
      obtain ⟨c0, c1, c2, c3⟩ := cells4 hb
      have hf : Hid (Fr No w (w.alloc (.cells #[.int .i64 ef, .int .i64 et, .string ey, .float .f64 ew] 48))) := hid ((Fr.refl No w).alloc _)
      clear hb
      go_enter Tryz.func30, Tryz.ntmps30
      go_wp2_with (first | (go_at_call 39; refine (HS.out _).mono ?_; rintro e w2 ⟨rfl, rfl⟩) | (go_at_call 68; refine (HX.out _).mono ?_; rintro e w3 ⟨rfl, rfl⟩))
      go_ret
      exact ⟨by rw [HE.out]; rfl, hf.out⟩
     | true =>
      have hb := heap1 w (.cells #[.int .i64 ef, .int .i64 et, .string ey, .float .f64 ew] 48)
      obtain ⟨c0, c1, c2, c3⟩ := cells4 hb
      have hf : Hid (Fr No w (w.alloc (.cells #[.int .i64 ef, .int .i64 et, .string ey, .float .f64 ew] 48))) := hid ((Fr.refl No w).alloc _)
      clear hb
      go_enter Tryz.func30, Tryz.ntmps30
      go_wp2_with (first | (go_at_call 39; refine (HS.out _).mono ?_; rintro e w2 ⟨rfl, rfl⟩) | (go_at_call 68; refine (HX.out _).mono ?_; rintro e w3 ⟨rfl, rfl⟩))
      go_ret
      exact ⟨by rw [HE.out]; rfl, hf.out⟩
    ·rw [decide_eq_false (fun h : 1 ≤ et ∧ et ≤ 24 => h4 h.2), Bool.false_and] at HE
     have hb := heap1 w (.cells #[.int .i64 ef, .int .i64 et, .string ey, .float .f64 ew] 48)
     obtain ⟨c0, c1, c2, c3⟩ := cells4 hb
     have hf : Hid (Fr No w (w.alloc (.cells #[.int .i64 ef, .int .i64 et, .string ey, .float .f64 ew] 48))) := hid ((Fr.refl No w).alloc _)
     clear hb
     go_enter Tryz.func30, Tryz.ntmps30
     go_wp2_with (first | (go_at_call 39; refine (HS.out _).mono ?_; rintro e w2 ⟨rfl, rfl⟩) | (go_at_call 68; refine (HX.out _).mono ?_; rintro e w3 ⟨rfl, rfl⟩))
     go_ret
     exact ⟨by rw [HE.out]; rfl, hf.out⟩
   ·rw [decide_eq_false (fun h : 1 ≤ et ∧ et ≤ 24 => h3 h.1), Bool.false_and] at HE
    have hb := heap1 w (.cells #[.int .i64 ef, .int .i64 et, .string ey, .float .f64 ew] 48)
    obtain ⟨c0, c1, c2, c3⟩ := cells4 hb
    have hf : Hid (Fr No w (w.alloc (.cells #[.int .i64 ef, .int .i64 et, .string ey, .float .f64 ew] 48))) := hid ((Fr.refl No w).alloc _)
    clear hb
    go_enter Tryz.func30, Tryz.ntmps30
    go_wp2_with (first | (go_at_call 39; refine (HS.out _).mono ?_; rintro e w2 ⟨rfl, rfl⟩) | (go_at_call 68; refine (HX.out _).mono ?_; rintro e w3 ⟨rfl, rfl⟩))
    go_ret
    exact ⟨by rw [HE.out]; rfl, hf.out⟩
  ·rw [decide_eq_false (fun h : 1 ≤ ef ∧ ef ≤ 24 => h2 h.2), Bool.false_and] at HE
   have hb := heap1 w (.cells #[.int .i64 ef, .int .i64 et, .string ey, .float .f64 ew] 48)
   obtain ⟨c0, c1, c2, c3⟩ := cells4 hb
   have hf : Hid (Fr No w (w.alloc (.cells #[.int .i64 ef, .int .i64 et, .string ey, .float .f64 ew] 48))) := hid ((Fr.refl No w).alloc _)
   clear hb
   go_enter Tryz.func30, Tryz.ntmps30
   go_wp2_with (first | (go_at_call 39; refine (HS.out _).mono ?_; rintro e w2 ⟨rfl, rfl⟩) | (go_at_call 68; refine (HX.out _).mono ?_; rintro e w3 ⟨rfl, rfl⟩))
   go_ret
   exact ⟨by rw [HE.out]; rfl, hf.out⟩
 ·rw [decide_eq_false (fun h : 1 ≤ ef ∧ ef ≤ 24 => h1 h.1), Bool.false_and] at HE
  have hb := heap1 w (.cells #[.int .i64 ef, .int .i64 et, .string ey, .float .f64 ew] 48)
  obtain ⟨c0, c1, c2, c3⟩ := cells4 hb
  have hf : Hid (Fr No w (w.alloc (.cells #[.int .i64 ef, .int .i64 et, .string ey, .float .f64 ew] 48))) := hid ((Fr.refl No w).alloc _)
  clear hb
  go_enter Tryz.func30, Tryz.ntmps30
  go_wp2_with (first | (go_at_call 39; refine (HS.out _).mono ?_; rintro e w2 ⟨rfl, rfl⟩) | (go_at_call 68; refine (HX.out _).mono ?_; rintro e w3 ⟨rfl, rfl⟩))
  go_ret
  exact ⟨by rw [HE.out]; rfl, hf.out⟩
end Go.Proofs.YthadcdoepoglkaaGreatDoor
namespace Go.Proofs.YthadcdoepoglkaaGreatDoor
open Go.RowKit Go.Lig
def rbadB (v : ValR) : Bool := (decide (v.kind ≠ 1) && v.b) || (decide (v.kind ≠ 2) && decide (v.n ≠ 0)) || (decide (v.kind ≠ 3) && !decide (v.f = 0)) || (decide (v.kind ≠ 4) && decide (v.t.size ≠ 0)) || !decide (v.f = normF v.f)
def rvalB (v : ValR) : Bool := !rbadB v && (textOk v.t && (decide (0 ≤ v.kind) && (decide (v.kind ≤ 4) && decide (v.t.size ≤ 12))))
theorem normF_zero : normF 0 = 0 := by decide +kernel
theorem rval_eq (v : ValR) : rvalB v = valIsB v := by
 obtain ⟨k, b, n, f, t⟩ := v
 have ht : (t = (⟨#[]⟩ : ByteArray)) ↔ t.size = 0 := ⟨fun h => by rw [h]; rfl, fun h => by
  obtain ⟨d⟩ := t
  have : d = #[] := Array.eq_empty_of_size_eq_zero h
  rw [this]⟩
 have h0 := normF_zero
 have c1 : ((if k = 1 then b else false) == b) = !(decide (k ≠ 1) && b) := by
  by_cases h : k = 1 <;> cases b <;> simp [h]
 have c2 : decide ((if k = 2 then n else 0) = n) = !(decide (k ≠ 2) && decide (n ≠ 0)) := by
  by_cases h : k = 2
  ·simp [h]
  ·by_cases h' : n = 0
   ·simp [h, h']
   ·simp [h, h']; exact fun e => h' e.symm
 have c4 : decide ((if k = 4 then t else (⟨#[]⟩ : ByteArray)) = t) = !(decide (k ≠ 4) && decide (t.size ≠ 0)) := by
  by_cases h : k = 4
  ·simp [h]
  ·rw [if_neg h, decide_eq_true h, Bool.true_and]
   by_cases h' : t.size = 0
   ·rw [decide_eq_true (ht.2 h').symm, decide_eq_false (not_not_intro h')]; rfl
   ·rw [decide_eq_false (fun e => h' (ht.1 e.symm)), decide_eq_true h']; rfl
 have c3 : decide ((if k = 3 then normF f else 0) = f) = (!(decide (k ≠ 3) && !decide (f = 0)) && decide (f = normF f)) := by
  by_cases h : k = 3
  ·simp [h, eq_comm]
  ·rw [if_neg h, decide_eq_true h]
   by_cases h' : f = 0
   ·subst h'; rw [h0]; rfl
   ·rw [decide_eq_false (fun e => h' e.symm), decide_eq_false h']; rfl
 unfold rvalB valIsB rbadB sameN namedV isTextB
 dsimp only
 rw [c1, c2, c3, c4]
 generalize (decide (k ≠ 1) && b) = x1
 generalize (decide (k ≠ 2) && decide (n ≠ 0)) = x2
 generalize (decide (k ≠ 3) && !decide (f = 0)) = x3
 generalize (decide (k ≠ 4) && decide (t.size ≠ 0)) = x4
 generalize decide (f = normF f) = x5
 generalize textOk t = x6
 generalize decide (0 ≤ k) = x7
 generalize decide (k ≤ 4) = x8
 generalize decide (t.size ≤ 12) = x9
 revert x1 x2 x3 x4 x5 x6 x7 x8 x9
 decide
end Go.Proofs.YthadcdoepoglkaaGreatDoor
namespace Go.Proofs.YthadcdoepoglkaaGreatDoor
open Go.RowKit Go.Lig
set_option maxRecDepth 100000 in
set_option maxHeartbeats 8000000 in
theorem ris_1 (w : World) (vk : Int) (vb : Bool) (vn : Int) (vf : Nat) (vt : ByteArray) (m : Nat) (hm0 : vt.size = m) (hl : m ≤ 140737488355328) (hk : vk = 1) :
  Calls Tryz.prog 40 #[.agg #[.int .i64 vk, .bool vb, .int .i64 vn, .float .f64 vf, .string vt]] w fun e w' => e = .returned (.bool (rvalB ⟨vk, vb, vn, vf, vt⟩)) ∧ Fr No w w' := by
 have q1 : ((vk : Int) != 1) = false := by rw [hk]; rfl
 have q2 : ((vk : Int) != 2) = true := by rw [hk]; rfl
 have q3 : ((vk : Int) != 3) = true := by rw [hk]; rfl
 have q4 : ((vk : Int) != 4) = true := by rw [hk]; rfl
 have HBAD : Hid (rbadB ⟨vk, vb, vn, vf, vt⟩ = true → rvalB ⟨vk, vb, vn, vf, vt⟩ = false) := hid (fun h => by unfold rvalB; rw [h]; rfl)
 have HGOOD : Hid (rbadB ⟨vk, vb, vn, vf, vt⟩ = false → rvalB ⟨vk, vb, vn, vf, vt⟩ = (textOk vt && (decide (0 ≤ vk) && (decide (vk ≤ 4) && decide (vt.size ≤ 12))))) := hid (fun h => by unfold rvalB; rw [h]; rfl)
 obtain ⟨c0, c1, c2, c3, c4⟩ := cells5 (heap1 w (.cells #[.int .i64 vk, .bool vb, .int .i64 vn, .float .f64 vf, .string vt] 56))
 have HF := hid ((Fr.refl No w).alloc (.cells #[.int .i64 vk, .bool vb, .int .i64 vn, .float .f64 vf, .string vt] 56))
 obtain ⟨wa, hwa⟩ : ∃ wa, w.alloc (.cells #[.int .i64 vk, .bool vb, .int .i64 vn, .float .f64 vf, .string vt] 56) = wa := ⟨_, rfl⟩
 rw [hwa] at c0 c1 c2 c3 c4 HF
 have HS0 := hid (fun W => rsame_any W vf 0)
 have HS1 := hid (fun W => rsame_any W vf (normF vf))
 have hm : vt.size = m := hm0
 by_cases hn : vn = 0
 ·have p2 : ((vn : Int) != 0) = false := by rw [hn]; rfl
  by_cases hf : vf = 0
  ·rw [decide_eq_true hf] at HS0
   have hnf : vf = normF vf := by rw [hf]; exact normF_zero.symm
   rw [decide_eq_true hnf] at HS1
   by_cases ht : vt.size = 0
   ·have h3 := toList_nil ht
    have HG := hid (HGOOD.out (by unfold rbadB; simp [hk, hn, hf, normF_zero, ht]))
    clear hk hn hf ht hnf
    go_enter Tryz.func40, Tryz.ntmps40
    go_wp2_with fail
    (try rw [hwa])
    clear hwa
    refine wp_region_sched (by kernel_rfl) 47 [24, 43, 44] [0, 1, 2, 3, 4, 5, 6, 7, 8, 9, 10, 11, 12, 13, 14, 15, 16, 17, 18, 19, 20, 21, 22, 23, 24, 25, 26, 27, 28, 29, 30, 31, 32, 33, 34, 35, 36, 37, 38, 39, 40, 41, 42, 43, 44, 45, 46] (AgC [w.heap.size] wa.drew) (by kernel_rfl) (AgC.refl _ _) ?_
    simp only [List.map_cons, List.map_nil, List.contains_cons, List.contains_nil, nth_zero, nth_succ, Nat.reduceBEq, Bool.false_or, Bool.or_false, Bool.or_true, Bool.true_or]
    repeat (first | (refine sched_quiet (fun K hK => ?_); go_simp; refine hK _ ?_; clear hK K) | (refine sched_skip ?_ (AgC.refl _ _) ?_; focus (first | rfl | (go_simp; done))) | (refine sched_call ?_ 92 #[.float .f64 vf, .float .f64 0] ?_ (HS0.out _) ?_; (focus (first | rfl | (go_simp; done))); (focus (first | rfl | (go_simp; done))); rintro e w3 ⟨rfl, rfl⟩; refine ⟨_, rfl, AgC.refl _ _, ?_⟩) | (refine sched_call ?_ 93 #[.float .f64 vf] ?_ (rnorm_any _ _) ?_; (focus (first | rfl | (go_simp; done))); (focus (first | rfl | (go_simp; done))); rintro e w3 ⟨rfl, rfl⟩; refine ⟨_, rfl, AgC.refl _ _, ?_⟩) | (refine sched_call ?_ 92 #[.float .f64 vf, .float .f64 (normF vf)] ?_ (HS1.out _) ?_; (focus (first | rfl | (go_simp; done))); (focus (first | rfl | (go_simp; done))); rintro e w3 ⟨rfl, rfl⟩; refine ⟨_, rfl, AgC.refl _ _, ?_⟩))
    refine sched_nil ?_
    go_wp2_with fail
    go_loop [3] (fun vi => ∃ i : Nat, i ≤ m ∧ vi = .int .i64 (i : Int) ∧ Hid (∀ k b, k < i → vt.data.toList[k]? = some b → okByte b = true)) (fun vi => m - (intOf vi).toNat)
    case atStart => exact ⟨0, Nat.zero_le _, rfl, fun k b hk => absurd hk (Nat.not_lt_zero _)⟩
    case round =>
     obtain ⟨i, hi, rfl, hF⟩ := hrel
     by_cases hlt : i < m
     ·have his : i < vt.size := by omega
      have HY := hid (byte_at his)
      by_cases h1 : ((vt[i]'his).toNat : Int) < 32
      ·have HV : Hid (textOk vt = false) := hid (by unfold textOk; exact List.all_eq_false.2 ⟨_, List.mem_of_getElem? HY.out, by unfold okByte; rw [decide_eq_false (by omega)]; simp⟩)
       go_wp2_with fail
       go_ret
       exact ⟨by rw [HG.out, HV.out]; rfl, HF.out.drew⟩
      ·by_cases h2 : (126 : Int) < ((vt[i]'his).toNat : Int)
       ·have HV : Hid (textOk vt = false) := hid (by unfold textOk; exact List.all_eq_false.2 ⟨_, List.mem_of_getElem? HY.out, by unfold okByte; rw [decide_eq_false (show ¬ (vt[i]'his).toNat ≤ 126 by omega)]; simp⟩)
        go_wp2_with fail
        go_ret
        exact ⟨by rw [HG.out, HV.out]; rfl, HF.out.drew⟩
       ·have HV : Hid (okByte (vt[i]'his) = true) := hid (by unfold okByte; rw [decide_eq_true (by omega), decide_eq_true (by omega)]; rfl)
        go_wp2_with fail
        go_round
        case rel => exact ⟨i + 1, by omega, by go_num, fun k b hk hb => by
         rcases Nat.lt_succ_iff_lt_or_eq.1 hk with h | rfl
         ·exact hF.out k b h hb
         ·rw [HY.out] at hb; obtain rfl := Option.some.inj hb; exact HV.out⟩
        case measure => simp [intOf]; omega
     ·obtain rfl : i = m := by omega
      have HT : Hid (textOk vt = true) := hid (by
       unfold textOk
       rw [List.all_eq_true]
       intro x hx
       obtain ⟨k, hk, rfl⟩ := List.getElem_of_mem hx
       exact hF.out k _ (by simp at hk; omega) (List.getElem?_eq_getElem hk))
      have HH : Hid (decide ((i : Int) ≤ 12) = decide (vt.size ≤ 12)) := hid (by rw [decide_eq_decide]; omega)
      clear hlt
      by_cases h1 : 0 ≤ vk
      ·have H1 := hid h1
       by_cases h2 : vk ≤ 4
       ·have H2 := hid h2
        go_wp2_with fail
        go_ret
        exact ⟨by rw [HG.out, HT.out, decide_eq_true (show 0 ≤ vk by have := H1.out; omega), decide_eq_true (show vk ≤ 4 by have := H2.out; omega), ← HH.out]; rfl, HF.out.drew⟩
       ·have H2 := hid h2
        go_wp2_with fail
        go_ret
        exact ⟨by rw [HG.out, HT.out, decide_eq_true (show 0 ≤ vk by have := H1.out; omega), decide_eq_false (show ¬ vk ≤ 4 by have := H2.out; omega)]; rfl, HF.out.drew⟩
      ·have H1 := hid h1
       go_wp2_with fail
       go_ret
       exact ⟨by rw [HG.out, HT.out, decide_eq_false (show ¬ 0 ≤ vk by have := H1.out; omega)]; rfl, HF.out.drew⟩
   ·have h3 := toList_ne ht
    have HV := hid (HBAD.out (by unfold rbadB; simp [hk, hn, hf, normF_zero, ht]))
    clear hk hn hf ht hnf
    go_enter Tryz.func40, Tryz.ntmps40
    go_wp2_with fail
    (try rw [hwa])
    clear hwa
    refine wp_region_sched (by kernel_rfl) 47 [24, 43, 44] [0, 1, 2, 3, 4, 5, 6, 7, 8, 9, 10, 11, 12, 13, 14, 15, 16, 17, 18, 19, 20, 21, 22, 23, 24, 25, 26, 27, 28, 29, 30, 31, 32, 33, 34, 35, 36, 37, 38, 39, 40, 41, 42, 43, 44, 45, 46] (AgC [w.heap.size] wa.drew) (by kernel_rfl) (AgC.refl _ _) ?_
    simp only [List.map_cons, List.map_nil, List.contains_cons, List.contains_nil, nth_zero, nth_succ, Nat.reduceBEq, Bool.false_or, Bool.or_false, Bool.or_true, Bool.true_or]
    repeat (first | (refine sched_quiet (fun K hK => ?_); go_simp; refine hK _ ?_; clear hK K) | (refine sched_skip ?_ (AgC.refl _ _) ?_; focus (first | rfl | (go_simp; done))) | (refine sched_call ?_ 92 #[.float .f64 vf, .float .f64 0] ?_ (HS0.out _) ?_; (focus (first | rfl | (go_simp; done))); (focus (first | rfl | (go_simp; done))); rintro e w3 ⟨rfl, rfl⟩; refine ⟨_, rfl, AgC.refl _ _, ?_⟩) | (refine sched_call ?_ 93 #[.float .f64 vf] ?_ (rnorm_any _ _) ?_; (focus (first | rfl | (go_simp; done))); (focus (first | rfl | (go_simp; done))); rintro e w3 ⟨rfl, rfl⟩; refine ⟨_, rfl, AgC.refl _ _, ?_⟩) | (refine sched_call ?_ 92 #[.float .f64 vf, .float .f64 (normF vf)] ?_ (HS1.out _) ?_; (focus (first | rfl | (go_simp; done))); (focus (first | rfl | (go_simp; done))); rintro e w3 ⟨rfl, rfl⟩; refine ⟨_, rfl, AgC.refl _ _, ?_⟩))
    refine sched_nil ?_
    go_wp2_with fail
    go_ret
    exact ⟨by rw [HV.out]; rfl, HF.out.drew⟩
  ·rw [decide_eq_false hf] at HS0
   have HV := hid (HBAD.out (by unfold rbadB; simp [hk, hn, hf]))
   clear hk hn hf
   go_enter Tryz.func40, Tryz.ntmps40
   go_wp2_with fail
   (try rw [hwa])
   clear hwa
   refine wp_region_sched (by kernel_rfl) 47 [24, 43, 44] [0, 1, 2, 3, 4, 5, 6, 7, 8, 9, 10, 11, 12, 13, 14, 15, 16, 17, 18, 19, 20, 21, 22, 23, 24, 25, 26, 27, 28, 29, 30, 31, 32, 33, 34, 35, 36, 37, 38, 39, 40, 41, 42, 43, 44, 45, 46] (AgC [w.heap.size] wa.drew) (by kernel_rfl) (AgC.refl _ _) ?_
   simp only [List.map_cons, List.map_nil, List.contains_cons, List.contains_nil, nth_zero, nth_succ, Nat.reduceBEq, Bool.false_or, Bool.or_false, Bool.or_true, Bool.true_or]
   repeat (first | (refine sched_quiet (fun K hK => ?_); go_simp; refine hK _ ?_; clear hK K) | (refine sched_skip ?_ (AgC.refl _ _) ?_; focus (first | rfl | (go_simp; done))) | (refine sched_call ?_ 92 #[.float .f64 vf, .float .f64 0] ?_ (HS0.out _) ?_; (focus (first | rfl | (go_simp; done))); (focus (first | rfl | (go_simp; done))); rintro e w3 ⟨rfl, rfl⟩; refine ⟨_, rfl, AgC.refl _ _, ?_⟩) | (refine sched_call ?_ 93 #[.float .f64 vf] ?_ (rnorm_any _ _) ?_; (focus (first | rfl | (go_simp; done))); (focus (first | rfl | (go_simp; done))); rintro e w3 ⟨rfl, rfl⟩; refine ⟨_, rfl, AgC.refl _ _, ?_⟩) | (refine sched_call ?_ 92 #[.float .f64 vf, .float .f64 (normF vf)] ?_ (HS1.out _) ?_; (focus (first | rfl | (go_simp; done))); (focus (first | rfl | (go_simp; done))); rintro e w3 ⟨rfl, rfl⟩; refine ⟨_, rfl, AgC.refl _ _, ?_⟩))
   refine sched_nil ?_
   go_wp2_with fail
   go_ret
   exact ⟨by rw [HV.out]; rfl, HF.out.drew⟩
 ·have p2 : ((vn : Int) != 0) = true := by rw [bne_iff_ne]; exact hn
  have HV := hid (HBAD.out (by unfold rbadB; simp [hk, hn]))
  clear hk hn
  go_enter Tryz.func40, Tryz.ntmps40
  go_wp2_with fail
  (try rw [hwa])
  clear hwa
  refine wp_region_sched (by kernel_rfl) 47 [24, 43, 44] [0, 1, 2, 3, 4, 5, 6, 7, 8, 9, 10, 11, 12, 13, 14, 15, 16, 17, 18, 19, 20, 21, 22, 23, 24, 25, 26, 27, 28, 29, 30, 31, 32, 33, 34, 35, 36, 37, 38, 39, 40, 41, 42, 43, 44, 45, 46] (AgC [w.heap.size] wa.drew) (by kernel_rfl) (AgC.refl _ _) ?_
  simp only [List.map_cons, List.map_nil, List.contains_cons, List.contains_nil, nth_zero, nth_succ, Nat.reduceBEq, Bool.false_or, Bool.or_false, Bool.or_true, Bool.true_or]
  repeat (first | (refine sched_quiet (fun K hK => ?_); go_simp; refine hK _ ?_; clear hK K) | (refine sched_skip ?_ (AgC.refl _ _) ?_; focus (first | rfl | (go_simp; done))) | (refine sched_call ?_ 92 #[.float .f64 vf, .float .f64 0] ?_ (HS0.out _) ?_; (focus (first | rfl | (go_simp; done))); (focus (first | rfl | (go_simp; done))); rintro e w3 ⟨rfl, rfl⟩; refine ⟨_, rfl, AgC.refl _ _, ?_⟩) | (refine sched_call ?_ 93 #[.float .f64 vf] ?_ (rnorm_any _ _) ?_; (focus (first | rfl | (go_simp; done))); (focus (first | rfl | (go_simp; done))); rintro e w3 ⟨rfl, rfl⟩; refine ⟨_, rfl, AgC.refl _ _, ?_⟩) | (refine sched_call ?_ 92 #[.float .f64 vf, .float .f64 (normF vf)] ?_ (HS1.out _) ?_; (focus (first | rfl | (go_simp; done))); (focus (first | rfl | (go_simp; done))); rintro e w3 ⟨rfl, rfl⟩; refine ⟨_, rfl, AgC.refl _ _, ?_⟩))
  refine sched_nil ?_
  go_wp2_with fail
  go_ret
  exact ⟨by rw [HV.out]; rfl, HF.out.drew⟩
end Go.Proofs.YthadcdoepoglkaaGreatDoor
namespace Go.Proofs.YthadcdoepoglkaaGreatDoor
open Go.RowKit Go.Lig
set_option maxRecDepth 100000 in
set_option maxHeartbeats 8000000 in
theorem ris_2 (w : World) (vk : Int) (vb : Bool) (vn : Int) (vf : Nat) (vt : ByteArray) (m : Nat) (hm0 : vt.size = m) (hl : m ≤ 140737488355328) (hk : vk = 2) :
  Calls Tryz.prog 40 #[.agg #[.int .i64 vk, .bool vb, .int .i64 vn, .float .f64 vf, .string vt]] w fun e w' => e = .returned (.bool (rvalB ⟨vk, vb, vn, vf, vt⟩)) ∧ Fr No w w' := by
 have q1 : ((vk : Int) != 1) = true := by rw [hk]; rfl
 have q2 : ((vk : Int) != 2) = false := by rw [hk]; rfl
 have q3 : ((vk : Int) != 3) = true := by rw [hk]; rfl
 have q4 : ((vk : Int) != 4) = true := by rw [hk]; rfl
 have HBAD : Hid (rbadB ⟨vk, vb, vn, vf, vt⟩ = true → rvalB ⟨vk, vb, vn, vf, vt⟩ = false) := hid (fun h => by unfold rvalB; rw [h]; rfl)
 have HGOOD : Hid (rbadB ⟨vk, vb, vn, vf, vt⟩ = false → rvalB ⟨vk, vb, vn, vf, vt⟩ = (textOk vt && (decide (0 ≤ vk) && (decide (vk ≤ 4) && decide (vt.size ≤ 12))))) := hid (fun h => by unfold rvalB; rw [h]; rfl)
 obtain ⟨c0, c1, c2, c3, c4⟩ := cells5 (heap1 w (.cells #[.int .i64 vk, .bool vb, .int .i64 vn, .float .f64 vf, .string vt] 56))
 have HF := hid ((Fr.refl No w).alloc (.cells #[.int .i64 vk, .bool vb, .int .i64 vn, .float .f64 vf, .string vt] 56))
 obtain ⟨wa, hwa⟩ : ∃ wa, w.alloc (.cells #[.int .i64 vk, .bool vb, .int .i64 vn, .float .f64 vf, .string vt] 56) = wa := ⟨_, rfl⟩
 rw [hwa] at c0 c1 c2 c3 c4 HF
 have HS0 := hid (fun W => rsame_any W vf 0)
 have HS1 := hid (fun W => rsame_any W vf (normF vf))
 have hm : vt.size = m := hm0
 cases vb with
 | true =>
  have HV := hid (HBAD.out (by unfold rbadB; simp [hk]))
  clear hk
  go_enter Tryz.func40, Tryz.ntmps40
  go_wp2_with fail
  (try rw [hwa])
  clear hwa
  refine wp_region_sched (by kernel_rfl) 47 [24, 43, 44] [0, 1, 2, 3, 4, 5, 6, 7, 8, 9, 10, 11, 12, 13, 14, 15, 16, 17, 18, 19, 20, 21, 22, 23, 24, 25, 26, 27, 28, 29, 30, 31, 32, 33, 34, 35, 36, 37, 38, 39, 40, 41, 42, 43, 44, 45, 46] (AgC [w.heap.size] wa.drew) (by kernel_rfl) (AgC.refl _ _) ?_
  simp only [List.map_cons, List.map_nil, List.contains_cons, List.contains_nil, nth_zero, nth_succ, Nat.reduceBEq, Bool.false_or, Bool.or_false, Bool.or_true, Bool.true_or]
  repeat (first | (refine sched_quiet (fun K hK => ?_); go_simp; refine hK _ ?_; clear hK K) | (refine sched_skip ?_ (AgC.refl _ _) ?_; focus (first | rfl | (go_simp; done))) | (refine sched_call ?_ 92 #[.float .f64 vf, .float .f64 0] ?_ (HS0.out _) ?_; (focus (first | rfl | (go_simp; done))); (focus (first | rfl | (go_simp; done))); rintro e w3 ⟨rfl, rfl⟩; refine ⟨_, rfl, AgC.refl _ _, ?_⟩) | (refine sched_call ?_ 93 #[.float .f64 vf] ?_ (rnorm_any _ _) ?_; (focus (first | rfl | (go_simp; done))); (focus (first | rfl | (go_simp; done))); rintro e w3 ⟨rfl, rfl⟩; refine ⟨_, rfl, AgC.refl _ _, ?_⟩) | (refine sched_call ?_ 92 #[.float .f64 vf, .float .f64 (normF vf)] ?_ (HS1.out _) ?_; (focus (first | rfl | (go_simp; done))); (focus (first | rfl | (go_simp; done))); rintro e w3 ⟨rfl, rfl⟩; refine ⟨_, rfl, AgC.refl _ _, ?_⟩))
  refine sched_nil ?_
  go_wp2_with fail
  go_ret
  exact ⟨by rw [HV.out]; rfl, HF.out.drew⟩
 | false =>
  by_cases hf : vf = 0
  ·rw [decide_eq_true hf] at HS0
   have hnf : vf = normF vf := by rw [hf]; exact normF_zero.symm
   rw [decide_eq_true hnf] at HS1
   by_cases ht : vt.size = 0
   ·have h3 := toList_nil ht
    have HG := hid (HGOOD.out (by unfold rbadB; simp [hk, hf, normF_zero, ht]))
    clear hk hf ht hnf
    go_enter Tryz.func40, Tryz.ntmps40
    go_wp2_with fail
    (try rw [hwa])
    clear hwa
    refine wp_region_sched (by kernel_rfl) 47 [24, 43, 44] [0, 1, 2, 3, 4, 5, 6, 7, 8, 9, 10, 11, 12, 13, 14, 15, 16, 17, 18, 19, 20, 21, 22, 23, 24, 25, 26, 27, 28, 29, 30, 31, 32, 33, 34, 35, 36, 37, 38, 39, 40, 41, 42, 43, 44, 45, 46] (AgC [w.heap.size] wa.drew) (by kernel_rfl) (AgC.refl _ _) ?_
    simp only [List.map_cons, List.map_nil, List.contains_cons, List.contains_nil, nth_zero, nth_succ, Nat.reduceBEq, Bool.false_or, Bool.or_false, Bool.or_true, Bool.true_or]
    repeat (first | (refine sched_quiet (fun K hK => ?_); go_simp; refine hK _ ?_; clear hK K) | (refine sched_skip ?_ (AgC.refl _ _) ?_; focus (first | rfl | (go_simp; done))) | (refine sched_call ?_ 92 #[.float .f64 vf, .float .f64 0] ?_ (HS0.out _) ?_; (focus (first | rfl | (go_simp; done))); (focus (first | rfl | (go_simp; done))); rintro e w3 ⟨rfl, rfl⟩; refine ⟨_, rfl, AgC.refl _ _, ?_⟩) | (refine sched_call ?_ 93 #[.float .f64 vf] ?_ (rnorm_any _ _) ?_; (focus (first | rfl | (go_simp; done))); (focus (first | rfl | (go_simp; done))); rintro e w3 ⟨rfl, rfl⟩; refine ⟨_, rfl, AgC.refl _ _, ?_⟩) | (refine sched_call ?_ 92 #[.float .f64 vf, .float .f64 (normF vf)] ?_ (HS1.out _) ?_; (focus (first | rfl | (go_simp; done))); (focus (first | rfl | (go_simp; done))); rintro e w3 ⟨rfl, rfl⟩; refine ⟨_, rfl, AgC.refl _ _, ?_⟩))
    refine sched_nil ?_
    go_wp2_with fail
    go_loop [3] (fun vi => ∃ i : Nat, i ≤ m ∧ vi = .int .i64 (i : Int) ∧ Hid (∀ k b, k < i → vt.data.toList[k]? = some b → okByte b = true)) (fun vi => m - (intOf vi).toNat)
    case atStart => exact ⟨0, Nat.zero_le _, rfl, fun k b hk => absurd hk (Nat.not_lt_zero _)⟩
    case round =>
     obtain ⟨i, hi, rfl, hF⟩ := hrel
     by_cases hlt : i < m
     ·have his : i < vt.size := by omega
      have HY := hid (byte_at his)
      by_cases h1 : ((vt[i]'his).toNat : Int) < 32
      ·have HV : Hid (textOk vt = false) := hid (by unfold textOk; exact List.all_eq_false.2 ⟨_, List.mem_of_getElem? HY.out, by unfold okByte; rw [decide_eq_false (by omega)]; simp⟩)
       go_wp2_with fail
       go_ret
       exact ⟨by rw [HG.out, HV.out]; rfl, HF.out.drew⟩
      ·by_cases h2 : (126 : Int) < ((vt[i]'his).toNat : Int)
       ·have HV : Hid (textOk vt = false) := hid (by unfold textOk; exact List.all_eq_false.2 ⟨_, List.mem_of_getElem? HY.out, by unfold okByte; rw [decide_eq_false (show ¬ (vt[i]'his).toNat ≤ 126 by omega)]; simp⟩)
        go_wp2_with fail
        go_ret
        exact ⟨by rw [HG.out, HV.out]; rfl, HF.out.drew⟩
       ·have HV : Hid (okByte (vt[i]'his) = true) := hid (by unfold okByte; rw [decide_eq_true (by omega), decide_eq_true (by omega)]; rfl)
        go_wp2_with fail
        go_round
        case rel => exact ⟨i + 1, by omega, by go_num, fun k b hk hb => by
         rcases Nat.lt_succ_iff_lt_or_eq.1 hk with h | rfl
         ·exact hF.out k b h hb
         ·rw [HY.out] at hb; obtain rfl := Option.some.inj hb; exact HV.out⟩
        case measure => simp [intOf]; omega
     ·obtain rfl : i = m := by omega
      have HT : Hid (textOk vt = true) := hid (by
       unfold textOk
       rw [List.all_eq_true]
       intro x hx
       obtain ⟨k, hk, rfl⟩ := List.getElem_of_mem hx
       exact hF.out k _ (by simp at hk; omega) (List.getElem?_eq_getElem hk))
      have HH : Hid (decide ((i : Int) ≤ 12) = decide (vt.size ≤ 12)) := hid (by rw [decide_eq_decide]; omega)
      clear hlt
      by_cases h1 : 0 ≤ vk
      ·have H1 := hid h1
       by_cases h2 : vk ≤ 4
       ·have H2 := hid h2
        go_wp2_with fail
        go_ret
        exact ⟨by rw [HG.out, HT.out, decide_eq_true (show 0 ≤ vk by have := H1.out; omega), decide_eq_true (show vk ≤ 4 by have := H2.out; omega), ← HH.out]; rfl, HF.out.drew⟩
       ·have H2 := hid h2
        go_wp2_with fail
        go_ret
        exact ⟨by rw [HG.out, HT.out, decide_eq_true (show 0 ≤ vk by have := H1.out; omega), decide_eq_false (show ¬ vk ≤ 4 by have := H2.out; omega)]; rfl, HF.out.drew⟩
      ·have H1 := hid h1
       go_wp2_with fail
       go_ret
       exact ⟨by rw [HG.out, HT.out, decide_eq_false (show ¬ 0 ≤ vk by have := H1.out; omega)]; rfl, HF.out.drew⟩
   ·have h3 := toList_ne ht
    have HV := hid (HBAD.out (by unfold rbadB; simp [hk, hf, normF_zero, ht]))
    clear hk hf ht hnf
    go_enter Tryz.func40, Tryz.ntmps40
    go_wp2_with fail
    (try rw [hwa])
    clear hwa
    refine wp_region_sched (by kernel_rfl) 47 [24, 43, 44] [0, 1, 2, 3, 4, 5, 6, 7, 8, 9, 10, 11, 12, 13, 14, 15, 16, 17, 18, 19, 20, 21, 22, 23, 24, 25, 26, 27, 28, 29, 30, 31, 32, 33, 34, 35, 36, 37, 38, 39, 40, 41, 42, 43, 44, 45, 46] (AgC [w.heap.size] wa.drew) (by kernel_rfl) (AgC.refl _ _) ?_
    simp only [List.map_cons, List.map_nil, List.contains_cons, List.contains_nil, nth_zero, nth_succ, Nat.reduceBEq, Bool.false_or, Bool.or_false, Bool.or_true, Bool.true_or]
    repeat (first | (refine sched_quiet (fun K hK => ?_); go_simp; refine hK _ ?_; clear hK K) | (refine sched_skip ?_ (AgC.refl _ _) ?_; focus (first | rfl | (go_simp; done))) | (refine sched_call ?_ 92 #[.float .f64 vf, .float .f64 0] ?_ (HS0.out _) ?_; (focus (first | rfl | (go_simp; done))); (focus (first | rfl | (go_simp; done))); rintro e w3 ⟨rfl, rfl⟩; refine ⟨_, rfl, AgC.refl _ _, ?_⟩) | (refine sched_call ?_ 93 #[.float .f64 vf] ?_ (rnorm_any _ _) ?_; (focus (first | rfl | (go_simp; done))); (focus (first | rfl | (go_simp; done))); rintro e w3 ⟨rfl, rfl⟩; refine ⟨_, rfl, AgC.refl _ _, ?_⟩) | (refine sched_call ?_ 92 #[.float .f64 vf, .float .f64 (normF vf)] ?_ (HS1.out _) ?_; (focus (first | rfl | (go_simp; done))); (focus (first | rfl | (go_simp; done))); rintro e w3 ⟨rfl, rfl⟩; refine ⟨_, rfl, AgC.refl _ _, ?_⟩))
    refine sched_nil ?_
    go_wp2_with fail
    go_ret
    exact ⟨by rw [HV.out]; rfl, HF.out.drew⟩
  ·rw [decide_eq_false hf] at HS0
   have HV := hid (HBAD.out (by unfold rbadB; simp [hk, hf]))
   clear hk hf
   go_enter Tryz.func40, Tryz.ntmps40
   go_wp2_with fail
   (try rw [hwa])
   clear hwa
   refine wp_region_sched (by kernel_rfl) 47 [24, 43, 44] [0, 1, 2, 3, 4, 5, 6, 7, 8, 9, 10, 11, 12, 13, 14, 15, 16, 17, 18, 19, 20, 21, 22, 23, 24, 25, 26, 27, 28, 29, 30, 31, 32, 33, 34, 35, 36, 37, 38, 39, 40, 41, 42, 43, 44, 45, 46] (AgC [w.heap.size] wa.drew) (by kernel_rfl) (AgC.refl _ _) ?_
   simp only [List.map_cons, List.map_nil, List.contains_cons, List.contains_nil, nth_zero, nth_succ, Nat.reduceBEq, Bool.false_or, Bool.or_false, Bool.or_true, Bool.true_or]
   repeat (first | (refine sched_quiet (fun K hK => ?_); go_simp; refine hK _ ?_; clear hK K) | (refine sched_skip ?_ (AgC.refl _ _) ?_; focus (first | rfl | (go_simp; done))) | (refine sched_call ?_ 92 #[.float .f64 vf, .float .f64 0] ?_ (HS0.out _) ?_; (focus (first | rfl | (go_simp; done))); (focus (first | rfl | (go_simp; done))); rintro e w3 ⟨rfl, rfl⟩; refine ⟨_, rfl, AgC.refl _ _, ?_⟩) | (refine sched_call ?_ 93 #[.float .f64 vf] ?_ (rnorm_any _ _) ?_; (focus (first | rfl | (go_simp; done))); (focus (first | rfl | (go_simp; done))); rintro e w3 ⟨rfl, rfl⟩; refine ⟨_, rfl, AgC.refl _ _, ?_⟩) | (refine sched_call ?_ 92 #[.float .f64 vf, .float .f64 (normF vf)] ?_ (HS1.out _) ?_; (focus (first | rfl | (go_simp; done))); (focus (first | rfl | (go_simp; done))); rintro e w3 ⟨rfl, rfl⟩; refine ⟨_, rfl, AgC.refl _ _, ?_⟩))
   refine sched_nil ?_
   go_wp2_with fail
   go_ret
   exact ⟨by rw [HV.out]; rfl, HF.out.drew⟩
end Go.Proofs.YthadcdoepoglkaaGreatDoor
namespace Go.Proofs.YthadcdoepoglkaaGreatDoor
open Go.RowKit Go.Lig
set_option maxRecDepth 100000 in
set_option maxHeartbeats 8000000 in
theorem ris_3 (w : World) (vk : Int) (vb : Bool) (vn : Int) (vf : Nat) (vt : ByteArray) (m : Nat) (hm0 : vt.size = m) (hl : m ≤ 140737488355328) (hk : vk = 3) :
  Calls Tryz.prog 40 #[.agg #[.int .i64 vk, .bool vb, .int .i64 vn, .float .f64 vf, .string vt]] w fun e w' => e = .returned (.bool (rvalB ⟨vk, vb, vn, vf, vt⟩)) ∧ Fr No w w' := by
 have q1 : ((vk : Int) != 1) = true := by rw [hk]; rfl
 have q2 : ((vk : Int) != 2) = true := by rw [hk]; rfl
 have q3 : ((vk : Int) != 3) = false := by rw [hk]; rfl
 have q4 : ((vk : Int) != 4) = true := by rw [hk]; rfl
 have HBAD : Hid (rbadB ⟨vk, vb, vn, vf, vt⟩ = true → rvalB ⟨vk, vb, vn, vf, vt⟩ = false) := hid (fun h => by unfold rvalB; rw [h]; rfl)
 have HGOOD : Hid (rbadB ⟨vk, vb, vn, vf, vt⟩ = false → rvalB ⟨vk, vb, vn, vf, vt⟩ = (textOk vt && (decide (0 ≤ vk) && (decide (vk ≤ 4) && decide (vt.size ≤ 12))))) := hid (fun h => by unfold rvalB; rw [h]; rfl)
 obtain ⟨c0, c1, c2, c3, c4⟩ := cells5 (heap1 w (.cells #[.int .i64 vk, .bool vb, .int .i64 vn, .float .f64 vf, .string vt] 56))
 have HF := hid ((Fr.refl No w).alloc (.cells #[.int .i64 vk, .bool vb, .int .i64 vn, .float .f64 vf, .string vt] 56))
 obtain ⟨wa, hwa⟩ : ∃ wa, w.alloc (.cells #[.int .i64 vk, .bool vb, .int .i64 vn, .float .f64 vf, .string vt] 56) = wa := ⟨_, rfl⟩
 rw [hwa] at c0 c1 c2 c3 c4 HF
 have HS0 := hid (fun W => rsame_any W vf 0)
 have HS1 := hid (fun W => rsame_any W vf (normF vf))
 have hm : vt.size = m := hm0
 cases vb with
 | true =>
  have HV := hid (HBAD.out (by unfold rbadB; simp [hk]))
  clear hk
  go_enter Tryz.func40, Tryz.ntmps40
  go_wp2_with fail
  (try rw [hwa])
  clear hwa
  refine wp_region_sched (by kernel_rfl) 47 [24, 43, 44] [0, 1, 2, 3, 4, 5, 6, 7, 8, 9, 10, 11, 12, 13, 14, 15, 16, 17, 18, 19, 20, 21, 22, 23, 24, 25, 26, 27, 28, 29, 30, 31, 32, 33, 34, 35, 36, 37, 38, 39, 40, 41, 42, 43, 44, 45, 46] (AgC [w.heap.size] wa.drew) (by kernel_rfl) (AgC.refl _ _) ?_
  simp only [List.map_cons, List.map_nil, List.contains_cons, List.contains_nil, nth_zero, nth_succ, Nat.reduceBEq, Bool.false_or, Bool.or_false, Bool.or_true, Bool.true_or]
  repeat (first | (refine sched_quiet (fun K hK => ?_); go_simp; refine hK _ ?_; clear hK K) | (refine sched_skip ?_ (AgC.refl _ _) ?_; focus (first | rfl | (go_simp; done))) | (refine sched_call ?_ 92 #[.float .f64 vf, .float .f64 0] ?_ (HS0.out _) ?_; (focus (first | rfl | (go_simp; done))); (focus (first | rfl | (go_simp; done))); rintro e w3 ⟨rfl, rfl⟩; refine ⟨_, rfl, AgC.refl _ _, ?_⟩) | (refine sched_call ?_ 93 #[.float .f64 vf] ?_ (rnorm_any _ _) ?_; (focus (first | rfl | (go_simp; done))); (focus (first | rfl | (go_simp; done))); rintro e w3 ⟨rfl, rfl⟩; refine ⟨_, rfl, AgC.refl _ _, ?_⟩) | (refine sched_call ?_ 92 #[.float .f64 vf, .float .f64 (normF vf)] ?_ (HS1.out _) ?_; (focus (first | rfl | (go_simp; done))); (focus (first | rfl | (go_simp; done))); rintro e w3 ⟨rfl, rfl⟩; refine ⟨_, rfl, AgC.refl _ _, ?_⟩))
  refine sched_nil ?_
  go_wp2_with fail
  go_ret
  exact ⟨by rw [HV.out]; rfl, HF.out.drew⟩
 | false =>
  by_cases hn : vn = 0
  ·have p2 : ((vn : Int) != 0) = false := by rw [hn]; rfl
   by_cases ht : vt.size = 0
   ·have h3 := toList_nil ht
    by_cases hnf : vf = normF vf
    ·rw [decide_eq_true hnf] at HS1
     have HG := hid (HGOOD.out (by unfold rbadB; simp [hk, hn, ht]; exact hnf))
     clear hk hn ht hnf
     go_enter Tryz.func40, Tryz.ntmps40
     go_wp2_with fail
     (try rw [hwa])
     clear hwa
     refine wp_region_sched (by kernel_rfl) 47 [24, 43, 44] [0, 1, 2, 3, 4, 5, 6, 7, 8, 9, 10, 11, 12, 13, 14, 15, 16, 17, 18, 19, 20, 21, 22, 23, 24, 25, 26, 27, 28, 29, 30, 31, 32, 33, 34, 35, 36, 37, 38, 39, 40, 41, 42, 43, 44, 45, 46] (AgC [w.heap.size] wa.drew) (by kernel_rfl) (AgC.refl _ _) ?_
     simp only [List.map_cons, List.map_nil, List.contains_cons, List.contains_nil, nth_zero, nth_succ, Nat.reduceBEq, Bool.false_or, Bool.or_false, Bool.or_true, Bool.true_or]
     repeat (first | (refine sched_quiet (fun K hK => ?_); go_simp; refine hK _ ?_; clear hK K) | (refine sched_skip ?_ (AgC.refl _ _) ?_; focus (first | rfl | (go_simp; done))) | (refine sched_call ?_ 92 #[.float .f64 vf, .float .f64 0] ?_ (HS0.out _) ?_; (focus (first | rfl | (go_simp; done))); (focus (first | rfl | (go_simp; done))); rintro e w3 ⟨rfl, rfl⟩; refine ⟨_, rfl, AgC.refl _ _, ?_⟩) | (refine sched_call ?_ 93 #[.float .f64 vf] ?_ (rnorm_any _ _) ?_; (focus (first | rfl | (go_simp; done))); (focus (first | rfl | (go_simp; done))); rintro e w3 ⟨rfl, rfl⟩; refine ⟨_, rfl, AgC.refl _ _, ?_⟩) | (refine sched_call ?_ 92 #[.float .f64 vf, .float .f64 (normF vf)] ?_ (HS1.out _) ?_; (focus (first | rfl | (go_simp; done))); (focus (first | rfl | (go_simp; done))); rintro e w3 ⟨rfl, rfl⟩; refine ⟨_, rfl, AgC.refl _ _, ?_⟩))
     refine sched_nil ?_
     go_wp2_with fail
     go_loop [3] (fun vi => ∃ i : Nat, i ≤ m ∧ vi = .int .i64 (i : Int) ∧ Hid (∀ k b, k < i → vt.data.toList[k]? = some b → okByte b = true)) (fun vi => m - (intOf vi).toNat)
     case atStart => exact ⟨0, Nat.zero_le _, rfl, fun k b hk => absurd hk (Nat.not_lt_zero _)⟩
     case round =>
      obtain ⟨i, hi, rfl, hF⟩ := hrel
      by_cases hlt : i < m
      ·have his : i < vt.size := by omega
       have HY := hid (byte_at his)
       by_cases h1 : ((vt[i]'his).toNat : Int) < 32
       ·have HV : Hid (textOk vt = false) := hid (by unfold textOk; exact List.all_eq_false.2 ⟨_, List.mem_of_getElem? HY.out, by unfold okByte; rw [decide_eq_false (by omega)]; simp⟩)
        go_wp2_with fail
        go_ret
        exact ⟨by rw [HG.out, HV.out]; rfl, HF.out.drew⟩
       ·by_cases h2 : (126 : Int) < ((vt[i]'his).toNat : Int)
        ·have HV : Hid (textOk vt = false) := hid (by unfold textOk; exact List.all_eq_false.2 ⟨_, List.mem_of_getElem? HY.out, by unfold okByte; rw [decide_eq_false (show ¬ (vt[i]'his).toNat ≤ 126 by omega)]; simp⟩)
         go_wp2_with fail
         go_ret
         exact ⟨by rw [HG.out, HV.out]; rfl, HF.out.drew⟩
        ·have HV : Hid (okByte (vt[i]'his) = true) := hid (by unfold okByte; rw [decide_eq_true (by omega), decide_eq_true (by omega)]; rfl)
         go_wp2_with fail
         go_round
         case rel => exact ⟨i + 1, by omega, by go_num, fun k b hk hb => by
          rcases Nat.lt_succ_iff_lt_or_eq.1 hk with h | rfl
          ·exact hF.out k b h hb
          ·rw [HY.out] at hb; obtain rfl := Option.some.inj hb; exact HV.out⟩
         case measure => simp [intOf]; omega
      ·obtain rfl : i = m := by omega
       have HT : Hid (textOk vt = true) := hid (by
        unfold textOk
        rw [List.all_eq_true]
        intro x hx
        obtain ⟨k, hk, rfl⟩ := List.getElem_of_mem hx
        exact hF.out k _ (by simp at hk; omega) (List.getElem?_eq_getElem hk))
       have HH : Hid (decide ((i : Int) ≤ 12) = decide (vt.size ≤ 12)) := hid (by rw [decide_eq_decide]; omega)
       clear hlt
       by_cases h1 : 0 ≤ vk
       ·have H1 := hid h1
        by_cases h2 : vk ≤ 4
        ·have H2 := hid h2
         go_wp2_with fail
         go_ret
         exact ⟨by rw [HG.out, HT.out, decide_eq_true (show 0 ≤ vk by have := H1.out; omega), decide_eq_true (show vk ≤ 4 by have := H2.out; omega), ← HH.out]; rfl, HF.out.drew⟩
        ·have H2 := hid h2
         go_wp2_with fail
         go_ret
         exact ⟨by rw [HG.out, HT.out, decide_eq_true (show 0 ≤ vk by have := H1.out; omega), decide_eq_false (show ¬ vk ≤ 4 by have := H2.out; omega)]; rfl, HF.out.drew⟩
       ·have H1 := hid h1
        go_wp2_with fail
        go_ret
        exact ⟨by rw [HG.out, HT.out, decide_eq_false (show ¬ 0 ≤ vk by have := H1.out; omega)]; rfl, HF.out.drew⟩
    ·rw [decide_eq_false hnf] at HS1
     have HV := hid (HBAD.out (by unfold rbadB; simp [hk, hn, ht]; exact hnf))
     clear hk hn ht hnf
     go_enter Tryz.func40, Tryz.ntmps40
     go_wp2_with fail
     (try rw [hwa])
     clear hwa
     refine wp_region_sched (by kernel_rfl) 47 [24, 43, 44] [0, 1, 2, 3, 4, 5, 6, 7, 8, 9, 10, 11, 12, 13, 14, 15, 16, 17, 18, 19, 20, 21, 22, 23, 24, 25, 26, 27, 28, 29, 30, 31, 32, 33, 34, 35, 36, 37, 38, 39, 40, 41, 42, 43, 44, 45, 46] (AgC [w.heap.size] wa.drew) (by kernel_rfl) (AgC.refl _ _) ?_
     simp only [List.map_cons, List.map_nil, List.contains_cons, List.contains_nil, nth_zero, nth_succ, Nat.reduceBEq, Bool.false_or, Bool.or_false, Bool.or_true, Bool.true_or]
     repeat (first | (refine sched_quiet (fun K hK => ?_); go_simp; refine hK _ ?_; clear hK K) | (refine sched_skip ?_ (AgC.refl _ _) ?_; focus (first | rfl | (go_simp; done))) | (refine sched_call ?_ 92 #[.float .f64 vf, .float .f64 0] ?_ (HS0.out _) ?_; (focus (first | rfl | (go_simp; done))); (focus (first | rfl | (go_simp; done))); rintro e w3 ⟨rfl, rfl⟩; refine ⟨_, rfl, AgC.refl _ _, ?_⟩) | (refine sched_call ?_ 93 #[.float .f64 vf] ?_ (rnorm_any _ _) ?_; (focus (first | rfl | (go_simp; done))); (focus (first | rfl | (go_simp; done))); rintro e w3 ⟨rfl, rfl⟩; refine ⟨_, rfl, AgC.refl _ _, ?_⟩) | (refine sched_call ?_ 92 #[.float .f64 vf, .float .f64 (normF vf)] ?_ (HS1.out _) ?_; (focus (first | rfl | (go_simp; done))); (focus (first | rfl | (go_simp; done))); rintro e w3 ⟨rfl, rfl⟩; refine ⟨_, rfl, AgC.refl _ _, ?_⟩))
     refine sched_nil ?_
     go_wp2_with fail
     go_ret
     exact ⟨by rw [HV.out]; rfl, HF.out.drew⟩
   ·have h3 := toList_ne ht
    have HV := hid (HBAD.out (by unfold rbadB; simp [hk, hn, ht]))
    clear hk hn ht
    go_enter Tryz.func40, Tryz.ntmps40
    go_wp2_with fail
    (try rw [hwa])
    clear hwa
    refine wp_region_sched (by kernel_rfl) 47 [24, 43, 44] [0, 1, 2, 3, 4, 5, 6, 7, 8, 9, 10, 11, 12, 13, 14, 15, 16, 17, 18, 19, 20, 21, 22, 23, 24, 25, 26, 27, 28, 29, 30, 31, 32, 33, 34, 35, 36, 37, 38, 39, 40, 41, 42, 43, 44, 45, 46] (AgC [w.heap.size] wa.drew) (by kernel_rfl) (AgC.refl _ _) ?_
    simp only [List.map_cons, List.map_nil, List.contains_cons, List.contains_nil, nth_zero, nth_succ, Nat.reduceBEq, Bool.false_or, Bool.or_false, Bool.or_true, Bool.true_or]
    repeat (first | (refine sched_quiet (fun K hK => ?_); go_simp; refine hK _ ?_; clear hK K) | (refine sched_skip ?_ (AgC.refl _ _) ?_; focus (first | rfl | (go_simp; done))) | (refine sched_call ?_ 92 #[.float .f64 vf, .float .f64 0] ?_ (HS0.out _) ?_; (focus (first | rfl | (go_simp; done))); (focus (first | rfl | (go_simp; done))); rintro e w3 ⟨rfl, rfl⟩; refine ⟨_, rfl, AgC.refl _ _, ?_⟩) | (refine sched_call ?_ 93 #[.float .f64 vf] ?_ (rnorm_any _ _) ?_; (focus (first | rfl | (go_simp; done))); (focus (first | rfl | (go_simp; done))); rintro e w3 ⟨rfl, rfl⟩; refine ⟨_, rfl, AgC.refl _ _, ?_⟩) | (refine sched_call ?_ 92 #[.float .f64 vf, .float .f64 (normF vf)] ?_ (HS1.out _) ?_; (focus (first | rfl | (go_simp; done))); (focus (first | rfl | (go_simp; done))); rintro e w3 ⟨rfl, rfl⟩; refine ⟨_, rfl, AgC.refl _ _, ?_⟩))
    refine sched_nil ?_
    go_wp2_with fail
    go_ret
    exact ⟨by rw [HV.out]; rfl, HF.out.drew⟩
  ·have p2 : ((vn : Int) != 0) = true := by rw [bne_iff_ne]; exact hn
   have HV := hid (HBAD.out (by unfold rbadB; simp [hk, hn]))
   clear hk hn
   go_enter Tryz.func40, Tryz.ntmps40
   go_wp2_with fail
   (try rw [hwa])
   clear hwa
   refine wp_region_sched (by kernel_rfl) 47 [24, 43, 44] [0, 1, 2, 3, 4, 5, 6, 7, 8, 9, 10, 11, 12, 13, 14, 15, 16, 17, 18, 19, 20, 21, 22, 23, 24, 25, 26, 27, 28, 29, 30, 31, 32, 33, 34, 35, 36, 37, 38, 39, 40, 41, 42, 43, 44, 45, 46] (AgC [w.heap.size] wa.drew) (by kernel_rfl) (AgC.refl _ _) ?_
   simp only [List.map_cons, List.map_nil, List.contains_cons, List.contains_nil, nth_zero, nth_succ, Nat.reduceBEq, Bool.false_or, Bool.or_false, Bool.or_true, Bool.true_or]
   repeat (first | (refine sched_quiet (fun K hK => ?_); go_simp; refine hK _ ?_; clear hK K) | (refine sched_skip ?_ (AgC.refl _ _) ?_; focus (first | rfl | (go_simp; done))) | (refine sched_call ?_ 92 #[.float .f64 vf, .float .f64 0] ?_ (HS0.out _) ?_; (focus (first | rfl | (go_simp; done))); (focus (first | rfl | (go_simp; done))); rintro e w3 ⟨rfl, rfl⟩; refine ⟨_, rfl, AgC.refl _ _, ?_⟩) | (refine sched_call ?_ 93 #[.float .f64 vf] ?_ (rnorm_any _ _) ?_; (focus (first | rfl | (go_simp; done))); (focus (first | rfl | (go_simp; done))); rintro e w3 ⟨rfl, rfl⟩; refine ⟨_, rfl, AgC.refl _ _, ?_⟩) | (refine sched_call ?_ 92 #[.float .f64 vf, .float .f64 (normF vf)] ?_ (HS1.out _) ?_; (focus (first | rfl | (go_simp; done))); (focus (first | rfl | (go_simp; done))); rintro e w3 ⟨rfl, rfl⟩; refine ⟨_, rfl, AgC.refl _ _, ?_⟩))
   refine sched_nil ?_
   go_wp2_with fail
   go_ret
   exact ⟨by rw [HV.out]; rfl, HF.out.drew⟩
end Go.Proofs.YthadcdoepoglkaaGreatDoor
namespace Go.Proofs.YthadcdoepoglkaaGreatDoor
open Go.RowKit Go.Lig
set_option maxRecDepth 100000 in
set_option maxHeartbeats 8000000 in
theorem ris_4 (w : World) (vk : Int) (vb : Bool) (vn : Int) (vf : Nat) (vt : ByteArray) (m : Nat) (hm0 : vt.size = m) (hl : m ≤ 140737488355328) (hk : vk = 4) :
  Calls Tryz.prog 40 #[.agg #[.int .i64 vk, .bool vb, .int .i64 vn, .float .f64 vf, .string vt]] w fun e w' => e = .returned (.bool (rvalB ⟨vk, vb, vn, vf, vt⟩)) ∧ Fr No w w' := by
 have q1 : ((vk : Int) != 1) = true := by rw [hk]; rfl
 have q2 : ((vk : Int) != 2) = true := by rw [hk]; rfl
 have q3 : ((vk : Int) != 3) = true := by rw [hk]; rfl
 have q4 : ((vk : Int) != 4) = false := by rw [hk]; rfl
 have HBAD : Hid (rbadB ⟨vk, vb, vn, vf, vt⟩ = true → rvalB ⟨vk, vb, vn, vf, vt⟩ = false) := hid (fun h => by unfold rvalB; rw [h]; rfl)
 have HGOOD : Hid (rbadB ⟨vk, vb, vn, vf, vt⟩ = false → rvalB ⟨vk, vb, vn, vf, vt⟩ = (textOk vt && (decide (0 ≤ vk) && (decide (vk ≤ 4) && decide (vt.size ≤ 12))))) := hid (fun h => by unfold rvalB; rw [h]; rfl)
 obtain ⟨c0, c1, c2, c3, c4⟩ := cells5 (heap1 w (.cells #[.int .i64 vk, .bool vb, .int .i64 vn, .float .f64 vf, .string vt] 56))
 have HF := hid ((Fr.refl No w).alloc (.cells #[.int .i64 vk, .bool vb, .int .i64 vn, .float .f64 vf, .string vt] 56))
 obtain ⟨wa, hwa⟩ : ∃ wa, w.alloc (.cells #[.int .i64 vk, .bool vb, .int .i64 vn, .float .f64 vf, .string vt] 56) = wa := ⟨_, rfl⟩
 rw [hwa] at c0 c1 c2 c3 c4 HF
 have HS0 := hid (fun W => rsame_any W vf 0)
 have HS1 := hid (fun W => rsame_any W vf (normF vf))
 have hm : vt.size = m := hm0
 cases vb with
 | true =>
  have HV := hid (HBAD.out (by unfold rbadB; simp [hk]))
  clear hk
  go_enter Tryz.func40, Tryz.ntmps40
  go_wp2_with fail
  (try rw [hwa])
  clear hwa
  refine wp_region_sched (by kernel_rfl) 47 [24, 43, 44] [0, 1, 2, 3, 4, 5, 6, 7, 8, 9, 10, 11, 12, 13, 14, 15, 16, 17, 18, 19, 20, 21, 22, 23, 24, 25, 26, 27, 28, 29, 30, 31, 32, 33, 34, 35, 36, 37, 38, 39, 40, 41, 42, 43, 44, 45, 46] (AgC [w.heap.size] wa.drew) (by kernel_rfl) (AgC.refl _ _) ?_
  simp only [List.map_cons, List.map_nil, List.contains_cons, List.contains_nil, nth_zero, nth_succ, Nat.reduceBEq, Bool.false_or, Bool.or_false, Bool.or_true, Bool.true_or]
  repeat (first | (refine sched_quiet (fun K hK => ?_); go_simp; refine hK _ ?_; clear hK K) | (refine sched_skip ?_ (AgC.refl _ _) ?_; focus (first | rfl | (go_simp; done))) | (refine sched_call ?_ 92 #[.float .f64 vf, .float .f64 0] ?_ (HS0.out _) ?_; (focus (first | rfl | (go_simp; done))); (focus (first | rfl | (go_simp; done))); rintro e w3 ⟨rfl, rfl⟩; refine ⟨_, rfl, AgC.refl _ _, ?_⟩) | (refine sched_call ?_ 93 #[.float .f64 vf] ?_ (rnorm_any _ _) ?_; (focus (first | rfl | (go_simp; done))); (focus (first | rfl | (go_simp; done))); rintro e w3 ⟨rfl, rfl⟩; refine ⟨_, rfl, AgC.refl _ _, ?_⟩) | (refine sched_call ?_ 92 #[.float .f64 vf, .float .f64 (normF vf)] ?_ (HS1.out _) ?_; (focus (first | rfl | (go_simp; done))); (focus (first | rfl | (go_simp; done))); rintro e w3 ⟨rfl, rfl⟩; refine ⟨_, rfl, AgC.refl _ _, ?_⟩))
  refine sched_nil ?_
  go_wp2_with fail
  go_ret
  exact ⟨by rw [HV.out]; rfl, HF.out.drew⟩
 | false =>
  by_cases hn : vn = 0
  ·have p2 : ((vn : Int) != 0) = false := by rw [hn]; rfl
   by_cases hf : vf = 0
   ·rw [decide_eq_true hf] at HS0
    have hnf : vf = normF vf := by rw [hf]; exact normF_zero.symm
    rw [decide_eq_true hnf] at HS1
    have HG := hid (HGOOD.out (by unfold rbadB; simp [hk, hn, hf, normF_zero]))
    clear hk hn hf hnf
    go_enter Tryz.func40, Tryz.ntmps40
    go_wp2_with fail
    (try rw [hwa])
    clear hwa
    refine wp_region_sched (by kernel_rfl) 47 [24, 43, 44] [0, 1, 2, 3, 4, 5, 6, 7, 8, 9, 10, 11, 12, 13, 14, 15, 16, 17, 18, 19, 20, 21, 22, 23, 24, 25, 26, 27, 28, 29, 30, 31, 32, 33, 34, 35, 36, 37, 38, 39, 40, 41, 42, 43, 44, 45, 46] (AgC [w.heap.size] wa.drew) (by kernel_rfl) (AgC.refl _ _) ?_
    simp only [List.map_cons, List.map_nil, List.contains_cons, List.contains_nil, nth_zero, nth_succ, Nat.reduceBEq, Bool.false_or, Bool.or_false, Bool.or_true, Bool.true_or]
    repeat (first | (refine sched_quiet (fun K hK => ?_); go_simp; refine hK _ ?_; clear hK K) | (refine sched_skip ?_ (AgC.refl _ _) ?_; focus (first | rfl | (go_simp; done))) | (refine sched_call ?_ 92 #[.float .f64 vf, .float .f64 0] ?_ (HS0.out _) ?_; (focus (first | rfl | (go_simp; done))); (focus (first | rfl | (go_simp; done))); rintro e w3 ⟨rfl, rfl⟩; refine ⟨_, rfl, AgC.refl _ _, ?_⟩) | (refine sched_call ?_ 93 #[.float .f64 vf] ?_ (rnorm_any _ _) ?_; (focus (first | rfl | (go_simp; done))); (focus (first | rfl | (go_simp; done))); rintro e w3 ⟨rfl, rfl⟩; refine ⟨_, rfl, AgC.refl _ _, ?_⟩) | (refine sched_call ?_ 92 #[.float .f64 vf, .float .f64 (normF vf)] ?_ (HS1.out _) ?_; (focus (first | rfl | (go_simp; done))); (focus (first | rfl | (go_simp; done))); rintro e w3 ⟨rfl, rfl⟩; refine ⟨_, rfl, AgC.refl _ _, ?_⟩))
    refine sched_nil ?_
    go_wp2_with fail
    go_loop [3] (fun vi => ∃ i : Nat, i ≤ m ∧ vi = .int .i64 (i : Int) ∧ Hid (∀ k b, k < i → vt.data.toList[k]? = some b → okByte b = true)) (fun vi => m - (intOf vi).toNat)
    case atStart => exact ⟨0, Nat.zero_le _, rfl, fun k b hk => absurd hk (Nat.not_lt_zero _)⟩
    case round =>
     obtain ⟨i, hi, rfl, hF⟩ := hrel
     by_cases hlt : i < m
     ·have his : i < vt.size := by omega
      have HY := hid (byte_at his)
      by_cases h1 : ((vt[i]'his).toNat : Int) < 32
      ·have HV : Hid (textOk vt = false) := hid (by unfold textOk; exact List.all_eq_false.2 ⟨_, List.mem_of_getElem? HY.out, by unfold okByte; rw [decide_eq_false (by omega)]; simp⟩)
       go_wp2_with fail
       go_ret
       exact ⟨by rw [HG.out, HV.out]; rfl, HF.out.drew⟩
      ·by_cases h2 : (126 : Int) < ((vt[i]'his).toNat : Int)
       ·have HV : Hid (textOk vt = false) := hid (by unfold textOk; exact List.all_eq_false.2 ⟨_, List.mem_of_getElem? HY.out, by unfold okByte; rw [decide_eq_false (show ¬ (vt[i]'his).toNat ≤ 126 by omega)]; simp⟩)
        go_wp2_with fail
        go_ret
        exact ⟨by rw [HG.out, HV.out]; rfl, HF.out.drew⟩
       ·have HV : Hid (okByte (vt[i]'his) = true) := hid (by unfold okByte; rw [decide_eq_true (by omega), decide_eq_true (by omega)]; rfl)
        go_wp2_with fail
        go_round
        case rel => exact ⟨i + 1, by omega, by go_num, fun k b hk hb => by
         rcases Nat.lt_succ_iff_lt_or_eq.1 hk with h | rfl
         ·exact hF.out k b h hb
         ·rw [HY.out] at hb; obtain rfl := Option.some.inj hb; exact HV.out⟩
        case measure => simp [intOf]; omega
     ·obtain rfl : i = m := by omega
      have HT : Hid (textOk vt = true) := hid (by
       unfold textOk
       rw [List.all_eq_true]
       intro x hx
       obtain ⟨k, hk, rfl⟩ := List.getElem_of_mem hx
       exact hF.out k _ (by simp at hk; omega) (List.getElem?_eq_getElem hk))
      have HH : Hid (decide ((i : Int) ≤ 12) = decide (vt.size ≤ 12)) := hid (by rw [decide_eq_decide]; omega)
      clear hlt
      by_cases h1 : 0 ≤ vk
      ·have H1 := hid h1
       by_cases h2 : vk ≤ 4
       ·have H2 := hid h2
        go_wp2_with fail
        go_ret
        exact ⟨by rw [HG.out, HT.out, decide_eq_true (show 0 ≤ vk by have := H1.out; omega), decide_eq_true (show vk ≤ 4 by have := H2.out; omega), ← HH.out]; rfl, HF.out.drew⟩
       ·have H2 := hid h2
        go_wp2_with fail
        go_ret
        exact ⟨by rw [HG.out, HT.out, decide_eq_true (show 0 ≤ vk by have := H1.out; omega), decide_eq_false (show ¬ vk ≤ 4 by have := H2.out; omega)]; rfl, HF.out.drew⟩
      ·have H1 := hid h1
       go_wp2_with fail
       go_ret
       exact ⟨by rw [HG.out, HT.out, decide_eq_false (show ¬ 0 ≤ vk by have := H1.out; omega)]; rfl, HF.out.drew⟩
   ·rw [decide_eq_false hf] at HS0
    have HV := hid (HBAD.out (by unfold rbadB; simp [hk, hn, hf]))
    clear hk hn hf
    go_enter Tryz.func40, Tryz.ntmps40
    go_wp2_with fail
    (try rw [hwa])
    clear hwa
    refine wp_region_sched (by kernel_rfl) 47 [24, 43, 44] [0, 1, 2, 3, 4, 5, 6, 7, 8, 9, 10, 11, 12, 13, 14, 15, 16, 17, 18, 19, 20, 21, 22, 23, 24, 25, 26, 27, 28, 29, 30, 31, 32, 33, 34, 35, 36, 37, 38, 39, 40, 41, 42, 43, 44, 45, 46] (AgC [w.heap.size] wa.drew) (by kernel_rfl) (AgC.refl _ _) ?_
    simp only [List.map_cons, List.map_nil, List.contains_cons, List.contains_nil, nth_zero, nth_succ, Nat.reduceBEq, Bool.false_or, Bool.or_false, Bool.or_true, Bool.true_or]
    repeat (first | (refine sched_quiet (fun K hK => ?_); go_simp; refine hK _ ?_; clear hK K) | (refine sched_skip ?_ (AgC.refl _ _) ?_; focus (first | rfl | (go_simp; done))) | (refine sched_call ?_ 92 #[.float .f64 vf, .float .f64 0] ?_ (HS0.out _) ?_; (focus (first | rfl | (go_simp; done))); (focus (first | rfl | (go_simp; done))); rintro e w3 ⟨rfl, rfl⟩; refine ⟨_, rfl, AgC.refl _ _, ?_⟩) | (refine sched_call ?_ 93 #[.float .f64 vf] ?_ (rnorm_any _ _) ?_; (focus (first | rfl | (go_simp; done))); (focus (first | rfl | (go_simp; done))); rintro e w3 ⟨rfl, rfl⟩; refine ⟨_, rfl, AgC.refl _ _, ?_⟩) | (refine sched_call ?_ 92 #[.float .f64 vf, .float .f64 (normF vf)] ?_ (HS1.out _) ?_; (focus (first | rfl | (go_simp; done))); (focus (first | rfl | (go_simp; done))); rintro e w3 ⟨rfl, rfl⟩; refine ⟨_, rfl, AgC.refl _ _, ?_⟩))
    refine sched_nil ?_
    go_wp2_with fail
    go_ret
    exact ⟨by rw [HV.out]; rfl, HF.out.drew⟩
  ·have p2 : ((vn : Int) != 0) = true := by rw [bne_iff_ne]; exact hn
   have HV := hid (HBAD.out (by unfold rbadB; simp [hk, hn]))
   clear hk hn
   go_enter Tryz.func40, Tryz.ntmps40
   go_wp2_with fail
   (try rw [hwa])
   clear hwa
   refine wp_region_sched (by kernel_rfl) 47 [24, 43, 44] [0, 1, 2, 3, 4, 5, 6, 7, 8, 9, 10, 11, 12, 13, 14, 15, 16, 17, 18, 19, 20, 21, 22, 23, 24, 25, 26, 27, 28, 29, 30, 31, 32, 33, 34, 35, 36, 37, 38, 39, 40, 41, 42, 43, 44, 45, 46] (AgC [w.heap.size] wa.drew) (by kernel_rfl) (AgC.refl _ _) ?_
   simp only [List.map_cons, List.map_nil, List.contains_cons, List.contains_nil, nth_zero, nth_succ, Nat.reduceBEq, Bool.false_or, Bool.or_false, Bool.or_true, Bool.true_or]
   repeat (first | (refine sched_quiet (fun K hK => ?_); go_simp; refine hK _ ?_; clear hK K) | (refine sched_skip ?_ (AgC.refl _ _) ?_; focus (first | rfl | (go_simp; done))) | (refine sched_call ?_ 92 #[.float .f64 vf, .float .f64 0] ?_ (HS0.out _) ?_; (focus (first | rfl | (go_simp; done))); (focus (first | rfl | (go_simp; done))); rintro e w3 ⟨rfl, rfl⟩; refine ⟨_, rfl, AgC.refl _ _, ?_⟩) | (refine sched_call ?_ 93 #[.float .f64 vf] ?_ (rnorm_any _ _) ?_; (focus (first | rfl | (go_simp; done))); (focus (first | rfl | (go_simp; done))); rintro e w3 ⟨rfl, rfl⟩; refine ⟨_, rfl, AgC.refl _ _, ?_⟩) | (refine sched_call ?_ 92 #[.float .f64 vf, .float .f64 (normF vf)] ?_ (HS1.out _) ?_; (focus (first | rfl | (go_simp; done))); (focus (first | rfl | (go_simp; done))); rintro e w3 ⟨rfl, rfl⟩; refine ⟨_, rfl, AgC.refl _ _, ?_⟩))
   refine sched_nil ?_
   go_wp2_with fail
   go_ret
   exact ⟨by rw [HV.out]; rfl, HF.out.drew⟩
end Go.Proofs.YthadcdoepoglkaaGreatDoor
