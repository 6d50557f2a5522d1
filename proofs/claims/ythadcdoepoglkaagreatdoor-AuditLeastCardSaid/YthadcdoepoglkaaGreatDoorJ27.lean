/- A part of the proof: contracts of functions of the program, for the row's text. -/
import Derived.Test.YthadcdoepoglkaaGreatDoorJ26
import Derived.Test.YthadcdoepoglkaaGreatDoorJ24
import Derived.Test.YthadcdoepoglkaaGreatDoorJ06
import Derived.Lib.Overlaps
import Derived.Lib.AppendZerosOnto
import Derived.Laws.Externs
namespace Go.Proofs.YthadcdoepoglkaaGreatDoor
open Go.RowKit Go.Lig
set_option maxRecDepth 100000 in
set_option maxHeartbeats 8000000 in
theorem ris_o (w : World) (vk : Int) (vb : Bool) (vn : Int) (vf : Nat) (vt : ByteArray) (m : Nat) (hm0 : vt.size = m) (hl : m ≤ 140737488355328) (hk1 : vk ≠ 1) (hk2 : vk ≠ 2) (hk3 : vk ≠ 3) (hk4 : vk ≠ 4) :
  Calls Tryz.prog 40 #[.agg #[.int .i64 vk, .bool vb, .int .i64 vn, .float .f64 vf, .string vt]] w fun e w' => e = .returned (.bool (rvalB ⟨vk, vb, vn, vf, vt⟩)) ∧ Fr No w w' := by
 have q1 : ((vk : Int) != 1) = true := by rw [bne_iff_ne]; exact hk1
 have q2 : ((vk : Int) != 2) = true := by rw [bne_iff_ne]; exact hk2
 have q3 : ((vk : Int) != 3) = true := by rw [bne_iff_ne]; exact hk3
 have q4 : ((vk : Int) != 4) = true := by rw [bne_iff_ne]; exact hk4
 have HBAD : Hid (rbadB ⟨vk, vb, vn, vf, vt⟩ = true → rvalB ⟨vk, vb, vn, vf, vt⟩ = false) := hid (fun h => by unfold rvalB; rw [h]; rfl)
 have HGOOD : Hid (rbadB ⟨vk, vb, vn, vf, vt⟩ = false → rvalB ⟨vk, vb, vn, vf, vt⟩ = (textOk vt && (decide (0 ≤ vk) && (decide (vk ≤ 4) && decide (vt.size ≤ 12))))) := hid (fun h => by unfold rvalB; rw [h]; rfl)
 obtain ⟨c0, c1, c2, c3, c4⟩ := cells5 (heap1 w (.cells #[.int .i64 vk, .bool vb, .int .i64 vn, .float .f64 vf, .string vt] 56))
 have HF := hid ((Fr.refl No w).alloc (.cells #[.int .i64 vk, .bool vb, .int .i64 vn, .float .f64 vf, .string vt] 56))
 obtain ⟨wa, hwa⟩ : ∃ wa, w.alloc (.cells #[.int .i64 vk, .bool vb, .int .i64 vn, .float .f64 vf, .string vt] 56) = wa := ⟨_, rfl⟩
 rw [hwa] at c0 c1 c2 c3 c4 HF
 have HS0 := hid (fun W => rsame_any W vf 0)
 have HS1 := hid (fun W => rsame_any W vf (normF vf))
 have hm : vt.size = m := hm0
 cases vb with
 | true =>
  have HV := hid (HBAD.out (by unfold rbadB; simp [hk1, hk2, hk3, hk4]))
  clear hk1 hk2 hk3 hk4
  go_enter Tryz.func40, Tryz.ntmps40
  go_wp2_with fail
  (try rw [hwa])
  clear hwa
  refine wp_region_sched (by kernel_rfl) 47 [24, 43, 44] [0, 1, 2, 3, 4, 5, 6, 7, 8, 9, 10, 11, 12, 13, 14, 15, 16, 17, 18, 19, 20, 21, 22, 23, 24, 25, 26, 27, 28, 29, 30, 31, 32, 33, 34, 35, 36, 37, 38, 39, 40, 41, 42, 43, 44, 45, 46] (AgC [w.heap.size] wa.drew) (by kernel_rfl) (AgC.refl _ _) ?_
  simp only [List.map_cons, List.map_nil, List.contains_cons, List.contains_nil, nth_zero, nth_succ, Nat.reduceBEq, Bool.false_or, Bool.or_false, Bool.or_true, Bool.true_or]
  repeat (first | (refine sched_quiet (fun K hK => ?_); go_simp; refine hK _ ?_; clear hK K) | (refine sched_skip ?_ (AgC.refl _ _) ?_; focus (first | rfl | (go_simp; done))) | (refine sched_call ?_ 92 #[.float .f64 vf, .float .f64 0] ?_ (HS0.out _) ?_; (focus (first | rfl | (go_simp; done))); (focus (first | rfl | (go_simp; done))); rintro e w3 ⟨rfl, rfl⟩; refine ⟨_, rfl, AgC.refl _ _, ?_⟩) | (refine sched_call ?_ 93 #[.float .f64 vf] ?_ (rnorm_any _ _) ?_; (focus (first | rfl | (go_simp; done))); (focus (first | rfl | (go_simp; done))); rintro e w3 ⟨rfl, rfl⟩; refine ⟨_, rfl, AgC.refl _ _, ?_⟩) | (refine sched_call ?_ 92 #[.float .f64 vf, .float .f64 (normF vf)] ?_ (HS1.out _) ?_; (focus (first | rfl | (go_simp; done))); (focus (first | rfl | (go_simp; done))); rintro e w3 ⟨rfl, rfl⟩; refine ⟨_, rfl, AgC.refl _ _, ?_⟩))
  refine sched_nil ?_
  go_wp2_with fail
  go_ret
  exact ⟨by rw [HV.out]; rfl, HF.out.drew⟩
 | false =>
  by_cases hn : vn = 0
  ·have p2 : ((vn : Int) != 0) = false := by rw [hn]; rfl
   by_cases hf : vf = 0
   ·rw [decide_eq_true hf] at HS0
    have hnf : vf = normF vf := by rw [hf]; exact normF_zero.symm
    rw [decide_eq_true hnf] at HS1
    by_cases ht : vt.size = 0
    ·have h3 := toList_nil ht
     have HG := hid (HGOOD.out (by unfold rbadB; simp [hk1, hk2, hk3, hk4, hn, hf, normF_zero, ht]))
     clear hk1 hk2 hk3 hk4 hn hf ht hnf
     go_enter Tryz.func40, Tryz.ntmps40
     go_wp2_with fail
     (try rw [hwa])
     clear hwa
     refine wp_region_sched (by kernel_rfl) 47 [24, 43, 44] [0, 1, 2, 3, 4, 5, 6, 7, 8, 9, 10, 11, 12, 13, 14, 15, 16, 17, 18, 19, 20, 21, 22, 23, 24, 25, 26, 27, 28, 29, 30, 31, 32, 33, 34, 35, 36, 37, 38, 39, 40, 41, 42, 43, 44, 45, 46] (AgC [w.heap.size] wa.drew) (by kernel_rfl) (AgC.refl _ _) ?_
     simp only [List.map_cons, List.map_nil, List.contains_cons, List.contains_nil, nth_zero, nth_succ, Nat.reduceBEq, Bool.false_or, Bool.or_false, Bool.or_true, Bool.true_or]
     repeat (first | (refine sched_quiet (fun K hK => ?_); go_simp; refine hK _ ?_; clear hK K) | (refine sched_skip ?_ (AgC.refl _ _) ?_; focus (first | rfl | (go_simp; done))) | (refine sched_call ?_ 92 #[.float .f64 vf, .float .f64 0] ?_ (HS0.out _) ?_; (focus (first | rfl | (go_simp; done))); (focus (first | rfl | (go_simp; done))); rintro e w3 ⟨rfl, rfl⟩; refine ⟨_, rfl, AgC.refl _ _, ?_⟩) | (refine sched_call ?_ 93 #[.float .f64 vf] ?_ (rnorm_any _ _) ?_; (focus (first | rfl | (go_simp; done))); (focus (first | rfl | (go_simp; done))); rintro e w3 ⟨rfl, rfl⟩; refine ⟨_, rfl, AgC.refl _ _, ?_⟩) | (refine sched_call ?_ 92 #[.float .f64 vf, .float .f64 (normF vf)] ?_ (HS1.out _) ?_; (focus (first | rfl | (go_simp; done))); (focus (first | rfl | (go_simp; done))); rintro e w3 ⟨rfl, rfl⟩; refine ⟨_, rfl, AgC.refl _ _, ?_⟩))
     refine sched_nil ?_
     go_wp2_with fail
     go_loop [3] (fun vi => ∃ i : Nat, i ≤ m ∧ vi = .int .i64 (i : Int) ∧ Hid (∀ k b, k < i → vt.data.toList[k]? = some b → okByte b = true)) (fun vi => m - (intOf vi).toNat)
     case atStart => exact ⟨0, Nat.zero_le _, rfl, fun k b hk => absurd hk (Nat.not_lt_zero _)⟩
     case round =>
      obtain ⟨i, hi, rfl, hF⟩ := hrel
      by_cases hlt : i < m
      ·have his : i < vt.size := by omega
       have HY := hid (byte_at his)
       by_cases h1 : ((vt[i]'his).toNat : Int) < 32
       ·have HV : Hid (textOk vt = false) := hid (by unfold textOk; exact List.all_eq_false.2 ⟨_, List.mem_of_getElem? HY.out, by unfold okByte; rw [decide_eq_false (by omega)]; simp⟩)
        go_wp2_with fail
        go_ret
        exact ⟨by rw [HG.out, HV.out]; rfl, HF.out.drew⟩
       ·by_cases h2 : (126 : Int) < ((vt[i]'his).toNat : Int)
        ·have HV : Hid (textOk vt = false) := hid (by unfold textOk; exact List.all_eq_false.2 ⟨_, List.mem_of_getElem? HY.out, by unfold okByte; rw [decide_eq_false (show ¬ (vt[i]'his).toNat ≤ 126 by omega)]; simp⟩)
         go_wp2_with fail
         go_ret
         exact ⟨by rw [HG.out, HV.out]; rfl, HF.out.drew⟩
        ·have HV : Hid (okByte (vt[i]'his) = true) := hid (by unfold okByte; rw [decide_eq_true (by omega), decide_eq_true (by omega)]; rfl)
         go_wp2_with fail
         go_round
         case rel => exact ⟨i + 1, by omega, by go_num, fun k b hk hb => by
          rcases Nat.lt_succ_iff_lt_or_eq.1 hk with h | rfl
          ·exact hF.out k b h hb
          ·rw [HY.out] at hb; obtain rfl := Option.some.inj hb; exact HV.out⟩
         case measure => simp [intOf]; omega
      ·obtain rfl : i = m := by omega
       have HT : Hid (textOk vt = true) := hid (by
        unfold textOk
        rw [List.all_eq_true]
        intro x hx
        obtain ⟨k, hk, rfl⟩ := List.getElem_of_mem hx
        exact hF.out k _ (by simp at hk; omega) (List.getElem?_eq_getElem hk))
       have HH : Hid (decide ((i : Int) ≤ 12) = decide (vt.size ≤ 12)) := hid (by rw [decide_eq_decide]; omega)
       clear hlt
       by_cases h1 : 0 ≤ vk
       ·have H1 := hid h1
        by_cases h2 : vk ≤ 4
        ·have H2 := hid h2
         go_wp2_with fail
         go_ret
         exact ⟨by rw [HG.out, HT.out, decide_eq_true (show 0 ≤ vk by have := H1.out; omega), decide_eq_true (show vk ≤ 4 by have := H2.out; omega), ← HH.out]; rfl, HF.out.drew⟩
        ·have H2 := hid h2
         go_wp2_with fail
         go_ret
         exact ⟨by rw [HG.out, HT.out, decide_eq_true (show 0 ≤ vk by have := H1.out; omega), decide_eq_false (show ¬ vk ≤ 4 by have := H2.out; omega)]; rfl, HF.out.drew⟩
       ·have H1 := hid h1
        go_wp2_with fail
        go_ret
        exact ⟨by rw [HG.out, HT.out, decide_eq_false (show ¬ 0 ≤ vk by have := H1.out; omega)]; rfl, HF.out.drew⟩
    ·have h3 := toList_ne ht
     have HV := hid (HBAD.out (by unfold rbadB; simp [hk1, hk2, hk3, hk4, hn, hf, normF_zero, ht]))
     clear hk1 hk2 hk3 hk4 hn hf ht hnf
     go_enter Tryz.func40, Tryz.ntmps40
     go_wp2_with fail
     (try rw [hwa])
     clear hwa
     refine wp_region_sched (by kernel_rfl) 47 [24, 43, 44] [0, 1, 2, 3, 4, 5, 6, 7, 8, 9, 10, 11, 12, 13, 14, 15, 16, 17, 18, 19, 20, 21, 22, 23, 24, 25, 26, 27, 28, 29, 30, 31, 32, 33, 34, 35, 36, 37, 38, 39, 40, 41, 42, 43, 44, 45, 46] (AgC [w.heap.size] wa.drew) (by kernel_rfl) (AgC.refl _ _) ?_
     simp only [List.map_cons, List.map_nil, List.contains_cons, List.contains_nil, nth_zero, nth_succ, Nat.reduceBEq, Bool.false_or, Bool.or_false, Bool.or_true, Bool.true_or]
     repeat (first | (refine sched_quiet (fun K hK => ?_); go_simp; refine hK _ ?_; clear hK K) | (refine sched_skip ?_ (AgC.refl _ _) ?_; focus (first | rfl | (go_simp; done))) | (refine sched_call ?_ 92 #[.float .f64 vf, .float .f64 0] ?_ (HS0.out _) ?_; (focus (first | rfl | (go_simp; done))); (focus (first | rfl | (go_simp; done))); rintro e w3 ⟨rfl, rfl⟩; refine ⟨_, rfl, AgC.refl _ _, ?_⟩) | (refine sched_call ?_ 93 #[.float .f64 vf] ?_ (rnorm_any _ _) ?_; (focus (first | rfl | (go_simp; done))); (focus (first | rfl | (go_simp; done))); rintro e w3 ⟨rfl, rfl⟩; refine ⟨_, rfl, AgC.refl _ _, ?_⟩) | (refine sched_call ?_ 92 #[.float .f64 vf, .float .f64 (normF vf)] ?_ (HS1.out _) ?_; (focus (first | rfl | (go_simp; done))); (focus (first | rfl | (go_simp; done))); rintro e w3 ⟨rfl, rfl⟩; refine ⟨_, rfl, AgC.refl _ _, ?_⟩))
     refine sched_nil ?_
     go_wp2_with fail
     go_ret
     exact ⟨by rw [HV.out]; rfl, HF.out.drew⟩
   ·rw [decide_eq_false hf] at HS0
    have HV := hid (HBAD.out (by unfold rbadB; simp [hk1, hk2, hk3, hk4, hn, hf]))
    clear hk1 hk2 hk3 hk4 hn hf
    go_enter Tryz.func40, Tryz.ntmps40
    go_wp2_with fail
    (try rw [hwa])
    clear hwa
    refine wp_region_sched (by kernel_rfl) 47 [24, 43, 44] [0, 1, 2, 3, 4, 5, 6, 7, 8, 9, 10, 11, 12, 13, 14, 15, 16, 17, 18, 19, 20, 21, 22, 23, 24, 25, 26, 27, 28, 29, 30, 31, 32, 33, 34, 35, 36, 37, 38, 39, 40, 41, 42, 43, 44, 45, 46] (AgC [w.heap.size] wa.drew) (by kernel_rfl) (AgC.refl _ _) ?_
    simp only [List.map_cons, List.map_nil, List.contains_cons, List.contains_nil, nth_zero, nth_succ, Nat.reduceBEq, Bool.false_or, Bool.or_false, Bool.or_true, Bool.true_or]
    repeat (first | (refine sched_quiet (fun K hK => ?_); go_simp; refine hK _ ?_; clear hK K) | (refine sched_skip ?_ (AgC.refl _ _) ?_; focus (first | rfl | (go_simp; done))) | (refine sched_call ?_ 92 #[.float .f64 vf, .float .f64 0] ?_ (HS0.out _) ?_; (focus (first | rfl | (go_simp; done))); (focus (first | rfl | (go_simp; done))); rintro e w3 ⟨rfl, rfl⟩; refine ⟨_, rfl, AgC.refl _ _, ?_⟩) | (refine sched_call ?_ 93 #[.float .f64 vf] ?_ (rnorm_any _ _) ?_; (focus (first | rfl | (go_simp; done))); (focus (first | rfl | (go_simp; done))); rintro e w3 ⟨rfl, rfl⟩; refine ⟨_, rfl, AgC.refl _ _, ?_⟩) | (refine sched_call ?_ 92 #[.float .f64 vf, .float .f64 (normF vf)] ?_ (HS1.out _) ?_; (focus (first | rfl | (go_simp; done))); (focus (first | rfl | (go_simp; done))); rintro e w3 ⟨rfl, rfl⟩; refine ⟨_, rfl, AgC.refl _ _, ?_⟩))
    refine sched_nil ?_
    go_wp2_with fail
    go_ret
    exact ⟨by rw [HV.out]; rfl, HF.out.drew⟩
  ·have p2 : ((vn : Int) != 0) = true := by rw [bne_iff_ne]; exact hn
   have HV := hid (HBAD.out (by unfold rbadB; simp [hk1, hk2, hk3, hk4, hn]))
   clear hk1 hk2 hk3 hk4 hn
   go_enter Tryz.func40, Tryz.ntmps40
   go_wp2_with fail
   (try rw [hwa])
   clear hwa
   refine wp_region_sched (by kernel_rfl) 47 [24, 43, 44] [0, 1, 2, 3, 4, 5, 6, 7, 8, 9, 10, 11, 12, 13, 14, 15, 16, 17, 18, 19, 20, 21, 22, 23, 24, 25, 26, 27, 28, 29, 30, 31, 32, 33, 34, 35, 36, 37, 38, 39, 40, 41, 42, 43, 44, 45, 46] (AgC [w.heap.size] wa.drew) (by kernel_rfl) (AgC.refl _ _) ?_
   simp only [List.map_cons, List.map_nil, List.contains_cons, List.contains_nil, nth_zero, nth_succ, Nat.reduceBEq, Bool.false_or, Bool.or_false, Bool.or_true, Bool.true_or]
   repeat (first | (refine sched_quiet (fun K hK => ?_); go_simp; refine hK _ ?_; clear hK K) | (refine sched_skip ?_ (AgC.refl _ _) ?_; focus (first | rfl | (go_simp; done))) | (refine sched_call ?_ 92 #[.float .f64 vf, .float .f64 0] ?_ (HS0.out _) ?_; (focus (first | rfl | (go_simp; done))); (focus (first | rfl | (go_simp; done))); rintro e w3 ⟨rfl, rfl⟩; refine ⟨_, rfl, AgC.refl _ _, ?_⟩) | (refine sched_call ?_ 93 #[.float .f64 vf] ?_ (rnorm_any _ _) ?_; (focus (first | rfl | (go_simp; done))); (focus (first | rfl | (go_simp; done))); rintro e w3 ⟨rfl, rfl⟩; refine ⟨_, rfl, AgC.refl _ _, ?_⟩) | (refine sched_call ?_ 92 #[.float .f64 vf, .float .f64 (normF vf)] ?_ (HS1.out _) ?_; (focus (first | rfl | (go_simp; done))); (focus (first | rfl | (go_simp; done))); rintro e w3 ⟨rfl, rfl⟩; refine ⟨_, rfl, AgC.refl _ _, ?_⟩))
   refine sched_nil ?_
   go_wp2_with fail
   go_ret
   exact ⟨by rw [HV.out]; rfl, HF.out.drew⟩
end Go.Proofs.YthadcdoepoglkaaGreatDoor
namespace Go.Proofs.YthadcdoepoglkaaGreatDoor
open Go.RowKit Go.Lig
theorem ris_val (w : World) (v : ValR) (hl : v.t.size ≤ 140737488355328) : Calls Tryz.prog 40 #[.agg #[.int .i64 v.kind, .bool v.b, .int .i64 v.n, .float .f64 v.f, .string v.t]] w fun e w' => e = .returned (.bool (valIsB v)) ∧ Fr No w w' := by
 rw [← rval_eq]
 obtain ⟨vk, vb, vn, vf, vt⟩ := v
 by_cases h1 : vk = 1
 ·exact ris_1 w vk vb vn vf vt _ rfl hl h1
 by_cases h2 : vk = 2
 ·exact ris_2 w vk vb vn vf vt _ rfl hl h2
 by_cases h3 : vk = 3
 ·exact ris_3 w vk vb vn vf vt _ rfl hl h3
 by_cases h4 : vk = 4
 ·exact ris_4 w vk vb vn vf vt _ rfl hl h4
 exact ris_o w vk vb vn vf vt _ rfl hl h1 h2 h3 h4
end Go.Proofs.YthadcdoepoglkaaGreatDoor
namespace Go.Proofs.YthadcdoepoglkaaGreatDoor
open Go.RowKit Go.Lig
structure EnCells (w : World) (g j : Nat) (y : EntR) : Prop where
 c0 : w.cell? ⟨g, j * 6, none⟩ = some (.int .i64 y.v.kind)
 c1 : w.cell? ⟨g, j * 6 + 1, none⟩ = some (.bool y.v.b)
 c2 : w.cell? ⟨g, j * 6 + 2, none⟩ = some (.int .i64 y.v.n)
 c3 : w.cell? ⟨g, j * 6 + 3, none⟩ = some (.float .f64 y.v.f)
 c4 : w.cell? ⟨g, j * 6 + 4, none⟩ = some (.string y.v.t)
 c5 : w.cell? ⟨g, j * 6 + 5, none⟩ = some (.int .i64 y.id)
theorem encells_of {w : World} {base g n cap : Nat} {l : List EntR} (h : w.ownsRow base 165 6 (.slice (some ⟨g, 0, none⟩) n cap) n (l.flatMap ncellE)) {j : Nat} {y : EntR} (hy : l[j]? = some y) : EnCells w g j y := by
 have g0 : ∀ t, t < 6 → (l.flatMap ncellE)[j * 6 + t]? = (ncellE y)[t]? := fun t ht => flat_get (f := ncellE) (m := 6) (fun _ => rfl) _ _ _ hy t ht
 exact ⟨owns_cell h rfl (by rw [← Nat.add_zero (j * 6), g0 0 (by decide)]; rfl), owns_cell h rfl (by rw [g0 1 (by decide)]; rfl), owns_cell h rfl (by rw [g0 2 (by decide)]; rfl), owns_cell h rfl (by rw [g0 3 (by decide)]; rfl), owns_cell h rfl (by rw [g0 4 (by decide)]; rfl), owns_cell h rfl (by rw [g0 5 (by decide)]; rfl)⟩
theorem entAt_of {l : List EntR} {j : Nat} {y : EntR} (h : l[j]? = some y) : entAt l j = y := by
 unfold entAt
 rw [h]
 rfl
theorem bsN_step (f : Nat → Bool) (n i j : Nat) (hij : i < j) (hj : j ≤ n) : bsN f n i j = if f ((i + j) / 2) then bsN f n ((i + j) / 2 + 1) j else bsN f n i ((i + j) / 2) := by
 cases n with
 | zero => omega
 | succ m =>
  conv => lhs; rw [bsN, if_pos hij]
  split
  ·exact bsN_fuel f m (m + 1) _ _ (by omega) (by omega)
  ·exact bsN_fuel f m (m + 1) _ _ (by omega) (by omega)
set_option maxRecDepth 100000 in
set_option maxHeartbeats 1000000 in
theorem bsearch_any {P : ValR → Prop} {c : ValR → ValR → Int} (hcm : CmpOk P c) (w : World) (l : List EntR) (v : Value) (ho : w.ownsRow 0 165 6 v l.length (l.flatMap ncellE)) (hs : l.length ≤ 1000000) (x : EntR) (hP : ∀ y ∈ l, P y.v) (hx : P x.v) :
  Calls Tryz.prog 170 #[v, entV x, .func (.func 171) #[] #[]] w fun e w' => e = .returned (.tuple #[.int .i64 (place c l x : Int), .bool (isThere c l x)]) ∧ Fr No w w' := by
 obtain ⟨a, cap, rfl⟩ := ownsRow_slice ho
 have HC := hid (fun (W : World) (hW : Fr No w W) (y : EntR) (hy : P y.v) => order_any hcm W y x hy hx)
 have HO := hid (⟨ho, hP⟩ : _ ∧ _)
 have HE := hid (show entV x = .agg #[.int .i64 x.v.kind, .bool x.v.b, .int .i64 x.v.n, .float .f64 x.v.f, .string x.v.t, .int .i64 x.id] from rfl)
 have hpl : bsN (fun h => decide (cmpE c (entAt l h) x < 0)) l.length 0 l.length = place c l x := rfl
 have HPl := hid hpl
 have HTh : Hid (isThere c l x = (decide (place c l x < l.length) && decide (cmpE c (entAt l (place c l x)) x = 0))) := hid rfl
 generalize hf : (fun h => decide (cmpE c (entAt l h) x < 0)) = f at *
 have HFd : Hid (∀ h, f h = decide (cmpE c (entAt l h) x < 0)) := hid (fun h => by rw [← hf])
 have hb := heap1 w (.cells #[.int .i64 x.v.kind, .bool x.v.b, .int .i64 x.v.n, .float .f64 x.v.f, .string x.v.t, .int .i64 x.id] 165)
 have hfr : Fr No w (w.alloc (.cells #[.int .i64 x.v.kind, .bool x.v.b, .int .i64 x.v.n, .float .f64 x.v.f, .string x.v.t, .int .i64 x.id] 165)) := (Fr.refl No w).alloc _
 rw [HE.out]
 generalize place c l x = p at *
 generalize isThere c l x = th at *
 clear ho hP hx hpl hf
 go_enter Tryz.func170, Tryz.ntmps170
 go_wp2_with fail
 generalize w.alloc (.cells #[.int .i64 x.v.kind, .bool x.v.b, .int .i64 x.v.n, .float .f64 x.v.f, .string x.v.t, .int .i64 x.id] 165) = w1 at *
 have HF := hid (⟨hfr, hb⟩ : _ ∧ _)
 have HZ := hid (lt_of_block hb)
 generalize hn : l.length = n at *
 have HN := hid hn
 clear hfr hb hn
 go_loopw [9, 10] (fun vi vj wr => ∃ i j : Nat, i ≤ j ∧ j ≤ n ∧ vi = .int .i64 (i : Int) ∧ vj = .int .i64 (j : Int) ∧ Hid (bsN f n i j = p ∧ Fr No w1 wr)) (fun vi vj _ => (intOf vj).toNat - (intOf vi).toNat)
 case atStart => exact ⟨0, n, Nat.zero_le _, Nat.le_refl _, rfl, rfl, HPl.out, Fr.refl _ _⟩
 case round =>
  obtain ⟨i, j, hij, hj, rfl, rfl, HI⟩ := hrel
  by_cases hlt : i < j
  ·have hlti : (i : Int) < (j : Int) := by omega
   go_wp2_with fail
   obtain ⟨h, hh, hlo, hhi, hhe⟩ : ∃ h : Nat, (((i : Int) + (j : Int)) / 2 = (h : Int)) ∧ i ≤ h ∧ h < j ∧ h = (i + j) / 2 := ⟨(i + j) / 2, by omega, by omega, by omega, rfl⟩
   obtain ⟨y, hy⟩ : ∃ y, l[h]? = some y := ⟨l[h]'(by have := HN.out; omega), List.getElem?_eq_getElem _⟩
   obtain ⟨g, cur, rfl, -, hgk, -⟩ := owns_at HO.out.1 (by omega)
   have HGL := hid (lt_of_block hgk)
   clear hgk
   have HQ : Hid (f h = decide (cmpE c y x < 0)) := hid (by rw [HFd.out, entAt_of hy])
   have HYP := hid (HO.out.2 y (List.mem_of_getElem? hy))
   obtain ⟨e0, e1, e2, e3, e4, e5⟩ := encells_of (fd_owns HO.out.1 (HF.out.1.thenNo HI.out.2)) hy
   obtain ⟨d0, d1, d2, d3, d4, d5⟩ := cells6 (HI.out.2.keep HF.out.2 (fun e => e))
   have hhn : (h : Int) < (n : Int) := by omega
   rw [hh]
   have HHE := hid hhe
   clear hh hhe hy
   have hsc : ∀ q ∈ [g, w.heap.size], q < wr.drew.heap.size ∧ ¬ No q := fun q hq => ⟨by
    rcases List.mem_cons.1 hq with rfl | hq
    ·exact Nat.lt_of_lt_of_le HGL.out ((HF.out.1.thenNo HI.out.2)).size
    ·rw [List.mem_singleton.1 hq]; exact Nat.lt_of_lt_of_le HZ.out HI.out.2.size, fun e => e⟩
   refine wp_region_sched (by kernel_rfl) 8 [6] [0, 1, 2, 3, 4, 5, 6, 7] (AgC [g, w.heap.size] wr.drew) (by kernel_rfl) (AgC.refl _ _) ?_
   simp only [List.map_cons, List.map_nil, List.contains_cons, List.contains_nil, nth_zero, nth_succ, Nat.reduceBEq, Bool.or_false]
   repeat (refine sched_quiet (fun K hK => ?_); go_simp; refine hK _ ?_; clear hK K)
   refine sched_call (by first | rfl | go_simp) 171 #[entV y, entV x] (by go_simp; exact ⟨rfl, rfl⟩) (HC.out _ (((HF.out.1.thenNo HI.out.2)).drew) y HYP) ?_
   rintro e w3 ⟨rfl, f3⟩
   have a3 := (AgC.refl [g, w.heap.size] wr.drew).fr f3 hsc
   refine ⟨_, rfl, a3, ?_⟩
   clear e0 e1 e2 e3 e4 e5 d0 d1 d2 d3 d4 d5 a3 hsc
   have F3 := hid ((HI.out.2.drew).thenNo f3)
   clear f3
   repeat (refine sched_quiet (fun K hK => ?_); go_simp; refine hK _ ?_; clear hK K)
   refine sched_nil ?_
   generalize cmpE c y x = q at *
   by_cases hq : q < 0
   ·go_wp2_with fail
    have hf2 : f h = true := by rw [HQ.out]; exact decide_eq_true hq
    refine ⟨⟨h + 1, j, by omega, hj, rfl, rfl, hid ⟨?_, F3.out⟩⟩, ?_⟩
    ·have := HI.out.1
     rw [bsN_step f n i j hlt hj, ← HHE.out, hf2] at this
     exact this
    ·show ((j : Int)).toNat - ((h : Int) + 1).toNat < ((j : Int)).toNat - ((i : Int)).toNat
     omega
   ·go_wp2_with fail
    have hf2 : f h = false := by rw [HQ.out]; exact decide_eq_false hq
    refine ⟨⟨i, h, hlo, by omega, rfl, rfl, hid ⟨?_, F3.out⟩⟩, ?_⟩
    ·have := HI.out.1
     rw [bsN_step f n i j hlt hj, ← HHE.out, hf2] at this
     exact this
    ·show ((h : Int)).toNat - ((i : Int)).toNat < ((j : Int)).toNat - ((i : Int)).toNat
     omega
  ·have hnlt : ¬ (i : Int) < (j : Int) := by omega
   have hip : i = p := by
    have h1 := HI.out.1
    cases n with
    | zero => exact h1
    | succ m => rw [bsN, if_neg hlt] at h1; exact h1
   go_wp2_with fail
   subst hip
   by_cases hin : i < n
   ·obtain ⟨y, hy⟩ : ∃ y, l[i]? = some y := ⟨l[i]'(by have := HN.out; omega), List.getElem?_eq_getElem _⟩
    obtain ⟨g, cur, rfl, -, hgk, -⟩ := owns_at HO.out.1 (by omega)
    have HGL := hid (lt_of_block hgk)
    clear hgk
    have HTT : Hid (th = decide (cmpE c y x = 0)) := hid (by rw [HTh.out, entAt_of hy, decide_eq_true hin, Bool.true_and])
    have HYP := hid (HO.out.2 y (List.mem_of_getElem? hy))
    obtain ⟨e0, e1, e2, e3, e4, e5⟩ := encells_of (fd_owns HO.out.1 (HF.out.1.thenNo HI.out.2)) hy
    obtain ⟨d0, d1, d2, d3, d4, d5⟩ := cells6 (HI.out.2.keep HF.out.2 (fun e => e))
    have hhn : (i : Int) < (n : Int) := by omega
    clear hy hlt hij hnlt
    have hsc : ∀ q ∈ [g, w.heap.size], q < wr.drew.heap.size ∧ ¬ No q := fun q hq => ⟨by
     rcases List.mem_cons.1 hq with rfl | hq
     ·exact Nat.lt_of_lt_of_le HGL.out ((HF.out.1.thenNo HI.out.2)).size
     ·rw [List.mem_singleton.1 hq]; exact Nat.lt_of_lt_of_le HZ.out HI.out.2.size, fun e => e⟩
    refine wp_region_sched (by kernel_rfl) 16 [11] [0, 1, 2, 3, 4, 5, 6, 7, 8, 9, 10, 11, 12, 13, 14, 15] (AgC [g, w.heap.size] wr.drew) (by kernel_rfl) (AgC.refl _ _) ?_
    simp only [List.map_cons, List.map_nil, List.contains_cons, List.contains_nil, nth_zero, nth_succ, Nat.reduceBEq, Bool.or_false]
    repeat (refine sched_quiet (fun K hK => ?_); go_simp; refine hK _ ?_; clear hK K)
    refine sched_call (by first | rfl | go_simp) 171 #[entV y, entV x] (by go_simp; exact ⟨rfl, rfl⟩) (HC.out _ (((HF.out.1.thenNo HI.out.2)).drew) y HYP.out) ?_
    rintro e w3 ⟨rfl, f3⟩
    have a3 := (AgC.refl [g, w.heap.size] wr.drew).fr f3 hsc
    refine ⟨_, rfl, a3, ?_⟩
    clear e0 e1 e2 e3 e4 e5 d0 d1 d2 d3 d4 d5 a3 hsc
    have F3 := hid ((HF.out.1.thenNo HI.out.2).drew.thenNo f3)
    clear f3
    repeat (refine sched_quiet (fun K hK => ?_); go_simp; refine hK _ ?_; clear hK K)
    refine sched_nil ?_
    go_wp2_with fail
    go_ret2
    refine ⟨?_, F3.out⟩
    rw [HTT.out]; rfl
   ·have hin' : ¬ (i : Int) < (n : Int) := by omega
    have HTT : Hid (th = false) := hid (by rw [HTh.out, decide_eq_false hin, Bool.false_and])
    clear hlt hij hnlt
    refine wp_region_sched (by kernel_rfl) 16 [11] [0, 1, 2, 3, 4, 5, 6, 7, 8, 9, 10, 11, 12, 13, 14, 15] (AgC [] wr.drew) (by kernel_rfl) (AgC.refl _ _) ?_
    simp only [List.map_cons, List.map_nil, List.contains_cons, List.contains_nil, nth_zero, nth_succ, Nat.reduceBEq, Bool.or_false]
    repeat (refine sched_quiet (fun K hK => ?_); go_simp; refine hK _ ?_; clear hK K)
    refine sched_skip (by first | rfl | go_simp) (AgC.refl _ _) ?_
    repeat (refine sched_quiet (fun K hK => ?_); go_simp; refine hK _ ?_; clear hK K)
    refine sched_nil ?_
    go_wp2_with fail
    go_ret2
    refine ⟨?_, (HF.out.1.thenNo HI.out.2).drew⟩
    rw [HTT.out]; rfl
end Go.Proofs.YthadcdoepoglkaaGreatDoor
namespace Go.Lig
open Go.RowKit
theorem flat_take {α β : Type} {f : α → List β} {m : Nat} (hf : ∀ x, (f x).length = m) : ∀ (l : List α) (k : Nat), (l.flatMap f).take (k * m) = (l.take k).flatMap f
 | [], k => by simp
 | x :: l, 0 => by simp
 | x :: l, k + 1 => by
  have e : (k + 1) * m = (f x).length + k * m := by rw [hf, Nat.add_mul, Nat.one_mul, Nat.add_comm]
  rw [List.flatMap_cons, List.take_succ_cons, List.flatMap_cons, e, List.take_length_add_append, flat_take hf l k]
theorem flat_drop {α β : Type} {f : α → List β} {m : Nat} (hf : ∀ x, (f x).length = m) : ∀ (l : List α) (k : Nat), (l.flatMap f).drop (k * m) = (l.drop k).flatMap f
 | [], k => by simp
 | x :: l, 0 => by simp
 | x :: l, k + 1 => by
  have e : (k + 1) * m = (f x).length + k * m := by rw [hf, Nat.add_mul, Nat.one_mul, Nat.add_comm]
  rw [List.flatMap_cons, List.drop_succ_cons, e, List.drop_length_add_append, flat_drop hf l k]
theorem run_slice_fromI {P : Program} (w : World) (t e : TypeId) (size : Nat) (ht : P.underlying t = some (.slice e)) (hj : (P.info? e).map (·.size) = some size) (g n cap q : Nat) (qv : Int) (hq : qv = (q : Int)) (h1 : q ≤ n) (h2 : n ≤ cap) : (Instr.slice t (.slice (some ⟨g, 0, none⟩) n cap) (some (.int .i64 qv)) none none).run P w = .ok (.slice (some (if cap = q then ⟨g, 0, none⟩ else ⟨g, q * size, none⟩)) (n - q) (cap - q)) w := by
 subst hq
 cases hi : P.info? e with
 | none => rw [hi] at hj; cases hj
 | some j =>
  rw [hi] at hj
  obtain rfl : j.size = size := by simpa using hj
  by_cases c2 : cap = q
  ·simp [Instr.slice, run_underlying ht, Instr.sliceBounds, Instr.sliceBound, asIntOf, sizeOf, typeInfo, hi, h1, c2, Addr.add]
  ·simp [Instr.slice, run_underlying ht, Instr.sliceBounds, Instr.sliceBound, asIntOf, sizeOf, typeInfo, hi, h1, c2, Addr.add]
   by_cases h0 : q * j.size = 0 <;> simp [h0]
theorem wpList_append_at {P : Program} {ops : Array Oper} {rest : List Oper} {o : Oper} {a : Act} {w : World} {Q : Exit → Act → World → Prop} (hgd : o.guard = none) (x y : Operand) (t e : TypeId) (ho : o.op = .call { callee := .builtin .append, args := #[x, y], argTypes := #[t, t] }) (z : Value) (size bytes : Nat)
  (ht : P.underlying t = some (.slice e)) (hinfo : (P.info? e).map (fun i => (i.zero, i.size, i.bytes)) = some (some z, size, bytes)) (g n c : Nat) (hx : a.eval x = .slice (some ⟨g, 0, none⟩) n c) (cur : Array Value) (hg : w.heap[g]? = some (.cells cur e (0, 0)))
  (ad : Addr) (m c' : Nat) (news : List Value) (hy : a.eval y = .slice (some ad) m c') (hl : news.length = m * size) (hnews : ∀ j u, news[j]? = some u → w.cell? (ad.add j) = some u) (h1 : ∀ u ∈ news, u.oneCell' = true) (hroom : n + m ≤ c) (hfit : n * size + news.length ≤ cur.size)
  (h : ∀ w', Put g (cur.toList.take (n * size) ++ news ++ cur.toList.drop (n * size + news.length)).toArray e w w' → wpList P ops Q rest (a.put o.dst (.slice (some ⟨g, 0, none⟩) (n + m) c)) w') : wpList P ops Q (o :: rest) a w := by
 obtain ⟨i, hi, hz, hsize, hby⟩ := info_parts hinfo
 subst hsize
 have hr := run_append_room (P := P) (w := w) t o.type e i ht hi g n c cur hg ad m c' news hl hnews h1 hroom hfit
 refine wpList_run hgd (v := .slice (some ⟨g, 0, none⟩) (n + m) c) ?_ (h _ (Put.row hg))
 simp [execOp, ho, resolve, invoke, builtin, hx, hy, hr, Result.andThen]
end Go.Lig
namespace Go.Proofs.YthadcdoepoglkaaGreatDoor
open Go.RowKit Go.Lig
theorem infoEntry : (Tryz.prog.info? 165).map (fun i => (i.zero, i.size, i.bytes)) = some (some (.agg #[.int .i64 0, .bool false, .int .i64 0, .float .f64 0, .string (ByteArray.mk #[]), .int .i64 0]), 6, 56) := by kernel_rfl
theorem ncellE_one {l : List EntR} {u : Value} (h : u ∈ l.flatMap ncellE) : u.oneCell' = true := by
 obtain ⟨y, -, hu⟩ := List.mem_flatMap.1 h
 simp only [ncellE, List.mem_cons, List.not_mem_nil, or_false] at hu
 rcases hu with rfl | rfl | rfl | rfl | rfl | rfl <;> rfl
set_option maxRecDepth 100000 in
set_option maxHeartbeats 1000000 in
theorem delete_any (w : World) (g cap : Nat) (l : List EntR) (ho : w.ownsRow 0 165 6 (.slice (some ⟨g, 0, none⟩) l.length cap) l.length (l.flatMap ncellE)) (i : Nat) (hi : i < l.length) (hs : l.length ≤ 1000000) :
  Calls Tryz.prog 172 #[.slice (some ⟨g, 0, none⟩) l.length cap, .int .i64 (i : Int), .int .i64 ((i : Int) + 1)] w fun e w' =>
   e = .returned (.slice (some ⟨g, 0, none⟩) (l.length - 1) cap) ∧ w'.ownsRow 0 165 6 (.slice (some ⟨g, 0, none⟩) (l.length - 1) cap) (l.length - 1) ((l.take i ++ l.drop (i + 1)).flatMap ncellE) ∧ Fr (fun k => k = g) w w' := by
 obtain ⟨g', cur, hg', -, hg, hnc, hcs, htk⟩ := owns_at ho (by omega)
 obtain rfl : g = g' := by simpa using hg'
 have HO := hid ho
 have HG := hid hg
 have HZ := hid (⟨hnc, hcs, htk⟩ : _ ∧ _ ∧ _)
 generalize hn : l.length = n at *
 have HN := hid hn
 clear ho hg hg' hcs htk hn
 have hin : (i : Int) + 1 ≤ (n : Int) := by omega
 have hne : ¬ (i : Int) = (i : Int) + 1 := by omega
 have hni : i + 1 ≤ cap := by omega
 go_enter Tryz.func172, Tryz.ntmps172
 go_wp2_with fail
 have hln : (l.drop (i + 1)).length = n - (i + 1) := by rw [List.length_drop, HN.out]
 have HL := hid (show ((l.drop (i + 1)).flatMap ncellE).length = (n - (i + 1)) * 6 by rw [flat_len (f := ncellE) (m := 6) (fun _ => rfl), hln])
 have HD := hid (flat_drop (f := ncellE) (m := 6) (fun _ => rfl) l (i + 1))
 have HT := hid (flat_take (f := ncellE) (m := 6) (fun _ => rfl) l i)
 obtain ⟨ad, had, hadn⟩ : ∃ ad : Addr, ad = (if cap = i + 1 then ⟨g, 0, none⟩ else ⟨g, (i + 1) * 6, none⟩ : Addr) ∧ ∀ j u, ((l.drop (i + 1)).flatMap ncellE)[j]? = some u → w.cell? (ad.add j) = some u := by
  by_cases hc : cap = i + 1
  ·refine ⟨_, rfl, fun j u hj => ?_⟩
   have : ((l.drop (i + 1)).flatMap ncellE) = [] := List.eq_nil_of_length_eq_zero (by rw [HL.out]; omega)
   rw [this] at hj
   simp at hj
  ·refine ⟨_, rfl, fun j u hj => ?_⟩
   rw [if_neg hc, Addr.add_lit]
   exact owns_cell HO.out rfl (by rw [← HD.out, List.getElem?_drop] at hj; exact hj)
 have HA := hid hadn
 replace had := hid had
 clear hadn hln
 refine wp_region_sched (by kernel_rfl) 8 [6] [0, 1, 2, 3, 4, 5, 6, 7] (AgC [] w.drew) (by kernel_rfl) (AgC.refl _ _) ?_
 simp only [List.map_cons, List.map_nil, List.contains_cons, List.contains_nil, nth_zero, nth_succ, Nat.reduceBEq, Bool.or_false]
 repeat (refine sched_quiet (fun K hK => ?_); go_simp; refine hK _ ?_; clear hK K)
 refine sched_slice rfl 189 165 Tryz.underlying189 (.tmp 20) none (some (.tmp 21)) rfl (.slice (some ⟨g, 0, none⟩) n cap) rfl none (some (.int .i64 (i : Int))) rfl rfl (.slice (some ⟨g, 0, none⟩) i cap) (fun w' => by obtain ⟨j, hj, -⟩ := info_parts infoEntry; exact run_slice_to w' _ _ j Tryz.underlying189 hj g n cap i (by omega)) ?_
 repeat (refine sched_quiet (fun K hK => ?_); go_simp; refine hK _ ?_; clear hK K)
 refine sched_slice rfl 189 165 Tryz.underlying189 (.tmp 23) (some (.tmp 24)) none rfl (.slice (some ⟨g, 0, none⟩) n cap) rfl (some (.int .i64 ((i : Int) + 1))) none rfl rfl (.slice (some ad) (n - (i + 1)) (cap - (i + 1))) (fun w' => by rw [had.out]; exact run_slice_fromI w' _ _ 6 Tryz.underlying189 (by kernel_rfl) g n cap (i + 1) _ rfl hi HZ.out.1) ?_
 refine sched_loud (wpList_append_at rfl (.tmp 22) (.tmp 25) 189 165 rfl _ 6 56 Tryz.underlying189 infoEntry g i cap rfl cur HG.out ad (n - (i + 1)) (cap - (i + 1)) _ rfl HL.out (fun j u hj => HA.out j u hj) (fun u hu => ncellE_one hu) (by omega) (by rw [HL.out]; have := HZ.out.2.1; omega) ?_)
 intro w1 p1
 refine sched_on (AgC.mk (fun _ h => by cases h)) ?_
 repeat (refine sched_quiet (fun K hK => ?_); go_simp; refine hK _ ?_; clear hK K)
 refine sched_nil ?_
 have o1 := owns_putSeg (w := w.drew) HO.out HG.out (by rw [HL.out]; omega) (fun u hu => ncellE_one hu) p1
 have g1 := p1.at_
 have F1 := hid ((Fr.refl (fun k => k = g) w).drew.trans p1.fr (fun _ _ e => e))
 have O1 := hid o1
 have G1 := hid g1
 clear p1 o1 g1
 have hnn : i + (n - (i + 1)) = n - 1 := by omega
 have hnn1 : ((n - 1 : Nat) : Int) ≤ (n : Int) := by omega
 rw [hnn]
 obtain ⟨cur1, hcur1, hcs1⟩ : ∃ cur1 : Array Value, w1.heap[g]? = some (.cells cur1 165 (0, 0)) ∧ cur1.size = cap * 6 := ⟨_, G1.out, by
  have := HZ.out.2.1
  have hh : ∀ ns : List Value, ns.length = (n - (i + 1)) * 6 → (cur.toList.take (i * 6) ++ ns ++ cur.toList.drop (i * 6 + ns.length)).toArray.size = cap * 6 := by
   intro ns h2
   simp
   omega
  exact hh _ HL.out⟩
 obtain ⟨w2, zs, hzl, p2, hcl⟩ : ∃ (w2 : World) (zs : List Value), zs.length = (n - (n - 1)) * 6 ∧ Put g (cur1.toList.take ((n - 1) * 6) ++ zs ++ cur1.toList.drop ((n - 1) * 6 + (n - (n - 1)) * 6)).toArray 165 w1 w2 ∧ ∀ ty c, (Builtin.clear_ #[189] ty #[.slice (some ⟨g, (n - 1) * 6, none⟩) (n - (n - 1)) c]).run Tryz.prog w1 = .ok (.tuple #[]) w2 := by
  obtain ⟨j, hj, hz, hsz, -⟩ := info_parts infoEntry
  refine ⟨_, _, ?_, Put.row hcur1, fun ty c => run_clear_rows w1 189 165 ty j _ Tryz.underlying189 hj hz g ((n - 1) * 6) (n - (n - 1)) c (by omega) cur1 hcur1 ?_ ?_ (by decide)⟩
  ·simp [Builtin.zeroCells, Value.cells]
  ·rw [hcs1]; show (n - 1) * 6 + (n - (n - 1)) * 6 ≤ cap * 6; have := HZ.out.1; omega
  ·intro v hv
   simp [Value.cells] at hv
   rcases hv with rfl | rfl | rfl | rfl | rfl | rfl <;> rfl
 have o2 := owns_cut O1.out hcur1 (q := n - 1) (by omega) hzl p2
 have O2 := hid o2
 have F2 := hid (F1.out.thenS p2.fr)
 clear o2 p2 hcs1 hcur1 hzl F1 O1 G1
 go_wp2_with fail
 go_ret
 refine ⟨rfl, ?_, F2.out⟩
 have hx : ((l.flatMap ncellE).take (i * 6) ++ (l.drop (i + 1)).flatMap ncellE ++ (l.flatMap ncellE).drop (i * 6 + ((l.drop (i + 1)).flatMap ncellE).length)).take ((n - 1) * 6) = (l.take i ++ l.drop (i + 1)).flatMap ncellE := by
  have l1 : ((l.flatMap ncellE).take (i * 6) ++ (l.drop (i + 1)).flatMap ncellE).length = (n - 1) * 6 := by
   rw [List.length_append, HL.out, HT.out, flat_len (f := ncellE) (m := 6) (fun _ => rfl), List.length_take, HN.out]; omega
  rw [← l1, List.take_left, HT.out, List.flatMap_append]
 rw [← hx]
 exact O2.out
end Go.Proofs.YthadcdoepoglkaaGreatDoor
namespace Go.Proofs.YthadcdoepoglkaaGreatDoor
open Go.RowKit Go.Lig
theorem rd_entry {w : World} {gv : Nat} {x : EntR} (h : w.heap[gv]? = some (.cells (ncellE x).toArray 165 (0, 0))) : Rd w (.slice (some ⟨gv, 0, none⟩) 1 1) 1 6 (ncellE x) :=
 Rd.block h 1 6 1 rfl (fun u hu => ncellE_one (l := [x]) (by simpa using hu)) (Nat.le_refl _) (by simp [maxLen])
set_option maxRecDepth 100000 in
set_option maxHeartbeats 1000000 in
theorem insert_end (w : World) (v : Value) (l : List EntR) (ho : w.ownsRow 0 165 6 v l.length (l.flatMap ncellE)) (hs : l.length ≤ 1000000) (gv : Nat) (x : EntR) (hx : w.heap[gv]? = some (.cells (ncellE x).toArray 165 (0, 0))) :
  Calls Tryz.prog 173 #[v, .int .i64 (l.length : Int), .slice (some ⟨gv, 0, none⟩) 1 1] w fun e w' =>
   ∃ v', e = .returned v' ∧ w'.ownsRow 0 165 6 v' (l.length + 1) ((l ++ [x]).flatMap ncellE) ∧ Fr (fun k => v.ownBlock = some k) w w' ∧ (∀ k, v'.ownBlock = some k → v.ownBlock = some k ∨ w.heap.size ≤ k) := by
 obtain ⟨a, cap, rfl⟩ := ownsRow_slice ho
 have HO := hid ho
 have HX := hid hx
 have HL := hid (show (l ++ [x]).flatMap ncellE = l.flatMap ncellE ++ ncellE x by simp)
 rw [HL.out]
 generalize hn : l.length = n at *
 have hnc : n ≤ cap := by
  rcases Nat.eq_zero_or_pos n with h0 | h0
  ·omega
  ·obtain ⟨g, cur, -, -, -, h, -⟩ := owns_at ho h0; exact h
 clear ho hx hn
 rcases Nat.eq_or_lt_of_le hnc with hc | hc
 ·subst hc
  go_enter Tryz.func173, Tryz.ntmps173
  go_wp2_with (refine wpList_app rfl (.tmp 23) (.tmp 24) 189 rfl 165 _ 6 56 Tryz.underlying189 infoEntry (by kernel_rfl) (by decide) (.slice a n n) n (l.flatMap ncellE) rfl HO.out (.slice (some ⟨gv, 0, none⟩) 1 1) 1 (ncellE x) rfl (rd_entry HX.out) (by unfold maxLen; omega) (by omega) ?_; rintro v' w' o4 f4 b4 -; have H4 := hid (⟨o4, f4, b4⟩ : _ ∧ _ ∧ _); clear o4 f4 b4)
  go_ret
  exact ⟨_, rfl, H4.out.1, H4.out.2.1, H4.out.2.2⟩
 ·have hc2 : ¬ cap = n := by omega
  go_enter Tryz.func173, Tryz.ntmps173
  go_wp2_with (refine wpList_app rfl (.tmp 23) (.tmp 24) 189 rfl 165 _ 6 56 Tryz.underlying189 infoEntry (by kernel_rfl) (by decide) (.slice a n cap) n (l.flatMap ncellE) rfl HO.out (.slice (some ⟨gv, 0, none⟩) 1 1) 1 (ncellE x) rfl (rd_entry HX.out) (by unfold maxLen; omega) (by omega) ?_; rintro v' w' o4 f4 b4 -; have H4 := hid (⟨o4, f4, b4⟩ : _ ∧ _ ∧ _); clear o4 f4 b4)
  go_ret
  exact ⟨_, rfl, H4.out.1, H4.out.2.1, H4.out.2.2⟩
end Go.Proofs.YthadcdoepoglkaaGreatDoor
