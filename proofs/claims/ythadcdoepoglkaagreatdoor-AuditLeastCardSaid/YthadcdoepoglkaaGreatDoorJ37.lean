/- A part of the proof: contracts of functions of the program, for the row's text. -/
import Derived.Test.YthadcdoepoglkaaGreatDoorJ36
import Derived.Test.YthadcdoepoglkaaGreatDoorJ29
namespace Go.Proofs.YthadcdoepoglkaaGreatDoor
open Go.RowKit Go.Lig
theorem WrsO.app {w0 w1 w2 w3 : World} {v v' : Value} {l : List WrD} {h : WrV} {d : WrD} {cs : Array Value} {t : TypeId} {H : List WrV} {J : Nat → Prop} (hw : WrsO w0 w1 v l) (hh : WrsH w0 w1 v l H J) (p2 : New cs t w1 w2) (o : w3.ownsRow 0 89 9 v' (l.length + 1) (H.flatMap wrcell ++ wrcell h)) (f : Fr (fun k => v.ownBlock = some k) w2 w3)
  (b : ∀ k, v'.ownBlock = some k → v.ownBlock = some k ∨ w2.heap.size ≤ k) (I : Nat → Prop) (hI : ∀ k, I k → w0.heap.size ≤ k ∧ k < w1.heap.size ∧ v.ownBlock ≠ some k) (hin : WrIn w1 I h d) : WrsO w0 w3 v' (l ++ [d]) := by
 obtain ⟨h1, h2, h3, h4⟩ := hh
 have fr3 : Fr No w0 w3 := (hw.fr.thenNo p2.fr).trans f (fun k hk e => by have := hw.blk k e; omega)
 have hz := p2.fr.size
 have hz3 := f.size
 have hkeep : ∀ {J' : Nat → Prop} {x : WrV} {y : WrD}, (∀ k, J' k → v.ownBlock ≠ some k) → WrIn w1 J' x y → WrIn w3 J' x y := fun hj e => (e.frame p2.fr (fun _ _ e => e)).frame f (fun k hk e => hj k hk e)
 refine ⟨⟨H ++ [h], fun k => J k ∨ I k, ⟨by simp [h1], ?_, ?_, ?_⟩⟩, ?_, fr3⟩
 ·rw [List.length_append, List.flatMap_append]
  simpa using o
 ·intro j x y e1 e2
  rcases Nat.lt_or_ge j H.length with hj | hj
  ·rw [List.getElem?_append_left hj] at e1
   rw [List.getElem?_append_left (by omega)] at e2
   exact (hkeep (fun k hk => (h4 k hk).2.2) (h3 j x y e1 e2)).mono (fun _ e => .inl e)
  ·have hj2 : j = H.length := by
    have := (List.getElem?_eq_some_iff.1 e1).1
    simp at this
    omega
   subst hj2
   rw [List.getElem?_append_right (Nat.le_refl _), Nat.sub_self] at e1
   rw [List.getElem?_append_right (by omega), h1, Nat.sub_self] at e2
   simp only [List.getElem?_cons_zero, Option.some.injEq] at e1 e2
   subst e1 e2
   exact (hkeep (fun k hk => (hI k hk).2.2) hin).mono (fun _ e => .inr e)
 ·intro k hk
  rcases hk with hk | hk
  ·exact ⟨(h4 k hk).1, by have := (h4 k hk).2.1; omega, fun e => by
    rcases b k e with e1 | e1
    ·exact (h4 k hk).2.2 e1
    ·have := (h4 k hk).2.1; omega⟩
  ·exact ⟨(hI k hk).1, by have := (hI k hk).2.1; omega, fun e => by
    rcases b k e with e1 | e1
    ·exact (hI k hk).2.2 e1
    ·have := (hI k hk).2.1; omega⟩
 ·intro k hk
  rcases b k hk with e | e
  ·exact hw.blk k e
  ·have := hw.fr.size; omega
def wrsN (m : Nat → Bool) (r : Nat → Option NodeD) : Nat → List WrD
 | 0 => []
 | i + 1 => wrsN m r i ++ (if m i then [⟨false, (i : Int) + 1, (r i).isNone, (r i).getD NodeD.none, EdgeV.none⟩] else [])
def wrsE (m : Nat → Bool) (r : Nat → Option EdgeV) : Nat → List WrD
 | 0 => []
 | i + 1 => wrsE m r i ++ (if m i then [⟨false, (i : Int) + 1, (r i).isNone, NodeD.none, (r i).getD EdgeV.none⟩] else [])
theorem built_wg : Tryz.prog.built 89 [(2, .bool true)] = some #[.bool false, .int .i64 0, .bool true, .slice none 0 0, .slice none 0 0, .int .i64 0, .int .i64 0, .string ⟨#[]⟩, .float .f64 0] := by kernel_rfl
set_option maxRecDepth 100000 in
set_option maxHeartbeats 4000000 in
theorem writesn_any (w : World) (v : Value) (n : Nat) (x : Nat → Nat) (hrow : Rd w v n 1 (ptrs x n)) (hn : n ≤ 1000) (m : Nat → Bool) (r : Nat → Option NodeD) (cf1 cf2 : Nat) (clb1 clb2 : Array Value)
  (hcf1 : ∀ args w, (callFunc cf1 args).run Tryz.prog w = .ok (.enter cf1 args) w) (hcf2 : ∀ args w, (callFunc cf2 args).run Tryz.prog w = .ok (.enter cf2 args) w)
  (hm : ∀ i, i < n → ∀ W, Fr No w W → Calls Tryz.prog cf1 (#[.pointer (some ⟨x i, 0, none⟩)] ++ clb1) W fun e W' => e = .returned (.bool (m i)) ∧ Fr No W W')
  (hr : ∀ i, i < n → ∃ (la : Option Addr) (ln lc : Nat) (pa : Option Addr) (pn pc : Nat) (I : Nat → Prop), NodeIn w I (.slice la ln lc) (.slice pa pn pc) ((r i).getD NodeD.none) ∧ ∀ W, Fr No w W → Calls Tryz.prog cf2 (#[.pointer (some ⟨x i, 0, none⟩)] ++ clb2) W fun e W' => e = .returned (.tuple #[.agg #[.slice la ln lc, .slice pa pn pc], .bool (r i).isSome]) ∧ Fr No W W') :
  Calls Tryz.prog 84 #[v, .func (.func cf1) #[] clb1, .func (.func cf2) #[] clb2, .func (.func 86) #[] #[]] w fun e w' => ∃ v', e = .returned v' ∧ WrsO w w' v' (wrsN m r n) := by
 obtain ⟨va, vc, rfl, -⟩ := rd_len hrow
 have HC1 := hid hcf1
 have HC2 := hid hcf2
 have HM := hid hm
 have HR := hid hr
 have HV := hid hrow
 have HG : Hid (∀ i, wrsN m r (i + 1) = wrsN m r i ++ (if m i then [⟨false, (i : Int) + 1, (r i).isNone, (r i).getD NodeD.none, EdgeV.none⟩] else [])) := hid (fun _ => rfl)
 have HZ : Hid (wrsN m r 0 = []) := hid rfl
 generalize wrsN m r = g at *
 clear hcf1 hcf2 hm hr hrow
 go_enter Tryz.func84, Tryz.ntmps84
 go_wp2_with fail
 go_loopw [9, 17] (fun v9 vi wr => ∃ (i : Nat) (aa : Option Addr) (cc k : Nat), i ≤ n ∧ k ≤ i ∧ v9 = .slice aa k cc ∧ vi = .int .i64 (i : Int) ∧ Hid (k = (g i).length ∧ WrsO w wr (.slice aa k cc) (g i))) (fun _ vi _ => n - (intOf vi).toNat)
 case atStart => exact ⟨0, none, 0, 0, Nat.zero_le _, Nat.zero_le _, rfl, rfl, by rw [HZ.out]; rfl, by rw [HZ.out]; exact WrsO.nil _⟩
 case round =>
  obtain ⟨i, aa, cc, k, hi, hk, rfl, rfl, HO⟩ := hrel
  by_cases hlt : i < n
  ·obtain ⟨vb, vo, vc', hva, hvc⟩ := HV.out.at1 (ptrs_get x n i hlt)
   obtain ⟨rfl, -, rfl⟩ := Value.slice.inj hva
   have c1 := hvc wr HO.out.2.fr
   have HMi := hid (HM.out i hlt)
   have HRi := hid (HR.out i hlt)
   have HGi := hid (HG.out i)
   have hw : wrap64 ((i : Int) + 1) = (i : Int) + 1 := by unfold wrap64; omega
   clear hva hvc
   cases hmi : m i with
   | false =>
    rw [hmi] at HMi HGi
    clear hmi
    simp only [Bool.false_eq_true, if_false, List.append_nil] at HGi
    go_wp2_with (rw [HC1.out, Oper.upon_enter]; refine (HMi.out _ HO.out.2.fr).mono ?_; rintro e w1 ⟨rfl, f1⟩; have F1 := hid f1; clear f1)
    go_roundw
    case rel => exact ⟨i + 1, aa, cc, k, by omega, by omega, rfl, by go_num, by rw [HGi.out]; exact HO.out.1, by rw [HGi.out]; exact HO.out.2.next F1.out⟩
    case measure => simp [intOf]; omega
   | true =>
    rw [hmi] at HMi HGi
    clear hmi
    simp only [if_true] at HGi
    obtain ⟨la, ln, lc, pa, pn, pc, I, hin, hrd⟩ := HRi.out
    have HIN := hid hin
    have HRR := hid hrd
    clear hin hrd
    cases hri : r i with
    | none =>
     rw [hri] at HRR HIN HGi
     dsimp only [Option.getD, Option.isSome, Option.isNone] at HRR HIN HGi
     clear hri
     go_wp2_with (first | (rw [HC1.out, Oper.upon_enter]; refine (HMi.out _ HO.out.2.fr).mono ?_; rintro e w1 ⟨rfl, f1⟩; have F1 := hid f1; clear f1) | (refine wpList_build' rfl 89 [(2, .const (.bool true))] rfl [(2, .bool true)] rfl _ built_wg ?_) | (refine wpList_allocO rfl 89 rfl _ 9 112 infoWr ?_; intro w2 p2; have P2 := hid (show New #[.bool false, .int .i64 0, .bool false, .slice none 0 0, .slice none 0 0, .int .i64 0, .int .i64 0, .string ⟨#[]⟩, .float .f64 0] 89 w1 w2 from p2); clear p2) | (refine wpList_storeO rfl 89 (.tmp 12) (.tmp 26) rfl w1.heap.size 0 rfl [.bool false, .int .i64 0, .bool false, .slice none 0 0, .slice none 0 0, .int .i64 0, .int .i64 0, .string ⟨#[]⟩, .float .f64 0] 89 [.bool false, .int .i64 0, .bool true, .slice none 0 0, .slice none 0 0, .int .i64 0, .int .i64 0, .string ⟨#[]⟩, .float .f64 0] rfl (by kernel_rfl) P2.out.at_ (by simp) (by simp [Value.oneCell']) ?_; intro w3 p3; have P3 := hid (show Put w1.heap.size #[.bool false, .int .i64 0, .bool true, .slice none 0 0, .slice none 0 0, .int .i64 0, .int .i64 0, .string ⟨#[]⟩, .float .f64 0] 89 w2 w3 from p3); clear p3) | (rw [HC2.out, Oper.upon_enter]; refine (HRR.out w3 (((HO.out.2.fr.thenNo F1.out).thenNo P2.out.fr).fresh' P3.out.fr (fun q e => by subst e; exact Nat.le_trans HO.out.2.fr.size F1.out.size))).mono ?_; rintro e w4 ⟨rfl, f4⟩; have F4 := hid (⟨((F1.out.thenNo P2.out.fr).fresh' P3.out.fr (fun q e => by subst e; exact F1.out.size)).thenNo f4, f4.keep P3.out.at_ (fun e => e)⟩ : Fr No wr w4 ∧ _); clear f4) | (refine wpList_allocO rfl 34 rfl _ 2 48 infoN ?_; intro w5 p5; have P5 := hid (show New #[.slice none 0 0, .slice none 0 0] 34 w4 w5 from p5); clear p5) | (refine wpList_storeO rfl 34 (.tmp 13) (.tmp 31) rfl w4.heap.size 0 rfl [.slice none 0 0, .slice none 0 0] 34 [.slice la ln lc, .slice pa pn pc] rfl (by kernel_rfl) P5.out.at_ (by simp) (by simp [Value.oneCell']) ?_; intro w6 p6; have P6 := hid (show Put w4.heap.size #[.slice la ln lc, .slice pa pn pc] 34 w5 w6 from p6); clear p6; have h6 : w1.heap.size < w4.heap.size := lt_of_block F4.out.2; have F6 := hid (⟨(F4.out.1.thenNo P5.out.fr).fresh' P6.out.fr (fun q e => by subst e; exact F4.out.1.size), P6.out.fr.keep (P5.out.fr.keep F4.out.2 (fun e => e)) (by omega)⟩ : Fr No wr w6 ∧ _); clear h6; obtain ⟨g0, g1⟩ := cells2 P6.out.at_) | (refine wpList_store1 rfl 3 (.tmp 39) (.tmp 38) rfl w1.heap.size 1 rfl _ _ (.int .i64 ((i : Int) + 1)) rfl (by kernel_rfl) F6.out.2 (by simp) rfl ?_; intro w9 p9; have P9 := hid (show Put w1.heap.size #[.bool false, .int .i64 ((i : Int) + 1), .bool true, .slice none 0 0, .slice none 0 0, .int .i64 0, .int .i64 0, .string ⟨#[]⟩, .float .f64 0] 89 w6 w9 from p9); clear p9; obtain ⟨y0, y1, y2, y3, y4, y5, y6, y7, y8⟩ := cells9 P9.out.at_; have F9 := hid (F6.out.1.fresh' P9.out.fr (fun q e => by subst e; exact F1.out.size)); obtain ⟨H9, J9, hh9⟩ := (HO.out.2.next F9.out).ex; have HH9 := hid hh9; clear hh9) | (refine wpList_buildSlice1 rfl 85 89 (.tmp 41) rfl _ 9 112 Tryz.underlying85 infoWr (by decide) (by decide) (.agg #[.bool false, .int .i64 ((i : Int) + 1), .bool true, .slice none 0 0, .slice none 0 0, .int .i64 0, .int .i64 0, .string ⟨#[]⟩, .float .f64 0]) rfl rfl ?_; intro w10 p10; have P10 := hid (show New (wrcell ⟨false, (i : Int) + 1, true, NodeV.none, EdgeV.none⟩).toArray 89 w9 w10 from p10); clear p10) | (refine wpList_app rfl (.tmp 40) (.tmp 42) 85 rfl 89 _ 9 112 Tryz.underlying85 infoWr (by kernel_rfl) (by decide) (.slice aa k cc) k (H9.flatMap wrcell) rfl ?_ (.slice (some ⟨w9.heap.size, 0, none⟩) 1 1) 1 (wrcell ⟨false, (i : Int) + 1, true, NodeV.none, EdgeV.none⟩) rfl ?_ ?_ ?_ ?_))
     ·exact fd_owns (by have := HH9.out.row; rw [← HO.out.1] at this; exact this) P10.out.fr
     ·exact Rd.block P10.out.at_ 1 9 1 rfl (by simp [wrcell, Value.oneCell']) (Nat.le_refl _) (by simp [maxLen])
     ·unfold maxLen; omega
     ·omega
     intro v11 w11 o11 f11 b11 _
     obtain ⟨a11, c11, rfl⟩ := ownsRow_slice o11
     have O11 := hid (WrsO.app (HO.out.2.next F9.out) HH9.out P10.out (by rw [← HO.out.1]; exact o11) f11 b11 (fun _ => False) (fun _ h => h.elim) (h := ⟨false, (i : Int) + 1, true, NodeV.none, EdgeV.none⟩) (d := ⟨false, (i : Int) + 1, true, NodeD.none, EdgeV.none⟩) ⟨rfl, rfl, rfl, rfl, NodeIn.none _ _⟩)
     clear o11 f11 b11 y0 y1 y2 y3 y4 y5 y6 y7 y8
     go_wp2_with fail
     go_roundw
     case rel => exact ⟨i + 1, a11, c11, k + 1, by omega, by omega, rfl, by go_num, by rw [HGi.out, List.length_append, ← HO.out.1]; rfl, by rw [HGi.out]; exact O11.out⟩
     case measure => simp [intOf]; omega
    | some d =>
     rw [hri] at HRR HIN HGi
     dsimp only [Option.getD, Option.isSome, Option.isNone] at HRR HIN HGi
     clear hri
     go_wp2_with (first | (rw [HC1.out, Oper.upon_enter]; refine (HMi.out _ HO.out.2.fr).mono ?_; rintro e w1 ⟨rfl, f1⟩; have F1 := hid f1; clear f1) | (refine wpList_build' rfl 89 [(2, .const (.bool true))] rfl [(2, .bool true)] rfl _ built_wg ?_) | (refine wpList_allocO rfl 89 rfl _ 9 112 infoWr ?_; intro w2 p2; have P2 := hid (show New #[.bool false, .int .i64 0, .bool false, .slice none 0 0, .slice none 0 0, .int .i64 0, .int .i64 0, .string ⟨#[]⟩, .float .f64 0] 89 w1 w2 from p2); clear p2) | (refine wpList_storeO rfl 89 (.tmp 12) (.tmp 26) rfl w1.heap.size 0 rfl [.bool false, .int .i64 0, .bool false, .slice none 0 0, .slice none 0 0, .int .i64 0, .int .i64 0, .string ⟨#[]⟩, .float .f64 0] 89 [.bool false, .int .i64 0, .bool true, .slice none 0 0, .slice none 0 0, .int .i64 0, .int .i64 0, .string ⟨#[]⟩, .float .f64 0] rfl (by kernel_rfl) P2.out.at_ (by simp) (by simp [Value.oneCell']) ?_; intro w3 p3; have P3 := hid (show Put w1.heap.size #[.bool false, .int .i64 0, .bool true, .slice none 0 0, .slice none 0 0, .int .i64 0, .int .i64 0, .string ⟨#[]⟩, .float .f64 0] 89 w2 w3 from p3); clear p3) | (rw [HC2.out, Oper.upon_enter]; refine (HRR.out w3 (((HO.out.2.fr.thenNo F1.out).thenNo P2.out.fr).fresh' P3.out.fr (fun q e => by subst e; exact Nat.le_trans HO.out.2.fr.size F1.out.size))).mono ?_; rintro e w4 ⟨rfl, f4⟩; have F4 := hid (⟨((F1.out.thenNo P2.out.fr).fresh' P3.out.fr (fun q e => by subst e; exact F1.out.size)).thenNo f4, f4.keep P3.out.at_ (fun e => e)⟩ : Fr No wr w4 ∧ _); clear f4) | (refine wpList_allocO rfl 34 rfl _ 2 48 infoN ?_; intro w5 p5; have P5 := hid (show New #[.slice none 0 0, .slice none 0 0] 34 w4 w5 from p5); clear p5) | (refine wpList_storeO rfl 34 (.tmp 13) (.tmp 31) rfl w4.heap.size 0 rfl [.slice none 0 0, .slice none 0 0] 34 [.slice la ln lc, .slice pa pn pc] rfl (by kernel_rfl) P5.out.at_ (by simp) (by simp [Value.oneCell']) ?_; intro w6 p6; have P6 := hid (show Put w4.heap.size #[.slice la ln lc, .slice pa pn pc] 34 w5 w6 from p6); clear p6; have h6 : w1.heap.size < w4.heap.size := lt_of_block F4.out.2; have F6 := hid (⟨(F4.out.1.thenNo P5.out.fr).fresh' P6.out.fr (fun q e => by subst e; exact F4.out.1.size), P6.out.fr.keep (P5.out.fr.keep F4.out.2 (fun e => e)) (by omega)⟩ : Fr No wr w6 ∧ _); clear h6; obtain ⟨g0, g1⟩ := cells2 P6.out.at_) | (go_at_call 86; refine (ofnode_any w6 la pa ln lc pn pc d (HIN.out.of.frame (HO.out.2.fr.thenNo F6.out.1)) HIN.out.few.1 HIN.out.few.2).mono ?_; rintro e w7 ⟨la', ln', lc', pa', pn', pc', rfl, o7⟩; have O7 := hid (⟨o7, o7.l.fr.keep F6.out.2 (fun e => e), lt_of_block F6.out.2⟩ : _ ∧ _ ∧ _); clear o7) | (refine wpList_storeO rfl 89 (.tmp 12) (.tmp 36) rfl w1.heap.size 0 rfl [.bool false, .int .i64 0, .bool true, .slice none 0 0, .slice none 0 0, .int .i64 0, .int .i64 0, .string ⟨#[]⟩, .float .f64 0] 89 [.bool false, .int .i64 0, .bool false, .slice la' ln' lc', .slice pa' pn' pc', .int .i64 0, .int .i64 0, .string ⟨#[]⟩, .float .f64 0] rfl (by kernel_rfl) O7.out.2.1 (by simp) (by simp [Value.oneCell']) ?_; intro w8 p8; have P8 := hid (show Put w1.heap.size #[.bool false, .int .i64 0, .bool false, .slice la' ln' lc', .slice pa' pn' pc', .int .i64 0, .int .i64 0, .string ⟨#[]⟩, .float .f64 0] 89 w7 w8 from p8); clear p8; have F8 := hid ((F6.out.1.thenNo O7.out.1.l.fr).fresh' P8.out.fr (fun q e => by subst e; exact F1.out.size))) | (refine wpList_store1 rfl 3 (.tmp 39) (.tmp 38) rfl w1.heap.size 1 rfl _ _ (.int .i64 ((i : Int) + 1)) rfl (by kernel_rfl) P8.out.at_ (by simp) rfl ?_; intro w9 p9; have P9 := hid (show Put w1.heap.size #[.bool false, .int .i64 ((i : Int) + 1), .bool false, .slice la' ln' lc', .slice pa' pn' pc', .int .i64 0, .int .i64 0, .string ⟨#[]⟩, .float .f64 0] 89 w8 w9 from p9); clear p9; obtain ⟨y0, y1, y2, y3, y4, y5, y6, y7, y8⟩ := cells9 P9.out.at_; have F9 := hid (F8.out.fresh' P9.out.fr (fun q e => by subst e; exact F1.out.size)); obtain ⟨H9, J9, hh9⟩ := (HO.out.2.next F9.out).ex; have HH9 := hid hh9; clear hh9) | (refine wpList_buildSlice1 rfl 85 89 (.tmp 41) rfl _ 9 112 Tryz.underlying85 infoWr (by decide) (by decide) (.agg #[.bool false, .int .i64 ((i : Int) + 1), .bool false, .slice la' ln' lc', .slice pa' pn' pc', .int .i64 0, .int .i64 0, .string ⟨#[]⟩, .float .f64 0]) rfl rfl ?_; intro w10 p10; have P10 := hid (show New (wrcell ⟨false, (i : Int) + 1, false, ⟨⟨la', ln', lc'⟩, ⟨pa', pn', pc'⟩⟩, EdgeV.none⟩).toArray 89 w9 w10 from p10); clear p10) | (refine wpList_app rfl (.tmp 40) (.tmp 42) 85 rfl 89 _ 9 112 Tryz.underlying85 infoWr (by kernel_rfl) (by decide) (.slice aa k cc) k (H9.flatMap wrcell) rfl ?_ (.slice (some ⟨w9.heap.size, 0, none⟩) 1 1) 1 (wrcell ⟨false, (i : Int) + 1, false, ⟨⟨la', ln', lc'⟩, ⟨pa', pn', pc'⟩⟩, EdgeV.none⟩) rfl ?_ ?_ ?_ ?_))
     ·exact fd_owns (by have := HH9.out.row; rw [← HO.out.1] at this; exact this) P10.out.fr
     ·exact Rd.block P10.out.at_ 1 9 1 rfl (by simp [wrcell, Value.oneCell']) (Nat.le_refl _) (by simp [maxLen])
     ·unfold maxLen; omega
     ·omega
     intro v11 w11 o11 f11 b11 _
     obtain ⟨a11, c11, rfl⟩ := ownsRow_slice o11
     have O11 := hid (WrsO.app (HO.out.2.next F9.out) HH9.out P10.out (by rw [← HO.out.1]; exact o11) f11 b11 (fun b => w6.heap.size ≤ b ∧ b < w7.heap.size) (fun b hb => ⟨Nat.le_trans (HO.out.2.fr.thenNo F6.out.1).size hb.1, by have := P8.out.size; have := P9.out.size; omega, fun e => by obtain ⟨_, _, hhr⟩ := HO.out.2.ex; have := (hhr.row.lt b e).2; have := F6.out.1.size; omega⟩) (h := ⟨false, (i : Int) + 1, false, ⟨⟨la', ln', lc'⟩, ⟨pa', pn', pc'⟩⟩, EdgeV.none⟩) (d := ⟨false, (i : Int) + 1, false, d, EdgeV.none⟩) ⟨rfl, rfl, rfl, rfl, ((O7.out.1.nodeIn HIN.out.ok HIN.out.ls HIN.out.few).frame P8.out.fr (fun q hq e => by have := O7.out.2.2; omega)).frame P9.out.fr (fun q hq e => by have := O7.out.2.2; omega)⟩)
     clear o11 f11 b11 y0 y1 y2 y3 y4 y5 y6 y7 y8
     go_wp2_with fail
     go_roundw
     case rel => exact ⟨i + 1, a11, c11, k + 1, by omega, by omega, rfl, by go_num, by rw [HGi.out, List.length_append, ← HO.out.1]; rfl, by rw [HGi.out]; exact O11.out⟩
     case measure => simp [intOf]; omega
  ·obtain rfl : i = n := by omega
   go_wp2_with fail
   go_ret
   exact ⟨_, rfl, HO.out.2⟩
end Go.Proofs.YthadcdoepoglkaaGreatDoor
namespace Go.Proofs.YthadcdoepoglkaaGreatDoor
open Go.RowKit Go.Lig
set_option maxRecDepth 100000 in
set_option maxHeartbeats 4000000 in
theorem writese_any (w : World) (v : Value) (n : Nat) (x : Nat → Nat) (hrow : Rd w v n 1 (ptrs x n)) (hn : n ≤ 1000) (m : Nat → Bool) (r : Nat → Option EdgeV) (cf1 cf2 : Nat) (clb1 clb2 : Array Value)
  (hcf1 : ∀ args w, (callFunc cf1 args).run Tryz.prog w = .ok (.enter cf1 args) w) (hcf2 : ∀ args w, (callFunc cf2 args).run Tryz.prog w = .ok (.enter cf2 args) w)
  (hm : ∀ i, i < n → ∀ W, Fr No w W → Calls Tryz.prog cf1 (#[.pointer (some ⟨x i, 0, none⟩)] ++ clb1) W fun e W' => e = .returned (.bool (m i)) ∧ Fr No W W')
  (hr : ∀ i, i < n → ∀ W, Fr No w W → Calls Tryz.prog cf2 (#[.pointer (some ⟨x i, 0, none⟩)] ++ clb2) W fun e W' => e = .returned (.tuple #[.agg (edgeCs ((r i).getD EdgeV.none)), .bool (r i).isSome]) ∧ Fr No W W') :
  Calls Tryz.prog 87 #[v, .func (.func cf1) #[] clb1, .func (.func cf2) #[] clb2, .func (.func 89) #[] #[]] w fun e w' => ∃ v', e = .returned v' ∧ WrsO w w' v' (wrsE m r n) := by
 obtain ⟨va, vc, rfl, -⟩ := rd_len hrow
 have HC1 := hid hcf1
 have HC2 := hid hcf2
 have HM := hid hm
 have HR := hid hr
 have HV := hid hrow
 have HG : Hid (∀ i, wrsE m r (i + 1) = wrsE m r i ++ (if m i then [⟨false, (i : Int) + 1, (r i).isNone, NodeD.none, (r i).getD EdgeV.none⟩] else [])) := hid (fun _ => rfl)
 have HZ : Hid (wrsE m r 0 = []) := hid rfl
 generalize wrsE m r = g at *
 clear hcf1 hcf2 hm hr hrow
 go_enter Tryz.func87, Tryz.ntmps87
 go_wp2_with fail
 go_loopw [9, 17] (fun v9 vi wr => ∃ (i : Nat) (aa : Option Addr) (cc k : Nat), i ≤ n ∧ k ≤ i ∧ v9 = .slice aa k cc ∧ vi = .int .i64 (i : Int) ∧ Hid (k = (g i).length ∧ WrsO w wr (.slice aa k cc) (g i))) (fun _ vi _ => n - (intOf vi).toNat)
 case atStart => exact ⟨0, none, 0, 0, Nat.zero_le _, Nat.zero_le _, rfl, rfl, by rw [HZ.out]; rfl, by rw [HZ.out]; exact WrsO.nil _⟩
 case round =>
  obtain ⟨i, aa, cc, k, hi, hk, rfl, rfl, HO⟩ := hrel
  by_cases hlt : i < n
  ·obtain ⟨vb, vo, vc', hva, hvc⟩ := HV.out.at1 (ptrs_get x n i hlt)
   obtain ⟨rfl, -, rfl⟩ := Value.slice.inj hva
   have c1 := hvc wr HO.out.2.fr
   have HMi := hid (HM.out i hlt)
   have HRi := hid (HR.out i hlt)
   have HGi := hid (HG.out i)
   have hw : wrap64 ((i : Int) + 1) = (i : Int) + 1 := by unfold wrap64; omega
   clear hva hvc
   cases hmi : m i with
   | false =>
    rw [hmi] at HMi HGi
    clear hmi
    simp only [Bool.false_eq_true, if_false, List.append_nil] at HGi
    go_wp2_with (rw [HC1.out, Oper.upon_enter]; refine (HMi.out _ HO.out.2.fr).mono ?_; rintro e w1 ⟨rfl, f1⟩; have F1 := hid f1; clear f1)
    go_roundw
    case rel => exact ⟨i + 1, aa, cc, k, by omega, by omega, rfl, by go_num, by rw [HGi.out]; exact HO.out.1, by rw [HGi.out]; exact HO.out.2.next F1.out⟩
    case measure => simp [intOf]; omega
   | true =>
    rw [hmi] at HMi HGi
    clear hmi
    simp only [if_true] at HGi
    have HRR := hid HRi.out
    cases hri : r i with
    | none =>
     rw [hri] at HRR HGi
     dsimp only [Option.getD, Option.isSome, Option.isNone, edgeCs, EdgeV.none] at HRR HGi
     clear hri
     go_wp2_with (first | (rw [HC1.out, Oper.upon_enter]; refine (HMi.out _ HO.out.2.fr).mono ?_; rintro e w1 ⟨rfl, f1⟩; have F1 := hid f1; clear f1) | (refine wpList_build' rfl 89 [(2, .const (.bool true))] rfl [(2, .bool true)] rfl _ built_wg ?_) | (refine wpList_allocO rfl 89 rfl _ 9 112 infoWr ?_; intro w2 p2; have P2 := hid (show New #[.bool false, .int .i64 0, .bool false, .slice none 0 0, .slice none 0 0, .int .i64 0, .int .i64 0, .string ⟨#[]⟩, .float .f64 0] 89 w1 w2 from p2); clear p2) | (refine wpList_storeO rfl 89 (.tmp 12) (.tmp 26) rfl w1.heap.size 0 rfl [.bool false, .int .i64 0, .bool false, .slice none 0 0, .slice none 0 0, .int .i64 0, .int .i64 0, .string ⟨#[]⟩, .float .f64 0] 89 [.bool false, .int .i64 0, .bool true, .slice none 0 0, .slice none 0 0, .int .i64 0, .int .i64 0, .string ⟨#[]⟩, .float .f64 0] rfl (by kernel_rfl) P2.out.at_ (by simp) (by simp [Value.oneCell']) ?_; intro w3 p3; have P3 := hid (show Put w1.heap.size #[.bool false, .int .i64 0, .bool true, .slice none 0 0, .slice none 0 0, .int .i64 0, .int .i64 0, .string ⟨#[]⟩, .float .f64 0] 89 w2 w3 from p3); clear p3) | (rw [HC2.out, Oper.upon_enter]; refine (HRR.out w3 (((HO.out.2.fr.thenNo F1.out).thenNo P2.out.fr).fresh' P3.out.fr (fun q e => by subst e; exact Nat.le_trans HO.out.2.fr.size F1.out.size))).mono ?_; rintro e w4 ⟨rfl, f4⟩; have F4 := hid (⟨((F1.out.thenNo P2.out.fr).fresh' P3.out.fr (fun q e => by subst e; exact F1.out.size)).thenNo f4, f4.keep P3.out.at_ (fun e => e)⟩ : Fr No wr w4 ∧ _); clear f4) | (refine wpList_allocO rfl 48 rfl _ 4 40 infoEd ?_; intro w5 p5; have P5 := hid (show New #[.int .i64 0, .int .i64 0, .string ⟨#[]⟩, .float .f64 0] 48 w4 w5 from p5); clear p5) | (refine wpList_storeO rfl 48 (.tmp 13) (.tmp 31) rfl w4.heap.size 0 rfl [.int .i64 0, .int .i64 0, .string ⟨#[]⟩, .float .f64 0] 48 [.int .i64 0, .int .i64 0, .string ⟨#[]⟩, .float .f64 0] rfl (by kernel_rfl) P5.out.at_ (by simp) (by simp [Value.oneCell']) ?_; intro w6 p6; have P6 := hid (show Put w4.heap.size #[.int .i64 0, .int .i64 0, .string ⟨#[]⟩, .float .f64 0] 48 w5 w6 from p6); clear p6; have h6 : w1.heap.size < w4.heap.size := lt_of_block F4.out.2; have F6 := hid (⟨(F4.out.1.thenNo P5.out.fr).fresh' P6.out.fr (fun q e => by subst e; exact F4.out.1.size), P6.out.fr.keep (P5.out.fr.keep F4.out.2 (fun e => e)) (by omega)⟩ : Fr No wr w6 ∧ _); clear h6; obtain ⟨g0, g1, g2, g3⟩ := cells4 P6.out.at_) | (refine wpList_store1 rfl 3 (.tmp 39) (.tmp 38) rfl w1.heap.size 1 rfl _ _ (.int .i64 ((i : Int) + 1)) rfl (by kernel_rfl) F6.out.2 (by simp) rfl ?_; intro w9 p9; have P9 := hid (show Put w1.heap.size #[.bool false, .int .i64 ((i : Int) + 1), .bool true, .slice none 0 0, .slice none 0 0, .int .i64 0, .int .i64 0, .string ⟨#[]⟩, .float .f64 0] 89 w6 w9 from p9); clear p9; obtain ⟨y0, y1, y2, y3, y4, y5, y6, y7, y8⟩ := cells9 P9.out.at_; have F9 := hid (F6.out.1.fresh' P9.out.fr (fun q e => by subst e; exact F1.out.size)); obtain ⟨H9, J9, hh9⟩ := (HO.out.2.next F9.out).ex; have HH9 := hid hh9; clear hh9) | (refine wpList_buildSlice1 rfl 85 89 (.tmp 41) rfl _ 9 112 Tryz.underlying85 infoWr (by decide) (by decide) (.agg #[.bool false, .int .i64 ((i : Int) + 1), .bool true, .slice none 0 0, .slice none 0 0, .int .i64 0, .int .i64 0, .string ⟨#[]⟩, .float .f64 0]) rfl rfl ?_; intro w10 p10; have P10 := hid (show New (wrcell ⟨false, (i : Int) + 1, true, NodeV.none, EdgeV.none⟩).toArray 89 w9 w10 from p10); clear p10) | (refine wpList_app rfl (.tmp 40) (.tmp 42) 85 rfl 89 _ 9 112 Tryz.underlying85 infoWr (by kernel_rfl) (by decide) (.slice aa k cc) k (H9.flatMap wrcell) rfl ?_ (.slice (some ⟨w9.heap.size, 0, none⟩) 1 1) 1 (wrcell ⟨false, (i : Int) + 1, true, NodeV.none, EdgeV.none⟩) rfl ?_ ?_ ?_ ?_))
     ·exact fd_owns (by have := HH9.out.row; rw [← HO.out.1] at this; exact this) P10.out.fr
     ·exact Rd.block P10.out.at_ 1 9 1 rfl (by simp [wrcell, Value.oneCell']) (Nat.le_refl _) (by simp [maxLen])
     ·unfold maxLen; omega
     ·omega
     intro v11 w11 o11 f11 b11 _
     obtain ⟨a11, c11, rfl⟩ := ownsRow_slice o11
     have O11 := hid (WrsO.app (HO.out.2.next F9.out) HH9.out P10.out (by rw [← HO.out.1]; exact o11) f11 b11 (fun _ => False) (fun _ h => h.elim) (h := ⟨false, (i : Int) + 1, true, NodeV.none, EdgeV.none⟩) (d := ⟨false, (i : Int) + 1, true, NodeD.none, EdgeV.none⟩) ⟨rfl, rfl, rfl, rfl, NodeIn.none _ _⟩)
     clear o11 f11 b11 y0 y1 y2 y3 y4 y5 y6 y7 y8
     go_wp2_with fail
     go_roundw
     case rel => exact ⟨i + 1, a11, c11, k + 1, by omega, by omega, rfl, by go_num, by rw [HGi.out, List.length_append, ← HO.out.1]; rfl, by rw [HGi.out]; exact O11.out⟩
     case measure => simp [intOf]; omega
    | some d =>
     obtain ⟨ef, et, ey, ew⟩ := d
     rw [hri] at HRR HGi
     dsimp only [Option.getD, Option.isSome, Option.isNone, edgeCs, EdgeV.none] at HRR HGi
     clear hri
     go_wp2_with (first | (rw [HC1.out, Oper.upon_enter]; refine (HMi.out _ HO.out.2.fr).mono ?_; rintro e w1 ⟨rfl, f1⟩; have F1 := hid f1; clear f1) | (refine wpList_build' rfl 89 [(2, .const (.bool true))] rfl [(2, .bool true)] rfl _ built_wg ?_) | (refine wpList_allocO rfl 89 rfl _ 9 112 infoWr ?_; intro w2 p2; have P2 := hid (show New #[.bool false, .int .i64 0, .bool false, .slice none 0 0, .slice none 0 0, .int .i64 0, .int .i64 0, .string ⟨#[]⟩, .float .f64 0] 89 w1 w2 from p2); clear p2) | (refine wpList_storeO rfl 89 (.tmp 12) (.tmp 26) rfl w1.heap.size 0 rfl [.bool false, .int .i64 0, .bool false, .slice none 0 0, .slice none 0 0, .int .i64 0, .int .i64 0, .string ⟨#[]⟩, .float .f64 0] 89 [.bool false, .int .i64 0, .bool true, .slice none 0 0, .slice none 0 0, .int .i64 0, .int .i64 0, .string ⟨#[]⟩, .float .f64 0] rfl (by kernel_rfl) P2.out.at_ (by simp) (by simp [Value.oneCell']) ?_; intro w3 p3; have P3 := hid (show Put w1.heap.size #[.bool false, .int .i64 0, .bool true, .slice none 0 0, .slice none 0 0, .int .i64 0, .int .i64 0, .string ⟨#[]⟩, .float .f64 0] 89 w2 w3 from p3); clear p3) | (rw [HC2.out, Oper.upon_enter]; refine (HRR.out w3 (((HO.out.2.fr.thenNo F1.out).thenNo P2.out.fr).fresh' P3.out.fr (fun q e => by subst e; exact Nat.le_trans HO.out.2.fr.size F1.out.size))).mono ?_; rintro e w4 ⟨rfl, f4⟩; have F4 := hid (⟨((F1.out.thenNo P2.out.fr).fresh' P3.out.fr (fun q e => by subst e; exact F1.out.size)).thenNo f4, f4.keep P3.out.at_ (fun e => e)⟩ : Fr No wr w4 ∧ _); clear f4) | (refine wpList_allocO rfl 48 rfl _ 4 40 infoEd ?_; intro w5 p5; have P5 := hid (show New #[.int .i64 0, .int .i64 0, .string ⟨#[]⟩, .float .f64 0] 48 w4 w5 from p5); clear p5) | (refine wpList_storeO rfl 48 (.tmp 13) (.tmp 31) rfl w4.heap.size 0 rfl [.int .i64 0, .int .i64 0, .string ⟨#[]⟩, .float .f64 0] 48 [.int .i64 ef, .int .i64 et, .string ey, .float .f64 ew] rfl (by kernel_rfl) P5.out.at_ (by simp) (by simp [Value.oneCell']) ?_; intro w6 p6; have P6 := hid (show Put w4.heap.size #[.int .i64 ef, .int .i64 et, .string ey, .float .f64 ew] 48 w5 w6 from p6); clear p6; have h6 : w1.heap.size < w4.heap.size := lt_of_block F4.out.2; have F6 := hid (⟨(F4.out.1.thenNo P5.out.fr).fresh' P6.out.fr (fun q e => by subst e; exact F4.out.1.size), P6.out.fr.keep (P5.out.fr.keep F4.out.2 (fun e => e)) (by omega)⟩ : Fr No wr w6 ∧ _); clear h6; obtain ⟨g0, g1, g2, g3⟩ := cells4 P6.out.at_) | (go_at_call 89; refine (ofedge_any w6 ef et ey ew).mono ?_; rintro e w7 ⟨rfl, f7⟩; have O7 := hid (⟨f7, f7.keep F6.out.2 (fun e => e), lt_of_block F6.out.2⟩ : _ ∧ _ ∧ _); clear f7) | (refine wpList_storeO rfl 89 (.tmp 12) (.tmp 36) rfl w1.heap.size 0 rfl [.bool false, .int .i64 0, .bool true, .slice none 0 0, .slice none 0 0, .int .i64 0, .int .i64 0, .string ⟨#[]⟩, .float .f64 0] 89 [.bool false, .int .i64 0, .bool false, .slice none 0 0, .slice none 0 0, .int .i64 ef, .int .i64 et, .string ey, .float .f64 ew] rfl (by kernel_rfl) O7.out.2.1 (by simp) (by simp [Value.oneCell']) ?_; intro w8 p8; have P8 := hid (show Put w1.heap.size #[.bool false, .int .i64 0, .bool false, .slice none 0 0, .slice none 0 0, .int .i64 ef, .int .i64 et, .string ey, .float .f64 ew] 89 w7 w8 from p8); clear p8; have F8 := hid ((F6.out.1.thenNo O7.out.1).fresh' P8.out.fr (fun q e => by subst e; exact F1.out.size))) | (refine wpList_store1 rfl 3 (.tmp 39) (.tmp 38) rfl w1.heap.size 1 rfl _ _ (.int .i64 ((i : Int) + 1)) rfl (by kernel_rfl) P8.out.at_ (by simp) rfl ?_; intro w9 p9; have P9 := hid (show Put w1.heap.size #[.bool false, .int .i64 ((i : Int) + 1), .bool false, .slice none 0 0, .slice none 0 0, .int .i64 ef, .int .i64 et, .string ey, .float .f64 ew] 89 w8 w9 from p9); clear p9; obtain ⟨y0, y1, y2, y3, y4, y5, y6, y7, y8⟩ := cells9 P9.out.at_; have F9 := hid (F8.out.fresh' P9.out.fr (fun q e => by subst e; exact F1.out.size)); obtain ⟨H9, J9, hh9⟩ := (HO.out.2.next F9.out).ex; have HH9 := hid hh9; clear hh9) | (refine wpList_buildSlice1 rfl 85 89 (.tmp 41) rfl _ 9 112 Tryz.underlying85 infoWr (by decide) (by decide) (.agg #[.bool false, .int .i64 ((i : Int) + 1), .bool false, .slice none 0 0, .slice none 0 0, .int .i64 ef, .int .i64 et, .string ey, .float .f64 ew]) rfl rfl ?_; intro w10 p10; have P10 := hid (show New (wrcell ⟨false, (i : Int) + 1, false, NodeV.none, ⟨ef, et, ey, ew⟩⟩).toArray 89 w9 w10 from p10); clear p10) | (refine wpList_app rfl (.tmp 40) (.tmp 42) 85 rfl 89 _ 9 112 Tryz.underlying85 infoWr (by kernel_rfl) (by decide) (.slice aa k cc) k (H9.flatMap wrcell) rfl ?_ (.slice (some ⟨w9.heap.size, 0, none⟩) 1 1) 1 (wrcell ⟨false, (i : Int) + 1, false, NodeV.none, ⟨ef, et, ey, ew⟩⟩) rfl ?_ ?_ ?_ ?_))
     ·exact fd_owns (by have := HH9.out.row; rw [← HO.out.1] at this; exact this) P10.out.fr
     ·exact Rd.block P10.out.at_ 1 9 1 rfl (by simp [wrcell, Value.oneCell']) (Nat.le_refl _) (by simp [maxLen])
     ·unfold maxLen; omega
     ·omega
     intro v11 w11 o11 f11 b11 _
     obtain ⟨a11, c11, rfl⟩ := ownsRow_slice o11
     have O11 := hid (WrsO.app (HO.out.2.next F9.out) HH9.out P10.out (by rw [← HO.out.1]; exact o11) f11 b11 (fun _ => False) (fun _ h => h.elim) (h := ⟨false, (i : Int) + 1, false, NodeV.none, ⟨ef, et, ey, ew⟩⟩) (d := ⟨false, (i : Int) + 1, false, NodeD.none, ⟨ef, et, ey, ew⟩⟩) ⟨rfl, rfl, rfl, rfl, NodeIn.none _ _⟩)
     clear o11 f11 b11 y0 y1 y2 y3 y4 y5 y6 y7 y8
     go_wp2_with fail
     go_roundw
     case rel => exact ⟨i + 1, a11, c11, k + 1, by omega, by omega, rfl, by go_num, by rw [HGi.out, List.length_append, ← HO.out.1]; rfl, by rw [HGi.out]; exact O11.out⟩
     case measure => simp [intOf]; omega
  ·obtain rfl : i = n := by omega
   go_wp2_with fail
   go_ret
   exact ⟨_, rfl, HO.out.2⟩
end Go.Proofs.YthadcdoepoglkaaGreatDoor
namespace Go.Lig
def WrD.mark (d : WrD) : WrD := { d with edge := true }
def markTo (i : Nat) (l : List WrD) : List WrD := (l.take i).map WrD.mark ++ l.drop i
theorem markTo_len (i : Nat) (l : List WrD) : (markTo i l).length = l.length := by
 simp [markTo, List.length_take, List.length_drop]
 omega
theorem markTo_get {i : Nat} {l : List WrD} {d : WrD} (h : l[i]? = some d) : (markTo i l)[i]? = some d := by
 have hl := (List.getElem?_eq_some_iff.1 h).1
 unfold markTo
 rw [List.getElem?_append_right (by simp; omega)]
 simp only [List.length_map, List.length_take, List.getElem?_drop]
 rw [show i + (i - min i l.length) = i by omega]
 exact h
theorem markTo_succ {i : Nat} {l : List WrD} {d : WrD} (h : l[i]? = some d) : (markTo i l).set i d.mark = markTo (i + 1) l := by
 have hl := (List.getElem?_eq_some_iff.1 h).1
 have hd : l.drop i = d :: l.drop (i + 1) := by
  rw [List.drop_eq_getElem_cons hl]
  congr 1
  exact (List.getElem?_eq_some_iff.1 h).2
 have ht : l.take (i + 1) = l.take i ++ [d] := by
  rw [List.take_succ_eq_append_getElem hl]
  rw [(List.getElem?_eq_some_iff.1 h).2]
 unfold markTo
 rw [hd, ht, List.map_append, List.set_append_right _ _ (by simp; omega)]
 simp only [List.length_map, List.length_take]
 rw [show i - min i l.length = 0 by omega]
 simp
theorem markTo_all (l : List WrD) : markTo l.length l = l.map WrD.mark := by simp [markTo]
end Go.Lig
namespace Go.Proofs.YthadcdoepoglkaaGreatDoor
open Go.RowKit Go.Lig
set_option maxRecDepth 100000 in
set_option maxHeartbeats 1000000 in
theorem edged_any (w0 w : World) (v : Value) (l : List WrD) (h : WrsO w0 w v l) (hn : l.length ≤ 1000) : Calls Tryz.prog 90 #[v] w fun e w' => e = .returned v ∧ WrsO w0 w' v (l.map WrD.mark) := by
 obtain ⟨va, vc, rfl⟩ : ∃ va vc, v = .slice va l.length vc := by
  obtain ⟨H, J, hh⟩ := h.ex
  obtain ⟨va, vc, rfl⟩ := ownsRow_slice hh.row
  exact ⟨va, vc, rfl⟩
 have HH := hid h
 have HL := hid (⟨fun i d (e : l[i]? = some d) => markTo_get e, fun i d (e : l[i]? = some d) => markTo_succ e, markTo_all l, fun i => markTo_len i l⟩ : _ ∧ _ ∧ _ ∧ _)
 have H0 : Hid (markTo 0 l = l) := hid rfl
 clear h
 generalize hne : l.length = n at *
 have HNe := hid hne
 clear hne
 go_enter Tryz.func90, Tryz.ntmps90
 go_wp2_with fail
 go_loopw [6] (fun vi wr => ∃ (i : Nat), i ≤ n ∧ vi = .int .i64 (i : Int) ∧ Hid (WrsO w0 wr (.slice va n vc) (markTo i l))) (fun vi _ => n - (intOf vi).toNat)
 case atStart => exact ⟨0, Nat.zero_le _, rfl, by rw [H0.out]; exact HH.out⟩
 case round =>
  obtain ⟨i, hi, rfl, HO⟩ := hrel
  by_cases hlt : i < n
  ·obtain ⟨d, hd⟩ : ∃ d, l[i]? = some d := ⟨l[i]'(by have := HNe.out; omega), List.getElem?_eq_getElem _⟩
   obtain ⟨H, J, hh⟩ := HO.out.ex
   have hrw := hh.row
   rw [HL.out.2.2.2, show (Value.slice va n vc) = .slice va n vc from rfl] at hrw
   obtain ⟨g, cur, rfl, -, hg, hnc, hcs, hct⟩ := owns_at hrw (by omega)
   have hsz : i * 9 < cur.size := by rw [hcs]; exact Nat.lt_of_lt_of_le (Nat.mul_lt_mul_of_pos_right hlt (by decide)) (Nat.mul_le_mul_right _ hnc)
   have HS := hid (⟨hh, hg, hsz, hd⟩ : _ ∧ _ ∧ _ ∧ _)
   clear hh hrw hg hct hcs hnc hsz hd
   go_wp2_with (refine wpList_store1 rfl 4 (.tmp 12) (.const (.bool true)) rfl g (i * 9) rfl cur 89 (.bool true) rfl (by kernel_rfl) HS.out.2.1 HS.out.2.2.1 rfl ?_; intro w2 p2; have P2 := hid p2; clear p2)
   go_roundw
   case rel =>
    refine ⟨i + 1, by omega, by go_num, ?_⟩
    obtain ⟨hh, hg, hsz, hd⟩ := HS.out
    have hlm := HL.out.2.2.2 i
    rw [← HL.out.2.1 i d hd]
    obtain ⟨x, hx⟩ : ∃ x, H[i]? = some x := ⟨H[i]'(by have := hh.len; omega), List.getElem?_eq_getElem _⟩
    have hdm := HL.out.1 i d hd
    have hset := flat_set (f := wrcell) (m := 9) (fun _ => rfl) H i x { x with edge := true } hx 0 (by decide) (.bool true) rfl
    rw [Nat.add_zero] at hset
    have hrow := owns_setN (by have := hh.row; rw [hlm] at this; exact this) hg P2.out
    rw [hset] at hrow
    have hjg : ∀ k, J k → ¬ k = g := fun k hk e => (hh.jb k hk).2.2 (by rw [e]; rfl)
    refine ⟨⟨H.set i { x with edge := true }, J, ⟨by simp [hh.len], by simpa [hlm] using hrow, fun j y z e1 e2 => ?_, fun k hk => ⟨(hh.jb k hk).1, by have := P2.out.size; have := (hh.jb k hk).2.1; omega, (hh.jb k hk).2.2⟩⟩⟩, HO.out.blk, HO.out.fr.trans P2.out.fr (fun k hk e => by subst e; have := HO.out.blk k rfl; omega)⟩
    by_cases hj : j = i
    ·subst hj
     rw [List.getElem?_set_self (by have := (List.getElem?_eq_some_iff.1 hx).1; exact this)] at e1
     rw [List.getElem?_set_self (by have := (List.getElem?_eq_some_iff.1 hdm).1; exact this)] at e2
     obtain rfl := Option.some.inj e1
     obtain rfl := Option.some.inj e2
     have hin := hh.ins j x d hx hdm
     exact ⟨rfl, hin.id, hin.gone, hin.e, hin.n.frame P2.out.fr hjg⟩
    ·rw [List.getElem?_set_ne (fun e => hj e.symm)] at e1 e2
     exact (hh.ins j y z e1 e2).frame P2.out.fr hjg
   case measure => simp [intOf]; omega
  ·obtain rfl : i = n := by omega
   go_wp2_with fail
   go_ret
   exact ⟨rfl, by rw [← HL.out.2.2.1]; exact HO.out⟩
end Go.Proofs.YthadcdoepoglkaaGreatDoor
