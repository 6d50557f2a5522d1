/- A part of the proof: contracts of functions of the program, for the row's text. -/
import Derived.Test.YtfaapjcgmjjheaaGreatDoorK30
import Derived.Test.YtfaapjcgmjjheaaGreatDoorK24
import Derived.Test.YtfaapjcgmjjheaaGreatDoorK08
import Derived.Test.YtfaapjcgmjjheaaGreatDoorK11
namespace Go.Proofs.YtfaapjcgmjjheaaGreatDoor
open Go.RowKit Go.Lig

set_option maxRecDepth 100000 in
set_option maxHeartbeats 4000000 in
theorem writese_any (w : World) (v : Value) (n : Nat) (x : Nat → Nat) (hrow : Rd w v n 1 (ptrs x n)) (hn : n ≤ 1000) (m : Nat → Bool) (r : Nat → Option EdgeV) (cf1 cf2 : Nat) (clb1 clb2 : Array Value)
    (hcf1 : ∀ args w, (callFunc cf1 args).run Tryz.prog w = .ok (.enter cf1 args) w) (hcf2 : ∀ args w, (callFunc cf2 args).run Tryz.prog w = .ok (.enter cf2 args) w)
    (hm : ∀ i, i < n → ∀ W, Fr No w W → Calls Tryz.prog cf1 (#[.pointer (some ⟨x i, 0, none⟩)] ++ clb1) W fun e W' => e = .returned (.bool (m i)) ∧ Fr No W W')
    (hr : ∀ i, i < n → ∀ W, Fr No w W → Calls Tryz.prog cf2 (#[.pointer (some ⟨x i, 0, none⟩)] ++ clb2) W fun e W' => e = .returned (.tuple #[.agg (edgeCs ((r i).getD EdgeV.none)), .bool (r i).isSome]) ∧ Fr No W W') :
    Calls Tryz.prog 63 #[v, .func (.func cf1) #[] clb1, .func (.func cf2) #[] clb2, .func (.func 67) #[] #[]] w fun e w' => ∃ v', e = .returned v' ∧ WrsO w w' v' (wrsE m r n) := by
  obtain ⟨va, vc, rfl, -⟩ := rd_len hrow
  have HC1 := hid hcf1
  have HC2 := hid hcf2
  have HM := hid hm
  have HR := hid hr
  have HV := hid hrow
  have HG : Hid (∀ i, wrsE m r (i + 1) = wrsE m r i ++ (if m i then [⟨false, (i : Int) + 1, (r i).isNone, NodeD.none, (r i).getD EdgeV.none⟩] else [])) := hid (fun _ => rfl)
  have HZ : Hid (wrsE m r 0 = []) := hid rfl
  generalize wrsE m r = g at *
  clear hcf1 hcf2 hm hr hrow
  go_enter Tryz.func63, Tryz.ntmps63
  go_wp2_with fail
  go_loopw [9, 17] (fun v9 vi wr => ∃ (i : Nat) (aa : Option Addr) (cc k : Nat), i ≤ n ∧ k ≤ i ∧ v9 = .slice aa k cc ∧ vi = .int .i64 (i : Int) ∧ Hid (k = (g i).length ∧ WrsO w wr (.slice aa k cc) (g i))) (fun _ vi _ => n - (intOf vi).toNat)
  case atStart => exact ⟨0, none, 0, 0, Nat.zero_le _, Nat.zero_le _, rfl, rfl, by rw [HZ.out]; rfl, by rw [HZ.out]; exact WrsO.nil _⟩
  case round =>
    obtain ⟨i, aa, cc, k, hi, hk, rfl, rfl, HO⟩ := hrel
    by_cases hlt : i < n
    · obtain ⟨vb, vo, vc', hva, hvc⟩ := HV.out.at1 (ptrs_get x n i hlt)
      obtain ⟨rfl, -, rfl⟩ := Value.slice.inj hva
      have c1 := hvc wr HO.out.2.fr
      have HMi := hid (HM.out i hlt)
      have HRi := hid (HR.out i hlt)
      have HGi := hid (HG.out i)
      have hw : wrap64 ((i : Int) + 1) = (i : Int) + 1 := by unfold wrap64; omega
      clear hva hvc
      cases hmi : m i with
      | false =>
        rw [hmi] at HMi HGi
        clear hmi
        simp only [Bool.false_eq_true, if_false, List.append_nil] at HGi
        go_wp2_with (rw [HC1.out, Oper.upon_enter]; refine (HMi.out _ HO.out.2.fr).mono ?_; rintro e w1 ⟨rfl, f1⟩; have F1 := hid f1; clear f1)
        go_roundw
        case rel => exact ⟨i + 1, aa, cc, k, by omega, by omega, rfl, by go_num, by rw [HGi.out]; exact HO.out.1, by rw [HGi.out]; exact HO.out.2.next F1.out⟩
        case measure => simp [intOf]; omega
      | true =>
        rw [hmi] at HMi HGi
        clear hmi
        simp only [if_true] at HGi
        have HRR := hid HRi.out
        cases hri : r i with
        | none =>
          rw [hri] at HRR HGi
          dsimp only [Option.getD, Option.isSome, Option.isNone, edgeCs, EdgeV.none] at HRR HGi
          clear hri
          go_wp2_with (first | (rw [HC1.out, Oper.upon_enter]; refine (HMi.out _ HO.out.2.fr).mono ?_; rintro e w1 ⟨rfl, f1⟩; have F1 := hid f1; clear f1) | (refine wpList_build' rfl 54 [(2, .const (.bool true))] rfl [(2, .bool true)] rfl _ built_wg ?_) | (refine wpList_allocO rfl 54 rfl _ 9 112 infoWr ?_; intro w2 p2; have P2 := hid (show New #[.bool false, .int .i64 0, .bool false, .slice none 0 0, .slice none 0 0, .int .i64 0, .int .i64 0, .string ⟨#[]⟩, .float .f64 0] 54 w1 w2 from p2); clear p2) | (refine wpList_storeO rfl 54 (.tmp 12) (.tmp 26) rfl w1.heap.size 0 rfl [.bool false, .int .i64 0, .bool false, .slice none 0 0, .slice none 0 0, .int .i64 0, .int .i64 0, .string ⟨#[]⟩, .float .f64 0] 54 [.bool false, .int .i64 0, .bool true, .slice none 0 0, .slice none 0 0, .int .i64 0, .int .i64 0, .string ⟨#[]⟩, .float .f64 0] rfl (by kernel_rfl) P2.out.at_ (by simp) (by simp [Value.oneCell']) ?_; intro w3 p3; have P3 := hid (show Put w1.heap.size #[.bool false, .int .i64 0, .bool true, .slice none 0 0, .slice none 0 0, .int .i64 0, .int .i64 0, .string ⟨#[]⟩, .float .f64 0] 54 w2 w3 from p3); clear p3) | (rw [HC2.out, Oper.upon_enter]; refine (HRR.out w3 (((HO.out.2.fr.thenNo F1.out).thenNo P2.out.fr).fresh' P3.out.fr (fun q e => by subst e; exact Nat.le_trans HO.out.2.fr.size F1.out.size))).mono ?_; rintro e w4 ⟨rfl, f4⟩; have F4 := hid (⟨((F1.out.thenNo P2.out.fr).fresh' P3.out.fr (fun q e => by subst e; exact F1.out.size)).thenNo f4, f4.keep P3.out.at_ (fun e => e)⟩ : Fr No wr w4 ∧ _); clear f4) | (refine wpList_allocO rfl 43 rfl _ 4 40 infoEd ?_; intro w5 p5; have P5 := hid (show New #[.int .i64 0, .int .i64 0, .string ⟨#[]⟩, .float .f64 0] 43 w4 w5 from p5); clear p5) | (refine wpList_storeO rfl 43 (.tmp 13) (.tmp 31) rfl w4.heap.size 0 rfl [.int .i64 0, .int .i64 0, .string ⟨#[]⟩, .float .f64 0] 43 [.int .i64 0, .int .i64 0, .string ⟨#[]⟩, .float .f64 0] rfl (by kernel_rfl) P5.out.at_ (by simp) (by simp [Value.oneCell']) ?_; intro w6 p6; have P6 := hid (show Put w4.heap.size #[.int .i64 0, .int .i64 0, .string ⟨#[]⟩, .float .f64 0] 43 w5 w6 from p6); clear p6; have h6 : w1.heap.size < w4.heap.size := lt_of_block F4.out.2; have F6 := hid (⟨(F4.out.1.thenNo P5.out.fr).fresh' P6.out.fr (fun q e => by subst e; exact F4.out.1.size), P6.out.fr.keep (P5.out.fr.keep F4.out.2 (fun e => e)) (by omega)⟩ : Fr No wr w6 ∧ _); clear h6; obtain ⟨g0, g1, g2, g3⟩ := cells4 P6.out.at_) | (refine wpList_store1 rfl 3 (.tmp 39) (.tmp 38) rfl w1.heap.size 1 rfl _ _ (.int .i64 ((i : Int) + 1)) rfl (by kernel_rfl) F6.out.2 (by simp) rfl ?_; intro w9 p9; have P9 := hid (show Put w1.heap.size #[.bool false, .int .i64 ((i : Int) + 1), .bool true, .slice none 0 0, .slice none 0 0, .int .i64 0, .int .i64 0, .string ⟨#[]⟩, .float .f64 0] 54 w6 w9 from p9); clear p9; obtain ⟨y0, y1, y2, y3, y4, y5, y6, y7, y8⟩ := cells9 P9.out.at_; have F9 := hid (F6.out.1.fresh' P9.out.fr (fun q e => by subst e; exact F1.out.size)); obtain ⟨H9, J9, hh9⟩ := (HO.out.2.next F9.out).ex; have HH9 := hid hh9; clear hh9) | (refine wpList_buildSlice1 rfl 50 54 (.tmp 41) rfl _ 9 112 Tryz.underlying50 infoWr (by decide) (by decide) (.agg #[.bool false, .int .i64 ((i : Int) + 1), .bool true, .slice none 0 0, .slice none 0 0, .int .i64 0, .int .i64 0, .string ⟨#[]⟩, .float .f64 0]) rfl rfl ?_; intro w10 p10; have P10 := hid (show New (wrcell ⟨false, (i : Int) + 1, true, NodeV.none, EdgeV.none⟩).toArray 54 w9 w10 from p10); clear p10) | (refine wpList_app rfl (.tmp 40) (.tmp 42) 50 rfl 54 _ 9 112 Tryz.underlying50 infoWr (by kernel_rfl) (by decide) (.slice aa k cc) k (H9.flatMap wrcell) rfl ?_ (.slice (some ⟨w9.heap.size, 0, none⟩) 1 1) 1 (wrcell ⟨false, (i : Int) + 1, true, NodeV.none, EdgeV.none⟩) rfl ?_ ?_ ?_ ?_))
          · exact fd_owns (by have := HH9.out.row; rw [← HO.out.1] at this; exact this) P10.out.fr
          · exact Rd.block P10.out.at_ 1 9 1 rfl (by simp [wrcell, Value.oneCell']) (Nat.le_refl _) (by simp [maxLen])
          · unfold maxLen; omega
          · omega
          intro v11 w11 o11 f11 b11 _
          obtain ⟨a11, c11, rfl⟩ := ownsRow_slice o11
          have O11 := hid (WrsO.app (HO.out.2.next F9.out) HH9.out P10.out (by rw [← HO.out.1]; exact o11) f11 b11 (fun _ => False) (fun _ h => h.elim) (h := ⟨false, (i : Int) + 1, true, NodeV.none, EdgeV.none⟩) (d := ⟨false, (i : Int) + 1, true, NodeD.none, EdgeV.none⟩) ⟨rfl, rfl, rfl, rfl, NodeIn.none _ _⟩)
          clear o11 f11 b11 y0 y1 y2 y3 y4 y5 y6 y7 y8
          go_wp2_with fail
          go_roundw
          case rel => exact ⟨i + 1, a11, c11, k + 1, by omega, by omega, rfl, by go_num, by rw [HGi.out, List.length_append, ← HO.out.1]; rfl, by rw [HGi.out]; exact O11.out⟩
          case measure => simp [intOf]; omega
        | some d =>
          obtain ⟨ef, et, ey, ew⟩ := d
          rw [hri] at HRR HGi
          dsimp only [Option.getD, Option.isSome, Option.isNone, edgeCs, EdgeV.none] at HRR HGi
          clear hri
          go_wp2_with (first | (rw [HC1.out, Oper.upon_enter]; refine (HMi.out _ HO.out.2.fr).mono ?_; rintro e w1 ⟨rfl, f1⟩; have F1 := hid f1; clear f1) | (refine wpList_build' rfl 54 [(2, .const (.bool true))] rfl [(2, .bool true)] rfl _ built_wg ?_) | (refine wpList_allocO rfl 54 rfl _ 9 112 infoWr ?_; intro w2 p2; have P2 := hid (show New #[.bool false, .int .i64 0, .bool false, .slice none 0 0, .slice none 0 0, .int .i64 0, .int .i64 0, .string ⟨#[]⟩, .float .f64 0] 54 w1 w2 from p2); clear p2) | (refine wpList_storeO rfl 54 (.tmp 12) (.tmp 26) rfl w1.heap.size 0 rfl [.bool false, .int .i64 0, .bool false, .slice none 0 0, .slice none 0 0, .int .i64 0, .int .i64 0, .string ⟨#[]⟩, .float .f64 0] 54 [.bool false, .int .i64 0, .bool true, .slice none 0 0, .slice none 0 0, .int .i64 0, .int .i64 0, .string ⟨#[]⟩, .float .f64 0] rfl (by kernel_rfl) P2.out.at_ (by simp) (by simp [Value.oneCell']) ?_; intro w3 p3; have P3 := hid (show Put w1.heap.size #[.bool false, .int .i64 0, .bool true, .slice none 0 0, .slice none 0 0, .int .i64 0, .int .i64 0, .string ⟨#[]⟩, .float .f64 0] 54 w2 w3 from p3); clear p3) | (rw [HC2.out, Oper.upon_enter]; refine (HRR.out w3 (((HO.out.2.fr.thenNo F1.out).thenNo P2.out.fr).fresh' P3.out.fr (fun q e => by subst e; exact Nat.le_trans HO.out.2.fr.size F1.out.size))).mono ?_; rintro e w4 ⟨rfl, f4⟩; have F4 := hid (⟨((F1.out.thenNo P2.out.fr).fresh' P3.out.fr (fun q e => by subst e; exact F1.out.size)).thenNo f4, f4.keep P3.out.at_ (fun e => e)⟩ : Fr No wr w4 ∧ _); clear f4) | (refine wpList_allocO rfl 43 rfl _ 4 40 infoEd ?_; intro w5 p5; have P5 := hid (show New #[.int .i64 0, .int .i64 0, .string ⟨#[]⟩, .float .f64 0] 43 w4 w5 from p5); clear p5) | (refine wpList_storeO rfl 43 (.tmp 13) (.tmp 31) rfl w4.heap.size 0 rfl [.int .i64 0, .int .i64 0, .string ⟨#[]⟩, .float .f64 0] 43 [.int .i64 ef, .int .i64 et, .string ey, .float .f64 ew] rfl (by kernel_rfl) P5.out.at_ (by simp) (by simp [Value.oneCell']) ?_; intro w6 p6; have P6 := hid (show Put w4.heap.size #[.int .i64 ef, .int .i64 et, .string ey, .float .f64 ew] 43 w5 w6 from p6); clear p6; have h6 : w1.heap.size < w4.heap.size := lt_of_block F4.out.2; have F6 := hid (⟨(F4.out.1.thenNo P5.out.fr).fresh' P6.out.fr (fun q e => by subst e; exact F4.out.1.size), P6.out.fr.keep (P5.out.fr.keep F4.out.2 (fun e => e)) (by omega)⟩ : Fr No wr w6 ∧ _); clear h6; obtain ⟨g0, g1, g2, g3⟩ := cells4 P6.out.at_) | (go_at_call 67; refine (ofedge_any w6 ef et ey ew).mono ?_; rintro e w7 ⟨rfl, f7⟩; have O7 := hid (⟨f7, f7.keep F6.out.2 (fun e => e), lt_of_block F6.out.2⟩ : _ ∧ _ ∧ _); clear f7) | (refine wpList_storeO rfl 54 (.tmp 12) (.tmp 36) rfl w1.heap.size 0 rfl [.bool false, .int .i64 0, .bool true, .slice none 0 0, .slice none 0 0, .int .i64 0, .int .i64 0, .string ⟨#[]⟩, .float .f64 0] 54 [.bool false, .int .i64 0, .bool false, .slice none 0 0, .slice none 0 0, .int .i64 ef, .int .i64 et, .string ey, .float .f64 ew] rfl (by kernel_rfl) O7.out.2.1 (by simp) (by simp [Value.oneCell']) ?_; intro w8 p8; have P8 := hid (show Put w1.heap.size #[.bool false, .int .i64 0, .bool false, .slice none 0 0, .slice none 0 0, .int .i64 ef, .int .i64 et, .string ey, .float .f64 ew] 54 w7 w8 from p8); clear p8; have F8 := hid ((F6.out.1.thenNo O7.out.1).fresh' P8.out.fr (fun q e => by subst e; exact F1.out.size))) | (refine wpList_store1 rfl 3 (.tmp 39) (.tmp 38) rfl w1.heap.size 1 rfl _ _ (.int .i64 ((i : Int) + 1)) rfl (by kernel_rfl) P8.out.at_ (by simp) rfl ?_; intro w9 p9; have P9 := hid (show Put w1.heap.size #[.bool false, .int .i64 ((i : Int) + 1), .bool false, .slice none 0 0, .slice none 0 0, .int .i64 ef, .int .i64 et, .string ey, .float .f64 ew] 54 w8 w9 from p9); clear p9; obtain ⟨y0, y1, y2, y3, y4, y5, y6, y7, y8⟩ := cells9 P9.out.at_; have F9 := hid (F8.out.fresh' P9.out.fr (fun q e => by subst e; exact F1.out.size)); obtain ⟨H9, J9, hh9⟩ := (HO.out.2.next F9.out).ex; have HH9 := hid hh9; clear hh9) | (refine wpList_buildSlice1 rfl 50 54 (.tmp 41) rfl _ 9 112 Tryz.underlying50 infoWr (by decide) (by decide) (.agg #[.bool false, .int .i64 ((i : Int) + 1), .bool false, .slice none 0 0, .slice none 0 0, .int .i64 ef, .int .i64 et, .string ey, .float .f64 ew]) rfl rfl ?_; intro w10 p10; have P10 := hid (show New (wrcell ⟨false, (i : Int) + 1, false, NodeV.none, ⟨ef, et, ey, ew⟩⟩).toArray 54 w9 w10 from p10); clear p10) | (refine wpList_app rfl (.tmp 40) (.tmp 42) 50 rfl 54 _ 9 112 Tryz.underlying50 infoWr (by kernel_rfl) (by decide) (.slice aa k cc) k (H9.flatMap wrcell) rfl ?_ (.slice (some ⟨w9.heap.size, 0, none⟩) 1 1) 1 (wrcell ⟨false, (i : Int) + 1, false, NodeV.none, ⟨ef, et, ey, ew⟩⟩) rfl ?_ ?_ ?_ ?_))
          · exact fd_owns (by have := HH9.out.row; rw [← HO.out.1] at this; exact this) P10.out.fr
          · exact Rd.block P10.out.at_ 1 9 1 rfl (by simp [wrcell, Value.oneCell']) (Nat.le_refl _) (by simp [maxLen])
          · unfold maxLen; omega
          · omega
          intro v11 w11 o11 f11 b11 _
          obtain ⟨a11, c11, rfl⟩ := ownsRow_slice o11
          have O11 := hid (WrsO.app (HO.out.2.next F9.out) HH9.out P10.out (by rw [← HO.out.1]; exact o11) f11 b11 (fun _ => False) (fun _ h => h.elim) (h := ⟨false, (i : Int) + 1, false, NodeV.none, ⟨ef, et, ey, ew⟩⟩) (d := ⟨false, (i : Int) + 1, false, NodeD.none, ⟨ef, et, ey, ew⟩⟩) ⟨rfl, rfl, rfl, rfl, NodeIn.none _ _⟩)
          clear o11 f11 b11 y0 y1 y2 y3 y4 y5 y6 y7 y8
          go_wp2_with fail
          go_roundw
          case rel => exact ⟨i + 1, a11, c11, k + 1, by omega, by omega, rfl, by go_num, by rw [HGi.out, List.length_append, ← HO.out.1]; rfl, by rw [HGi.out]; exact O11.out⟩
          case measure => simp [intOf]; omega
    · obtain rfl : i = n := by omega
      go_wp2_with fail
      go_ret
      exact ⟨_, rfl, HO.out.2⟩
end Go.Proofs.YtfaapjcgmjjheaaGreatDoor

namespace Go.Lig
/-- it is of an edge -/
def WrD.mark (d : WrD) : WrD := { d with edge := true }
def markTo (i : Nat) (l : List WrD) : List WrD := (l.take i).map WrD.mark ++ l.drop i
theorem markTo_len (i : Nat) (l : List WrD) : (markTo i l).length = l.length := by
  simp [markTo, List.length_take, List.length_drop]
  omega
theorem markTo_get {i : Nat} {l : List WrD} {d : WrD} (h : l[i]? = some d) : (markTo i l)[i]? = some d := by
  have hl := (List.getElem?_eq_some_iff.1 h).1
  unfold markTo
  rw [List.getElem?_append_right (by simp; omega)]
  simp only [List.length_map, List.length_take, List.getElem?_drop]
  rw [show i + (i - min i l.length) = i by omega]
  exact h
theorem markTo_succ {i : Nat} {l : List WrD} {d : WrD} (h : l[i]? = some d) : (markTo i l).set i d.mark = markTo (i + 1) l := by
  have hl := (List.getElem?_eq_some_iff.1 h).1
  have hd : l.drop i = d :: l.drop (i + 1) := by
    rw [List.drop_eq_getElem_cons hl]
    congr 1
    exact (List.getElem?_eq_some_iff.1 h).2
  have ht : l.take (i + 1) = l.take i ++ [d] := by
    rw [List.take_succ_eq_append_getElem hl]
    rw [(List.getElem?_eq_some_iff.1 h).2]
  unfold markTo
  rw [hd, ht, List.map_append, List.set_append_right _ _ (by simp; omega)]
  simp only [List.length_map, List.length_take]
  rw [show i - min i l.length = 0 by omega]
  simp
theorem markTo_all (l : List WrD) : markTo l.length l = l.map WrD.mark := by simp [markTo]
end Go.Lig
namespace Go.Proofs.YtfaapjcgmjjheaaGreatDoor
open Go.RowKit Go.Lig

set_option maxRecDepth 100000 in
set_option maxHeartbeats 1000000 in
theorem edged_any (w0 w : World) (v : Value) (l : List WrD) (h : WrsO w0 w v l) (hn : l.length ≤ 1000) : Calls Tryz.prog 68 #[v] w fun e w' => e = .returned v ∧ WrsO w0 w' v (l.map WrD.mark) := by
  obtain ⟨va, vc, rfl⟩ : ∃ va vc, v = .slice va l.length vc := by
    obtain ⟨H, J, hh⟩ := h.ex
    obtain ⟨va, vc, rfl⟩ := ownsRow_slice hh.row
    exact ⟨va, vc, rfl⟩
  have HH := hid h
  have HL := hid (⟨fun i d (e : l[i]? = some d) => markTo_get e, fun i d (e : l[i]? = some d) => markTo_succ e, markTo_all l, fun i => markTo_len i l⟩ : _ ∧ _ ∧ _ ∧ _)
  have H0 : Hid (markTo 0 l = l) := hid rfl
  clear h
  generalize hne : l.length = n at *
  have HNe := hid hne
  clear hne
  go_enter Tryz.func68, Tryz.ntmps68
  go_wp2_with fail
  go_loopw [6] (fun vi wr => ∃ (i : Nat), i ≤ n ∧ vi = .int .i64 (i : Int) ∧ Hid (WrsO w0 wr (.slice va n vc) (markTo i l))) (fun vi _ => n - (intOf vi).toNat)
  case atStart => exact ⟨0, Nat.zero_le _, rfl, by rw [H0.out]; exact HH.out⟩
  case round =>
    obtain ⟨i, hi, rfl, HO⟩ := hrel
    by_cases hlt : i < n
    · obtain ⟨d, hd⟩ : ∃ d, l[i]? = some d := ⟨l[i]'(by have := HNe.out; omega), List.getElem?_eq_getElem _⟩
      obtain ⟨H, J, hh⟩ := HO.out.ex
      have hrw := hh.row
      rw [HL.out.2.2.2, show (Value.slice va n vc) = .slice va n vc from rfl] at hrw
      obtain ⟨g, cur, rfl, -, hg, hnc, hcs, hct⟩ := owns_at hrw (by omega)
      have hsz : i * 9 < cur.size := by rw [hcs]; exact Nat.lt_of_lt_of_le (Nat.mul_lt_mul_of_pos_right hlt (by decide)) (Nat.mul_le_mul_right _ hnc)
      have HS := hid (⟨hh, hg, hsz, hd⟩ : _ ∧ _ ∧ _ ∧ _)
      clear hh hrw hg hct hcs hnc hsz hd
      go_wp2_with (refine wpList_store1 rfl 4 (.tmp 12) (.const (.bool true)) rfl g (i * 9) rfl cur 54 (.bool true) rfl (by kernel_rfl) HS.out.2.1 HS.out.2.2.1 rfl ?_; intro w2 p2; have P2 := hid p2; clear p2)
      go_roundw
      case rel =>
        refine ⟨i + 1, by omega, by go_num, ?_⟩
        obtain ⟨hh, hg, hsz, hd⟩ := HS.out
        have hlm := HL.out.2.2.2 i
        rw [← HL.out.2.1 i d hd]
        obtain ⟨x, hx⟩ : ∃ x, H[i]? = some x := ⟨H[i]'(by have := hh.len; omega), List.getElem?_eq_getElem _⟩
        have hdm := HL.out.1 i d hd
        have hset := flat_set (f := wrcell) (m := 9) (fun _ => rfl) H i x { x with edge := true } hx 0 (by decide) (.bool true) rfl
        rw [Nat.add_zero] at hset
        have hrow := owns_setN (by have := hh.row; rw [hlm] at this; exact this) hg P2.out
        rw [hset] at hrow
        have hjg : ∀ k, J k → ¬ k = g := fun k hk e => (hh.jb k hk).2.2 (by rw [e]; rfl)
        refine ⟨⟨H.set i { x with edge := true }, J, ⟨by simp [hh.len], by simpa [hlm] using hrow, fun j y z e1 e2 => ?_, fun k hk => ⟨(hh.jb k hk).1, by have := P2.out.size; have := (hh.jb k hk).2.1; omega, (hh.jb k hk).2.2⟩⟩⟩, HO.out.blk, HO.out.fr.trans P2.out.fr (fun k hk e => by subst e; have := HO.out.blk k rfl; omega)⟩
        by_cases hj : j = i
        · subst hj
          rw [List.getElem?_set_self (by have := (List.getElem?_eq_some_iff.1 hx).1; exact this)] at e1
          rw [List.getElem?_set_self (by have := (List.getElem?_eq_some_iff.1 hdm).1; exact this)] at e2
          obtain rfl := Option.some.inj e1
          obtain rfl := Option.some.inj e2
          have hin := hh.ins j x d hx hdm
          exact ⟨rfl, hin.id, hin.gone, hin.e, hin.n.frame P2.out.fr hjg⟩
        · rw [List.getElem?_set_ne (fun e => hj e.symm)] at e1 e2
          exact (hh.ins j y z e1 e2).frame P2.out.fr hjg
      case measure => simp [intOf]; omega
    · obtain rfl : i = n := by omega
      go_wp2_with fail
      go_ret
      exact ⟨rfl, by rw [← HL.out.2.2.1]; exact HO.out⟩
end Go.Proofs.YtfaapjcgmjjheaaGreatDoor

namespace Go.Proofs.YtfaapjcgmjjheaaGreatDoor
open Go.RowKit Go.Lig

theorem wrote1_any (w : World) (y : Ver NodeV) (t : Int) (b : Nat) (hb : w.cell? ⟨b, 0, none⟩ = some (.int .i64 t)) :
    Calls Tryz.prog 116 #[.agg #[.int .i64 y.by_, .slice y.v.l.a y.v.l.n y.v.l.c, .slice y.v.p.a y.v.p.n y.v.p.c, .bool y.gone], .pointer (some ⟨b, 0, none⟩)] w fun e w' => e = .returned (.bool (y.by_ == t)) ∧ Fr No w w' := by
  have hlt : b < w.heap.size := World.block_lt_of_cell? w _ hb
  go_enter Tryz.func116, Tryz.ntmps116
  go_wp2
  go_ret
  exact ⟨rfl, (Fr.refl No w).alloc _⟩
theorem enter_wrote1 : ∀ args w, (callFunc 116 args).run Tryz.prog w = .ok (.enter 116 args) w := enters_of Tryz.func116 (by kernel_rfl) rfl
theorem anyv_any (w : World) (a : Option Addr) (g cap : Nat) (L : List (Ver NodeV)) (ha : 0 < L.length → a = some ⟨g, 0, none⟩) (hs : L.length ≤ 1000000) (hc : ∀ W, Fr No w W → ∀ j y, L[j]? = some y → NcAt W g j y) (cf : Nat) (clb : Array Value) (p : Ver NodeV → Bool)
    (hcf : ∀ args w, (callFunc cf args).run Tryz.prog w = .ok (.enter cf args) w)
    (hp : ∀ W y, Fr No w W → Calls Tryz.prog cf (#[.agg #[.int .i64 y.by_, .slice y.v.l.a y.v.l.n y.v.l.c, .slice y.v.p.a y.v.p.n y.v.p.c, .bool y.gone]] ++ clb) W fun e W' => e = .returned (.bool (p y)) ∧ Fr No W W') :
    Calls Tryz.prog 115 #[.slice a L.length cap, .func (.func cf) #[] clb] w fun e w' => e = .returned (.bool (L.any p)) ∧ Fr No w w' := by
  have HI := hid (idxv_any w a g cap L ha hs hc cf clb p hcf hp)
  have HA : Hid (∀ i : Int, ((i = -1 ∧ ∀ y ∈ L, p y = false) ∨ ∃ j : Nat, i = j ∧ j < L.length ∧ (∃ y, L[j]? = some y ∧ p y = true) ∧ ∀ k y, k < j → L[k]? = some y → p y = false) → decide (0 ≤ i) = L.any p) := hid (fun i hi => by
    rcases hi with ⟨rfl, h⟩ | ⟨j, rfl, -, ⟨y, hy, hpy⟩, -⟩
    · rw [List.any_eq_false.2 (fun y hy => by simp [h y hy])]
      rfl
    · rw [List.any_eq_true.2 ⟨y, List.mem_of_getElem? hy, hpy⟩]
      exact decide_eq_true (by omega))
  generalize L.any p = b at *
  clear ha hs hc hcf hp
  go_enter Tryz.func115, Tryz.ntmps115
  go_wp2_with (go_at_call 135; refine HI.out.mono ?_; rintro e w1 ⟨i, rfl, f1, h1⟩; have F1 := hid (⟨f1, h1⟩ : _ ∧ _); clear f1 h1)
  go_ret
  have e1 := HA.out i F1.out.2
  exact ⟨by rw [← e1]; rfl, F1.out.1⟩
/-- did t write one? -/
def wroteL (t : Int) (L : List (Ver NodeV)) : Bool := L.any (fun y => y.by_ == t)
set_option maxHeartbeats 1000000 in
theorem wrote_any (w : World) (T : Nat → Prop) (x : Nat) (L : List (Ver NodeV)) (h : CellAt w T x L) (t : Int) :
    Calls Tryz.prog 60 #[.pointer (some ⟨x, 0, none⟩), .int .i64 t] w fun e w' => e = .returned (.bool (wroteL t L)) ∧ Fr No w w' := by
  obtain ⟨g, hrow, -⟩ := h.row
  obtain ⟨a, cap, g1, g2, g3, -⟩ := hrow.ex
  have hf : Fr No w (w.alloc (.cells #[.int .i64 t] 3)) := (Fr.refl No w).alloc _
  have hb := heap1 w (.cells #[.int .i64 t] 3)
  have x1 := cells1 (hf.keep g1 (fun e => e))
  have HA := hid (fun (W : World) (hW : Fr No (w.alloc (.cells #[.int .i64 t] 3)) W) => anyv_any W a g cap L g3 h.small (fun U hU j y hy => (hrow.frame ((hf.thenNo hW).thenNo hU)).cell hy) 116 #[.pointer (some ⟨w.heap.size, 0, none⟩)] (fun y => y.by_ == t) enter_wrote1 (fun U y hU => wrote1_any U y t w.heap.size (cells1 ((hW.thenNo hU).keep hb (fun e => e)))))
  have HL : Hid (wroteL t L = L.any (fun y => y.by_ == t)) := hid rfl
  rw [HL.out]
  generalize L.any (fun y => y.by_ == t) = r at *
  generalize L.length = n at *
  have HF := hid hf
  clear HL h hrow g1 g2 g3 hf hb
  go_enter Tryz.func60, Tryz.ntmps60
  go_wp2_with (go_at_call 115; refine (HA.out _ (Fr.refl _ _)).mono ?_; rintro e w2 ⟨rfl, f2⟩; have F2 := hid (HF.out.thenNo f2); clear f2)
  go_ret
  exact ⟨rfl, F2.out⟩
end Go.Proofs.YtfaapjcgmjjheaaGreatDoor

namespace Go.Proofs.YtfaapjcgmjjheaaGreatDoor.Ec
open Go.RowKit Go.Lig

theorem wrote1_any (w : World) (y : Ver EdgeV) (t : Int) (b : Nat) (hb : w.cell? ⟨b, 0, none⟩ = some (.int .i64 t)) :
    Calls Tryz.prog 118 #[.agg #[.int .i64 y.by_, .int .i64 y.v.from_, .int .i64 y.v.to_, .string y.v.type, .float .f64 y.v.w, .bool y.gone], .pointer (some ⟨b, 0, none⟩)] w fun e w' => e = .returned (.bool (y.by_ == t)) ∧ Fr No w w' := by
  have hlt : b < w.heap.size := World.block_lt_of_cell? w _ hb
  go_enter Tryz.func118, Tryz.ntmps118
  go_wp2
  go_ret
  exact ⟨rfl, (Fr.refl No w).alloc _⟩
theorem enter_wrote1 : ∀ args w, (callFunc 118 args).run Tryz.prog w = .ok (.enter 118 args) w := enters_of Tryz.func118 (by kernel_rfl) rfl
theorem anyv_any (w : World) (a : Option Addr) (g cap : Nat) (L : List (Ver EdgeV)) (ha : 0 < L.length → a = some ⟨g, 0, none⟩) (hs : L.length ≤ 1000000) (hc : ∀ W, Fr No w W → ∀ j y, L[j]? = some y → NcAt W g j y) (cf : Nat) (clb : Array Value) (p : Ver EdgeV → Bool)
    (hcf : ∀ args w, (callFunc cf args).run Tryz.prog w = .ok (.enter cf args) w)
    (hp : ∀ W y, Fr No w W → Calls Tryz.prog cf (#[.agg #[.int .i64 y.by_, .int .i64 y.v.from_, .int .i64 y.v.to_, .string y.v.type, .float .f64 y.v.w, .bool y.gone]] ++ clb) W fun e W' => e = .returned (.bool (p y)) ∧ Fr No W W') :
    Calls Tryz.prog 117 #[.slice a L.length cap, .func (.func cf) #[] clb] w fun e w' => e = .returned (.bool (L.any p)) ∧ Fr No w w' := by
  have HI := hid (idxv_any w a g cap L ha hs hc cf clb p hcf hp)
  have HA : Hid (∀ i : Int, ((i = -1 ∧ ∀ y ∈ L, p y = false) ∨ ∃ j : Nat, i = j ∧ j < L.length ∧ (∃ y, L[j]? = some y ∧ p y = true) ∧ ∀ k y, k < j → L[k]? = some y → p y = false) → decide (0 ≤ i) = L.any p) := hid (fun i hi => by
    rcases hi with ⟨rfl, h⟩ | ⟨j, rfl, -, ⟨y, hy, hpy⟩, -⟩
    · rw [List.any_eq_false.2 (fun y hy => by simp [h y hy])]
      rfl
    · rw [List.any_eq_true.2 ⟨y, List.mem_of_getElem? hy, hpy⟩]
      exact decide_eq_true (by omega))
  generalize L.any p = b at *
  clear ha hs hc hcf hp
  go_enter Tryz.func117, Tryz.ntmps117
  go_wp2_with (go_at_call 141; refine HI.out.mono ?_; rintro e w1 ⟨i, rfl, f1, h1⟩; have F1 := hid (⟨f1, h1⟩ : _ ∧ _); clear f1 h1)
  go_ret
  have e1 := HA.out i F1.out.2
  exact ⟨by rw [← e1]; rfl, F1.out.1⟩
/-- did t write one? -/
def wroteL (t : Int) (L : List (Ver EdgeV)) : Bool := L.any (fun y => y.by_ == t)
set_option maxHeartbeats 1000000 in
theorem wrote_any (w : World) (T : Nat → Prop) (x : Nat) (L : List (Ver EdgeV)) (h : CellAt w T x L) (t : Int) :
    Calls Tryz.prog 65 #[.pointer (some ⟨x, 0, none⟩), .int .i64 t] w fun e w' => e = .returned (.bool (wroteL t L)) ∧ Fr No w w' := by
  obtain ⟨g, hrow, -⟩ := h.row
  obtain ⟨a, cap, g1, g2, g3, -⟩ := hrow.ex
  have hf : Fr No w (w.alloc (.cells #[.int .i64 t] 3)) := (Fr.refl No w).alloc _
  have hb := heap1 w (.cells #[.int .i64 t] 3)
  have x1 := cells1 (hf.keep g1 (fun e => e))
  have HA := hid (fun (W : World) (hW : Fr No (w.alloc (.cells #[.int .i64 t] 3)) W) => anyv_any W a g cap L g3 h.small (fun U hU j y hy => (hrow.frame ((hf.thenNo hW).thenNo hU)).cell hy) 118 #[.pointer (some ⟨w.heap.size, 0, none⟩)] (fun y => y.by_ == t) enter_wrote1 (fun U y hU => wrote1_any U y t w.heap.size (cells1 ((hW.thenNo hU).keep hb (fun e => e)))))
  have HL : Hid (wroteL t L = L.any (fun y => y.by_ == t)) := hid rfl
  rw [HL.out]
  generalize L.any (fun y => y.by_ == t) = r at *
  generalize L.length = n at *
  have HF := hid hf
  clear HL h hrow g1 g2 g3 hf hb
  go_enter Tryz.func65, Tryz.ntmps65
  go_wp2_with (go_at_call 117; refine (HA.out _ (Fr.refl _ _)).mono ?_; rintro e w2 ⟨rfl, f2⟩; have F2 := hid (HF.out.thenNo f2); clear f2)
  go_ret
  exact ⟨rfl, F2.out⟩
end Go.Proofs.YtfaapjcgmjjheaaGreatDoor.Ec

namespace Go.Proofs.YtfaapjcgmjjheaaGreatDoor
open Go.RowKit Go.Lig

theorem WrsO.cat {w0 wa wb w3 : World} {va vb v' : Value} {la lb : List WrD} {Ha Hb : List WrV} {Ja Jb : Nat → Prop} (ha : WrsO w0 wa va la) (hha : WrsH w0 wa va la Ha Ja) (hb : WrsO wa wb vb lb) (hhb : WrsH wa wb vb lb Hb Jb) (o : w3.ownsRow 0 54 9 v' (la.length + lb.length) (Ha.flatMap wrcell ++ Hb.flatMap wrcell)) (f : Fr (fun k => va.ownBlock = some k) wb w3)
    (bk : ∀ k, v'.ownBlock = some k → va.ownBlock = some k ∨ wb.heap.size ≤ k) : WrsO w0 w3 v' (la ++ lb) := by
  have hz := hb.fr.size
  have hz3 := f.size
  have hva : ∀ k, va.ownBlock = some k → k < wa.heap.size := fun k hk => (hha.row.lt k hk).2
  refine ⟨⟨Ha ++ Hb, fun k => Ja k ∨ Jb k, ⟨by simp [hha.len, hhb.len], ?_, ?_, ?_⟩⟩, ?_, ?_⟩
  · rw [List.length_append, List.flatMap_append]
    exact o
  · intro j x y e1 e2
    rcases Nat.lt_or_ge j Ha.length with hj | hj
    · rw [List.getElem?_append_left hj] at e1
      rw [List.getElem?_append_left (by rw [← hha.len]; exact hj)] at e2
      exact (((hha.ins j x y e1 e2).frame hb.fr (fun _ _ e => e)).frame f (fun k hk e => (hha.jb k hk).2.2 e)).mono (fun _ e => .inl e)
    · rw [List.getElem?_append_right hj] at e1
      rw [List.getElem?_append_right (by rw [← hha.len]; exact hj), ← hha.len] at e2
      exact ((hhb.ins _ x y e1 e2).frame f (fun k hk e => by have := hva k e; have := (hhb.jb k hk).1; omega)).mono (fun _ e => .inr e)
  · intro k hk
    rcases hk with hk | hk
    · have h1 := hha.jb k hk
      exact ⟨h1.1, by omega, fun e => by
        rcases bk k e with e1 | e1
        · exact h1.2.2 e1
        · omega⟩
    · have h1 := hhb.jb k hk
      exact ⟨by have := ha.fr.size; omega, by omega, fun e => by
        rcases bk k e with e1 | e1
        · have := hva k e1; omega
        · omega⟩
  · intro k hk
    rcases bk k hk with e | e
    · exact ha.blk k e
    · have := ha.fr.size; omega
  · exact (ha.fr.thenNo hb.fr).trans f (fun k hk e => by have := ha.blk k e; omega)
theorem pend1_any (w : World) (x b : Nat) (t : Int) (r : Bool) (hb : w.cell? ⟨b, 0, none⟩ = some (.int .i64 t)) (hw : Calls Tryz.prog 60 #[.pointer (some ⟨x, 0, none⟩), .int .i64 t] w fun e w' => e = .returned (.bool r) ∧ Fr No w w') :
    Calls Tryz.prog 59 #[.pointer (some ⟨x, 0, none⟩), .pointer (some ⟨b, 0, none⟩)] w fun e w' => e = .returned (.bool r) ∧ Fr No w w' := by
  have HW := hid hw
  clear hw
  go_enter Tryz.func59, Tryz.ntmps59
  go_wp2_with (go_at_call 60; refine HW.out.mono ?_; rintro e w1 ⟨rfl, f1⟩; have F1 := hid f1; clear f1)
  go_ret
  exact ⟨rfl, F1.out⟩
theorem enter_pend1_any : ∀ args w, (callFunc 59 args).run Tryz.prog w = .ok (.enter 59 args) w := enters_of Tryz.func59 (by kernel_rfl) rfl
theorem pend3_any (w : World) (x b : Nat) (t : Int) (r : Bool) (hb : w.cell? ⟨b, 0, none⟩ = some (.int .i64 t)) (hw : Calls Tryz.prog 65 #[.pointer (some ⟨x, 0, none⟩), .int .i64 t] w fun e w' => e = .returned (.bool r) ∧ Fr No w w') :
    Calls Tryz.prog 64 #[.pointer (some ⟨x, 0, none⟩), .pointer (some ⟨b, 0, none⟩)] w fun e w' => e = .returned (.bool r) ∧ Fr No w w' := by
  have HW := hid hw
  clear hw
  go_enter Tryz.func64, Tryz.ntmps64
  go_wp2_with (go_at_call 65; refine HW.out.mono ?_; rintro e w1 ⟨rfl, f1⟩; have F1 := hid f1; clear f1)
  go_ret
  exact ⟨rfl, F1.out⟩
theorem enter_pend3_any : ∀ args w, (callFunc 64 args).run Tryz.prog w = .ok (.enter 64 args) w := enters_of Tryz.func64 (by kernel_rfl) rfl
set_option maxRecDepth 100000 in
set_option maxHeartbeats 1000000 in
theorem pend2_any (w : World) (x s c b2 b3 : Nat) (t : Int) (la : Option Addr) (ln lc : Nat) (pa : Option Addr) (pn pc : Nat) (rb : Bool) (h2 : w.cell? ⟨b2, 0, none⟩ = some (.pointer (some ⟨s, 0, none⟩))) (h3 : w.cell? ⟨b3, 0, none⟩ = some (.int .i64 t)) (hc : w.cell? ⟨s, 0, none⟩ = some (.pointer (some ⟨c, 0, none⟩)))
    (hr : ∀ u, Fr No w u → Calls Tryz.prog 42 #[.pointer (some ⟨x, 0, none⟩), .pointer (some ⟨c, 0, none⟩), .int .i64 t] u fun e w' => e = .returned (.tuple #[.agg #[.slice la ln lc, .slice pa pn pc], .bool rb]) ∧ Fr No u w') :
    Calls Tryz.prog 61 #[.pointer (some ⟨x, 0, none⟩), .pointer (some ⟨b2, 0, none⟩), .pointer (some ⟨b3, 0, none⟩)] w fun e w' => e = .returned (.tuple #[.agg #[.slice la ln lc, .slice pa pn pc], .bool rb]) ∧ Fr No w w' := by
  have hb := heap1 w (.cells #[.slice none 0 0, .slice none 0 0] 32)
  have hf : Fr No w (w.alloc (.cells #[.slice none 0 0, .slice none 0 0] 32)) := (Fr.refl No w).alloc _
  have HSC : Hid (∀ j ∈ [s, b2, b3], j < w.heap.size) := hid (fun j hj => by
    rcases List.mem_cons.1 hj with rfl | hj
    · exact World.block_lt_of_cell? _ _ hc
    rcases List.mem_cons.1 hj with rfl | hj
    · exact World.block_lt_of_cell? _ _ h2
    rw [List.mem_singleton.1 hj]
    exact World.block_lt_of_cell? _ _ h3)
  have HR := hid hr
  have HC := hid (⟨hc, h2, h3⟩ : _ ∧ _ ∧ _)
  have e0 : ∀ b k, b < w.heap.size → (w.alloc (.cells #[.slice none 0 0, .slice none 0 0] 32)).cell? ⟨b, k, none⟩ = w.cell? ⟨b, k, none⟩ := fun b k hb => World.cell?_of_block (w := w) (hold hb)
  have c0 := (e0 s 0 (HSC.out s (by simp))).trans hc
  have c2 := (e0 b2 0 (HSC.out b2 (by simp))).trans h2
  have c3 := (e0 b3 0 (HSC.out b3 (by simp))).trans h3
  clear h2 h3 hc hr e0
  go_enter Tryz.func61, Tryz.ntmps61
  go_wp2_with fail
  generalize w.alloc (.cells #[.slice none 0 0, .slice none 0 0] 32) = w1 at *
  have HF := hid (⟨hf, hb⟩ : _ ∧ _)
  clear hf hb
  have hsc : ∀ j ∈ [s, b2, b3], j < w1.drew.heap.size ∧ ¬ No j := fun j hj => ⟨Nat.lt_of_lt_of_le (HSC.out j hj) HF.out.1.size, fun e => e⟩
  refine wp_region_sched (by kernel_rfl) 11 [6, 9] [0, 1, 2, 3, 4, 5, 6, 7, 8, 9, 10] (AgC [s, b2, b3] w1.drew) (by kernel_rfl) (AgC.refl _ _) ?_
  simp only [List.map_cons, List.map_nil, List.contains_cons, List.contains_nil, nth_zero, nth_succ, Nat.reduceBEq, Bool.false_or, Bool.or_false, Bool.or_true, Bool.true_or]
  repeat (refine sched_quiet (fun K hK => ?_); go_simp; refine hK _ ?_; clear hK K)
  refine sched_call (by first | rfl | go_simp) 42 #[.pointer (some ⟨x, 0, none⟩), .pointer (some ⟨c, 0, none⟩), .int .i64 t] (by first | kernel_rfl | go_simp) (HR.out _ HF.out.1.drew) ?_
  rintro e w2 ⟨rfl, f2⟩
  have a2 := (AgC.refl _ w1.drew).fr f2 hsc
  have F2 := hid (⟨HF.out.1.drew.thenNo f2, f2.keep (w := w1.drew) HF.out.2 (fun e => e)⟩ : _ ∧ _)
  refine ⟨_, rfl, a2, ?_⟩
  clear f2
  repeat (refine sched_quiet (fun K hK => ?_); go_simp; refine hK _ ?_; clear hK K)
  refine sched_loud (wpList_storeO rfl 32 (.tmp 4) (.tmp 13) rfl w.heap.size 0 rfl [.slice none 0 0, .slice none 0 0] 32 [.slice la ln lc, .slice pa pn pc] rfl (by kernel_rfl) F2.out.2 (by simp) (by simp [Value.oneCell']) ?_)
  intro w3 p3
  have P3 := hid (show Put w.heap.size #[.slice la ln lc, .slice pa pn pc] 32 w2 w3 from p3)
  refine sched_on (a2.fr p3.fr (fun j hj => ⟨(hsc j hj).1, fun e => by have := HSC.out j hj; omega⟩)) ?_
  clear p3 a2 hsc
  repeat (refine sched_quiet (fun K hK => ?_); go_simp; refine hK _ ?_; clear hK K)
  refine sched_nil ?_
  obtain ⟨r0, r1⟩ := cells2 P3.out.at_
  go_wp2_with fail
  refine bodyPost_ret (v := .tuple #[.agg #[.slice la ln lc, .slice pa pn pc], .bool rb]) ?_ rfl ⟨rfl, F2.out.1.fresh' P3.out.fr (fun k e => by omega)⟩
  simp [results, Tryz.f61, go_sem, r0, r1]
theorem enter_pend2_any : ∀ args w, (callFunc 61 args).run Tryz.prog w = .ok (.enter 61 args) w := enters_of Tryz.func61 (by kernel_rfl) rfl
set_option maxRecDepth 100000 in
set_option maxHeartbeats 1000000 in
theorem pend4_any (w : World) (x s c b2 b3 : Nat) (t : Int) (ef et : Int) (ey : ByteArray) (ew : Nat) (rb : Bool) (h2 : w.cell? ⟨b2, 0, none⟩ = some (.pointer (some ⟨s, 0, none⟩))) (h3 : w.cell? ⟨b3, 0, none⟩ = some (.int .i64 t)) (hc : w.cell? ⟨s, 0, none⟩ = some (.pointer (some ⟨c, 0, none⟩)))
    (hr : ∀ u, Fr No w u → Calls Tryz.prog 37 #[.pointer (some ⟨x, 0, none⟩), .pointer (some ⟨c, 0, none⟩), .int .i64 t] u fun e w' => e = .returned (.tuple #[.agg #[.int .i64 ef, .int .i64 et, .string ey, .float .f64 ew], .bool rb]) ∧ Fr No u w') :
    Calls Tryz.prog 66 #[.pointer (some ⟨x, 0, none⟩), .pointer (some ⟨b2, 0, none⟩), .pointer (some ⟨b3, 0, none⟩)] w fun e w' => e = .returned (.tuple #[.agg #[.int .i64 ef, .int .i64 et, .string ey, .float .f64 ew], .bool rb]) ∧ Fr No w w' := by
  have hb := heap1 w (.cells #[.int .i64 0, .int .i64 0, .string ⟨#[]⟩, .float .f64 0] 43)
  have hf : Fr No w (w.alloc (.cells #[.int .i64 0, .int .i64 0, .string ⟨#[]⟩, .float .f64 0] 43)) := (Fr.refl No w).alloc _
  have HSC : Hid (∀ j ∈ [s, b2, b3], j < w.heap.size) := hid (fun j hj => by
    rcases List.mem_cons.1 hj with rfl | hj
    · exact World.block_lt_of_cell? _ _ hc
    rcases List.mem_cons.1 hj with rfl | hj
    · exact World.block_lt_of_cell? _ _ h2
    rw [List.mem_singleton.1 hj]
    exact World.block_lt_of_cell? _ _ h3)
  have HR := hid hr
  have HC := hid (⟨hc, h2, h3⟩ : _ ∧ _ ∧ _)
  have e0 : ∀ b k, b < w.heap.size → (w.alloc (.cells #[.int .i64 0, .int .i64 0, .string ⟨#[]⟩, .float .f64 0] 43)).cell? ⟨b, k, none⟩ = w.cell? ⟨b, k, none⟩ := fun b k hb => World.cell?_of_block (w := w) (hold hb)
  have c0 := (e0 s 0 (HSC.out s (by simp))).trans hc
  have c2 := (e0 b2 0 (HSC.out b2 (by simp))).trans h2
  have c3 := (e0 b3 0 (HSC.out b3 (by simp))).trans h3
  clear h2 h3 hc hr e0
  go_enter Tryz.func66, Tryz.ntmps66
  go_wp2_with fail
  generalize w.alloc (.cells #[.int .i64 0, .int .i64 0, .string ⟨#[]⟩, .float .f64 0] 43) = w1 at *
  have HF := hid (⟨hf, hb⟩ : _ ∧ _)
  clear hf hb
  have hsc : ∀ j ∈ [s, b2, b3], j < w1.drew.heap.size ∧ ¬ No j := fun j hj => ⟨Nat.lt_of_lt_of_le (HSC.out j hj) HF.out.1.size, fun e => e⟩
  refine wp_region_sched (by kernel_rfl) 11 [6, 9] [0, 1, 2, 3, 4, 5, 6, 7, 8, 9, 10] (AgC [s, b2, b3] w1.drew) (by kernel_rfl) (AgC.refl _ _) ?_
  simp only [List.map_cons, List.map_nil, List.contains_cons, List.contains_nil, nth_zero, nth_succ, Nat.reduceBEq, Bool.false_or, Bool.or_false, Bool.or_true, Bool.true_or]
  repeat (refine sched_quiet (fun K hK => ?_); go_simp; refine hK _ ?_; clear hK K)
  refine sched_call (by first | rfl | go_simp) 37 #[.pointer (some ⟨x, 0, none⟩), .pointer (some ⟨c, 0, none⟩), .int .i64 t] (by first | kernel_rfl | go_simp) (HR.out _ HF.out.1.drew) ?_
  rintro e w2 ⟨rfl, f2⟩
  have a2 := (AgC.refl _ w1.drew).fr f2 hsc
  have F2 := hid (⟨HF.out.1.drew.thenNo f2, f2.keep (w := w1.drew) HF.out.2 (fun e => e)⟩ : _ ∧ _)
  refine ⟨_, rfl, a2, ?_⟩
  clear f2
  repeat (refine sched_quiet (fun K hK => ?_); go_simp; refine hK _ ?_; clear hK K)
  refine sched_loud (wpList_storeO rfl 43 (.tmp 4) (.tmp 13) rfl w.heap.size 0 rfl [.int .i64 0, .int .i64 0, .string ⟨#[]⟩, .float .f64 0] 43 [.int .i64 ef, .int .i64 et, .string ey, .float .f64 ew] rfl (by kernel_rfl) F2.out.2 (by simp) (by simp [Value.oneCell']) ?_)
  intro w3 p3
  have P3 := hid (show Put w.heap.size #[.int .i64 ef, .int .i64 et, .string ey, .float .f64 ew] 43 w2 w3 from p3)
  refine sched_on (a2.fr p3.fr (fun j hj => ⟨(hsc j hj).1, fun e => by have := HSC.out j hj; omega⟩)) ?_
  clear p3 a2 hsc
  repeat (refine sched_quiet (fun K hK => ?_); go_simp; refine hK _ ?_; clear hK K)
  refine sched_nil ?_
  obtain ⟨r0, r1, r2, r3⟩ := cells4 P3.out.at_
  go_wp2_with fail
  refine bodyPost_ret (v := .tuple #[.agg #[.int .i64 ef, .int .i64 et, .string ey, .float .f64 ew], .bool rb]) ?_ rfl ⟨rfl, F2.out.1.fresh' P3.out.fr (fun k e => by omega)⟩
  simp [results, Tryz.f66, go_sem, r0, r1, r2, r3]
theorem enter_pend4_any : ∀ args w, (callFunc 66 args).run Tryz.prog w = .ok (.enter 66 args) w := enters_of Tryz.func66 (by kernel_rfl) rfl
end Go.Proofs.YtfaapjcgmjjheaaGreatDoor
