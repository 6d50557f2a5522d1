/- slices.Backward over versions: its iterator's contract. -/
import Derived.RangeFuncNested
import Derived.RangeFuncBound
import Derived.RangeFuncCalls
import Derived.RangeFuncLeaves
import Derived.Shelf.Abstract
import Derived.Shelf.RegionOpen
import Derived.OwnWalkIn
import Derived.TacticsInMore
import Derived.LoopNIn
import Derived.LoopIn
import Derived.Test.YtofjbigojbnmfaaGreatDoorCellM
namespace Go.Proofs.YtofjbigojbnmfaaGreatDoor
open Go.RowKit Go.Lig Go.Shelf

attribute [local go_sem] Oper.semAt_some
/-- what has come when k rounds are over -/
def upto {α : Type} (f : Nat → α) (k : Nat) : List α := (List.range k).map f
theorem upto_succ {α : Type} (f : Nat → α) (k : Nat) : upto f (k + 1) = upto f k ++ [f k] := by simp [upto, List.range_succ]
theorem upto_length {α : Type} (f : Nat → α) (k : Nat) : (upto f k).length = k := by simp [upto]
def bwf (L : List (Ver NodeV)) (j : Nat) : Nat × Ver NodeV := (L.length - 1 - j, L[L.length - 1 - j]?.getD default)
def encN (x : Nat × Ver NodeV) : Array Value := #[.int .i64 x.1, .agg #[.int .i64 x.2.by_, .slice x.2.v.l.a x.2.v.l.n x.2.v.l.c, .slice x.2.v.p.a x.2.v.p.n x.2.v.p.c, .bool x.2.gone]]
set_option maxRecDepth 100000 in
set_option maxHeartbeats 2000000 in
theorem bw1_in (F : Fence) (n : Nat) (h7 : F.fn 198) (hro : F.round = none) (hn : 1 ≤ n) (l Bs n₀ g cap : Nat) (a : Option Addr) (L : List (Ver NodeV)) (hs : L.length ≤ 1000000) (ha : 0 < L.length → a = some ⟨g, 0, none⟩) (hb : g < n₀) (J Jx : List (Nat × Ver NodeV) → World → Prop)
    (hY : ∀ pre x W, J pre W → pre.length < L.length → YieldAt F (n - 1) Tryz.prog l (encN x) W fun e W' =>
      (e = .returned (.bool true) ∧ J (pre ++ [x]) W' ∧ Below n₀ W W') ∨ (e = .returned (.bool false) ∧ Jx (pre ++ [x]) W'))
    (W : World) (hBl : Bs < n₀) (hBs : W.cell? ⟨Bs, 0, none⟩ = some (.slice a L.length cap)) (hc : ∀ j y, L[j]? = some y → NcAt W g j y) (h0 : J [] W) :
    CallsIn F n Tryz.prog 198 #[.func (.yield l) #[] #[], .pointer (some ⟨Bs, 0, none⟩)] W fun e W' => (∃ v, e = .returned v) ∧
      ((∃ ys, ys = upto (bwf L) L.length ∧ J ys W') ∨ (∃ pre, (∃ k, k ≤ L.length ∧ pre = upto (bwf L) k) ∧ Jx pre W')) := by
  refine callsIn_of_wp Tryz.func198 rfl h7 ?_ hro
  simp only [Tryz.ntmps198, List.size_toArray, List.length_cons, List.length_nil, Nat.reduceAdd, Nat.reduceSub, Array.replicate_succ, Array.replicate_zero, List.push_toArray, List.append_toArray, List.nil_append, List.cons_append]
  gi_wp2
  gi_loopw [3] (fun i wr => ∃ m : Nat, m ≤ L.length ∧ i = .int .i64 ((m : Int) - 1) ∧ J (upto (bwf L) (L.length - m)) wr ∧ Below n₀ W wr)
    (fun i _ => (intOf i + 1).toNat)
  case atStart => exact ⟨L.length, Nat.le_refl _, by go_num, by rw [Nat.sub_self]; exact h0, Below.refl _ _⟩
  case round =>
    obtain ⟨m, hm, rfl, hJs, hnx⟩ := hrel
    have hBw := (hnx.cell (p := ⟨Bs, 0, none⟩) hBl).trans hBs
    cases m with
    | zero =>
      gi_wp2
      go_end0
      exact ⟨⟨_, rfl⟩, .inl ⟨_, rfl, by simpa using hJs⟩⟩
    | succ m =>
      rw [show (((m + 1 : Nat) : Int) - 1) = (m : Int) by omega]
      have hlt : m < L.length := by omega
      obtain rfl := ha (by omega)
      obtain ⟨y, hy⟩ : ∃ y, L[m]? = some y := ⟨_, List.getElem?_eq_getElem hlt⟩
      have hf : bwf L (L.length - (m + 1)) = (m, y) := by
        unfold bwf
        rw [show L.length - 1 - (L.length - (m + 1)) = m by omega, hy]
        rfl
      obtain ⟨k0, k1, k2, k3⟩ := hc m y hy
      have y0 := (hnx.cell (p := ⟨g, m * 4, none⟩) hb).trans k0
      have y1 := (hnx.cell (p := ⟨g, m * 4 + 1, none⟩) hb).trans k1
      have y2 := (hnx.cell (p := ⟨g, m * 4 + 2, none⟩) hb).trans k2
      have y3 := (hnx.cell (p := ⟨g, m * 4 + 3, none⟩) hb).trans k3
      obtain ⟨fn, tmps, assign, body, hyy, hR⟩ := hY _ (m, y) wr hJs (by rw [upto_length]; omega)
      dsimp only [encN] at hyy
      have HJ := hid (⟨hJs, hnx, hf⟩ : _ ∧ _ ∧ _)
      clear hJs hnx hf k0 k1 k2 k3 hc hy
      have HM : Hid (m < L.length ∧ L.length ≤ 1000000) := hid ⟨hlt, hs⟩
      gi_wp2
      refine hR.mono ?_
      rintro e W3 (⟨rfl, hJ3, hk3⟩ | ⟨rfl, hJx3⟩)
      · gi_wp2
        go_roundw
        case rel =>
          refine ⟨m, by omega, by go_num, ?_, HJ.out.2.1.trans hk3⟩
          rw [show L.length - m = (L.length - (m + 1)) + 1 by omega, upto_succ, HJ.out.2.2]
          exact hJ3
        case measure => simp [intOf]; try omega
      · gi_wp2
        refine bodyPost_ret (results_none rfl _ _ _) rfl ?_
        refine ⟨⟨_, rfl⟩, .inr ⟨_, ⟨L.length - (m + 1) + 1, by omega, ?_⟩, hJx3⟩⟩
        rw [upto_succ, HJ.out.2.2]
end Go.Proofs.YtofjbigojbnmfaaGreatDoor
