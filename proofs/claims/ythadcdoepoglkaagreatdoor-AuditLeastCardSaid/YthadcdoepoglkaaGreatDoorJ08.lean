/- A part of the proof: contracts of functions of the program, for the row's text. -/
import Derived.Test.YthadcdoepoglkaaGreatDoorJ07
namespace Go.Proofs.YthadcdoepoglkaaGreatDoor
open Go.RowKit Go.Lig Go.ChangeShapes Go.WideShapes Go.ChangeAt Go.Deep
section
variable {H : Type} {enc : TypeId × Value → H} {W : World}
set_option maxRecDepth 100000 in
theorem u_node {n : Nat} {v0 v1 : Value} {y : DataW H × List MemPlace} (h : DataW.trod enc Tryz.prog W 0 (fun _ => true) true n 34 [v0, v1] = some y) (hr : RchD Tryz.prog 34 y.1) :
  ∃ (x : NodeV) (d : NodeD), v0 = .slice x.l.a x.l.n x.l.c ∧ v1 = .slice x.p.a x.p.n x.p.c ∧ NodeOf W v0 v1 d ∧ NodeLow d := by
 obtain ⟨xs, k, hk, hxy, _, hxl, hf⟩ := DataW.trod_struct Tryz.underlying34 h
 have c1 : Tryz.prog.cellsOf 31 = 1 := by kernel_rfl
 have c2 : Tryz.prog.cellsOf 32 = 1 := by kernel_rfl
 match xs, hxl with
 | [y0, y1], _ =>
  subst hxy
  have g0 := hf 0 _ rfl
  have g1 := hf 1 _ rfl
  simp [c1, c2] at g0 g1
  obtain ⟨L, l1, l2, l3⟩ := u_strings g0 (hr.part Tryz.underlying34 (i := 0) (d := y0.1) rfl rfl)
  obtain ⟨Q, q1, q2, q3⟩ := u_props g1 (hr.part Tryz.underlying34 (i := 1) (d := y1.1) rfl rfl)
  obtain ⟨ao, c, rfl, -⟩ := rd_len l1
  obtain ⟨po, pc, rfl, -⟩ := rd_len q1
  exact ⟨⟨⟨ao, L.length, c⟩, ⟨po, Q.length, pc⟩⟩, ⟨L, Q⟩, rfl, rfl, ⟨l1, q1, fun q hq => (q2 q hq).1, fun s hs => Nat.le_trans (l2 s hs) (by decide)⟩, ⟨l3, q3, l2, fun q hq => (q2 q hq).2⟩⟩
set_option maxRecDepth 100000 in
theorem u_edge {n : Nat} {v0 v1 v2 v3 : Value} {y : DataW H × List MemPlace} (h : DataW.trod enc Tryz.prog W 0 (fun _ => true) true n 48 [v0, v1, v2, v3] = some y) (hr : RchD Tryz.prog 48 y.1) :
  ∃ d : EdgeV, v0 = .int .i64 d.from_ ∧ v1 = .int .i64 d.to_ ∧ v2 = .string d.type ∧ v3 = .float .f64 d.w ∧ EdgeLow d := by
 obtain ⟨xs, k, hk, hxy, _, hxl, hf⟩ := DataW.trod_struct Tryz.underlying48 h
 have c1 : Tryz.prog.cellsOf 3 = 1 := by kernel_rfl
 have c3 : Tryz.prog.cellsOf 46 = 1 := by kernel_rfl
 have c4 : Tryz.prog.cellsOf 9 = 1 := by kernel_rfl
 match xs, hxl with
 | [y0, y1, y2, y3], _ =>
  subst hxy
  have g0 := hf 0 _ rfl
  have g1 := hf 1 _ rfl
  have g2 := hf 2 _ rfl
  have g3 := hf 3 _ rfl
  simp [c1, c3, c4] at g0 g1 g2 g3
  have r2 := hr.part Tryz.underlying48 (i := 2) (d := y2.1) rfl rfl
  obtain ⟨m0, e0, -, w0⟩ := DataW.trod_int Tryz.underlying3 g0
  obtain ⟨m1, e1, -, w1⟩ := DataW.trod_int Tryz.underlying3 g1
  obtain ⟨s2, e2, x2, -⟩ := DataW.trod_string Tryz.underlying9 g2
  obtain ⟨m3, e3, w3⟩ := trodf Tryz.underlying46 g3
  subst x2
  exact ⟨⟨m0, m1, s2, m3⟩, by simpa using e0, by simpa using e1, by simpa using e2, by simpa using e3, ⟨w0, w1, r2.string, w3⟩⟩
end
end Go.Proofs.YthadcdoepoglkaaGreatDoor
namespace Go.Proofs.YthadcdoepoglkaaGreatDoor.Ec
open Go.RowKit Go.Lig Go.Shelf
attribute [local go_sem] Oper.semAt_some
def bwf (L : List (Ver EdgeV)) (j : Nat) : Nat × Ver EdgeV := (L.length - 1 - j, L[L.length - 1 - j]?.getD default)
def encN (x : Nat × Ver EdgeV) : Array Value := #[.int .i64 x.1, .agg #[.int .i64 x.2.by_, .int .i64 x.2.v.from_, .int .i64 x.2.v.to_, .string x.2.v.type, .float .f64 x.2.v.w, .bool x.2.gone]]
set_option maxRecDepth 100000 in
set_option maxHeartbeats 2000000 in
theorem bw1_in (F : Fence) (n : Nat) (h7 : F.fn 225) (hro : F.round = none) (hn : 1 ≤ n) (l Bs n₀ g cap : Nat) (a : Option Addr) (L : List (Ver EdgeV)) (hs : L.length ≤ 1000000) (ha : 0 < L.length → a = some ⟨g, 0, none⟩) (hb : g < n₀) (J Jx : List (Nat × Ver EdgeV) → World → Prop)
  (hY : ∀ pre x W, J pre W → pre.length < L.length → YieldAt F (n - 1) Tryz.prog l (encN x) W fun e W' =>
   (e = .returned (.bool true) ∧ J (pre ++ [x]) W' ∧ Below n₀ W W') ∨ (e = .returned (.bool false) ∧ Jx (pre ++ [x]) W'))
  (W : World) (hBl : Bs < n₀) (hBs : W.cell? ⟨Bs, 0, none⟩ = some (.slice a L.length cap)) (hc : ∀ j y, L[j]? = some y → NcAt W g j y) (h0 : J [] W) :
  CallsIn F n Tryz.prog 225 #[.func (.yield l) #[] #[], .pointer (some ⟨Bs, 0, none⟩)] W fun e W' => (∃ v, e = .returned v) ∧
   ((∃ ys, ys = upto (bwf L) L.length ∧ J ys W') ∨ (∃ pre, (∃ k, k ≤ L.length ∧ pre = upto (bwf L) k) ∧ Jx pre W')) := by
 refine callsIn_of_wp Tryz.func225 rfl h7 ?_ hro
 simp only [Tryz.ntmps225, List.size_toArray, List.length_cons, List.length_nil, Nat.reduceAdd, Nat.reduceSub, Array.replicate_succ, Array.replicate_zero, List.push_toArray, List.append_toArray, List.nil_append, List.cons_append]
 gi_wp2
 gi_loopw [3] (fun i wr => ∃ m : Nat, m ≤ L.length ∧ i = .int .i64 ((m : Int) - 1) ∧ J (upto (bwf L) (L.length - m)) wr ∧ Below n₀ W wr)
  (fun i _ => (intOf i + 1).toNat)
 case atStart => exact ⟨L.length, Nat.le_refl _, by go_num, by rw [Nat.sub_self]; exact h0, Below.refl _ _⟩
 case round =>
  obtain ⟨m, hm, rfl, hJs, hnx⟩ := hrel
  have hBw := (hnx.cell (p := ⟨Bs, 0, none⟩) hBl).trans hBs
  cases m with
  | zero =>
   gi_wp2
   go_end0
   exact ⟨⟨_, rfl⟩, .inl ⟨_, rfl, by simpa using hJs⟩⟩
  | succ m =>
   rw [show (((m + 1 : Nat) : Int) - 1) = (m : Int) by omega]
   have hlt : m < L.length := by omega
   obtain rfl := ha (by omega)
   obtain ⟨y, hy⟩ : ∃ y, L[m]? = some y := ⟨_, List.getElem?_eq_getElem hlt⟩
   have hf : bwf L (L.length - (m + 1)) = (m, y) := by
    unfold bwf
    rw [show L.length - 1 - (L.length - (m + 1)) = m by omega, hy]
    rfl
   obtain ⟨k0, k1, k2, k3, k4, k5⟩ := hc m y hy
   have y0 := (hnx.cell (p := ⟨g, m * 6, none⟩) hb).trans k0
   have y1 := (hnx.cell (p := ⟨g, m * 6 + 1, none⟩) hb).trans k1
   have y2 := (hnx.cell (p := ⟨g, m * 6 + 2, none⟩) hb).trans k2
   have y3 := (hnx.cell (p := ⟨g, m * 6 + 3, none⟩) hb).trans k3
   have y4 := (hnx.cell (p := ⟨g, m * 6 + 4, none⟩) hb).trans k4
   have y5 := (hnx.cell (p := ⟨g, m * 6 + 5, none⟩) hb).trans k5
   obtain ⟨fn, tmps, assign, body, hyy, hR⟩ := hY _ (m, y) wr hJs (by rw [upto_length]; omega)
   dsimp only [encN] at hyy
   have HJ := hid (⟨hJs, hnx, hf⟩ : _ ∧ _ ∧ _)
   clear hJs hnx hf k0 k1 k2 k3 k4 k5 hc hy
   have HM : Hid (m < L.length ∧ L.length ≤ 1000000) := hid ⟨hlt, hs⟩
   gi_wp2
   refine hR.mono ?_
   rintro e W3 (⟨rfl, hJ3, hk3⟩ | ⟨rfl, hJx3⟩)
   ·gi_wp2
    go_roundw
    case rel =>
     refine ⟨m, by omega, by go_num, ?_, HJ.out.2.1.trans hk3⟩
     rw [show L.length - m = (L.length - (m + 1)) + 1 by omega, upto_succ, HJ.out.2.2]
     exact hJ3
    case measure => simp [intOf]; try omega
   ·gi_wp2
    refine bodyPost_ret (results_none rfl _ _ _) rfl ?_
    refine ⟨⟨_, rfl⟩, .inr ⟨_, ⟨L.length - (m + 1) + 1, by omega, ?_⟩, hJx3⟩⟩
    rw [upto_succ, HJ.out.2.2]
end Go.Proofs.YthadcdoepoglkaaGreatDoor.Ec
namespace Go.Proofs.YthadcdoepoglkaaGreatDoor.Ec
open Go.RowKit Go.Lig Go.Shelf
attribute [local go_sem] Oper.semAt_some
theorem bw_any (w : World) (a : Option Addr) (n c : Nat) : Calls Tryz.prog 203 #[.slice a n c] w fun e w' =>
  e = .returned (.func (.func 225) #[] #[.pointer (some ⟨w.heap.size, 0, none⟩)]) ∧ w' = w.alloc (.cells #[.slice a n c] 175) := by
 go_enter Tryz.func203, Tryz.ntmps203
 go_wp2
 go_ret
 exact ⟨rfl, rfl⟩
theorem bw_stops (n : Nat) (hn : 1 ≤ n) (Bs n₀ g cap : Nat) (a : Option Addr) (L : List (Ver EdgeV)) (hs : L.length ≤ 1000000) (ha : 0 < L.length → a = some ⟨g, 0, none⟩) (hb : g < n₀) (w : World) (hBl : Bs < n₀) (hn₀ : n₀ ≤ w.heap.size)
  (hBs : w.cell? ⟨Bs, 0, none⟩ = some (.slice a L.length cap)) (hc : ∀ j y, L[j]? = some y → NcAt w g j y) :
  SeqStopsK Fence.wide n Tryz.prog 225 #[.pointer (some ⟨Bs, 0, none⟩)] encN (Below n₀) (fun ys => ys = upto (bwf L) L.length) (fun pre => ∃ k, k ≤ L.length ∧ pre = upto (bwf L) k) L.length w := fun l J Jx W hW _ _ hY h0 => by
 have hW' : Below n₀ w W := hW.mono hn₀
 have k0 := hW'.cell (p := ⟨Bs, 0, none⟩) hBl
 refine bw1_in Fence.wide n trivial rfl hn l Bs n₀ g cap a L hs ha hb J Jx hY W hBl (k0.trans hBs) (fun j y hy => ?_) h0
 obtain ⟨y0, y1, y2, y3, y4, y5⟩ := hc j y hy
 exact ⟨(hW'.cell (p := ⟨g, j * 6, none⟩) hb).trans y0, (hW'.cell (p := ⟨g, j * 6 + 1, none⟩) hb).trans y1, (hW'.cell (p := ⟨g, j * 6 + 2, none⟩) hb).trans y2, (hW'.cell (p := ⟨g, j * 6 + 3, none⟩) hb).trans y3, (hW'.cell (p := ⟨g, j * 6 + 4, none⟩) hb).trans y4, (hW'.cell (p := ⟨g, j * 6 + 5, none⟩) hb).trans y5⟩
theorem upto_bw (L : List (Ver EdgeV)) : (upto (bwf L) L.length).map (·.2) = L.reverse := by
 apply List.ext_getElem
 ·simp [upto]
 ·intro i h1 h2
  have hi : i < L.length := by simpa [upto] using h1
  simp [upto, bwf, List.getElem_reverse]
  rw [List.getElem?_eq_getElem (by omega)]
  rfl
theorem upto_take (L : List (Ver EdgeV)) (k : Nat) (hk : k ≤ L.length) : (upto (bwf L) k).map (·.2) = L.reverse.take k := by
 rw [← upto_bw L, ← List.map_take]
 unfold upto
 rw [← List.map_take, List.take_range, Nat.min_eq_left hk]
theorem end_cells (W : World) (b4 b5 : Nat) (hne : b4 ≠ b5) (u v u2 v2 q a b a2 b2 c : Value) (tN tB : TypeId) (h4 : W.heap[b4]? = some (.cells #[u, v, u2, v2] tN (0, 0))) (h5 : W.heap[b5]? = some (.cells #[q] tB (0, 0))) :
  ((
   (((W.setCell ⟨b4, 0, none⟩ a).setCell ⟨b4, 1, none⟩ b).setCell ⟨b4, 2, none⟩ a2).setCell ⟨b4, 3, none⟩ b2).setCell ⟨b5, 0, none⟩ c).heap[b4]? = some (.cells #[a, b, a2, b2] tN (0, 0)) ∧ (((((W.setCell ⟨b4, 0, none⟩ a).setCell ⟨b4, 1, none⟩ b).setCell ⟨b4, 2, none⟩ a2).setCell ⟨b4, 3, none⟩ b2).setCell ⟨b5, 0, none⟩ c).heap[b5]? = some (.cells #[c] tB (0, 0)) ∧
   Fr (fun k => k = b4 ∨ k = b5) W (((((W.setCell ⟨b4, 0, none⟩ a).setCell ⟨b4, 1, none⟩ b).setCell ⟨b4, 2, none⟩ a2).setCell ⟨b4, 3, none⟩ b2).setCell ⟨b5, 0, none⟩ c) ∧ KeepsOthers W (((((W.setCell ⟨b4, 0, none⟩ a).setCell ⟨b4, 1, none⟩ b).setCell ⟨b4, 2, none⟩ a2).setCell ⟨b4, 3, none⟩ b2).setCell ⟨b5, 0, none⟩ c) := by
 refine ⟨?_, ?_, ?_, ((((KeepsOthers.setCell _ _ _).trans (KeepsOthers.setCell _ _ _)).trans (KeepsOthers.setCell _ _ _)).trans (KeepsOthers.setCell _ _ _)).trans (KeepsOthers.setCell _ _ _)⟩
 ·rw [hset_ne (show b4 ≠ b5 from hne)]
  exact hset (hset (hset (hset h4)))
 ·have e5 : ((((W.setCell ⟨b4, 0, none⟩ a).setCell ⟨b4, 1, none⟩ b).setCell ⟨b4, 2, none⟩ a2).setCell ⟨b4, 3, none⟩ b2).heap[b5]? = some (.cells #[q] tB (0, 0)) := by
   rw [hset_ne (show b5 ≠ b4 from fun e => hne e.symm), hset_ne (show b5 ≠ b4 from fun e => hne e.symm), hset_ne (show b5 ≠ b4 from fun e => hne e.symm), hset_ne (show b5 ≠ b4 from fun e => hne e.symm)]
   exact h5
  exact hset e5
 ·exact (((((Fr.refl _ W).setCell (p := ⟨b4, 0, none⟩) a (fun _ => .inl rfl)).setCell (p := ⟨b4, 1, none⟩) b (fun _ => .inl rfl)).setCell (p := ⟨b4, 2, none⟩) a2 (fun _ => .inl rfl)).setCell (p := ⟨b4, 3, none⟩) b2 (fun _ => .inl rfl)).setCell (p := ⟨b5, 0, none⟩) c (fun _ => .inr rfl)
theorem end_row (W : World) (b4 : Nat) (u v u2 v2 a b a2 b2 : Value) (tN : TypeId) (h4 : W.heap[b4]? = some (.cells #[u, v, u2, v2] tN (0, 0))) :
  ((((W.setCell ⟨b4, 0, none⟩ a).setCell ⟨b4, 1, none⟩ b).setCell ⟨b4, 2, none⟩ a2).setCell ⟨b4, 3, none⟩ b2).heap[b4]? = some (.cells #[a, b, a2, b2] tN (0, 0)) ∧ Fr (fun k => k = b4) W ((((W.setCell ⟨b4, 0, none⟩ a).setCell ⟨b4, 1, none⟩ b).setCell ⟨b4, 2, none⟩ a2).setCell ⟨b4, 3, none⟩ b2) :=
 ⟨hset (hset (hset (hset h4))), ((((Fr.refl (fun k => k = b4) W).setCell (p := ⟨b4, 0, none⟩) a (fun _ => rfl)).setCell (p := ⟨b4, 1, none⟩) b (fun _ => rfl)).setCell (p := ⟨b4, 2, none⟩) a2 (fun _ => rfl)).setCell (p := ⟨b4, 3, none⟩) b2 (fun _ => rfl)⟩
def optN : Option EdgeV → Value
 | some v => .agg #[.int .i64 v.from_, .int .i64 v.to_, .string v.type, .float .f64 v.w]
 | none => .agg #[.int .i64 0, .int .i64 0, .string ⟨#[]⟩, .float .f64 0]
set_option maxRecDepth 100000 in
set_option maxHeartbeats 4000000 in
theorem last_any (w : World) (x g : Nat) (L : List (Ver EdgeV)) (h : CelRow w x g L) (hs : L.length ≤ 1000000) (cf : Nat) (clb : Array Value) (m : Int → Bool) (hcf : ∀ args w, (callFunc cf args).run Tryz.prog w = .ok (.enter cf args) w)
  (hm : ∀ (W : World) (b : Int), Below w.heap.size w W → Calls Tryz.prog cf (#[.int .i64 b] ++ clb) W fun e W' => e = .returned (.bool (m b)) ∧ Fr No W W') :
  Calls Tryz.prog 158 #[.pointer (some ⟨x, 0, none⟩), .func (.func cf) #[] clb] w fun e w' => e = .returned (.tuple #[optN (lastOf m L.reverse), .bool (lastOf m L.reverse).isSome]) ∧ Fr No w w' := by
 obtain ⟨a, cap, h1, h2, h3, h4⟩ := id h.ex
 have hx0 := cells1 h1
 have hxl := lt_of_block h1
 obtain ⟨g0, hg0, hgl⟩ : ∃ g0, (0 < L.length → a = some ⟨g0, 0, none⟩ ∧ g0 = g) ∧ g0 < w.heap.size := by
  by_cases hl : 0 < L.length
  ·obtain rfl := h3 hl
   obtain ⟨g', cur, e', -, hg, -⟩ := owns_at h2 hl
   have eg : g = g' := by simpa using e'
   subst eg
   exact ⟨g, fun _ => ⟨rfl, rfl⟩, lt_of_block hg⟩
  ·exact ⟨x, fun e => absurd e hl, hxl⟩
 have HC := hid (show ∀ j y, L[j]? = some y → NcAt w g0 j y from fun j y hy => by
  have := (List.getElem?_eq_some_iff.1 hy).1
  rw [(hg0 (by omega)).2]
  exact h.cell hy)
 have HG := hid (show 0 < L.length → a = some ⟨g0, 0, none⟩ from fun e => (hg0 e).1)
 have HM := hid hm
 have HCF := hid hcf
 clear hcf h h1 h2 h3 h4 hg0 hm
 have hx3 : (((w.alloc (.cells #[.func (.func cf) #[] clb] 105)).alloc (.cells #[.int .i64 0, .int .i64 0, .string ⟨#[]⟩, .float .f64 0] 48)).alloc (.cells #[.bool false] 4)).cell? ⟨x, 0, none⟩ = some (.slice a L.length cap) := (World.cell?_of_block (((((Fr.refl No w).alloc _).alloc _).alloc _).block x hxl id)).trans hx0
 refine (callsIn_wide (n := 6)).1 ?_
 refine callsIn_of_wp_marks Tryz.func158 rfl trivial ?_ rfl
 simp only [Tryz.ntmps158, List.size_toArray, List.length_cons, List.length_nil, Nat.reduceAdd, Nat.reduceSub, Array.replicate_succ, Array.replicate_zero, List.push_toArray, List.append_toArray, List.nil_append, List.cons_append]
 gi_wp2_with (refine ⟨trivial, ?_⟩; gi_at_call 203; refine (callsIn_wide.2 (bw_any _ _ _ _)).mono ?_; rintro e w' ⟨rfl, rfl⟩)
 obtain ⟨b3, b4, b5, bs⟩ := heap4 w (.cells #[.func (.func cf) #[] clb] 105) (.cells #[.int .i64 0, .int .i64 0, .string ⟨#[]⟩, .float .f64 0] 48) (.cells #[.bool false] 4) (.cells #[.slice a L.length cap] 175)
 have hF0 : Fr No w ((((w.alloc (.cells #[.func (.func cf) #[] clb] 105)).alloc (.cells #[.int .i64 0, .int .i64 0, .string ⟨#[]⟩, .float .f64 0] 48)).alloc (.cells #[.bool false] 4)).alloc (.cells #[.slice a L.length cap] 175)) := ((((Fr.refl No w).alloc _).alloc _).alloc _).alloc _
 have hsz : ((((w.alloc (.cells #[.func (.func cf) #[] clb] 105)).alloc (.cells #[.int .i64 0, .int .i64 0, .string ⟨#[]⟩, .float .f64 0] 48)).alloc (.cells #[.bool false] 4)).alloc (.cells #[.slice a L.length cap] 175)).heap.size = w.heap.size + 4 := by simp
 generalize hW0 : ((((w.alloc (.cells #[.func (.func cf) #[] clb] 105)).alloc (.cells #[.int .i64 0, .int .i64 0, .string ⟨#[]⟩, .float .f64 0] 48)).alloc (.cells #[.bool false] 4)).alloc (.cells #[.slice a L.length cap] 175)) = W0 at *
 clear hW0 hx3 hx0
 have HF0 := hid hF0
 have hNc : ∀ j y, L[j]? = some y → NcAt W0 g0 j y := fun j y hy => by
  obtain ⟨y0, y1, y2, y3, y4, y5⟩ := HC.out j y hy
  have hb := hF0.block g0 hgl id
  exact ⟨(World.cell?_of_block hb).trans y0, (World.cell?_of_block hb).trans y1, (World.cell?_of_block hb).trans y2, (World.cell?_of_block hb).trans y3, (World.cell?_of_block hb).trans y4, (World.cell?_of_block hb).trans y5⟩
 refine wpIn_rangeFunc_ownH rfl (by decide) (gf := 225) (lb := #[.pointer (some ⟨w.heap.size + 1 + 1 + 1, 0, none⟩)]) rfl trivial (enters_of Tryz.func225 (by kernel_rfl) rfl)
  (bw_stops 5 (by decide) (w.heap.size + 1 + 1 + 1) W0.heap.size g0 cap a L hs HG.out (by omega) W0 (by omega) (Nat.le_refl _) (cells1 bs) hNc) belowK_t (belowK_b (Nat.le_refl _)) (Below.refl _ _) (fun _ => rfl)
  (fun pre W => (∀ z ∈ pre, m z.2.by_ = false) ∧ Below W0.heap.size W0 W)
  (fun c pre W => (c = .ret ∧ ∃ r : Option EdgeV, (∀ rest, lastOf m (pre.map (·.2) ++ rest) = r) ∧ W.heap[w.heap.size + 1]? = some (.cells (optN r).cells 48 (0, 0)) ∧ W.heap[w.heap.size + 1 + 1]? = some (.cells #[.bool r.isSome] 4 (0, 0))) ∧ Below w.heap.size w W)
  (OwnFrom.and (ownFrom_pure _ _) (ownFrom_below (Nat.le_refl _) (Nat.le_refl _)))
  (fun c => OwnFrom.and (fun s X Y row hx hg hr => by
   obtain ⟨e, r, h1, h2, h3⟩ := hx
   exact ⟨e, r, h1, (cells_own (β := Unit) _ (fun _ => _) (fun _ => rfl)).from _ () X Y row h2 hg hr, (cells_own (β := Unit) _ (fun _ => _) (fun _ => rfl)).from _ () X Y row h3 hg hr⟩) (ownFrom_below (Nat.le_refl _) (by omega)))
  ⟨by simp, Below.refl _ _⟩
  (fun x' a' W => ∃ Bx, W0.heap.size ≤ Bx ∧ W.heap[Bx]? = some (.cells #[.int .i64 x'.2.by_, .int .i64 x'.2.v.from_, .int .i64 x'.2.v.to_, .string x'.2.v.type, .float .f64 x'.2.v.w, .bool x'.2.gone] 178 (0, 0)) ∧ a' = { tmps := #[.pointer (some ⟨x, 0, none⟩), .func (.func cf) #[] clb, undef, .pointer (some ⟨w.heap.size, 0, none⟩), .pointer (some ⟨w.heap.size + 1, 0, none⟩), .pointer (some ⟨w.heap.size + 1 + 1, 0, none⟩), undef, .pointer (some ⟨Bx, 0, none⟩), .pointer (some ⟨x, 0, none⟩), .bool false, undef, .pointer (some ⟨x, 0, none⟩), .pointer (some ⟨x, 0, none⟩), .pointer (some ⟨x, 0, none⟩), .slice a L.length cap, .func (.func 225) #[] #[.pointer (some ⟨w.heap.size + 1 + 1 + 1, 0, none⟩)], .int .i64 x'.1, .agg #[.int .i64 x'.2.by_, .int .i64 x'.2.v.from_, .int .i64 x'.2.v.to_, .string x'.2.v.type, .float .f64 x'.2.v.w, .bool x'.2.gone], undef, undef, undef, undef, undef, undef, undef, undef, undef, undef, undef], defers := [] })
  (fun x' a' s X Y row hx hg hr => by
   obtain ⟨Bx, e1, e2, e3⟩ := hx
   exact ⟨Bx, e1, (cells_own (β := Unit) _ (fun _ => _) (fun _ => rfl)).from _ () X Y row e2 hg hr, e3⟩)
  ?assign ?body ?done ?stop
 case assign =>
  rintro l pre x' W K ⟨hp, hB⟩ hK
  have HK := hid (⟨hp, hB, hK⟩ : _ ∧ _ ∧ _)
  clear hp hB hK
  dsimp only [encN]
  gi_wp2
  exact HK.out.2.2 _ _ ((KeepsOthers.alloc _ _).from _) ((Below.refl _ W).alloc HK.out.2.1.size _) ⟨HK.out.1, HK.out.2.1.alloc HK.out.2.1.size _⟩ ⟨W.heap.size, HK.out.2.1.size, heap1 _ _, rfl⟩
 case body =>
  rintro l pre x' a' W hl ⟨r0, hr0⟩ ⟨hp, hB⟩ ⟨Bx, hBx, bX, rfl⟩ hlt
  have c3 := cells1 ((hB.block w.heap.size (by omega)).trans b3)
  have c4 := (hB.block (w.heap.size + 1) (by omega)).trans b4
  have c5 := (hB.block (w.heap.size + 1 + 1) (by omega)).trans b5
  obtain ⟨x0, x1, x2, x3, x4, x5⟩ := cells6 bX
  have HK := hid (⟨hp, hB, hBx, bX, c4, c5⟩ : _ ∧ _ ∧ _ ∧ _ ∧ _ ∧ _)
  clear hp hB hBx bX c4 c5 b3 b4 b5 bs hNc hr0 hlt
  have hBw : Hid (Below w.heap.size w W) := hid ((HF0.out.below' (Nat.le_refl _)).trans (HK.out.2.1.mono (by omega)))
  cases hmm : m x'.2.by_ with
  | false =>
   gi_wp2_with (refine ⟨trivial, ?_⟩; rw [HCF.out, Oper.uponIn_enter]; refine ⟨fun _ => by decide, ?_⟩; refine (CallsIn.inRound l (callsIn_wide.2 (HM.out W x'.2.by_ hBw.out))).mono ?_; rintro e W' ⟨rfl, f⟩; rw [hmm]; have F := hid f; clear f)
   exact ⟨F.out.others.from _, F.out.below' HK.out.2.1.size, ⟨fun z hz => (List.mem_append.1 hz).elim (HK.out.1 z) (fun e => by rw [List.mem_singleton.1 e]; exact hmm), HK.out.2.1.trans (F.out.below' HK.out.2.1.size)⟩⟩
  | true =>
   obtain ⟨mi, ⟨yb, ⟨yf, yo, yt, yw⟩, yg⟩⟩ := x'
   dsimp only at x0 x1 x2 x3 x4 x5 HK hmm ⊢
   cases yg with
   | true =>
    gi_wp2_with (refine ⟨trivial, ?_⟩; rw [HCF.out, Oper.uponIn_enter]; refine ⟨fun _ => by decide, ?_⟩; refine (CallsIn.inRound l (callsIn_wide.2 (HM.out W yb hBw.out))).mono ?_; rintro e W' ⟨rfl, f⟩; rw [hmm]; obtain ⟨e0, e1, e2, e3, e4, e5⟩ := cells6 (f.keep HK.out.2.2.2.1 id); have k4 := f.keep HK.out.2.2.2.2.1 id; have k5 := f.keep HK.out.2.2.2.2.2 id; obtain ⟨k0, k1, k2, k3⟩ := cells4 k4; have k6 := cells1 k5; have z4 := freeAll k4; have z5 := freeAll k5; have F := hid (⟨f, k4, k5⟩ : _ ∧ _ ∧ _); clear f k4 k5)
    obtain ⟨q4, q5, qf, qk⟩ := end_cells W' (w.heap.size + 1) (w.heap.size + 1 + 1) (by omega) _ _ _ _ _ (.int .i64 0) (.int .i64 0) (.string ⟨#[]⟩) (.float .f64 0) (.bool false) _ _ F.out.2.1 F.out.2.2
    exact ⟨(F.out.1.others.trans qk).from _, ⟨rfl, none, fun rest => by rw [List.map_append, List.append_assoc, lastOf_append m _ _ (fun y hy => by obtain ⟨z, hz, rfl⟩ := List.mem_map.1 hy; exact HK.out.1 z hz)]; simp [lastOf, hmm], q4, q5⟩, (hBw.out.trans (F.out.1.below' hBw.out.size)).trans (qf.below (Nat.le_trans hBw.out.size F.out.1.size) (fun k e => by rcases e with rfl | rfl <;> omega))⟩
   | false =>
    gi_wp2_with (refine ⟨trivial, ?_⟩; rw [HCF.out, Oper.uponIn_enter]; refine ⟨fun _ => by decide, ?_⟩; refine (CallsIn.inRound l (callsIn_wide.2 (HM.out W yb hBw.out))).mono ?_; rintro e W' ⟨rfl, f⟩; rw [hmm]; obtain ⟨e0, e1, e2, e3, e4, e5⟩ := cells6 (f.keep HK.out.2.2.2.1 id); have k4 := f.keep HK.out.2.2.2.2.1 id; have k5 := f.keep HK.out.2.2.2.2.2 id; obtain ⟨k0, k1, k2, k3⟩ := cells4 k4; have k6 := cells1 k5; have z4 := freeAll k4; have z5 := freeAll k5; have F := hid (⟨f, k4, k5⟩ : _ ∧ _ ∧ _); clear f k4 k5)
    obtain ⟨q4, q5, qf, qk⟩ := end_cells W' (w.heap.size + 1) (w.heap.size + 1 + 1) (by omega) _ _ _ _ _ (.int .i64 yf) (.int .i64 yo) (.string yt) (.float .f64 yw) (.bool true) _ _ F.out.2.1 F.out.2.2
    exact ⟨(F.out.1.others.trans qk).from _, ⟨rfl, some ⟨yf, yo, yt, yw⟩, fun rest => by rw [List.map_append, List.append_assoc, lastOf_append m _ _ (fun y hy => by obtain ⟨z, hz, rfl⟩ := List.mem_map.1 hy; exact HK.out.1 z hz)]; simp [lastOf, hmm], q4, q5⟩, (hBw.out.trans (F.out.1.below' hBw.out.size)).trans (qf.below (Nat.le_trans hBw.out.size F.out.1.size) (fun k e => by rcases e with rfl | rfl <;> omega))⟩
 case done =>
  rintro D ys W hD rfl ⟨hp, hB⟩ hK
  have c4 := (hB.block (w.heap.size + 1) (by omega)).trans b4
  have c5 := (hB.block (w.heap.size + 1 + 1) (by omega)).trans b5
  obtain ⟨k0, k1, k2, k3⟩ := cells4 c4
  have k6 := cells1 c5
  have z4 := freeAll c4
  have z5 := freeAll c5
  have HK := hid (⟨hp, hB, c4, c5, hK, hD⟩ : _ ∧ _ ∧ _ ∧ _ ∧ _ ∧ _)
  clear hp hB c4 c5 b3 b4 b5 bs hNc hK hD
  gi_wp2
  obtain ⟨hp, hB, c4, c5, hK, hD⟩ := HK.out
  obtain ⟨q4, q5, qf, qk⟩ := end_cells W (w.heap.size + 1) (w.heap.size + 1 + 1) (by omega) _ _ _ _ _ (.int .i64 0) (.int .i64 0) (.string ⟨#[]⟩) (.float .f64 0) (.bool false) _ _ c4 c5
  have hK' := qk.same D _ hK rfl
  have hBw : Below w.heap.size w W := (HF0.out.below' (Nat.le_refl _)).trans (hB.mono (by omega))
  have hBe := hBw.trans (qf.below (B := w.heap.size) hBw.size (fun k e => by rcases e with rfl | rfl <;> omega))
  have hn : lastOf m L.reverse = none := by
   have := lastOf_append m ((upto (bwf L) L.length).map (·.2)) [] (fun y hy => by obtain ⟨z, hz, rfl⟩ := List.mem_map.1 hy; exact hp z hz)
   rw [List.append_nil, upto_bw] at this
   exact this
  rw [hn]
  refine ⟨by simp, .inl ⟨_, _, rfl, run_takeDeferred hK', ?_⟩⟩
  obtain ⟨r0, r1, q2, q3⟩ := cells4 ((World.putObj_heap_other (o := .deferred none) (show w.heap.size + 1 ≠ D by omega)).trans q4)
  have r2 := cells1 ((World.putObj_heap_other (o := .deferred none) (show w.heap.size + 1 + 1 ≠ D by omega)).trans q5)
  refine ⟨.tuple #[optN none, .bool false], ?_, rfl, Fr.of_below (hBe.trans (belowK_b (w := w) (Nat.le_refl _) _ D _ _ (by omega) hK' rfl rfl))⟩
  simp [results, Tryz.f158, go_sem, r0, r1, q2, q3, r2, optN]
 case stop =>
  rintro D c pre W hD ⟨k, hk, rfl⟩ ⟨⟨rfl, r, hr, c4, c5⟩, hB⟩ hK
  have HK := hid (⟨hr, hB, c4, c5, hK, hD⟩ : _ ∧ _ ∧ _ ∧ _ ∧ _ ∧ _)
  clear hr hB c4 c5 b3 b4 b5 bs hNc hK hD
  gi_wp2
  obtain ⟨hr, hB, c4, c5, hK, hD⟩ := HK.out
  have hn := hr (L.reverse.drop k)
  rw [upto_take L k hk, List.take_append_drop] at hn
  rw [hn]
  refine ⟨by simp, .inl ⟨_, _, rfl, run_takeDeferred hK, ?_⟩⟩
  have p4 := (World.putObj_heap_other (o := .deferred none) (show w.heap.size + 1 ≠ D by omega)).trans c4
  have r2 := cells1 ((World.putObj_heap_other (o := .deferred none) (show w.heap.size + 1 + 1 ≠ D by omega)).trans c5)
  refine ⟨.tuple #[optN r, .bool r.isSome], ?_, rfl, Fr.of_below (hB.trans (belowK_b (w := w) (Nat.le_refl _) _ D _ _ (by omega) hK rfl rfl))⟩
  cases r with
  | none =>
   obtain ⟨r0, r1, q2, q3⟩ := cells4 (v0 := .int .i64 0) (v1 := .int .i64 0) (v2 := .string ⟨#[]⟩) (v3 := .float .f64 0) p4
   simp [results, Tryz.f158, go_sem, r0, r1, q2, q3, r2, optN]
  | some v =>
   obtain ⟨r0, r1, q2, q3⟩ := cells4 (v0 := .int .i64 v.from_) (v1 := .int .i64 v.to_) (v2 := .string v.type) (v3 := .float .f64 v.w) p4
   simp [results, Tryz.f158, go_sem, r0, r1, q2, q3, r2, optN]
end Go.Proofs.YthadcdoepoglkaaGreatDoor.Ec
namespace Go.Proofs.YthadcdoepoglkaaGreatDoor.Ec
open Go.RowKit Go.Lig
theorem celnew_any (w : World) : Calls Tryz.prog 119 #[] w fun e w' => ∃ c, e = .returned (.pointer (some ⟨c, 0, none⟩)) ∧ CellAt w' (fun b => b = c) c [] ∧ Fr No w w' ∧ w.heap.size ≤ c := by
 go_enter Tryz.func119, Tryz.ntmps119
 go_wp2
 go_ret
 exact ⟨_, rfl, ⟨⟨_, heap1 w _, World.ownsRow_nil _ _ _ _, fun _ e => (by cases e)⟩, rfl, fun k hk => by subst hk; simp, by simp⟩, (Fr.refl No w).alloc _, Nat.le_refl _⟩
theorem read1_any (w : World) (c gk : Nat) (K : Ck) (h : ClkRow w c gk K) (hs : K.l.length ≤ 1000000) (t b : Int) (b4 b5 : Nat) (h4 : w.cell? ⟨b4, 0, none⟩ = some (.pointer (some ⟨c, 0, none⟩))) (h5 : w.cell? ⟨b5, 0, none⟩ = some (.int .i64 t)) :
  Calls Tryz.prog 192 #[.int .i64 b, .pointer (some ⟨b4, 0, none⟩), .pointer (some ⟨b5, 0, none⟩)] w fun e w' => e = .returned (.bool (K.sees t b)) ∧ Fr No w w' := by
 have HS := hid (sees_any w c gk K h hs t b)
 clear h hs
 go_enter Tryz.func192, Tryz.ntmps192
 go_wp2_with (go_at_call 183; refine HS.out.mono ?_; rintro e w1 ⟨rfl, f1⟩; have H1 := hid f1; clear f1)
 go_ret
 exact ⟨rfl, H1.out⟩
set_option maxHeartbeats 1000000 in
theorem last_nil (w : World) (cf : Nat) (clb : Array Value) : Calls Tryz.prog 158 #[.pointer none, .func (.func cf) #[] clb] w fun e w' => e = .returned (.tuple #[optN none, .bool false]) ∧ Fr No w w' := by
 go_enter Tryz.func158, Tryz.ntmps158
 go_wp2
 refine bodyPost_ret (v := .tuple #[optN none, .bool false]) ?_ rfl ⟨rfl, ?_⟩
 ·simp [results, Tryz.f158, go_sem, optN]
 ·exact (((Fr.refl No w).alloc _).alloc _).alloc _
set_option maxHeartbeats 1000000 in
theorem read_of (w : World) (x : Option Addr) (c : Nat) (t : Int) (r : Option EdgeV)
  (hl : ∀ w0, Fr No w w0 → w0.cell? ⟨w.heap.size, 0, none⟩ = some (.pointer (some ⟨c, 0, none⟩)) → w0.cell? ⟨w.heap.size + 1, 0, none⟩ = some (.int .i64 t) → w.heap.size + 1 < w0.heap.size →
   Calls Tryz.prog 158 #[.pointer x, .func (.func 192) #[] #[.pointer (some ⟨w.heap.size, 0, none⟩), .pointer (some ⟨w.heap.size + 1, 0, none⟩)]] w0 fun e w' => e = .returned (.tuple #[optN r, .bool r.isSome]) ∧ Fr No w0 w') :
  Calls Tryz.prog 141 #[.pointer x, .pointer (some ⟨c, 0, none⟩), .int .i64 t] w fun e w' => e = .returned (.tuple #[optN r, .bool r.isSome]) ∧ Fr No w w' := by
 obtain ⟨b4, b5, b6⟩ := heap3 w (.cells #[.pointer (some ⟨c, 0, none⟩)] 76) (.cells #[.int .i64 t] 3) (.cells #[.int .i64 0, .int .i64 0, .string ⟨#[]⟩, .float .f64 0] 48)
 have hf : Fr No w (((w.alloc (.cells #[.pointer (some ⟨c, 0, none⟩)] 76)).alloc (.cells #[.int .i64 t] 3)).alloc (.cells #[.int .i64 0, .int .i64 0, .string ⟨#[]⟩, .float .f64 0] 48)) := (((Fr.refl No w).alloc _).alloc _).alloc _
 have HL := hid (hl _ hf (cells1 b4) (cells1 b5) (by simp))
 have HB := hid (⟨hf, b6⟩ : _ ∧ _)
 clear hl b4 b5 b6 hf
 go_enter Tryz.func141, Tryz.ntmps141
 cases r with
 | none =>
  go_wp2_with (go_at_call 158; refine HL.out.mono ?_; rintro e w1 ⟨rfl, f1⟩; have k6 := f1.keep HB.out.2 id; obtain ⟨k0, k1, k2, k3⟩ := cells4 k6; have z6 := freeAll k6; have H1 := hid (⟨HB.out.1.thenNo f1, k6⟩ : _ ∧ _); clear f1 k6; dsimp only [optN, Option.isSome])
  obtain ⟨q6, qf⟩ := end_row w1 (w.heap.size + 1 + 1) _ _ _ _ (.int .i64 0) (.int .i64 0) (.string ⟨#[]⟩) (.float .f64 0) _ H1.out.2
  obtain ⟨r0, r1, q2, q3⟩ := cells4 q6
  refine bodyPost_ret (v := .tuple #[optN none, .bool false]) ?_ rfl ⟨rfl, H1.out.1.fresh qf (fun k e => by subst e; omega)⟩
  simp [results, Tryz.f141, go_sem, optN, r0, r1, q2, q3]
 | some v =>
  go_wp2_with (go_at_call 158; refine HL.out.mono ?_; rintro e w1 ⟨rfl, f1⟩; have k6 := f1.keep HB.out.2 id; obtain ⟨k0, k1, k2, k3⟩ := cells4 k6; have z6 := freeAll k6; have H1 := hid (⟨HB.out.1.thenNo f1, k6⟩ : _ ∧ _); clear f1 k6; dsimp only [optN, Option.isSome])
  obtain ⟨q6, qf⟩ := end_row w1 (w.heap.size + 1 + 1) _ _ _ _ (.int .i64 v.from_) (.int .i64 v.to_) (.string v.type) (.float .f64 v.w) _ H1.out.2
  obtain ⟨r0, r1, q2, q3⟩ := cells4 q6
  refine bodyPost_ret (v := .tuple #[optN (some v), .bool true]) ?_ rfl ⟨rfl, H1.out.1.fresh qf (fun k e => by subst e; omega)⟩
  simp [results, Tryz.f141, go_sem, optN, r0, r1, q2, q3]
theorem read_nil (w : World) (c : Nat) (t : Int) : Calls Tryz.prog 141 #[.pointer none, .pointer (some ⟨c, 0, none⟩), .int .i64 t] w fun e w' => e = .returned (.tuple #[optN none, .bool false]) ∧ Fr No w w' :=
 read_of w none c t none (fun w0 _ _ _ _ => last_nil w0 _ _)
theorem enter_read1 : ∀ args w, (callFunc 192 args).run Tryz.prog w = .ok (.enter 192 args) w := enters_of Tryz.func192 (by kernel_rfl) rfl
def readL (K : Ck) (t : Int) (L : List (Ver EdgeV)) : Option EdgeV := lastOf (K.sees t) L.reverse
theorem read_any (w : World) (x g c gk : Nat) (K : Ck) (L : List (Ver EdgeV)) (h : CelRow w x g L) (hs : L.length ≤ 1000000) (hk : ClkRow w c gk K) (hks : K.l.length ≤ 1000000) (t : Int) :
  Calls Tryz.prog 141 #[.pointer (some ⟨x, 0, none⟩), .pointer (some ⟨c, 0, none⟩), .int .i64 t] w fun e w' => e = .returned (.tuple #[optN (readL K t L), .bool (readL K t L).isSome]) ∧ Fr No w w' :=
 read_of w _ c t (readL K t L) (fun w0 hf h4 h5 hlt => last_any w0 x g L (h.frame hf) hs _ _ (K.sees t) enter_read1 (fun W b hB =>
  read1_any W c gk K (hk.frame (hf.thenNo (Fr.of_below hB))) hks t b _ _ ((hB.cell (p := ⟨w.heap.size, 0, none⟩) (by simp; omega)).trans h4) ((hB.cell (p := ⟨w.heap.size + 1, 0, none⟩) hlt).trans h5)))
end Go.Proofs.YthadcdoepoglkaaGreatDoor.Ec
