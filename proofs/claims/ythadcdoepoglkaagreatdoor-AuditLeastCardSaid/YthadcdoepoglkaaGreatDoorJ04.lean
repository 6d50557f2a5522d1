/- A part of the proof: contracts of functions of the program, for the row's text. -/
import Derived.Test.YthadcdoepoglkaaGreatDoorJ03
namespace Go.Proofs.YthadcdoepoglkaaGreatDoor
open Go.RowKit Go.Lig Go.Shelf
attribute [local go_sem] Oper.semAt_some
theorem bw_any (w : World) (a : Option Addr) (n c : Nat) : Calls Tryz.prog 202 #[.slice a n c] w fun e w' =>
  e = .returned (.func (.func 224) #[] #[.pointer (some ⟨w.heap.size, 0, none⟩)]) ∧ w' = w.alloc (.cells #[.slice a n c] 157) := by
 go_enter Tryz.func202, Tryz.ntmps202
 go_wp2
 go_ret
 exact ⟨rfl, rfl⟩
theorem _root_.Go.Lig.Fr.below' {w w' : World} {B : Nat} (h : Fr No w w') (hB : B ≤ w.heap.size) : Below B w w' := h.below hB (fun _ e => e.elim)
theorem _root_.Go.Lig.Fr.others {w w' : World} (h : Fr No w w') : KeepsOthers w w' := ⟨h.size, fun _ _ hk _ => h.keep hk id⟩
theorem bw_stops (n : Nat) (hn : 1 ≤ n) (Bs n₀ g cap : Nat) (a : Option Addr) (L : List (Ver NodeV)) (hs : L.length ≤ 1000000) (ha : 0 < L.length → a = some ⟨g, 0, none⟩) (hb : g < n₀) (w : World) (hBl : Bs < n₀) (hn₀ : n₀ ≤ w.heap.size)
  (hBs : w.cell? ⟨Bs, 0, none⟩ = some (.slice a L.length cap)) (hc : ∀ j y, L[j]? = some y → NcAt w g j y) :
  SeqStopsK Fence.wide n Tryz.prog 224 #[.pointer (some ⟨Bs, 0, none⟩)] encN (Below n₀) (fun ys => ys = upto (bwf L) L.length) (fun pre => ∃ k, k ≤ L.length ∧ pre = upto (bwf L) k) L.length w := fun l J Jx W hW _ _ hY h0 => by
 have hW' : Below n₀ w W := hW.mono hn₀
 have k0 := hW'.cell (p := ⟨Bs, 0, none⟩) hBl
 refine bw1_in Fence.wide n trivial rfl hn l Bs n₀ g cap a L hs ha hb J Jx hY W hBl (k0.trans hBs) (fun j y hy => ?_) h0
 obtain ⟨y0, y1, y2, y3⟩ := hc j y hy
 exact ⟨(hW'.cell (p := ⟨g, j * 4, none⟩) hb).trans y0, (hW'.cell (p := ⟨g, j * 4 + 1, none⟩) hb).trans y1, (hW'.cell (p := ⟨g, j * 4 + 2, none⟩) hb).trans y2, (hW'.cell (p := ⟨g, j * 4 + 3, none⟩) hb).trans y3⟩
theorem cells_own {β : Type} (B : Nat) (f : β → Obj) (hf : ∀ s, (f s).isCells = true) : Own (fun s W => W.heap[B]? = some (f s)) := fun s X Y row hs hg hr => by
 refine (hg.block B (lt_of_block hs) (fun e => ?_)).trans hs
 obtain ⟨o, ho, hc⟩ := hr B e.symm
 rw [hs] at ho
 cases ho
 rw [hf] at hc
 cases hc
theorem lastOf_append {α : Type} (m : Int → Bool) (l r : List (Ver α)) (h : ∀ y ∈ l, m y.by_ = false) : lastOf m (l ++ r) = lastOf m r := by
 induction l with
 | nil => rfl
 | cons y l ih =>
  rw [List.cons_append, lastOf, h y (List.mem_cons_self ..), if_neg (by simp)]
  exact ih (fun z hz => h z (List.mem_cons_of_mem _ hz))
theorem upto_bw (L : List (Ver NodeV)) : (upto (bwf L) L.length).map (·.2) = L.reverse := by
 apply List.ext_getElem
 ·simp [upto]
 ·intro i h1 h2
  have hi : i < L.length := by simpa [upto] using h1
  simp [upto, bwf, List.getElem_reverse]
  rw [List.getElem?_eq_getElem (by omega)]
  rfl
theorem upto_take (L : List (Ver NodeV)) (k : Nat) (hk : k ≤ L.length) : (upto (bwf L) k).map (·.2) = L.reverse.take k := by
 rw [← upto_bw L, ← List.map_take]
 unfold upto
 rw [← List.map_take, List.take_range, Nat.min_eq_left hk]
def optN : Option NodeV → Value
 | some v => .agg #[.slice v.l.a v.l.n v.l.c, .slice v.p.a v.p.n v.p.c]
 | none => .agg #[.slice none 0 0, .slice none 0 0]
theorem end_cells (W : World) (b4 b5 : Nat) (hne : b4 ≠ b5) (u v q a b c : Value) (tN tB : TypeId) (h4 : W.heap[b4]? = some (.cells #[u, v] tN (0, 0))) (h5 : W.heap[b5]? = some (.cells #[q] tB (0, 0))) :
  ((
   (W.setCell ⟨b4, 0, none⟩ a).setCell ⟨b4, 1, none⟩ b).setCell ⟨b5, 0, none⟩ c).heap[b4]? = some (.cells #[a, b] tN (0, 0)) ∧ (((W.setCell ⟨b4, 0, none⟩ a).setCell ⟨b4, 1, none⟩ b).setCell ⟨b5, 0, none⟩ c).heap[b5]? = some (.cells #[c] tB (0, 0)) ∧
   Fr (fun k => k = b4 ∨ k = b5) W (((W.setCell ⟨b4, 0, none⟩ a).setCell ⟨b4, 1, none⟩ b).setCell ⟨b5, 0, none⟩ c) ∧ KeepsOthers W (((W.setCell ⟨b4, 0, none⟩ a).setCell ⟨b4, 1, none⟩ b).setCell ⟨b5, 0, none⟩ c) := by
 refine ⟨?_, ?_, ?_, ((KeepsOthers.setCell _ _ _).trans (KeepsOthers.setCell _ _ _)).trans (KeepsOthers.setCell _ _ _)⟩
 ·rw [hset_ne (show b4 ≠ b5 from hne)]
  exact hset (hset h4)
 ·have e5 : ((W.setCell ⟨b4, 0, none⟩ a).setCell ⟨b4, 1, none⟩ b).heap[b5]? = some (.cells #[q] tB (0, 0)) := by
   rw [hset_ne (show b5 ≠ b4 from fun e => hne e.symm), hset_ne (show b5 ≠ b4 from fun e => hne e.symm)]
   exact h5
  exact hset e5
 ·exact (((Fr.refl _ W).setCell (p := ⟨b4, 0, none⟩) a (fun _ => .inl rfl)).setCell (p := ⟨b4, 1, none⟩) b (fun _ => .inl rfl)).setCell (p := ⟨b5, 0, none⟩) c (fun _ => .inr rfl)
set_option maxRecDepth 100000 in
set_option maxHeartbeats 4000000 in
theorem last_any (w : World) (x g : Nat) (L : List (Ver NodeV)) (h : CelRow w x g L) (hs : L.length ≤ 1000000) (cf : Nat) (clb : Array Value) (m : Int → Bool) (hcf : ∀ args w, (callFunc cf args).run Tryz.prog w = .ok (.enter cf args) w)
  (hm : ∀ (W : World) (b : Int), Below w.heap.size w W → Calls Tryz.prog cf (#[.int .i64 b] ++ clb) W fun e W' => e = .returned (.bool (m b)) ∧ Fr No W W') :
  Calls Tryz.prog 155 #[.pointer (some ⟨x, 0, none⟩), .func (.func cf) #[] clb] w fun e w' => e = .returned (.tuple #[optN (lastOf m L.reverse), .bool (lastOf m L.reverse).isSome]) ∧ Fr No w w' := by
 obtain ⟨a, cap, h1, h2, h3, h4⟩ := id h.ex
 have hx0 := cells1 h1
 have hxl := lt_of_block h1
 obtain ⟨g0, hg0, hgl⟩ : ∃ g0, (0 < L.length → a = some ⟨g0, 0, none⟩ ∧ g0 = g) ∧ g0 < w.heap.size := by
  by_cases hl : 0 < L.length
  ·obtain rfl := h3 hl
   obtain ⟨g', cur, e', -, hg, -⟩ := owns_at h2 hl
   have eg : g = g' := by simpa using e'
   subst eg
   exact ⟨g, fun _ => ⟨rfl, rfl⟩, lt_of_block hg⟩
  ·exact ⟨x, fun e => absurd e hl, hxl⟩
 have HC := hid (show ∀ j y, L[j]? = some y → NcAt w g0 j y from fun j y hy => by
  have := (List.getElem?_eq_some_iff.1 hy).1
  rw [(hg0 (by omega)).2]
  exact h.cell hy)
 have HG := hid (show 0 < L.length → a = some ⟨g0, 0, none⟩ from fun e => (hg0 e).1)
 have HM := hid hm
 have HCF := hid hcf
 clear hcf h h1 h2 h3 h4 hg0 hm
 have hx3 : (((w.alloc (.cells #[.func (.func cf) #[] clb] 105)).alloc (.cells #[.slice none 0 0, .slice none 0 0] 34)).alloc (.cells #[.bool false] 4)).cell? ⟨x, 0, none⟩ = some (.slice a L.length cap) := (World.cell?_of_block (((((Fr.refl No w).alloc _).alloc _).alloc _).block x hxl id)).trans hx0
 refine (callsIn_wide (n := 6)).1 ?_
 refine callsIn_of_wp_marks Tryz.func155 rfl trivial ?_ rfl
 simp only [Tryz.ntmps155, List.size_toArray, List.length_cons, List.length_nil, Nat.reduceAdd, Nat.reduceSub, Array.replicate_succ, Array.replicate_zero, List.push_toArray, List.append_toArray, List.nil_append, List.cons_append]
 gi_wp2_with (refine ⟨trivial, ?_⟩; gi_at_call 202; refine (callsIn_wide.2 (bw_any _ _ _ _)).mono ?_; rintro e w' ⟨rfl, rfl⟩)
 obtain ⟨b3, b4, b5, bs⟩ := heap4 w (.cells #[.func (.func cf) #[] clb] 105) (.cells #[.slice none 0 0, .slice none 0 0] 34) (.cells #[.bool false] 4) (.cells #[.slice a L.length cap] 157)
 have hF0 : Fr No w ((((w.alloc (.cells #[.func (.func cf) #[] clb] 105)).alloc (.cells #[.slice none 0 0, .slice none 0 0] 34)).alloc (.cells #[.bool false] 4)).alloc (.cells #[.slice a L.length cap] 157)) := ((((Fr.refl No w).alloc _).alloc _).alloc _).alloc _
 have hsz : ((((w.alloc (.cells #[.func (.func cf) #[] clb] 105)).alloc (.cells #[.slice none 0 0, .slice none 0 0] 34)).alloc (.cells #[.bool false] 4)).alloc (.cells #[.slice a L.length cap] 157)).heap.size = w.heap.size + 4 := by simp
 generalize hW0 : ((((w.alloc (.cells #[.func (.func cf) #[] clb] 105)).alloc (.cells #[.slice none 0 0, .slice none 0 0] 34)).alloc (.cells #[.bool false] 4)).alloc (.cells #[.slice a L.length cap] 157)) = W0 at *
 clear hW0 hx3 hx0
 have HF0 := hid hF0
 have hNc : ∀ j y, L[j]? = some y → NcAt W0 g0 j y := fun j y hy => by
  obtain ⟨y0, y1, y2, y3⟩ := HC.out j y hy
  have hb := hF0.block g0 hgl id
  exact ⟨(World.cell?_of_block hb).trans y0, (World.cell?_of_block hb).trans y1, (World.cell?_of_block hb).trans y2, (World.cell?_of_block hb).trans y3⟩
 refine wpIn_rangeFunc_ownH rfl (by decide) (gf := 224) (lb := #[.pointer (some ⟨w.heap.size + 1 + 1 + 1, 0, none⟩)]) rfl trivial (enters_of Tryz.func224 (by kernel_rfl) rfl)
  (bw_stops 5 (by decide) (w.heap.size + 1 + 1 + 1) W0.heap.size g0 cap a L hs HG.out (by omega) W0 (by omega) (Nat.le_refl _) (cells1 bs) hNc) belowK_t (belowK_b (Nat.le_refl _)) (Below.refl _ _) (fun _ => rfl)
  (fun pre W => (∀ z ∈ pre, m z.2.by_ = false) ∧ Below W0.heap.size W0 W)
  (fun c pre W => (c = .ret ∧ ∃ r : Option NodeV, (∀ rest, lastOf m (pre.map (·.2) ++ rest) = r) ∧ W.heap[w.heap.size + 1]? = some (.cells (optN r).cells 34 (0, 0)) ∧ W.heap[w.heap.size + 1 + 1]? = some (.cells #[.bool r.isSome] 4 (0, 0))) ∧ Below w.heap.size w W)
  (OwnFrom.and (ownFrom_pure _ _) (ownFrom_below (Nat.le_refl _) (Nat.le_refl _)))
  (fun c => OwnFrom.and (fun s X Y row hx hg hr => by
   obtain ⟨e, r, h1, h2, h3⟩ := hx
   exact ⟨e, r, h1, (cells_own (β := Unit) _ (fun _ => _) (fun _ => rfl)).from _ () X Y row h2 hg hr, (cells_own (β := Unit) _ (fun _ => _) (fun _ => rfl)).from _ () X Y row h3 hg hr⟩) (ownFrom_below (Nat.le_refl _) (by omega)))
  ⟨by simp, Below.refl _ _⟩
  (fun x' a' W => ∃ Bx, W0.heap.size ≤ Bx ∧ W.heap[Bx]? = some (.cells #[.int .i64 x'.2.by_, .slice x'.2.v.l.a x'.2.v.l.n x'.2.v.l.c, .slice x'.2.v.p.a x'.2.v.p.n x'.2.v.p.c, .bool x'.2.gone] 160 (0, 0)) ∧ a' = { tmps := #[.pointer (some ⟨x, 0, none⟩), .func (.func cf) #[] clb, undef, .pointer (some ⟨w.heap.size, 0, none⟩), .pointer (some ⟨w.heap.size + 1, 0, none⟩), .pointer (some ⟨w.heap.size + 1 + 1, 0, none⟩), undef, .pointer (some ⟨Bx, 0, none⟩), .pointer (some ⟨x, 0, none⟩), .bool false, undef, .pointer (some ⟨x, 0, none⟩), .pointer (some ⟨x, 0, none⟩), .pointer (some ⟨x, 0, none⟩), .slice a L.length cap, .func (.func 224) #[] #[.pointer (some ⟨w.heap.size + 1 + 1 + 1, 0, none⟩)], .int .i64 x'.1, .agg #[.int .i64 x'.2.by_, .slice x'.2.v.l.a x'.2.v.l.n x'.2.v.l.c, .slice x'.2.v.p.a x'.2.v.p.n x'.2.v.p.c, .bool x'.2.gone], undef, undef, undef, undef, undef, undef, undef, undef, undef, undef, undef], defers := [] })
  (fun x' a' s X Y row hx hg hr => by
   obtain ⟨Bx, e1, e2, e3⟩ := hx
   exact ⟨Bx, e1, (cells_own (β := Unit) _ (fun _ => _) (fun _ => rfl)).from _ () X Y row e2 hg hr, e3⟩)
  ?assign ?body ?done ?stop
 case assign =>
  rintro l pre x' W K ⟨hp, hB⟩ hK
  have HK := hid (⟨hp, hB, hK⟩ : _ ∧ _ ∧ _)
  clear hp hB hK
  dsimp only [encN]
  gi_wp2
  exact HK.out.2.2 _ _ ((KeepsOthers.alloc _ _).from _) ((Below.refl _ W).alloc HK.out.2.1.size _) ⟨HK.out.1, HK.out.2.1.alloc HK.out.2.1.size _⟩ ⟨W.heap.size, HK.out.2.1.size, heap1 _ _, rfl⟩
 case body =>
  rintro l pre x' a' W hl ⟨r0, hr0⟩ ⟨hp, hB⟩ ⟨Bx, hBx, bX, rfl⟩ hlt
  have c3 := cells1 ((hB.block w.heap.size (by omega)).trans b3)
  have c4 := (hB.block (w.heap.size + 1) (by omega)).trans b4
  have c5 := (hB.block (w.heap.size + 1 + 1) (by omega)).trans b5
  obtain ⟨x0, x1, x2, x3⟩ := cells4 bX
  have HK := hid (⟨hp, hB, hBx, bX, c4, c5⟩ : _ ∧ _ ∧ _ ∧ _ ∧ _ ∧ _)
  clear hp hB hBx bX c4 c5 b3 b4 b5 bs hNc hr0 hlt
  have hBw : Hid (Below w.heap.size w W) := hid ((HF0.out.below' (Nat.le_refl _)).trans (HK.out.2.1.mono (by omega)))
  cases hmm : m x'.2.by_ with
  | false =>
   gi_wp2_with (refine ⟨trivial, ?_⟩; rw [HCF.out, Oper.uponIn_enter]; refine ⟨fun _ => by decide, ?_⟩; refine (CallsIn.inRound l (callsIn_wide.2 (HM.out W x'.2.by_ hBw.out))).mono ?_; rintro e W' ⟨rfl, f⟩; rw [hmm]; have F := hid f; clear f)
   exact ⟨F.out.others.from _, F.out.below' HK.out.2.1.size, ⟨fun z hz => (List.mem_append.1 hz).elim (HK.out.1 z) (fun e => by rw [List.mem_singleton.1 e]; exact hmm), HK.out.2.1.trans (F.out.below' HK.out.2.1.size)⟩⟩
  | true =>
   obtain ⟨mi, ⟨yb, ⟨⟨yla, yln, ylc⟩, ⟨ypa, ypn, ypc⟩⟩, yg⟩⟩ := x'
   dsimp only at x0 x1 x2 x3 HK hmm ⊢
   cases yg with
   | true =>
    gi_wp2_with (refine ⟨trivial, ?_⟩; rw [HCF.out, Oper.uponIn_enter]; refine ⟨fun _ => by decide, ?_⟩; refine (CallsIn.inRound l (callsIn_wide.2 (HM.out W yb hBw.out))).mono ?_; rintro e W' ⟨rfl, f⟩; rw [hmm]; obtain ⟨e0, e1, e2, e3⟩ := cells4 (f.keep HK.out.2.2.2.1 id); have k4 := f.keep HK.out.2.2.2.2.1 id; have k5 := f.keep HK.out.2.2.2.2.2 id; obtain ⟨k0, k1⟩ := cells2 k4; have k6 := cells1 k5; have z4 := freeAll k4; have z5 := freeAll k5; have F := hid (⟨f, k4, k5⟩ : _ ∧ _ ∧ _); clear f k4 k5)
    obtain ⟨q4, q5, qf, qk⟩ := end_cells W' (w.heap.size + 1) (w.heap.size + 1 + 1) (by omega) _ _ _ (.slice none 0 0) (.slice none 0 0) (.bool false) _ _ F.out.2.1 F.out.2.2
    exact ⟨(F.out.1.others.trans qk).from _, ⟨rfl, none, fun rest => by rw [List.map_append, List.append_assoc, lastOf_append m _ _ (fun y hy => by obtain ⟨z, hz, rfl⟩ := List.mem_map.1 hy; exact HK.out.1 z hz)]; simp [lastOf, hmm], q4, q5⟩, (hBw.out.trans (F.out.1.below' hBw.out.size)).trans (qf.below (Nat.le_trans hBw.out.size F.out.1.size) (fun k e => by rcases e with rfl | rfl <;> omega))⟩
   | false =>
    gi_wp2_with (refine ⟨trivial, ?_⟩; rw [HCF.out, Oper.uponIn_enter]; refine ⟨fun _ => by decide, ?_⟩; refine (CallsIn.inRound l (callsIn_wide.2 (HM.out W yb hBw.out))).mono ?_; rintro e W' ⟨rfl, f⟩; rw [hmm]; obtain ⟨e0, e1, e2, e3⟩ := cells4 (f.keep HK.out.2.2.2.1 id); have k4 := f.keep HK.out.2.2.2.2.1 id; have k5 := f.keep HK.out.2.2.2.2.2 id; obtain ⟨k0, k1⟩ := cells2 k4; have k6 := cells1 k5; have z4 := freeAll k4; have z5 := freeAll k5; have F := hid (⟨f, k4, k5⟩ : _ ∧ _ ∧ _); clear f k4 k5)
    obtain ⟨q4, q5, qf, qk⟩ := end_cells W' (w.heap.size + 1) (w.heap.size + 1 + 1) (by omega) _ _ _ (.slice yla yln ylc) (.slice ypa ypn ypc) (.bool true) _ _ F.out.2.1 F.out.2.2
    exact ⟨(F.out.1.others.trans qk).from _, ⟨rfl, some ⟨⟨yla, yln, ylc⟩, ⟨ypa, ypn, ypc⟩⟩, fun rest => by rw [List.map_append, List.append_assoc, lastOf_append m _ _ (fun y hy => by obtain ⟨z, hz, rfl⟩ := List.mem_map.1 hy; exact HK.out.1 z hz)]; simp [lastOf, hmm], q4, q5⟩, (hBw.out.trans (F.out.1.below' hBw.out.size)).trans (qf.below (Nat.le_trans hBw.out.size F.out.1.size) (fun k e => by rcases e with rfl | rfl <;> omega))⟩
 case done =>
  rintro D ys W hD rfl ⟨hp, hB⟩ hK
  have c4 := (hB.block (w.heap.size + 1) (by omega)).trans b4
  have c5 := (hB.block (w.heap.size + 1 + 1) (by omega)).trans b5
  obtain ⟨k0, k1⟩ := cells2 c4
  have k6 := cells1 c5
  have z4 := freeAll c4
  have z5 := freeAll c5
  have HK := hid (⟨hp, hB, c4, c5, hK, hD⟩ : _ ∧ _ ∧ _ ∧ _ ∧ _ ∧ _)
  clear hp hB c4 c5 b3 b4 b5 bs hNc hK hD
  gi_wp2
  obtain ⟨hp, hB, c4, c5, hK, hD⟩ := HK.out
  obtain ⟨q4, q5, qf, qk⟩ := end_cells W (w.heap.size + 1) (w.heap.size + 1 + 1) (by omega) _ _ _ (.slice none 0 0) (.slice none 0 0) (.bool false) _ _ c4 c5
  have hK' := qk.same D _ hK rfl
  have hBw : Below w.heap.size w W := (HF0.out.below' (Nat.le_refl _)).trans (hB.mono (by omega))
  have hBe := hBw.trans (qf.below (B := w.heap.size) hBw.size (fun k e => by rcases e with rfl | rfl <;> omega))
  have hn : lastOf m L.reverse = none := by
   have := lastOf_append m ((upto (bwf L) L.length).map (·.2)) [] (fun y hy => by obtain ⟨z, hz, rfl⟩ := List.mem_map.1 hy; exact hp z hz)
   rw [List.append_nil, upto_bw] at this
   exact this
  rw [hn]
  refine ⟨by simp, .inl ⟨_, _, rfl, run_takeDeferred hK', ?_⟩⟩
  obtain ⟨r0, r1⟩ := cells2 ((World.putObj_heap_other (o := .deferred none) (show w.heap.size + 1 ≠ D by omega)).trans q4)
  have r2 := cells1 ((World.putObj_heap_other (o := .deferred none) (show w.heap.size + 1 + 1 ≠ D by omega)).trans q5)
  refine ⟨.tuple #[optN none, .bool false], ?_, rfl, Fr.of_below (hBe.trans (belowK_b (w := w) (Nat.le_refl _) _ D _ _ (by omega) hK' rfl rfl))⟩
  simp [results, Tryz.f155, go_sem, r0, r1, r2, optN]
 case stop =>
  rintro D c pre W hD ⟨k, hk, rfl⟩ ⟨⟨rfl, r, hr, c4, c5⟩, hB⟩ hK
  have HK := hid (⟨hr, hB, c4, c5, hK, hD⟩ : _ ∧ _ ∧ _ ∧ _ ∧ _ ∧ _)
  clear hr hB c4 c5 b3 b4 b5 bs hNc hK hD
  gi_wp2
  obtain ⟨hr, hB, c4, c5, hK, hD⟩ := HK.out
  have hn := hr (L.reverse.drop k)
  rw [upto_take L k hk, List.take_append_drop] at hn
  rw [hn]
  refine ⟨by simp, .inl ⟨_, _, rfl, run_takeDeferred hK, ?_⟩⟩
  have p4 := (World.putObj_heap_other (o := .deferred none) (show w.heap.size + 1 ≠ D by omega)).trans c4
  have r2 := cells1 ((World.putObj_heap_other (o := .deferred none) (show w.heap.size + 1 + 1 ≠ D by omega)).trans c5)
  refine ⟨.tuple #[optN r, .bool r.isSome], ?_, rfl, Fr.of_below (hB.trans (belowK_b (w := w) (Nat.le_refl _) _ D _ _ (by omega) hK rfl rfl))⟩
  cases r with
  | none =>
   obtain ⟨r0, r1⟩ := cells2 (v0 := .slice none 0 0) (v1 := .slice none 0 0) p4
   simp [results, Tryz.f155, go_sem, r0, r1, r2, optN]
  | some v =>
   obtain ⟨r0, r1⟩ := cells2 (v0 := .slice v.l.a v.l.n v.l.c) (v1 := .slice v.p.a v.p.n v.p.c) p4
   simp [results, Tryz.f155, go_sem, r0, r1, r2, optN]
end Go.Proofs.YthadcdoepoglkaaGreatDoor
namespace Go.Proofs.YthadcdoepoglkaaGreatDoor
open Go.RowKit Go.Lig
set_option maxHeartbeats 1000000 in
theorem commit_ok (w : World) (T : Nat → Prop) (c : Nat) (K : Ck) (h : ClockAt w T c K) (t : Int) (hn : K.live t = true) (hm : K.commits < 1000000) :
  Calls Tryz.prog 36 #[.pointer (some ⟨c, 0, none⟩), .int .i64 t] w fun e w' => e = .returned (.int .i64 0) ∧ ClockAt w' T c (K.commit t) ∧ Fr T w w' := by
 obtain ⟨g, hr, hgT⟩ := h.row
 obtain ⟨x, hx, hx0⟩ := Ck.live_some hn
 have HL := hid (live_any w c g K hr h.small.1 t)
 rw [hn] at HL
 obtain ⟨a, n, h1, h2, h3, h4⟩ := id hr.ex
 obtain ⟨t1, t2, t3, t4⟩ := Ck.tx_some hx
 obtain rfl := h3 (by omega)
 obtain ⟨g', cur, e', hb, hg, hnc, hcs, ht⟩ := owns_at h2 (by omega)
 obtain rfl : g = g' := by simpa using e'
 have hko : (t - 1).toNat * 3 + 2 < cur.size := by rw [hcs]; omega
 have hset1 := flat_set (f := tcell) (m := 3) (fun _ => rfl) K.l (t - 1).toNat x { x with state := 1 } t3 0 (by decide) (.int .i64 1) rfl
 have hset2 := flat_set (f := tcell) (m := 3) (fun _ => rfl) (K.l.set (t - 1).toNat { x with state := 1 }) (t - 1).toNat { x with state := 1 } { x with state := 1, commit := K.commits + 1 } (List.getElem?_set_self t2) 2 (by decide) (.int .i64 (K.commits + 1)) rfl
 rw [Nat.add_zero] at hset1
 rw [List.set_set] at hset2
 have hsm := h.small
 have hi64 := IntWalk.i64_in (K.commits + 1) (by omega)
 -- the clock behind 'commits++'
 have HA := hid (show ∀ w1, Put c #[.slice (some ⟨g, 0, none⟩) K.l.length n, .int .i64 (K.commits + 1)] 136 w w1 → Calls Tryz.prog 79 #[.pointer (some ⟨c, 0, none⟩), .int .i64 t] w1 fun e w' => e = .returned (.pointer (some ⟨g, (t - 1).toNat * 3, none⟩)) ∧ w1 = w' from fun w1 p => by
  have hr1 : ClkRow w1 c g { K with commits := K.commits + 1 } := ⟨⟨_, n, p.at_, p.fr.owns h2 (fun k hk e => by obtain rfl : g = k := Option.some.inj hk; exact h4 e), fun _ => rfl, h4⟩⟩
  have := clkat_any w1 c g { K with commits := K.commits + 1 } hr1 hsm.1 t
  rwa [atV_some (show Ck.tx { K with commits := K.commits + 1 } t = some x from hx)] at this)
 have HK : Hid (K.commit t = ⟨K.l.set (t - 1).toNat { x with state := 1, commit := K.commits + 1 }, K.commits + 1⟩) := hid (by unfold Ck.commit Ck.put; rw [hx])
 obtain ⟨c0, c1⟩ := cells2 h1
 have HH := hid (⟨h, h1, h2, hgT (by omega), h4, hg, hko, hset1, hset2⟩ : _ ∧ _ ∧ _ ∧ _ ∧ _ ∧ _ ∧ _ ∧ _ ∧ _)
 generalize hoo : (t - 1).toNat * 3 = o at *
 have HS := hid hsm
 clear h hr hn hx hx0 h1 h2 h3 h4 hgT t1 t2 t3 t4 hb hg hnc hcs ht hko hset1 hset2 e' hsm c0
 go_enter Tryz.func36, Tryz.ntmps36
 have hk1 : Hid (o < cur.size ∧ o + 2 < (cur.setIfInBounds o (.int .i64 1)).size) := hid (by have := HH.out.2.2.2.2.2.2.1; rw [Array.size_setIfInBounds]; omega)
 go_wp2_with (first | (go_at_call 78; refine HL.out.mono ?_; rintro e w1 ⟨rfl, rfl⟩) | (refine wpList_store1 rfl 3 (.tmp 16) (.tmp 14) rfl c 1 rfl _ 136 (.int .i64 (K.commits + 1)) rfl (by kernel_rfl) HH.out.2.1 (by simp) rfl ?_; intro w2 p2; have P2 := hid (show Put c #[.slice (some ⟨g, 0, none⟩) K.l.length n, .int .i64 (K.commits + 1)] 136 _ w2 from p2); clear p2; obtain ⟨d0, d1⟩ := cells2 P2.out.at_; clear d0) | (go_at_call 79; refine (HA.out _ P2.out).mono ?_; rintro e w3 ⟨rfl, rfl⟩) | (refine wpList_store1 rfl 3 (.tmp 27) (.const (.int .i64 1)) rfl g o rfl cur 140 (.int .i64 1) rfl (by kernel_rfl) (P2.out.keep HH.out.2.2.2.2.2.1 HH.out.2.2.2.2.1) hk1.out.1 rfl ?_; intro w4 p4; have P4 := hid p4; clear p4) | (refine wpList_store1 rfl 3 (.tmp 29) (.tmp 25) rfl g (o + 2) rfl _ 140 (.int .i64 (K.commits + 1)) rfl (by kernel_rfl) P4.out.at_ hk1.out.2 rfl ?_; intro w5 p5; have P5 := hid p5; clear p5))
 go_ret
 obtain ⟨h, h1, h2, hgT, h4, hg, hko, hset1, hset2⟩ := HH.out
 have o2 := P2.out.fr.owns h2 (fun k hk e => by obtain rfl : g = k := Option.some.inj hk; exact h4 e)
 have hg2 := P2.out.keep hg h4
 have o4 := owns_setN o2 hg2 P4.out
 have o5 := owns_setN o4 P4.out.at_ P5.out
 rw [hset1, hset2] at o5
 have hF : Fr T w w5 := ((P2.out.fr.mono (fun k _ e => by subst e; exact h.root)).thenS (P4.out.fr.mono (fun k _ e => by subst e; exact hgT))).thenS (P5.out.fr.mono (fun k _ e => by subst e; exact hgT))
 refine ⟨rfl, ?_, hF⟩
 rw [HK.out]
 refine ⟨⟨_, P5.out.keep (P4.out.keep P2.out.at_ (fun e => h4 e.symm)) (fun e => h4 e.symm), by simpa using o5, fun k hk => ?_⟩, h.root, fun k hk => Nat.lt_of_lt_of_le (h.bound k hk) hF.size, ?_⟩
 ·obtain rfl : g = k := Option.some.inj hk
  exact ⟨hgT, h4⟩
 ·have := h.small
  simp
  omega
end Go.Proofs.YthadcdoepoglkaaGreatDoor
namespace Go.Proofs.YthadcdoepoglkaaGreatDoor
open Go.RowKit Go.Lig
theorem neq_same (w0 : World) (g o : Nat) : ∀ a : Agr [g] w0, (binOp .neq 137 (.pointer (some ⟨g, o, none⟩)) (.pointer (some ⟨g, o, none⟩))).run Tryz.prog a.val = .ok (.bool false) a.val := fun a => by
 obtain ⟨j, hj, _⟩ := infoTx
 have h : ∀ d : Nat, (Op.equalIn (d + 1) 137 (.pointer (some ⟨g, o, none⟩)) (.pointer (some ⟨g, o, none⟩))).run Tryz.prog a.val = .ok true a.val := fun d => by
  simp [Op.equalIn, run_underlying Tryz.underlying137, sizeOf, typeInfo, hj, run_sameAddr_same]
 simp only [binOp]
 simp [Op.equal, Op.maxDepth, h 9999]
theorem neq_other (w0 : World) (g o1 o2 : Nat) (hne : o1 ≠ o2) {cur : Array Value} {ty : TypeId} (hg : w0.heap[g]? = some (.cells cur ty (0, 0))) : ∀ a : Agr [g] w0, (binOp .neq 137 (.pointer (some ⟨g, o1, none⟩)) (.pointer (some ⟨g, o2, none⟩))).run Tryz.prog a.val = .ok (.bool true) a.val := fun a => by
 obtain ⟨j, hj, hs⟩ := infoTx
 have hb := heap_agr a hg (by simp)
 have hsz : j.size ≠ 0 := by omega
 have hn : (⟨g, o1, none⟩ : Addr) ≠ ⟨g, o2, none⟩ := fun e => hne (by injection e)
 have h : ∀ d : Nat, (Op.equalIn (d + 1) 137 (.pointer (some ⟨g, o1, none⟩)) (.pointer (some ⟨g, o2, none⟩))).run Tryz.prog a.val = .ok false a.val := fun d => by
  simp [Op.equalIn, run_underlying Tryz.underlying137, sizeOf, typeInfo, hj, hsz, run_sameAddr_other a.val hn hb hb]
 simp only [binOp]
 simp [Op.equal, Op.maxDepth, h 9999]
set_option maxHeartbeats 1000000 in
theorem clashes_none (w : World) (c g : Nat) (K : Ck) (h : ClkRow w c g K) (hs : K.l.length ≤ 1000000) (t b : Int) (hn : K.tx t = none ∨ K.tx b = none) :
  Calls Tryz.prog 184 #[.pointer (some ⟨c, 0, none⟩), .int .i64 t, .int .i64 b] w fun e w' => e = .returned (.bool false) ∧ Fr No w w' := by
 have HX := hid (clkat_any w c g K h hs t)
 have HY := hid (clkat_any w c g K h hs b)
 cases hx : K.tx t with
 | none =>
  rw [atV_none hx] at HX
  cases hy : K.tx b with
  | none =>
   rw [atV_none hy] at HY
   clear h hx hy hn
   go_enter Tryz.func184, Tryz.ntmps184
   go_wp2_with fail
   refine (HX.out).mono ?_
   rintro e w' ⟨rfl, rfl⟩
   go_wp2_with fail
   refine (HY.out).mono ?_
   rintro e w' ⟨rfl, rfl⟩
   go_wp2_with fail
   refine wp_region_sched (by kernel_rfl) 37 [] [0, 1, 2, 3, 4, 5, 6, 7, 8, 9, 10, 11, 12, 13, 14, 15, 16, 17, 18, 19, 20, 21, 22, 23, 24, 25, 26, 27, 28, 29, 30, 31, 32, 33, 34, 35, 36] (AgC [g] w.drew) (by kernel_rfl) (AgC.refl _ _) ?_
   simp only [List.map_cons, List.map_nil, List.contains_nil, nth_zero, nth_succ]
   repeat (refine sched_quiet (fun K hK => ?_); go_simp; refine hK _ ?_; clear hK K)
   refine sched_nil ?_
   go_wp2_with fail
   go_ret
   exact ⟨rfl, (Fr.refl No w).drew⟩
  | some y =>
   rw [atV_some hy] at HY
   generalize (b - 1).toNat * 3 = o2 at *
   clear h hx hy hn
   go_enter Tryz.func184, Tryz.ntmps184
   go_wp2_with fail
   refine (HX.out).mono ?_
   rintro e w' ⟨rfl, rfl⟩
   go_wp2_with fail
   refine (HY.out).mono ?_
   rintro e w' ⟨rfl, rfl⟩
   go_wp2_with fail
   refine wp_region_sched (by kernel_rfl) 37 [] [0, 1, 2, 3, 4, 5, 6, 7, 8, 9, 10, 11, 12, 13, 14, 15, 16, 17, 18, 19, 20, 21, 22, 23, 24, 25, 26, 27, 28, 29, 30, 31, 32, 33, 34, 35, 36] (AgC [g] w.drew) (by kernel_rfl) (AgC.refl _ _) ?_
   simp only [List.map_cons, List.map_nil, List.contains_nil, nth_zero, nth_succ]
   repeat (refine sched_quiet (fun K hK => ?_); go_simp; refine hK _ ?_; clear hK K)
   refine sched_nil ?_
   go_wp2_with fail
   go_ret
   exact ⟨rfl, (Fr.refl No w).drew⟩
 | some x =>
  rw [atV_some hx] at HX
  cases hy : K.tx b with
  | none =>
   rw [atV_none hy] at HY
   generalize (t - 1).toNat * 3 = o1 at *
   clear h hx hy hn
   go_enter Tryz.func184, Tryz.ntmps184
   go_wp2_with fail
   refine (HX.out).mono ?_
   rintro e w' ⟨rfl, rfl⟩
   go_wp2_with fail
   refine (HY.out).mono ?_
   rintro e w' ⟨rfl, rfl⟩
   go_wp2_with fail
   refine wp_region_sched (by kernel_rfl) 37 [] [0, 1, 2, 3, 4, 5, 6, 7, 8, 9, 10, 11, 12, 13, 14, 15, 16, 17, 18, 19, 20, 21, 22, 23, 24, 25, 26, 27, 28, 29, 30, 31, 32, 33, 34, 35, 36] (AgC [g] w.drew) (by kernel_rfl) (AgC.refl _ _) ?_
   simp only [List.map_cons, List.map_nil, List.contains_nil, nth_zero, nth_succ]
   repeat (refine sched_quiet (fun K hK => ?_); go_simp; refine hK _ ?_; clear hK K)
   refine sched_nil ?_
   go_wp2_with fail
   go_ret
   exact ⟨rfl, (Fr.refl No w).drew⟩
  | some y => rw [hx, hy] at hn; rcases hn with h0 | h0 <;> cases h0
set_option maxHeartbeats 1000000 in
theorem clashes_self (w : World) (c g : Nat) (K : Ck) (h : ClkRow w c g K) (hs : K.l.length ≤ 1000000) (t : Int) (x : Tx) (hx : K.tx t = some x) :
  Calls Tryz.prog 184 #[.pointer (some ⟨c, 0, none⟩), .int .i64 t, .int .i64 t] w fun e w' => e = .returned (.bool false) ∧ Fr No w w' := by
 have HX := hid (clkat_any w c g K h hs t)
 have HY := hid (clkat_any w c g K h hs t)
 rw [atV_some hx] at HX HY
 generalize (t - 1).toNat * 3 = o1 at *
 have hq := neq_same w.drew g o1
 clear h hx
 go_enter Tryz.func184, Tryz.ntmps184
 go_wp2_with fail
 refine (HX.out).mono ?_
 rintro e w' ⟨rfl, rfl⟩
 go_wp2_with fail
 refine (HY.out).mono ?_
 rintro e w' ⟨rfl, rfl⟩
 go_wp2_with fail
 refine wp_region_sched (by kernel_rfl) 37 [] [0, 1, 2, 3, 4, 5, 6, 7, 8, 9, 10, 11, 12, 13, 14, 15, 16, 17, 18, 19, 20, 21, 22, 23, 24, 25, 26, 27, 28, 29, 30, 31, 32, 33, 34, 35, 36] (AgC [g] w.drew) (by kernel_rfl) (AgC.refl _ _) ?_
 simp only [List.map_cons, List.map_nil, List.contains_nil, nth_zero, nth_succ]
 repeat (refine sched_quiet (fun K hK => ?_); go_simp; refine hK _ ?_; clear hK K)
 refine sched_nil ?_
 go_wp2_with fail
 go_ret
 exact ⟨rfl, (Fr.refl No w).drew⟩
set_option maxHeartbeats 1000000 in
theorem clashes_other (w : World) (c g : Nat) (K : Ck) (h : ClkRow w c g K) (hs : K.l.length ≤ 1000000) (t b : Int) (x y : Tx) (hx : K.tx t = some x) (hy : K.tx b = some y) (hne : t ≠ b) (r : Bool) (hr : (y.state == 0 || (y.state == 1 && decide (x.mark < y.commit))) = r) :
  Calls Tryz.prog 184 #[.pointer (some ⟨c, 0, none⟩), .int .i64 t, .int .i64 b] w fun e w' => e = .returned (.bool r) ∧ Fr No w w' := by
 have HX := hid (clkat_any w c g K h hs t)
 have HY := hid (clkat_any w c g K h hs b)
 rw [atV_some hx] at HX
 rw [atV_some hy] at HY
 obtain ⟨cur, hg⟩ := h.blk (by have := (Ck.tx_some hx).2.1; omega)
 have hq := neq_other w.drew g _ _ (off_ne hx hy hne) hg
 obtain ⟨x0, x1, x2⟩ := h.cell hx
 obtain ⟨y0, y1, y2⟩ := h.cell hy
 generalize (t - 1).toNat * 3 = o1 at *
 generalize (b - 1).toNat * 3 = o2 at *
 clear h hx hy hne hg x0 x2 y1
 by_cases h0 : y.state = 0
 ·have n0 : ((y.state : Int) == 0) = true := by rw [beq_iff_eq]; exact h0
  have hr' : r = true := by rw [← hr, n0]; rfl
  subst hr'
  clear hr h0
  go_enter Tryz.func184, Tryz.ntmps184
  go_wp2_with fail
  refine (HX.out).mono ?_
  rintro e w' ⟨rfl, rfl⟩
  go_wp2_with fail
  refine (HY.out).mono ?_
  rintro e w' ⟨rfl, rfl⟩
  go_wp2_with fail
  refine wp_region_sched (by kernel_rfl) 37 [] [0, 1, 2, 3, 4, 5, 6, 7, 8, 9, 10, 11, 12, 13, 14, 15, 16, 17, 18, 19, 20, 21, 22, 23, 24, 25, 26, 27, 28, 29, 30, 31, 32, 33, 34, 35, 36] (AgC [g] w.drew) (by kernel_rfl) (AgC.refl _ _) ?_
  simp only [List.map_cons, List.map_nil, List.contains_nil, nth_zero, nth_succ]
  repeat (refine sched_quiet (fun K hK => ?_); go_simp; refine hK _ ?_; clear hK K)
  refine sched_nil ?_
  go_wp2_with fail
  go_ret
  exact ⟨rfl, (Fr.refl No w).drew⟩
 ·have n0 : ((y.state : Int) == 0) = false := by rw [beq_eq_false_iff_ne]; exact h0
  by_cases h1 : y.state = 1
  ·have n1 : ((y.state : Int) == 1) = true := by rw [beq_iff_eq]; exact h1
   by_cases h2 : x.mark < y.commit
   ·have hr' : r = true := by rw [← hr, n0, n1, decide_eq_true h2]; rfl
    subst hr'
    clear hr h1 h0
    go_enter Tryz.func184, Tryz.ntmps184
    go_wp2_with fail
    refine (HX.out).mono ?_
    rintro e w' ⟨rfl, rfl⟩
    go_wp2_with fail
    refine (HY.out).mono ?_
    rintro e w' ⟨rfl, rfl⟩
    go_wp2_with fail
    refine wp_region_sched (by kernel_rfl) 37 [] [0, 1, 2, 3, 4, 5, 6, 7, 8, 9, 10, 11, 12, 13, 14, 15, 16, 17, 18, 19, 20, 21, 22, 23, 24, 25, 26, 27, 28, 29, 30, 31, 32, 33, 34, 35, 36] (AgC [g] w.drew) (by kernel_rfl) (AgC.refl _ _) ?_
    simp only [List.map_cons, List.map_nil, List.contains_nil, nth_zero, nth_succ]
    repeat (refine sched_quiet (fun K hK => ?_); go_simp; refine hK _ ?_; clear hK K)
    refine sched_nil ?_
    go_wp2_with fail
    go_ret
    exact ⟨rfl, (Fr.refl No w).drew⟩
   ·have h2f : decide (x.mark < y.commit) = false := decide_eq_false h2
    have hr' : r = false := by rw [← hr, n0, n1, h2f]; rfl
    subst hr'
    clear hr h1 h0
    go_enter Tryz.func184, Tryz.ntmps184
    go_wp2_with fail
    refine (HX.out).mono ?_
    rintro e w' ⟨rfl, rfl⟩
    go_wp2_with fail
    refine (HY.out).mono ?_
    rintro e w' ⟨rfl, rfl⟩
    go_wp2_with fail
    refine wp_region_sched (by kernel_rfl) 37 [] [0, 1, 2, 3, 4, 5, 6, 7, 8, 9, 10, 11, 12, 13, 14, 15, 16, 17, 18, 19, 20, 21, 22, 23, 24, 25, 26, 27, 28, 29, 30, 31, 32, 33, 34, 35, 36] (AgC [g] w.drew) (by kernel_rfl) (AgC.refl _ _) ?_
    simp only [List.map_cons, List.map_nil, List.contains_nil, nth_zero, nth_succ]
    repeat (refine sched_quiet (fun K hK => ?_); go_simp; refine hK _ ?_; clear hK K)
    refine sched_nil ?_
    go_wp2_with fail
    go_ret
    exact ⟨rfl, (Fr.refl No w).drew⟩
  ·have n1 : ((y.state : Int) == 1) = false := by rw [beq_eq_false_iff_ne]; exact h1
   have hr' : r = false := by rw [← hr, n0, n1]; rfl
   subst hr'
   clear hr h1 h0
   go_enter Tryz.func184, Tryz.ntmps184
   go_wp2_with fail
   refine (HX.out).mono ?_
   rintro e w' ⟨rfl, rfl⟩
   go_wp2_with fail
   refine (HY.out).mono ?_
   rintro e w' ⟨rfl, rfl⟩
   go_wp2_with fail
   refine wp_region_sched (by kernel_rfl) 37 [] [0, 1, 2, 3, 4, 5, 6, 7, 8, 9, 10, 11, 12, 13, 14, 15, 16, 17, 18, 19, 20, 21, 22, 23, 24, 25, 26, 27, 28, 29, 30, 31, 32, 33, 34, 35, 36] (AgC [g] w.drew) (by kernel_rfl) (AgC.refl _ _) ?_
   simp only [List.map_cons, List.map_nil, List.contains_nil, nth_zero, nth_succ]
   repeat (refine sched_quiet (fun K hK => ?_); go_simp; refine hK _ ?_; clear hK K)
   refine sched_nil ?_
   go_wp2_with fail
   go_ret
   exact ⟨rfl, (Fr.refl No w).drew⟩
theorem clashes_any (w : World) (c g : Nat) (K : Ck) (h : ClkRow w c g K) (hs : K.l.length ≤ 1000000) (t b : Int) :
  Calls Tryz.prog 184 #[.pointer (some ⟨c, 0, none⟩), .int .i64 t, .int .i64 b] w fun e w' => e = .returned (.bool (K.clashes t b)) ∧ Fr No w w' := by
 cases hx : K.tx t with
 | none =>
  have e : K.clashes t b = false := by unfold Ck.clashes; rw [hx]
  rw [e]
  exact clashes_none w c g K h hs t b (.inl hx)
 | some x =>
  cases hy : K.tx b with
  | none =>
   have e : K.clashes t b = false := by unfold Ck.clashes; rw [hx, hy]
   rw [e]
   exact clashes_none w c g K h hs t b (.inr hy)
  | some y =>
   by_cases hne : t = b
   ·subst hne
    have e : K.clashes t t = false := by unfold Ck.clashes; rw [hx]; simp
    rw [e]
    exact clashes_self w c g K h hs t x hx
   ·refine clashes_other w c g K h hs t b x y hx hy hne _ ?_
    unfold Ck.clashes
    rw [hx, hy]
    have : (t == b) = false := beq_eq_false_iff_ne.2 hne
    simp [this]
end Go.Proofs.YthadcdoepoglkaaGreatDoor
