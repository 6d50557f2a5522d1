/- The cell: last (a range over slices.Backward). -/
import Derived.Test.YtofjbigojbnmfaaGreatDoorCellB
namespace Go.Proofs.YtofjbigojbnmfaaGreatDoor
open Go.RowKit Go.Lig Go.Shelf

attribute [local go_sem] Oper.semAt_some
theorem bw_any (w : World) (a : Option Addr) (n c : Nat) : Calls Tryz.prog 162 #[.slice a n c] w fun e w' =>
    e = .returned (.func (.func 198) #[] #[.pointer (some ⟨w.heap.size, 0, none⟩)]) ∧ w' = w.alloc (.cells #[.slice a n c] 139) := by
  go_enter Tryz.func162, Tryz.ntmps162
  go_wp2
  go_ret
  exact ⟨rfl, rfl⟩
theorem _root_.Go.Lig.Fr.below' {w w' : World} {B : Nat} (h : Fr No w w') (hB : B ≤ w.heap.size) : Below B w w' := h.below hB (fun _ e => e.elim)
theorem _root_.Go.Lig.Fr.others {w w' : World} (h : Fr No w w') : KeepsOthers w w' := ⟨h.size, fun _ _ hk _ => h.keep hk id⟩
/-- the iterator's contract, as the loop's law takes it -/
theorem bw_stops (n : Nat) (hn : 1 ≤ n) (Bs n₀ g cap : Nat) (a : Option Addr) (L : List (Ver NodeV)) (hs : L.length ≤ 1000000) (ha : 0 < L.length → a = some ⟨g, 0, none⟩) (hb : g < n₀) (w : World) (hBl : Bs < n₀) (hn₀ : n₀ ≤ w.heap.size)
    (hBs : w.cell? ⟨Bs, 0, none⟩ = some (.slice a L.length cap)) (hc : ∀ j y, L[j]? = some y → NcAt w g j y) :
    SeqStopsK Fence.wide n Tryz.prog 198 #[.pointer (some ⟨Bs, 0, none⟩)] encN (Below n₀) (fun ys => ys = upto (bwf L) L.length) (fun pre => ∃ k, k ≤ L.length ∧ pre = upto (bwf L) k) L.length w := fun l J Jx W hW _ _ hY h0 => by
  have hW' : Below n₀ w W := hW.mono hn₀
  have k0 := hW'.cell (p := ⟨Bs, 0, none⟩) hBl
  refine bw1_in Fence.wide n trivial rfl hn l Bs n₀ g cap a L hs ha hb J Jx hY W hBl (k0.trans hBs) (fun j y hy => ?_) h0
  obtain ⟨y0, y1, y2, y3⟩ := hc j y hy
  exact ⟨(hW'.cell (p := ⟨g, j * 4, none⟩) hb).trans y0, (hW'.cell (p := ⟨g, j * 4 + 1, none⟩) hb).trans y1, (hW'.cell (p := ⟨g, j * 4 + 2, none⟩) hb).trans y2, (hW'.cell (p := ⟨g, j * 4 + 3, none⟩) hb).trans y3⟩
theorem cells_own {β : Type} (B : Nat) (f : β → Obj) (hf : ∀ s, (f s).isCells = true) : Own (fun s W => W.heap[B]? = some (f s)) := fun s X Y row hs hg hr => by
  refine (hg.block B (lt_of_block hs) (fun e => ?_)).trans hs
  obtain ⟨o, ho, hc⟩ := hr B e.symm
  rw [hs] at ho
  cases ho
  rw [hf] at hc
  cases hc
/-- what is told of a list that ends, of one that goes on -/
theorem lastOf_append {α : Type} (m : Int → Bool) (l r : List (Ver α)) (h : ∀ y ∈ l, m y.by_ = false) : lastOf m (l ++ r) = lastOf m r := by
  induction l with
  | nil => rfl
  | cons y l ih =>
    rw [List.cons_append, lastOf, h y (List.mem_cons_self ..), if_neg (by simp)]
    exact ih (fun z hz => h z (List.mem_cons_of_mem _ hz))
theorem upto_bw (L : List (Ver NodeV)) : (upto (bwf L) L.length).map (·.2) = L.reverse := by
  apply List.ext_getElem
  · simp [upto]
  · intro i h1 h2
    have hi : i < L.length := by simpa [upto] using h1
    simp [upto, bwf, List.getElem_reverse]
    rw [List.getElem?_eq_getElem (by omega)]
    rfl
theorem upto_take (L : List (Ver NodeV)) (k : Nat) (hk : k ≤ L.length) : (upto (bwf L) k).map (·.2) = L.reverse.take k := by
  rw [← upto_bw L, ← List.map_take]
  unfold upto
  rw [← List.map_take, List.take_range, Nat.min_eq_left hk]
def optN : Option NodeV → Value
  | some v => .agg #[.slice v.l.a v.l.n v.l.c, .slice v.p.a v.p.n v.p.c]
  | none => .agg #[.slice none 0 0, .slice none 0 0]
theorem end_cells (W : World) (b4 b5 : Nat) (hne : b4 ≠ b5) (u v q a b c : Value) (tN tB : TypeId) (h4 : W.heap[b4]? = some (.cells #[u, v] tN (0, 0))) (h5 : W.heap[b5]? = some (.cells #[q] tB (0, 0))) :
    (((W.setCell ⟨b4, 0, none⟩ a).setCell ⟨b4, 1, none⟩ b).setCell ⟨b5, 0, none⟩ c).heap[b4]? = some (.cells #[a, b] tN (0, 0)) ∧ (((W.setCell ⟨b4, 0, none⟩ a).setCell ⟨b4, 1, none⟩ b).setCell ⟨b5, 0, none⟩ c).heap[b5]? = some (.cells #[c] tB (0, 0)) ∧
      Fr (fun k => k = b4 ∨ k = b5) W (((W.setCell ⟨b4, 0, none⟩ a).setCell ⟨b4, 1, none⟩ b).setCell ⟨b5, 0, none⟩ c) ∧ KeepsOthers W (((W.setCell ⟨b4, 0, none⟩ a).setCell ⟨b4, 1, none⟩ b).setCell ⟨b5, 0, none⟩ c) := by
  refine ⟨?_, ?_, ?_, ((KeepsOthers.setCell _ _ _).trans (KeepsOthers.setCell _ _ _)).trans (KeepsOthers.setCell _ _ _)⟩
  · rw [hset_ne (show b4 ≠ b5 from hne)]
    exact hset (hset h4)
  · have e5 : ((W.setCell ⟨b4, 0, none⟩ a).setCell ⟨b4, 1, none⟩ b).heap[b5]? = some (.cells #[q] tB (0, 0)) := by
      rw [hset_ne (show b5 ≠ b4 from fun e => hne e.symm), hset_ne (show b5 ≠ b4 from fun e => hne e.symm)]
      exact h5
    exact hset e5
  · exact (((Fr.refl _ W).setCell (p := ⟨b4, 0, none⟩) a (fun _ => .inl rfl)).setCell (p := ⟨b4, 1, none⟩) b (fun _ => .inl rfl)).setCell (p := ⟨b5, 0, none⟩) c (fun _ => .inr rfl)
set_option maxRecDepth 100000 in
set_option maxHeartbeats 4000000 in
theorem last_any (w : World) (x g : Nat) (L : List (Ver NodeV)) (h : CelRow w x g L) (hs : L.length ≤ 1000000) (cf : Nat) (clb : Array Value) (m : Int → Bool) (hcf : ∀ args w, (callFunc cf args).run Tryz.prog w = .ok (.enter cf args) w)
    (hm : ∀ (W : World) (b : Int), Below w.heap.size w W → Calls Tryz.prog cf (#[.int .i64 b] ++ clb) W fun e W' => e = .returned (.bool (m b)) ∧ Fr No W W') :
    Calls Tryz.prog 115 #[.pointer (some ⟨x, 0, none⟩), .func (.func cf) #[] clb] w fun e w' => e = .returned (.tuple #[optN (lastOf m L.reverse), .bool (lastOf m L.reverse).isSome]) ∧ Fr No w w' := by
  obtain ⟨a, cap, h1, h2, h3, h4⟩ := id h.ex
  have hx0 := cells1 h1
  have hxl := lt_of_block h1
  obtain ⟨g0, hg0, hgl⟩ : ∃ g0, (0 < L.length → a = some ⟨g0, 0, none⟩ ∧ g0 = g) ∧ g0 < w.heap.size := by
    by_cases hl : 0 < L.length
    · obtain rfl := h3 hl
      obtain ⟨g', cur, e', -, hg, -⟩ := owns_at h2 hl
      have eg : g = g' := by simpa using e'
      subst eg
      exact ⟨g, fun _ => ⟨rfl, rfl⟩, lt_of_block hg⟩
    · exact ⟨x, fun e => absurd e hl, hxl⟩
  have HC := hid (show ∀ j y, L[j]? = some y → NcAt w g0 j y from fun j y hy => by
    have := (List.getElem?_eq_some_iff.1 hy).1
    rw [(hg0 (by omega)).2]
    exact h.cell hy)
  have HG := hid (show 0 < L.length → a = some ⟨g0, 0, none⟩ from fun e => (hg0 e).1)
  have HM := hid hm
  have HCF := hid hcf
  clear hcf h h1 h2 h3 h4 hg0 hm
  have hx3 : (((w.alloc (.cells #[.func (.func cf) #[] clb] 75)).alloc (.cells #[.slice none 0 0, .slice none 0 0] 32)).alloc (.cells #[.bool false] 4)).cell? ⟨x, 0, none⟩ = some (.slice a L.length cap) := (World.cell?_of_block (((((Fr.refl No w).alloc _).alloc _).alloc _).block x hxl id)).trans hx0
  refine (callsIn_wide (n := 6)).1 ?_
  refine callsIn_of_wp_marks Tryz.func115 rfl trivial ?_ rfl
  simp only [Tryz.ntmps115, List.size_toArray, List.length_cons, List.length_nil, Nat.reduceAdd, Nat.reduceSub, Array.replicate_succ, Array.replicate_zero, List.push_toArray, List.append_toArray, List.nil_append, List.cons_append]
  gi_wp2_with (refine ⟨trivial, ?_⟩; gi_at_call 162; refine (callsIn_wide.2 (bw_any _ _ _ _)).mono ?_; rintro e w' ⟨rfl, rfl⟩)
  obtain ⟨b3, b4, b5, bs⟩ := heap4 w (.cells #[.func (.func cf) #[] clb] 75) (.cells #[.slice none 0 0, .slice none 0 0] 32) (.cells #[.bool false] 4) (.cells #[.slice a L.length cap] 139)
  have hF0 : Fr No w ((((w.alloc (.cells #[.func (.func cf) #[] clb] 75)).alloc (.cells #[.slice none 0 0, .slice none 0 0] 32)).alloc (.cells #[.bool false] 4)).alloc (.cells #[.slice a L.length cap] 139)) := ((((Fr.refl No w).alloc _).alloc _).alloc _).alloc _
  have hsz : ((((w.alloc (.cells #[.func (.func cf) #[] clb] 75)).alloc (.cells #[.slice none 0 0, .slice none 0 0] 32)).alloc (.cells #[.bool false] 4)).alloc (.cells #[.slice a L.length cap] 139)).heap.size = w.heap.size + 4 := by simp
  generalize hW0 : ((((w.alloc (.cells #[.func (.func cf) #[] clb] 75)).alloc (.cells #[.slice none 0 0, .slice none 0 0] 32)).alloc (.cells #[.bool false] 4)).alloc (.cells #[.slice a L.length cap] 139)) = W0 at *
  clear hW0 hx3 hx0
  have HF0 := hid hF0
  have hNc : ∀ j y, L[j]? = some y → NcAt W0 g0 j y := fun j y hy => by
    obtain ⟨y0, y1, y2, y3⟩ := HC.out j y hy
    have hb := hF0.block g0 hgl id
    exact ⟨(World.cell?_of_block hb).trans y0, (World.cell?_of_block hb).trans y1, (World.cell?_of_block hb).trans y2, (World.cell?_of_block hb).trans y3⟩
  refine wpIn_rangeFunc_ownH rfl (by decide) (gf := 198) (lb := #[.pointer (some ⟨w.heap.size + 1 + 1 + 1, 0, none⟩)]) rfl trivial (enters_of Tryz.func198 (by kernel_rfl) rfl)
    (bw_stops 5 (by decide) (w.heap.size + 1 + 1 + 1) W0.heap.size g0 cap a L hs HG.out (by omega) W0 (by omega) (Nat.le_refl _) (cells1 bs) hNc) belowK_t (belowK_b (Nat.le_refl _)) (Below.refl _ _) (fun _ => rfl)
    (fun pre W => (∀ z ∈ pre, m z.2.by_ = false) ∧ Below W0.heap.size W0 W)
    (fun c pre W => (c = .ret ∧ ∃ r : Option NodeV, (∀ rest, lastOf m (pre.map (·.2) ++ rest) = r) ∧ W.heap[w.heap.size + 1]? = some (.cells (optN r).cells 32 (0, 0)) ∧ W.heap[w.heap.size + 1 + 1]? = some (.cells #[.bool r.isSome] 4 (0, 0))) ∧ Below w.heap.size w W)
    (OwnFrom.and (ownFrom_pure _ _) (ownFrom_below (Nat.le_refl _) (Nat.le_refl _)))
    (fun c => OwnFrom.and (fun s X Y row hx hg hr => by
      obtain ⟨e, r, h1, h2, h3⟩ := hx
      exact ⟨e, r, h1, (cells_own (β := Unit) _ (fun _ => _) (fun _ => rfl)).from _ () X Y row h2 hg hr, (cells_own (β := Unit) _ (fun _ => _) (fun _ => rfl)).from _ () X Y row h3 hg hr⟩) (ownFrom_below (Nat.le_refl _) (by omega)))
    ⟨by simp, Below.refl _ _⟩
    (fun x' a' W => ∃ Bx, W0.heap.size ≤ Bx ∧ W.heap[Bx]? = some (.cells #[.int .i64 x'.2.by_, .slice x'.2.v.l.a x'.2.v.l.n x'.2.v.l.c, .slice x'.2.v.p.a x'.2.v.p.n x'.2.v.p.c, .bool x'.2.gone] 142 (0, 0)) ∧ a' = { tmps := #[.pointer (some ⟨x, 0, none⟩), .func (.func cf) #[] clb, undef, .pointer (some ⟨w.heap.size, 0, none⟩), .pointer (some ⟨w.heap.size + 1, 0, none⟩), .pointer (some ⟨w.heap.size + 1 + 1, 0, none⟩), undef, .pointer (some ⟨Bx, 0, none⟩), .pointer (some ⟨x, 0, none⟩), .bool false, undef, .pointer (some ⟨x, 0, none⟩), .pointer (some ⟨x, 0, none⟩), .pointer (some ⟨x, 0, none⟩), .slice a L.length cap, .func (.func 198) #[] #[.pointer (some ⟨w.heap.size + 1 + 1 + 1, 0, none⟩)], .int .i64 x'.1, .agg #[.int .i64 x'.2.by_, .slice x'.2.v.l.a x'.2.v.l.n x'.2.v.l.c, .slice x'.2.v.p.a x'.2.v.p.n x'.2.v.p.c, .bool x'.2.gone], undef, undef, undef, undef, undef, undef, undef, undef, undef, undef, undef], defers := [] })
    (fun x' a' s X Y row hx hg hr => by
      obtain ⟨Bx, e1, e2, e3⟩ := hx
      exact ⟨Bx, e1, (cells_own (β := Unit) _ (fun _ => _) (fun _ => rfl)).from _ () X Y row e2 hg hr, e3⟩)
    ?assign ?body ?done ?stop
  case assign =>
    rintro l pre x' W K ⟨hp, hB⟩ hK
    have HK := hid (⟨hp, hB, hK⟩ : _ ∧ _ ∧ _)
    clear hp hB hK
    dsimp only [encN]
    gi_wp2
    exact HK.out.2.2 _ _ ((KeepsOthers.alloc _ _).from _) ((Below.refl _ W).alloc HK.out.2.1.size _) ⟨HK.out.1, HK.out.2.1.alloc HK.out.2.1.size _⟩ ⟨W.heap.size, HK.out.2.1.size, heap1 _ _, rfl⟩
  case body =>
    rintro l pre x' a' W hl ⟨r0, hr0⟩ ⟨hp, hB⟩ ⟨Bx, hBx, bX, rfl⟩ hlt
    have c3 := cells1 ((hB.block w.heap.size (by omega)).trans b3)
    have c4 := (hB.block (w.heap.size + 1) (by omega)).trans b4
    have c5 := (hB.block (w.heap.size + 1 + 1) (by omega)).trans b5
    obtain ⟨x0, x1, x2, x3⟩ := cells4 bX
    have HK := hid (⟨hp, hB, hBx, bX, c4, c5⟩ : _ ∧ _ ∧ _ ∧ _ ∧ _ ∧ _)
    clear hp hB hBx bX c4 c5 b3 b4 b5 bs hNc hr0 hlt
    have hBw : Hid (Below w.heap.size w W) := hid ((HF0.out.below' (Nat.le_refl _)).trans (HK.out.2.1.mono (by omega)))
    cases hmm : m x'.2.by_ with
    | false =>
      gi_wp2_with (refine ⟨trivial, ?_⟩; rw [HCF.out, Oper.uponIn_enter]; refine ⟨fun _ => by decide, ?_⟩; refine (CallsIn.inRound l (callsIn_wide.2 (HM.out W x'.2.by_ hBw.out))).mono ?_; rintro e W' ⟨rfl, f⟩; rw [hmm]; have F := hid f; clear f)
      exact ⟨F.out.others.from _, F.out.below' HK.out.2.1.size, ⟨fun z hz => (List.mem_append.1 hz).elim (HK.out.1 z) (fun e => by rw [List.mem_singleton.1 e]; exact hmm), HK.out.2.1.trans (F.out.below' HK.out.2.1.size)⟩⟩
    | true =>
      obtain ⟨mi, ⟨yb, ⟨⟨yla, yln, ylc⟩, ⟨ypa, ypn, ypc⟩⟩, yg⟩⟩ := x'
      dsimp only at x0 x1 x2 x3 HK hmm ⊢
      cases yg with
      | true =>
        gi_wp2_with (refine ⟨trivial, ?_⟩; rw [HCF.out, Oper.uponIn_enter]; refine ⟨fun _ => by decide, ?_⟩; refine (CallsIn.inRound l (callsIn_wide.2 (HM.out W yb hBw.out))).mono ?_; rintro e W' ⟨rfl, f⟩; rw [hmm]; obtain ⟨e0, e1, e2, e3⟩ := cells4 (f.keep HK.out.2.2.2.1 id); have k4 := f.keep HK.out.2.2.2.2.1 id; have k5 := f.keep HK.out.2.2.2.2.2 id; obtain ⟨k0, k1⟩ := cells2 k4; have k6 := cells1 k5; have z4 := freeAll k4; have z5 := freeAll k5; have F := hid (⟨f, k4, k5⟩ : _ ∧ _ ∧ _); clear f k4 k5)
        obtain ⟨q4, q5, qf, qk⟩ := end_cells W' (w.heap.size + 1) (w.heap.size + 1 + 1) (by omega) _ _ _ (.slice none 0 0) (.slice none 0 0) (.bool false) _ _ F.out.2.1 F.out.2.2
        exact ⟨(F.out.1.others.trans qk).from _, ⟨rfl, none, fun rest => by rw [List.map_append, List.append_assoc, lastOf_append m _ _ (fun y hy => by obtain ⟨z, hz, rfl⟩ := List.mem_map.1 hy; exact HK.out.1 z hz)]; simp [lastOf, hmm], q4, q5⟩, (hBw.out.trans (F.out.1.below' hBw.out.size)).trans (qf.below (Nat.le_trans hBw.out.size F.out.1.size) (fun k e => by rcases e with rfl | rfl <;> omega))⟩
      | false =>
        gi_wp2_with (refine ⟨trivial, ?_⟩; rw [HCF.out, Oper.uponIn_enter]; refine ⟨fun _ => by decide, ?_⟩; refine (CallsIn.inRound l (callsIn_wide.2 (HM.out W yb hBw.out))).mono ?_; rintro e W' ⟨rfl, f⟩; rw [hmm]; obtain ⟨e0, e1, e2, e3⟩ := cells4 (f.keep HK.out.2.2.2.1 id); have k4 := f.keep HK.out.2.2.2.2.1 id; have k5 := f.keep HK.out.2.2.2.2.2 id; obtain ⟨k0, k1⟩ := cells2 k4; have k6 := cells1 k5; have z4 := freeAll k4; have z5 := freeAll k5; have F := hid (⟨f, k4, k5⟩ : _ ∧ _ ∧ _); clear f k4 k5)
        obtain ⟨q4, q5, qf, qk⟩ := end_cells W' (w.heap.size + 1) (w.heap.size + 1 + 1) (by omega) _ _ _ (.slice yla yln ylc) (.slice ypa ypn ypc) (.bool true) _ _ F.out.2.1 F.out.2.2
        exact ⟨(F.out.1.others.trans qk).from _, ⟨rfl, some ⟨⟨yla, yln, ylc⟩, ⟨ypa, ypn, ypc⟩⟩, fun rest => by rw [List.map_append, List.append_assoc, lastOf_append m _ _ (fun y hy => by obtain ⟨z, hz, rfl⟩ := List.mem_map.1 hy; exact HK.out.1 z hz)]; simp [lastOf, hmm], q4, q5⟩, (hBw.out.trans (F.out.1.below' hBw.out.size)).trans (qf.below (Nat.le_trans hBw.out.size F.out.1.size) (fun k e => by rcases e with rfl | rfl <;> omega))⟩
  case done =>
    rintro D ys W hD rfl ⟨hp, hB⟩ hK
    have c4 := (hB.block (w.heap.size + 1) (by omega)).trans b4
    have c5 := (hB.block (w.heap.size + 1 + 1) (by omega)).trans b5
    obtain ⟨k0, k1⟩ := cells2 c4
    have k6 := cells1 c5
    have z4 := freeAll c4
    have z5 := freeAll c5
    have HK := hid (⟨hp, hB, c4, c5, hK, hD⟩ : _ ∧ _ ∧ _ ∧ _ ∧ _ ∧ _)
    clear hp hB c4 c5 b3 b4 b5 bs hNc hK hD
    gi_wp2
    obtain ⟨hp, hB, c4, c5, hK, hD⟩ := HK.out
    obtain ⟨q4, q5, qf, qk⟩ := end_cells W (w.heap.size + 1) (w.heap.size + 1 + 1) (by omega) _ _ _ (.slice none 0 0) (.slice none 0 0) (.bool false) _ _ c4 c5
    have hK' := qk.same D _ hK rfl
    have hBw : Below w.heap.size w W := (HF0.out.below' (Nat.le_refl _)).trans (hB.mono (by omega))
    have hBe := hBw.trans (qf.below (B := w.heap.size) hBw.size (fun k e => by rcases e with rfl | rfl <;> omega))
    have hn : lastOf m L.reverse = none := by
      have := lastOf_append m ((upto (bwf L) L.length).map (·.2)) [] (fun y hy => by obtain ⟨z, hz, rfl⟩ := List.mem_map.1 hy; exact hp z hz)
      rw [List.append_nil, upto_bw] at this
      exact this
    rw [hn]
    refine ⟨by simp, .inl ⟨_, _, rfl, run_takeDeferred hK', ?_⟩⟩
    obtain ⟨r0, r1⟩ := cells2 ((World.putObj_heap_other (o := .deferred none) (show w.heap.size + 1 ≠ D by omega)).trans q4)
    have r2 := cells1 ((World.putObj_heap_other (o := .deferred none) (show w.heap.size + 1 + 1 ≠ D by omega)).trans q5)
    refine ⟨.tuple #[optN none, .bool false], ?_, rfl, Fr.of_below (hBe.trans (belowK_b (w := w) (Nat.le_refl _) _ D _ _ (by omega) hK' rfl rfl))⟩
    simp [results, Tryz.f115, go_sem, r0, r1, r2, optN]
  case stop =>
    rintro D c pre W hD ⟨k, hk, rfl⟩ ⟨⟨rfl, r, hr, c4, c5⟩, hB⟩ hK
    have HK := hid (⟨hr, hB, c4, c5, hK, hD⟩ : _ ∧ _ ∧ _ ∧ _ ∧ _ ∧ _)
    clear hr hB c4 c5 b3 b4 b5 bs hNc hK hD
    gi_wp2
    obtain ⟨hr, hB, c4, c5, hK, hD⟩ := HK.out
    have hn := hr (L.reverse.drop k)
    rw [upto_take L k hk, List.take_append_drop] at hn
    rw [hn]
    refine ⟨by simp, .inl ⟨_, _, rfl, run_takeDeferred hK, ?_⟩⟩
    have p4 := (World.putObj_heap_other (o := .deferred none) (show w.heap.size + 1 ≠ D by omega)).trans c4
    have r2 := cells1 ((World.putObj_heap_other (o := .deferred none) (show w.heap.size + 1 + 1 ≠ D by omega)).trans c5)
    refine ⟨.tuple #[optN r, .bool r.isSome], ?_, rfl, Fr.of_below (hB.trans (belowK_b (w := w) (Nat.le_refl _) _ D _ _ (by omega) hK rfl rfl))⟩
    cases r with
    | none =>
      obtain ⟨r0, r1⟩ := cells2 (v0 := .slice none 0 0) (v1 := .slice none 0 0) p4
      simp [results, Tryz.f115, go_sem, r0, r1, r2, optN]
    | some v =>
      obtain ⟨r0, r1⟩ := cells2 (v0 := .slice v.l.a v.l.n v.l.c) (v1 := .slice v.p.a v.p.n v.p.c) p4
      simp [results, Tryz.f115, go_sem, r0, r1, r2, optN]
end Go.Proofs.YtofjbigojbnmfaaGreatDoor
