/- A part of the proof: contracts of functions of the program, for the row's text. -/
import Derived.Test.YtfaapjcgmjjheaaGreatDoorK19
namespace Go.Lig
open Go.RowKit
/-- what was written -/
structure WrD where
  edge : Bool
  id : Int
  gone : Bool
  n : NodeD
  e : EdgeV
/-- its cells -/
structure WrV where
  edge : Bool
  id : Int
  gone : Bool
  n : NodeV
  e : EdgeV
def wrcell (h : WrV) : List Value := [.bool h.edge, .int .i64 h.id, .bool h.gone, .slice h.n.l.a h.n.l.n h.n.l.c, .slice h.n.p.a h.n.p.n h.n.p.c, .int .i64 h.e.from_, .int .i64 h.e.to_, .string h.e.type, .float .f64 h.e.w]
theorem wrcell_one {H : List WrV} : ∀ u ∈ H.flatMap wrcell, u.oneCell' = true := fun u hu => by
  obtain ⟨x, _, hx⟩ := List.mem_flatMap.1 hu
  simp only [wrcell, List.mem_cons, List.not_mem_nil, or_false] at hx
  rcases hx with rfl | rfl | rfl | rfl | rfl | rfl | rfl | rfl | rfl <;> rfl
/-- one of them, its node's blocks within J -/
structure WrIn (w : World) (J : Nat → Prop) (h : WrV) (d : WrD) : Prop where
  edge : h.edge = d.edge
  id : h.id = d.id
  gone : h.gone = d.gone
  e : h.e = d.e
  n : NodeIn w J (.slice h.n.l.a h.n.l.n h.n.l.c) (.slice h.n.p.a h.n.p.n h.n.p.c) d.n
theorem WrIn.frame {w w' : World} {J S : Nat → Prop} {h : WrV} {d : WrD} (v : WrIn w J h d) (hf : Fr S w w') (hd : ∀ k, J k → ¬ S k) : WrIn w' J h d := ⟨v.edge, v.id, v.gone, v.e, v.n.frame hf hd⟩
theorem WrIn.mono {w : World} {I J : Nat → Prop} {h : WrV} {d : WrD} (v : WrIn w I h d) (hj : ∀ k, I k → J k) : WrIn w J h d := ⟨v.edge, v.id, v.gone, v.e, v.n.mono hj⟩
theorem cells9 {w : World} {b : Nat} {t : TypeId} {fr : Nat × Nat} {v0 v1 v2 v3 v4 v5 v6 v7 v8 : Value} (h : w.heap[b]? = some (.cells #[v0, v1, v2, v3, v4, v5, v6, v7, v8] t fr)) :
    w.cell? ⟨b, 0, none⟩ = some v0 ∧ w.cell? ⟨b, 1, none⟩ = some v1 ∧ w.cell? ⟨b, 2, none⟩ = some v2 ∧ w.cell? ⟨b, 3, none⟩ = some v3 ∧ w.cell? ⟨b, 4, none⟩ = some v4 ∧ w.cell? ⟨b, 5, none⟩ = some v5 ∧ w.cell? ⟨b, 6, none⟩ = some v6 ∧ w.cell? ⟨b, 7, none⟩ = some v7 ∧ w.cell? ⟨b, 8, none⟩ = some v8 := by
  have := cellOf h
  exact ⟨this 0, this 1, this 2, this 3, this 4, this 5, this 6, this 7, this 8⟩
end Go.Lig
namespace Go.Proofs.YtfaapjcgmjjheaaGreatDoor
open Go.RowKit Go.Lig
/-- writes: their row, their nodes -/
structure WrsH (w0 w : World) (v : Value) (l : List WrD) (H : List WrV) (J : Nat → Prop) : Prop where
  len : H.length = l.length
  row : w.ownsRow 0 54 9 v l.length (H.flatMap wrcell)
  ins : ∀ (j : Nat) (h : WrV) (d : WrD), H[j]? = some h → l[j]? = some d → WrIn w J h d
  jb : ∀ k, J k → w0.heap.size ≤ k ∧ k < w.heap.size ∧ v.ownBlock ≠ some k
/-- writes in memory of their own, made since w0 -/
structure WrsO (w0 w : World) (v : Value) (l : List WrD) : Prop where
  ex : ∃ (H : List WrV) (J : Nat → Prop), WrsH w0 w v l H J
  blk : ∀ k, v.ownBlock = some k → w0.heap.size ≤ k
  fr : Fr No w0 w
theorem WrsO.nil (w : World) : WrsO w w (.slice none 0 0) [] := ⟨⟨[], fun _ => False, ⟨rfl, World.ownsRow_nil _ _ _ _, fun j h d e => by simp at e, fun _ h => h.elim⟩⟩, fun _ e => by (cases e), Fr.refl _ _⟩
theorem WrsO.next {w0 w w' : World} {v : Value} {l : List WrD} (h : WrsO w0 w v l) (hf : Fr No w w') : WrsO w0 w' v l := by
  obtain ⟨H, J, ⟨h1, h2, h3, h4⟩⟩ := h.ex
  exact ⟨⟨H, J, ⟨h1, fd_owns h2 hf, fun j x d e1 e2 => (h3 j x d e1 e2).frame hf (fun _ _ e => e), fun k hk => ⟨(h4 k hk).1, Nat.lt_of_lt_of_le (h4 k hk).2.1 hf.size, (h4 k hk).2.2⟩⟩⟩, h.blk, h.fr.thenNo hf⟩
theorem WrsO.ahead {w0 w1 w : World} {v : Value} {l : List WrD} (h : WrsO w1 w v l) (hf : Fr No w0 w1) : WrsO w0 w v l := by
  obtain ⟨H, J, ⟨h1, h2, h3, h4⟩⟩ := h.ex
  exact ⟨⟨H, J, ⟨h1, h2, h3, fun k hk => ⟨Nat.le_trans hf.size (h4 k hk).1, (h4 k hk).2⟩⟩⟩, fun k hk => Nat.le_trans hf.size (h.blk k hk), hf.thenNo h.fr⟩
theorem infoWr : (Tryz.prog.info? 54).map (fun i => (i.zero, i.size, i.bytes)) = some (some (.agg #[.bool false, .int .i64 0, .bool false, .slice none 0 0, .slice none 0 0, .int .i64 0, .int .i64 0, .string ⟨#[]⟩, .float .f64 0]), 9, 112) := by kernel_rfl
theorem built_wn (la pa : Option Addr) (ln lc pn pc : Nat) : Tryz.prog.built 54 [(3, .agg #[.slice la ln lc, .slice pa pn pc])] = some #[.bool false, .int .i64 0, .bool false, .slice la ln lc, .slice pa pn pc, .int .i64 0, .int .i64 0, .string ⟨#[]⟩, .float .f64 0] := by kernel_rfl
theorem built_we (ef et : Int) (ey : ByteArray) (ew : Nat) : Tryz.prog.built 54 [(4, .agg #[.int .i64 ef, .int .i64 et, .string ey, .float .f64 ew])] = some #[.bool false, .int .i64 0, .bool false, .slice none 0 0, .slice none 0 0, .int .i64 ef, .int .i64 et, .string ey, .float .f64 ew] := by kernel_rfl
set_option maxRecDepth 100000 in
theorem ofedge_any (w : World) (ef et : Int) (ey : ByteArray) (ew : Nat) : Calls Tryz.prog 67 #[.agg #[.int .i64 ef, .int .i64 et, .string ey, .float .f64 ew]] w fun e w' => e = .returned (.agg #[.bool false, .int .i64 0, .bool false, .slice none 0 0, .slice none 0 0, .int .i64 ef, .int .i64 et, .string ey, .float .f64 ew]) ∧ Fr No w w' := by
  obtain ⟨k1, k2⟩ := heap2 w (.cells #[.int .i64 ef, .int .i64 et, .string ey, .float .f64 ew] 43) (.cells #[.bool false, .int .i64 0, .bool false, .slice none 0 0, .slice none 0 0, .int .i64 0, .int .i64 0, .string ⟨#[]⟩, .float .f64 0] 54)
  have hf : Fr No w ((w.alloc (.cells #[.int .i64 ef, .int .i64 et, .string ey, .float .f64 ew] 43)).alloc (.cells #[.bool false, .int .i64 0, .bool false, .slice none 0 0, .slice none 0 0, .int .i64 0, .int .i64 0, .string ⟨#[]⟩, .float .f64 0] 54)) := ((Fr.refl No w).alloc _).alloc _
  obtain ⟨c0, c1, c2, c3⟩ := cells4 k1
  have HF := hid (⟨hf, k2⟩ : _ ∧ _)
  clear hf k1 k2
  go_enter Tryz.func67, Tryz.ntmps67
  go_wp2_with (first | (refine wpList_build' rfl 54 [(4, .tmp 3)] rfl [(4, .agg #[.int .i64 ef, .int .i64 et, .string ey, .float .f64 ew])] rfl _ (built_we ..) ?_) | (refine wpList_storeO rfl 54 (.tmp 2) (.tmp 4) rfl (w.heap.size + 1) 0 rfl [.bool false, .int .i64 0, .bool false, .slice none 0 0, .slice none 0 0, .int .i64 0, .int .i64 0, .string ⟨#[]⟩, .float .f64 0] 54 [.bool false, .int .i64 0, .bool false, .slice none 0 0, .slice none 0 0, .int .i64 ef, .int .i64 et, .string ey, .float .f64 ew] rfl (by kernel_rfl) HF.out.2 (by simp) (by simp [Value.oneCell']) ?_; intro w3 p3; have P3 := hid (show Put (w.heap.size + 1) #[.bool false, .int .i64 0, .bool false, .slice none 0 0, .slice none 0 0, .int .i64 ef, .int .i64 et, .string ey, .float .f64 ew] 54 _ w3 from p3); clear p3))
  obtain ⟨r0, r1, r2, r3, r4, r5, r6, r7, r8⟩ := cells9 P3.out.at_
  refine bodyPost_ret (v := .agg #[.bool false, .int .i64 0, .bool false, .slice none 0 0, .slice none 0 0, .int .i64 ef, .int .i64 et, .string ey, .float .f64 ew]) ?_ rfl ⟨rfl, HF.out.1.fresh' P3.out.fr (fun k e => by omega)⟩
  simp [results, Tryz.f67, go_sem, r0, r1, r2, r3, r4, r5, r6, r7, r8]
set_option maxRecDepth 100000 in
set_option maxHeartbeats 1000000 in
theorem ofnode_any (w : World) (la pa : Option Addr) (ln lc pn pc : Nat) (d : NodeD) (h : NodeOf w (.slice la ln lc) (.slice pa pn pc) d) (hl : d.L.length ≤ 1000000) (hp : d.Q.length ≤ 1000000) :
    Calls Tryz.prog 62 #[.agg #[.slice la ln lc, .slice pa pn pc]] w fun e w' => ∃ la' ln' lc' pa' pn' pc', e = .returned (.agg #[.bool false, .int .i64 0, .bool false, .slice la' ln' lc', .slice pa' pn' pc', .int .i64 0, .int .i64 0, .string ⟨#[]⟩, .float .f64 0]) ∧ OwnN w w' la' ln' lc' pa' pn' pc' d := by
  obtain ⟨k1, k2⟩ := heap2 w (.cells #[.slice la ln lc, .slice pa pn pc] 32) (.cells #[.bool false, .int .i64 0, .bool false, .slice none 0 0, .slice none 0 0, .int .i64 0, .int .i64 0, .string ⟨#[]⟩, .float .f64 0] 54)
  have hf : Fr No w ((w.alloc (.cells #[.slice la ln lc, .slice pa pn pc] 32)).alloc (.cells #[.bool false, .int .i64 0, .bool false, .slice none 0 0, .slice none 0 0, .int .i64 0, .int .i64 0, .string ⟨#[]⟩, .float .f64 0] 54)) := ((Fr.refl No w).alloc _).alloc _
  obtain ⟨c0, c1⟩ := cells2 k1
  have HC := hid (copied_any _ la pa ln lc pn pc d (h.frame hf) hl hp)
  have HF := hid (⟨hf, k2⟩ : _ ∧ _)
  have HZ := hid (lt_of_block k2)
  clear hf k1 k2 h hl hp
  go_enter Tryz.func62, Tryz.ntmps62
  go_wp2_with (first | (go_at_call 43; refine HC.out.mono ?_; rintro e w2 ⟨la', ln', lc', pa', pn', pc', rfl, o2⟩; have O2 := hid (⟨o2, o2.l.fr.keep HF.out.2 (fun e => e)⟩ : _ ∧ _); clear o2) | (refine wpList_build' rfl 54 [(3, .tmp 4)] rfl [(3, .agg #[.slice la' ln' lc', .slice pa' pn' pc'])] rfl _ (built_wn ..) ?_) | (refine wpList_storeO rfl 54 (.tmp 2) (.tmp 5) rfl (w.heap.size + 1) 0 rfl [.bool false, .int .i64 0, .bool false, .slice none 0 0, .slice none 0 0, .int .i64 0, .int .i64 0, .string ⟨#[]⟩, .float .f64 0] 54 [.bool false, .int .i64 0, .bool false, .slice la' ln' lc', .slice pa' pn' pc', .int .i64 0, .int .i64 0, .string ⟨#[]⟩, .float .f64 0] rfl (by kernel_rfl) O2.out.2 (by simp) (by simp [Value.oneCell']) ?_; intro w3 p3; have P3 := hid (show Put (w.heap.size + 1) #[.bool false, .int .i64 0, .bool false, .slice la' ln' lc', .slice pa' pn' pc', .int .i64 0, .int .i64 0, .string ⟨#[]⟩, .float .f64 0] 54 w2 w3 from p3); clear p3))
  obtain ⟨r0, r1, r2, r3, r4, r5, r6, r7, r8⟩ := cells9 P3.out.at_
  have hq : ∀ k, k = w.heap.size + 1 → w.heap.size ≤ k := fun k e => by omega
  have hne : ∀ {u : World} {sz : Nat} {e : TypeId} {v : Value} {n : Nat} {xs : List Value}, w.heap.size + 1 < u.heap.size → OwnR u w2 e sz v n xs → ∀ k, v.ownBlock = some k → ¬ k = w.heap.size + 1 := fun hu o k hk e => by have := o.blk k hk; omega
  have f2 := HF.out.1.thenNo O2.out.1.l.fr
  refine bodyPost_ret (v := .agg #[.bool false, .int .i64 0, .bool false, .slice la' ln' lc', .slice pa' pn' pc', .int .i64 0, .int .i64 0, .string ⟨#[]⟩, .float .f64 0]) ?_ rfl ⟨la', ln', lc', pa', pn', pc', rfl, ?_, ?_⟩
  · simp [results, Tryz.f62, go_sem, r0, r1, r2, r3, r4, r5, r6, r7, r8]
  · exact ⟨P3.out.fr.owns O2.out.1.l.row (hne HZ.out O2.out.1.l), fun j hj => Nat.le_trans HF.out.1.size (O2.out.1.l.blk j hj), f2.fresh' P3.out.fr hq⟩
  · exact ⟨P3.out.fr.owns O2.out.1.p.row (hne HZ.out O2.out.1.p), fun j hj => Nat.le_trans HF.out.1.size (O2.out.1.p.blk j hj), f2.fresh' P3.out.fr hq⟩
end Go.Proofs.YtfaapjcgmjjheaaGreatDoor

namespace Go.Proofs.YtfaapjcgmjjheaaGreatDoor
open Go.RowKit Go.Lig

theorem WrsO.app {w0 w1 w2 w3 : World} {v v' : Value} {l : List WrD} {h : WrV} {d : WrD} {cs : Array Value} {t : TypeId} {H : List WrV} {J : Nat → Prop} (hw : WrsO w0 w1 v l) (hh : WrsH w0 w1 v l H J) (p2 : New cs t w1 w2) (o : w3.ownsRow 0 54 9 v' (l.length + 1) (H.flatMap wrcell ++ wrcell h)) (f : Fr (fun k => v.ownBlock = some k) w2 w3)
    (b : ∀ k, v'.ownBlock = some k → v.ownBlock = some k ∨ w2.heap.size ≤ k) (I : Nat → Prop) (hI : ∀ k, I k → w0.heap.size ≤ k ∧ k < w1.heap.size ∧ v.ownBlock ≠ some k) (hin : WrIn w1 I h d) : WrsO w0 w3 v' (l ++ [d]) := by
  obtain ⟨h1, h2, h3, h4⟩ := hh
  have fr3 : Fr No w0 w3 := (hw.fr.thenNo p2.fr).trans f (fun k hk e => by have := hw.blk k e; omega)
  have hz := p2.fr.size
  have hz3 := f.size
  have hkeep : ∀ {J' : Nat → Prop} {x : WrV} {y : WrD}, (∀ k, J' k → v.ownBlock ≠ some k) → WrIn w1 J' x y → WrIn w3 J' x y := fun hj e => (e.frame p2.fr (fun _ _ e => e)).frame f (fun k hk e => hj k hk e)
  refine ⟨⟨H ++ [h], fun k => J k ∨ I k, ⟨by simp [h1], ?_, ?_, ?_⟩⟩, ?_, fr3⟩
  · rw [List.length_append, List.flatMap_append]
    simpa using o
  · intro j x y e1 e2
    rcases Nat.lt_or_ge j H.length with hj | hj
    · rw [List.getElem?_append_left hj] at e1
      rw [List.getElem?_append_left (by omega)] at e2
      exact (hkeep (fun k hk => (h4 k hk).2.2) (h3 j x y e1 e2)).mono (fun _ e => .inl e)
    · have hj2 : j = H.length := by
        have := (List.getElem?_eq_some_iff.1 e1).1
        simp at this
        omega
      subst hj2
      rw [List.getElem?_append_right (Nat.le_refl _), Nat.sub_self] at e1
      rw [List.getElem?_append_right (by omega), h1, Nat.sub_self] at e2
      simp only [List.getElem?_cons_zero, Option.some.injEq] at e1 e2
      subst e1 e2
      exact (hkeep (fun k hk => (hI k hk).2.2) hin).mono (fun _ e => .inr e)
  · intro k hk
    rcases hk with hk | hk
    · exact ⟨(h4 k hk).1, by have := (h4 k hk).2.1; omega, fun e => by
        rcases b k e with e1 | e1
        · exact (h4 k hk).2.2 e1
        · have := (h4 k hk).2.1; omega⟩
    · exact ⟨(hI k hk).1, by have := (hI k hk).2.1; omega, fun e => by
        rcases b k e with e1 | e1
        · exact (hI k hk).2.2 e1
        · have := (hI k hk).2.1; omega⟩
  · intro k hk
    rcases b k hk with e | e
    · exact hw.blk k e
    · have := hw.fr.size; omega
/-- what was written of the first i nodes -/
def wrsN (m : Nat → Bool) (r : Nat → Option NodeD) : Nat → List WrD
  | 0 => []
  | i + 1 => wrsN m r i ++ (if m i then [⟨false, (i : Int) + 1, (r i).isNone, (r i).getD NodeD.none, EdgeV.none⟩] else [])
def wrsE (m : Nat → Bool) (r : Nat → Option EdgeV) : Nat → List WrD
  | 0 => []
  | i + 1 => wrsE m r i ++ (if m i then [⟨false, (i : Int) + 1, (r i).isNone, NodeD.none, (r i).getD EdgeV.none⟩] else [])
theorem built_wg : Tryz.prog.built 54 [(2, .bool true)] = some #[.bool false, .int .i64 0, .bool true, .slice none 0 0, .slice none 0 0, .int .i64 0, .int .i64 0, .string ⟨#[]⟩, .float .f64 0] := by kernel_rfl
set_option maxRecDepth 100000 in
set_option maxHeartbeats 4000000 in
theorem writesn_any (w : World) (v : Value) (n : Nat) (x : Nat → Nat) (hrow : Rd w v n 1 (ptrs x n)) (hn : n ≤ 1000) (m : Nat → Bool) (r : Nat → Option NodeD) (cf1 cf2 : Nat) (clb1 clb2 : Array Value)
    (hcf1 : ∀ args w, (callFunc cf1 args).run Tryz.prog w = .ok (.enter cf1 args) w) (hcf2 : ∀ args w, (callFunc cf2 args).run Tryz.prog w = .ok (.enter cf2 args) w)
    (hm : ∀ i, i < n → ∀ W, Fr No w W → Calls Tryz.prog cf1 (#[.pointer (some ⟨x i, 0, none⟩)] ++ clb1) W fun e W' => e = .returned (.bool (m i)) ∧ Fr No W W')
    (hr : ∀ i, i < n → ∃ (la : Option Addr) (ln lc : Nat) (pa : Option Addr) (pn pc : Nat) (I : Nat → Prop), NodeIn w I (.slice la ln lc) (.slice pa pn pc) ((r i).getD NodeD.none) ∧ ∀ W, Fr No w W → Calls Tryz.prog cf2 (#[.pointer (some ⟨x i, 0, none⟩)] ++ clb2) W fun e W' => e = .returned (.tuple #[.agg #[.slice la ln lc, .slice pa pn pc], .bool (r i).isSome]) ∧ Fr No W W') :
    Calls Tryz.prog 58 #[v, .func (.func cf1) #[] clb1, .func (.func cf2) #[] clb2, .func (.func 62) #[] #[]] w fun e w' => ∃ v', e = .returned v' ∧ WrsO w w' v' (wrsN m r n) := by
  obtain ⟨va, vc, rfl, -⟩ := rd_len hrow
  have HC1 := hid hcf1
  have HC2 := hid hcf2
  have HM := hid hm
  have HR := hid hr
  have HV := hid hrow
  have HG : Hid (∀ i, wrsN m r (i + 1) = wrsN m r i ++ (if m i then [⟨false, (i : Int) + 1, (r i).isNone, (r i).getD NodeD.none, EdgeV.none⟩] else [])) := hid (fun _ => rfl)
  have HZ : Hid (wrsN m r 0 = []) := hid rfl
  generalize wrsN m r = g at *
  clear hcf1 hcf2 hm hr hrow
  go_enter Tryz.func58, Tryz.ntmps58
  go_wp2_with fail
  go_loopw [9, 17] (fun v9 vi wr => ∃ (i : Nat) (aa : Option Addr) (cc k : Nat), i ≤ n ∧ k ≤ i ∧ v9 = .slice aa k cc ∧ vi = .int .i64 (i : Int) ∧ Hid (k = (g i).length ∧ WrsO w wr (.slice aa k cc) (g i))) (fun _ vi _ => n - (intOf vi).toNat)
  case atStart => exact ⟨0, none, 0, 0, Nat.zero_le _, Nat.zero_le _, rfl, rfl, by rw [HZ.out]; rfl, by rw [HZ.out]; exact WrsO.nil _⟩
  case round =>
    obtain ⟨i, aa, cc, k, hi, hk, rfl, rfl, HO⟩ := hrel
    by_cases hlt : i < n
    · obtain ⟨vb, vo, vc', hva, hvc⟩ := HV.out.at1 (ptrs_get x n i hlt)
      obtain ⟨rfl, -, rfl⟩ := Value.slice.inj hva
      have c1 := hvc wr HO.out.2.fr
      have HMi := hid (HM.out i hlt)
      have HRi := hid (HR.out i hlt)
      have HGi := hid (HG.out i)
      have hw : wrap64 ((i : Int) + 1) = (i : Int) + 1 := by unfold wrap64; omega
      clear hva hvc
      cases hmi : m i with
      | false =>
        rw [hmi] at HMi HGi
        clear hmi
        simp only [Bool.false_eq_true, if_false, List.append_nil] at HGi
        go_wp2_with (rw [HC1.out, Oper.upon_enter]; refine (HMi.out _ HO.out.2.fr).mono ?_; rintro e w1 ⟨rfl, f1⟩; have F1 := hid f1; clear f1)
        go_roundw
        case rel => exact ⟨i + 1, aa, cc, k, by omega, by omega, rfl, by go_num, by rw [HGi.out]; exact HO.out.1, by rw [HGi.out]; exact HO.out.2.next F1.out⟩
        case measure => simp [intOf]; omega
      | true =>
        rw [hmi] at HMi HGi
        clear hmi
        simp only [if_true] at HGi
        obtain ⟨la, ln, lc, pa, pn, pc, I, hin, hrd⟩ := HRi.out
        have HIN := hid hin
        have HRR := hid hrd
        clear hin hrd
        cases hri : r i with
        | none =>
          rw [hri] at HRR HIN HGi
          dsimp only [Option.getD, Option.isSome, Option.isNone] at HRR HIN HGi
          clear hri
          go_wp2_with (first | (rw [HC1.out, Oper.upon_enter]; refine (HMi.out _ HO.out.2.fr).mono ?_; rintro e w1 ⟨rfl, f1⟩; have F1 := hid f1; clear f1) | (refine wpList_build' rfl 54 [(2, .const (.bool true))] rfl [(2, .bool true)] rfl _ built_wg ?_) | (refine wpList_allocO rfl 54 rfl _ 9 112 infoWr ?_; intro w2 p2; have P2 := hid (show New #[.bool false, .int .i64 0, .bool false, .slice none 0 0, .slice none 0 0, .int .i64 0, .int .i64 0, .string ⟨#[]⟩, .float .f64 0] 54 w1 w2 from p2); clear p2) | (refine wpList_storeO rfl 54 (.tmp 12) (.tmp 26) rfl w1.heap.size 0 rfl [.bool false, .int .i64 0, .bool false, .slice none 0 0, .slice none 0 0, .int .i64 0, .int .i64 0, .string ⟨#[]⟩, .float .f64 0] 54 [.bool false, .int .i64 0, .bool true, .slice none 0 0, .slice none 0 0, .int .i64 0, .int .i64 0, .string ⟨#[]⟩, .float .f64 0] rfl (by kernel_rfl) P2.out.at_ (by simp) (by simp [Value.oneCell']) ?_; intro w3 p3; have P3 := hid (show Put w1.heap.size #[.bool false, .int .i64 0, .bool true, .slice none 0 0, .slice none 0 0, .int .i64 0, .int .i64 0, .string ⟨#[]⟩, .float .f64 0] 54 w2 w3 from p3); clear p3) | (rw [HC2.out, Oper.upon_enter]; refine (HRR.out w3 (((HO.out.2.fr.thenNo F1.out).thenNo P2.out.fr).fresh' P3.out.fr (fun q e => by subst e; exact Nat.le_trans HO.out.2.fr.size F1.out.size))).mono ?_; rintro e w4 ⟨rfl, f4⟩; have F4 := hid (⟨((F1.out.thenNo P2.out.fr).fresh' P3.out.fr (fun q e => by subst e; exact F1.out.size)).thenNo f4, f4.keep P3.out.at_ (fun e => e)⟩ : Fr No wr w4 ∧ _); clear f4) | (refine wpList_allocO rfl 32 rfl _ 2 48 infoN ?_; intro w5 p5; have P5 := hid (show New #[.slice none 0 0, .slice none 0 0] 32 w4 w5 from p5); clear p5) | (refine wpList_storeO rfl 32 (.tmp 13) (.tmp 31) rfl w4.heap.size 0 rfl [.slice none 0 0, .slice none 0 0] 32 [.slice la ln lc, .slice pa pn pc] rfl (by kernel_rfl) P5.out.at_ (by simp) (by simp [Value.oneCell']) ?_; intro w6 p6; have P6 := hid (show Put w4.heap.size #[.slice la ln lc, .slice pa pn pc] 32 w5 w6 from p6); clear p6; have h6 : w1.heap.size < w4.heap.size := lt_of_block F4.out.2; have F6 := hid (⟨(F4.out.1.thenNo P5.out.fr).fresh' P6.out.fr (fun q e => by subst e; exact F4.out.1.size), P6.out.fr.keep (P5.out.fr.keep F4.out.2 (fun e => e)) (by omega)⟩ : Fr No wr w6 ∧ _); clear h6; obtain ⟨g0, g1⟩ := cells2 P6.out.at_) | (refine wpList_store1 rfl 3 (.tmp 39) (.tmp 38) rfl w1.heap.size 1 rfl _ _ (.int .i64 ((i : Int) + 1)) rfl (by kernel_rfl) F6.out.2 (by simp) rfl ?_; intro w9 p9; have P9 := hid (show Put w1.heap.size #[.bool false, .int .i64 ((i : Int) + 1), .bool true, .slice none 0 0, .slice none 0 0, .int .i64 0, .int .i64 0, .string ⟨#[]⟩, .float .f64 0] 54 w6 w9 from p9); clear p9; obtain ⟨y0, y1, y2, y3, y4, y5, y6, y7, y8⟩ := cells9 P9.out.at_; have F9 := hid (F6.out.1.fresh' P9.out.fr (fun q e => by subst e; exact F1.out.size)); obtain ⟨H9, J9, hh9⟩ := (HO.out.2.next F9.out).ex; have HH9 := hid hh9; clear hh9) | (refine wpList_buildSlice1 rfl 50 54 (.tmp 41) rfl _ 9 112 Tryz.underlying50 infoWr (by decide) (by decide) (.agg #[.bool false, .int .i64 ((i : Int) + 1), .bool true, .slice none 0 0, .slice none 0 0, .int .i64 0, .int .i64 0, .string ⟨#[]⟩, .float .f64 0]) rfl rfl ?_; intro w10 p10; have P10 := hid (show New (wrcell ⟨false, (i : Int) + 1, true, NodeV.none, EdgeV.none⟩).toArray 54 w9 w10 from p10); clear p10) | (refine wpList_app rfl (.tmp 40) (.tmp 42) 50 rfl 54 _ 9 112 Tryz.underlying50 infoWr (by kernel_rfl) (by decide) (.slice aa k cc) k (H9.flatMap wrcell) rfl ?_ (.slice (some ⟨w9.heap.size, 0, none⟩) 1 1) 1 (wrcell ⟨false, (i : Int) + 1, true, NodeV.none, EdgeV.none⟩) rfl ?_ ?_ ?_ ?_))
          · exact fd_owns (by have := HH9.out.row; rw [← HO.out.1] at this; exact this) P10.out.fr
          · exact Rd.block P10.out.at_ 1 9 1 rfl (by simp [wrcell, Value.oneCell']) (Nat.le_refl _) (by simp [maxLen])
          · unfold maxLen; omega
          · omega
          intro v11 w11 o11 f11 b11 _
          obtain ⟨a11, c11, rfl⟩ := ownsRow_slice o11
          have O11 := hid (WrsO.app (HO.out.2.next F9.out) HH9.out P10.out (by rw [← HO.out.1]; exact o11) f11 b11 (fun _ => False) (fun _ h => h.elim) (h := ⟨false, (i : Int) + 1, true, NodeV.none, EdgeV.none⟩) (d := ⟨false, (i : Int) + 1, true, NodeD.none, EdgeV.none⟩) ⟨rfl, rfl, rfl, rfl, NodeIn.none _ _⟩)
          clear o11 f11 b11 y0 y1 y2 y3 y4 y5 y6 y7 y8
          go_wp2_with fail
          go_roundw
          case rel => exact ⟨i + 1, a11, c11, k + 1, by omega, by omega, rfl, by go_num, by rw [HGi.out, List.length_append, ← HO.out.1]; rfl, by rw [HGi.out]; exact O11.out⟩
          case measure => simp [intOf]; omega
        | some d =>
          rw [hri] at HRR HIN HGi
          dsimp only [Option.getD, Option.isSome, Option.isNone] at HRR HIN HGi
          clear hri
          go_wp2_with (first | (rw [HC1.out, Oper.upon_enter]; refine (HMi.out _ HO.out.2.fr).mono ?_; rintro e w1 ⟨rfl, f1⟩; have F1 := hid f1; clear f1) | (refine wpList_build' rfl 54 [(2, .const (.bool true))] rfl [(2, .bool true)] rfl _ built_wg ?_) | (refine wpList_allocO rfl 54 rfl _ 9 112 infoWr ?_; intro w2 p2; have P2 := hid (show New #[.bool false, .int .i64 0, .bool false, .slice none 0 0, .slice none 0 0, .int .i64 0, .int .i64 0, .string ⟨#[]⟩, .float .f64 0] 54 w1 w2 from p2); clear p2) | (refine wpList_storeO rfl 54 (.tmp 12) (.tmp 26) rfl w1.heap.size 0 rfl [.bool false, .int .i64 0, .bool false, .slice none 0 0, .slice none 0 0, .int .i64 0, .int .i64 0, .string ⟨#[]⟩, .float .f64 0] 54 [.bool false, .int .i64 0, .bool true, .slice none 0 0, .slice none 0 0, .int .i64 0, .int .i64 0, .string ⟨#[]⟩, .float .f64 0] rfl (by kernel_rfl) P2.out.at_ (by simp) (by simp [Value.oneCell']) ?_; intro w3 p3; have P3 := hid (show Put w1.heap.size #[.bool false, .int .i64 0, .bool true, .slice none 0 0, .slice none 0 0, .int .i64 0, .int .i64 0, .string ⟨#[]⟩, .float .f64 0] 54 w2 w3 from p3); clear p3) | (rw [HC2.out, Oper.upon_enter]; refine (HRR.out w3 (((HO.out.2.fr.thenNo F1.out).thenNo P2.out.fr).fresh' P3.out.fr (fun q e => by subst e; exact Nat.le_trans HO.out.2.fr.size F1.out.size))).mono ?_; rintro e w4 ⟨rfl, f4⟩; have F4 := hid (⟨((F1.out.thenNo P2.out.fr).fresh' P3.out.fr (fun q e => by subst e; exact F1.out.size)).thenNo f4, f4.keep P3.out.at_ (fun e => e)⟩ : Fr No wr w4 ∧ _); clear f4) | (refine wpList_allocO rfl 32 rfl _ 2 48 infoN ?_; intro w5 p5; have P5 := hid (show New #[.slice none 0 0, .slice none 0 0] 32 w4 w5 from p5); clear p5) | (refine wpList_storeO rfl 32 (.tmp 13) (.tmp 31) rfl w4.heap.size 0 rfl [.slice none 0 0, .slice none 0 0] 32 [.slice la ln lc, .slice pa pn pc] rfl (by kernel_rfl) P5.out.at_ (by simp) (by simp [Value.oneCell']) ?_; intro w6 p6; have P6 := hid (show Put w4.heap.size #[.slice la ln lc, .slice pa pn pc] 32 w5 w6 from p6); clear p6; have h6 : w1.heap.size < w4.heap.size := lt_of_block F4.out.2; have F6 := hid (⟨(F4.out.1.thenNo P5.out.fr).fresh' P6.out.fr (fun q e => by subst e; exact F4.out.1.size), P6.out.fr.keep (P5.out.fr.keep F4.out.2 (fun e => e)) (by omega)⟩ : Fr No wr w6 ∧ _); clear h6; obtain ⟨g0, g1⟩ := cells2 P6.out.at_) | (go_at_call 62; refine (ofnode_any w6 la pa ln lc pn pc d (HIN.out.of.frame (HO.out.2.fr.thenNo F6.out.1)) HIN.out.few.1 HIN.out.few.2).mono ?_; rintro e w7 ⟨la', ln', lc', pa', pn', pc', rfl, o7⟩; have O7 := hid (⟨o7, o7.l.fr.keep F6.out.2 (fun e => e), lt_of_block F6.out.2⟩ : _ ∧ _ ∧ _); clear o7) | (refine wpList_storeO rfl 54 (.tmp 12) (.tmp 36) rfl w1.heap.size 0 rfl [.bool false, .int .i64 0, .bool true, .slice none 0 0, .slice none 0 0, .int .i64 0, .int .i64 0, .string ⟨#[]⟩, .float .f64 0] 54 [.bool false, .int .i64 0, .bool false, .slice la' ln' lc', .slice pa' pn' pc', .int .i64 0, .int .i64 0, .string ⟨#[]⟩, .float .f64 0] rfl (by kernel_rfl) O7.out.2.1 (by simp) (by simp [Value.oneCell']) ?_; intro w8 p8; have P8 := hid (show Put w1.heap.size #[.bool false, .int .i64 0, .bool false, .slice la' ln' lc', .slice pa' pn' pc', .int .i64 0, .int .i64 0, .string ⟨#[]⟩, .float .f64 0] 54 w7 w8 from p8); clear p8; have F8 := hid ((F6.out.1.thenNo O7.out.1.l.fr).fresh' P8.out.fr (fun q e => by subst e; exact F1.out.size))) | (refine wpList_store1 rfl 3 (.tmp 39) (.tmp 38) rfl w1.heap.size 1 rfl _ _ (.int .i64 ((i : Int) + 1)) rfl (by kernel_rfl) P8.out.at_ (by simp) rfl ?_; intro w9 p9; have P9 := hid (show Put w1.heap.size #[.bool false, .int .i64 ((i : Int) + 1), .bool false, .slice la' ln' lc', .slice pa' pn' pc', .int .i64 0, .int .i64 0, .string ⟨#[]⟩, .float .f64 0] 54 w8 w9 from p9); clear p9; obtain ⟨y0, y1, y2, y3, y4, y5, y6, y7, y8⟩ := cells9 P9.out.at_; have F9 := hid (F8.out.fresh' P9.out.fr (fun q e => by subst e; exact F1.out.size)); obtain ⟨H9, J9, hh9⟩ := (HO.out.2.next F9.out).ex; have HH9 := hid hh9; clear hh9) | (refine wpList_buildSlice1 rfl 50 54 (.tmp 41) rfl _ 9 112 Tryz.underlying50 infoWr (by decide) (by decide) (.agg #[.bool false, .int .i64 ((i : Int) + 1), .bool false, .slice la' ln' lc', .slice pa' pn' pc', .int .i64 0, .int .i64 0, .string ⟨#[]⟩, .float .f64 0]) rfl rfl ?_; intro w10 p10; have P10 := hid (show New (wrcell ⟨false, (i : Int) + 1, false, ⟨⟨la', ln', lc'⟩, ⟨pa', pn', pc'⟩⟩, EdgeV.none⟩).toArray 54 w9 w10 from p10); clear p10) | (refine wpList_app rfl (.tmp 40) (.tmp 42) 50 rfl 54 _ 9 112 Tryz.underlying50 infoWr (by kernel_rfl) (by decide) (.slice aa k cc) k (H9.flatMap wrcell) rfl ?_ (.slice (some ⟨w9.heap.size, 0, none⟩) 1 1) 1 (wrcell ⟨false, (i : Int) + 1, false, ⟨⟨la', ln', lc'⟩, ⟨pa', pn', pc'⟩⟩, EdgeV.none⟩) rfl ?_ ?_ ?_ ?_))
          · exact fd_owns (by have := HH9.out.row; rw [← HO.out.1] at this; exact this) P10.out.fr
          · exact Rd.block P10.out.at_ 1 9 1 rfl (by simp [wrcell, Value.oneCell']) (Nat.le_refl _) (by simp [maxLen])
          · unfold maxLen; omega
          · omega
          intro v11 w11 o11 f11 b11 _
          obtain ⟨a11, c11, rfl⟩ := ownsRow_slice o11
          have O11 := hid (WrsO.app (HO.out.2.next F9.out) HH9.out P10.out (by rw [← HO.out.1]; exact o11) f11 b11 (fun b => w6.heap.size ≤ b ∧ b < w7.heap.size) (fun b hb => ⟨Nat.le_trans (HO.out.2.fr.thenNo F6.out.1).size hb.1, by have := P8.out.size; have := P9.out.size; omega, fun e => by obtain ⟨_, _, hhr⟩ := HO.out.2.ex; have := (hhr.row.lt b e).2; have := F6.out.1.size; omega⟩) (h := ⟨false, (i : Int) + 1, false, ⟨⟨la', ln', lc'⟩, ⟨pa', pn', pc'⟩⟩, EdgeV.none⟩) (d := ⟨false, (i : Int) + 1, false, d, EdgeV.none⟩) ⟨rfl, rfl, rfl, rfl, ((O7.out.1.nodeIn HIN.out.ok HIN.out.ls HIN.out.few).frame P8.out.fr (fun q hq e => by have := O7.out.2.2; omega)).frame P9.out.fr (fun q hq e => by have := O7.out.2.2; omega)⟩)
          clear o11 f11 b11 y0 y1 y2 y3 y4 y5 y6 y7 y8
          go_wp2_with fail
          go_roundw
          case rel => exact ⟨i + 1, a11, c11, k + 1, by omega, by omega, rfl, by go_num, by rw [HGi.out, List.length_append, ← HO.out.1]; rfl, by rw [HGi.out]; exact O11.out⟩
          case measure => simp [intOf]; omega
    · obtain rfl : i = n := by omega
      go_wp2_with fail
      go_ret
      exact ⟨_, rfl, HO.out.2⟩
end Go.Proofs.YtfaapjcgmjjheaaGreatDoor
