/- A part of the proof: contracts of functions of the program, for the row's text. -/
import Derived.Test.YthadcdoepoglkaaGreatDoorJ17
import Derived.Test.YthadcdoepoglkaaGreatDoorJ16
namespace Go.Proofs.YthadcdoepoglkaaGreatDoor
open Go.RowKit Go.Lig
def rvcell (y : Ver Nat) : List Value := [.int .i64 y.by_, .int .i64 (y.v : Int), .bool y.gone]
structure RCellAt (w : World) (T : Nat → Prop) (x : Nat) (L : List (Ver Nat)) : Prop where
 ex : ∃ v, w.heap[x]? = some (.cells #[v] 129 (0, 0)) ∧ w.ownsRow 0 222 3 v L.length (L.flatMap rvcell) ∧ ∀ k, v.ownBlock = some k → T k ∧ k ≠ x
 root : T x
 bound : ∀ k, T k → k < w.heap.size
 small : L.length ≤ 1000000
 vs : ∀ y ∈ L, y.v ≤ 1000000
theorem RCellAt.frame {w w' : World} {T U : Nat → Prop} {x : Nat} {L : List (Ver Nat)} (h : RCellAt w T x L) (hf : Fr U w w') (hd : ∀ k, T k → ¬ U k) : RCellAt w' T x L := by
 obtain ⟨v, h1, h2, h3⟩ := h.ex
 exact ⟨⟨v, hf.keep h1 (hd x h.root), hf.owns h2 (fun k hk => hd k (h3 k hk).1), h3⟩, h.root, fun k hk => Nat.lt_of_lt_of_le (h.bound k hk) hf.size, h.small, h.vs⟩
theorem rvcell_one (L : List (Ver Nat)) : ∀ u ∈ L.flatMap rvcell, u.oneCell' = true := by
 intro u hu
 obtain ⟨p, _, hp⟩ := List.mem_flatMap.1 hu
 simp only [rvcell, List.mem_cons, List.not_mem_nil, or_false] at hp
 rcases hp with rfl | rfl | rfl <;> rfl
theorem infoRv : (Tryz.prog.info? 222).map (fun i => (i.zero, i.size, i.bytes)) = some (some (.agg #[.int .i64 0, .int .i64 0, .bool false]), 3, 24) := by kernel_rfl
theorem sizeRv : (Tryz.prog.info? 222).map (·.size) = some 3 := by kernel_rfl
structure RCelRow (w : World) (x g : Nat) (L : List (Ver Nat)) : Prop where
 ex : ∃ a n, w.heap[x]? = some (.cells #[.slice a L.length n] 129 (0, 0)) ∧ w.ownsRow 0 222 3 (.slice a L.length n) L.length (L.flatMap rvcell) ∧ (0 < L.length → a = some ⟨g, 0, none⟩) ∧ g ≠ x
 few : L.length ≤ 1000000
 vs : ∀ y ∈ L, y.v ≤ 1000000
theorem RCellAt.row {w : World} {T : Nat → Prop} {x : Nat} {L : List (Ver Nat)} (h : RCellAt w T x L) : ∃ g, RCelRow w x g L ∧ (0 < L.length → T g) := by
 obtain ⟨v, h1, h2, h3⟩ := h.ex
 obtain ⟨a, n, rfl⟩ := ownsRow_slice h2
 by_cases hl : 0 < L.length
 ·obtain ⟨g, cur, rfl, -, -⟩ := owns_at h2 hl
  exact ⟨g, ⟨⟨_, n, h1, h2, fun _ => rfl, (h3 g rfl).2⟩, h.small, h.vs⟩, fun _ => (h3 g rfl).1⟩
 ·exact ⟨x + 1, ⟨⟨a, n, h1, h2, fun e => absurd e hl, by omega⟩, h.small, h.vs⟩, fun e => absurd e hl⟩
theorem RCelRow.frame {w w' : World} {x g : Nat} {L : List (Ver Nat)} (h : RCelRow w x g L) (hf : Fr No w w') : RCelRow w' x g L := by
 obtain ⟨a, n, h1, h2, h3, h4⟩ := h.ex
 exact ⟨⟨a, n, hf.keep h1 (fun e => e), fd_owns h2 hf, h3, h4⟩, h.few, h.vs⟩
structure RvAt (w : World) (x g j n m : Nat) (y : Ver Nat) : Prop where
 c0 : w.cell? ⟨x, 0, none⟩ = some (.slice (some ⟨g, 0, none⟩) m n)
 y0 : w.cell? ⟨g, j * 3, none⟩ = some (.int .i64 y.by_)
 y1 : w.cell? ⟨g, j * 3 + 1, none⟩ = some (.int .i64 (y.v : Int))
 y2 : w.cell? ⟨g, j * 3 + 2, none⟩ = some (.bool y.gone)
theorem RCelRow.cell {w : World} {x g : Nat} {L : List (Ver Nat)} (h : RCelRow w x g L) {j : Nat} {y : Ver Nat} (hy : L[j]? = some y) : ∃ n, RvAt w x g j n L.length y := by
 obtain ⟨a, n, h1, h2, h3, _⟩ := h.ex
 have hl := (List.getElem?_eq_some_iff.1 hy).1
 obtain rfl := h3 (by omega)
 have g0 : ∀ t, t < 3 → (L.flatMap rvcell)[j * 3 + t]? = (rvcell y)[t]? := fun t ht => flat_get (f := rvcell) (m := 3) (fun _ => rfl) _ _ _ hy t ht
 exact ⟨n, cells1 h1, owns_cell h2 rfl (by rw [← Nat.add_zero (j * 3), g0 0 (by decide)]; rfl), owns_cell h2 rfl (by rw [g0 1 (by decide)]; rfl), owns_cell h2 rfl (by rw [g0 2 (by decide)]; rfl)⟩
def optI : Option Nat → Int
 | some v => (v : Int)
 | none => 0
theorem lastOf_take {α : Type} {m : Int → Bool} {L : List (Ver α)} {i : Nat} {y : Ver α} (hy : L[i]? = some y) : lastOf m (L.take (i + 1)).reverse = if m y.by_ then (if y.gone then none else some y.v) else lastOf m (L.take i).reverse := by
 rw [List.take_add_one, hy, Option.toList_some, List.reverse_append, List.reverse_singleton, List.singleton_append, lastOf]
theorem RCelRow.c0 {w : World} {x g : Nat} {L : List (Ver Nat)} (h : RCelRow w x g L) : ∃ a n, w.cell? ⟨x, 0, none⟩ = some (.slice a L.length n) := by
 obtain ⟨a, n, h1, -⟩ := h.ex
 exact ⟨a, n, cells1 h1⟩
set_option maxHeartbeats 1000000 in
theorem rread_any (w : World) (x g c gk : Nat) (L : List (Ver Nat)) (K : Ck) (h : RCelRow w x g L) (hk : RClkRow w c gk K) (t : Int) :
  Calls Tryz.prog 91 #[.pointer (some ⟨x, 0, none⟩), .pointer (some ⟨c, 0, none⟩), .int .i64 t] w fun e w' => e = .returned (.tuple #[.int .i64 (optI (readV K t L)), .bool (readV K t L).isSome]) ∧ Fr No w w' := by
 have hs := h.few
 obtain ⟨a0, m0, x0⟩ := h.c0
 have H := hid (⟨h, hk⟩ : _ ∧ _)
 have HR := hid (show readV K t L = lastOf (K.sees t) (L.take L.length).reverse by rw [List.take_length]; rfl)
 obtain ⟨n, hn⟩ : ∃ n, L.length = n := ⟨_, rfl⟩
 rw [hn] at hs x0 HR
 have HN := hid hn
 clear h hk hn
 have hwn : wrap64 ((n : Int) - 1) = (n : Int) - 1 := by unfold wrap64; omega
 go_enter Tryz.func91, Tryz.ntmps91
 go_wp2_with fail
 go_loopw [8] (fun vi wr => ∃ k : Nat, k ≤ n ∧ vi = .int .i64 ((k : Int) - 1) ∧ Hid (Fr No w wr ∧ readV K t L = lastOf (K.sees t) (L.take k).reverse)) (fun vi _ => (intOf vi + 1).toNat)
 case atStart => exact ⟨n, Nat.le_refl _, rfl, Fr.refl _ _, HR.out⟩
 case round =>
  obtain ⟨k, hk, hvi, hF⟩ := hrel
  clear x0 hwn
  cases k with
  | zero =>
   have hv2 : _ = Value.int .i64 (-1) := hvi
   clear hvi
   subst hv2
   have HE : Hid (readV K t L = none) := hid (by rw [hF.out.2]; rfl)
   go_wp2_with fail
   go_ret2
   exact ⟨by rw [HE.out]; rfl, hF.out.1⟩
  | succ j =>
   rw [show (((j + 1 : Nat) : Int) - 1) = (j : Int) by omega] at hvi
   subst hvi
   obtain ⟨y, hy⟩ : ∃ y, L[j]? = some y := ⟨L[j]'(by have := HN.out; omega), List.getElem?_eq_getElem _⟩
   obtain ⟨m, ⟨e0, y0, y1, y2⟩⟩ := (H.out.1.frame hF.out.1).cell hy
   rw [HN.out] at e0
   have HS := hid (rsees_any wr c gk K (H.out.2.frame hF.out.1) t y.by_)
   have HT : Hid (readV K t L = if K.sees t y.by_ then (if y.gone then none else some y.v) else lastOf (K.sees t) (L.take j).reverse) := hid (by rw [hF.out.2, lastOf_take hy])
   have hjn : j < n := by omega
   have hwj : wrap64 ((j : Int) - 1) = (j : Int) - 1 := by unfold wrap64; omega
   have HJ := hid (fun w' (hf : Fr No wr w') => (H.out.1.frame (hF.out.1.thenNo hf)).cell hy)
   clear hy
   cases hse : K.sees t y.by_ with
   | false =>
    rw [hse] at HS HT
    clear y1 y2 hse
    go_wp2_with (go_at_call 160; refine HS.out.mono ?_; rintro e w1 ⟨rfl, f1⟩; have F1 := hid f1; clear f1)
    go_roundw
    case rel => exact ⟨j, by omega, by go_num, hF.out.1.thenNo F1.out, HT.out⟩
    case measure => simp [intOf]
   | true =>
    rw [hse, if_pos rfl] at HT
    rw [hse] at HS
    clear hse y1 y2
    cases hg : y.gone with
    | true =>
     rw [hg, if_pos rfl] at HT
     go_wp2_with (go_at_call 160; refine HS.out.mono ?_; rintro e w1 ⟨rfl, f1⟩; obtain ⟨m2, ⟨d0, d1, d2, d3⟩⟩ := HJ.out w1 f1; rw [HN.out] at d0; rw [hg] at d3; have F1 := hid f1; clear f1 d1 d2)
     go_ret2
     exact ⟨by rw [HT.out]; rfl, hF.out.1.thenNo F1.out⟩
    | false =>
     rw [hg, if_neg (by simp)] at HT
     go_wp2_with (go_at_call 160; refine HS.out.mono ?_; rintro e w1 ⟨rfl, f1⟩; obtain ⟨m2, ⟨d0, d1, d2, d3⟩⟩ := HJ.out w1 f1; rw [HN.out] at d0; rw [hg] at d3; have F1 := hid f1; clear f1 d1)
     go_ret2
     exact ⟨by rw [HT.out]; rfl, hF.out.1.thenNo F1.out⟩
def rerr (b : Bool) : Int := if b then 6 else 0
set_option maxHeartbeats 1000000 in
theorem rcheck_any (w : World) (x g c gk : Nat) (L : List (Ver Nat)) (K : Ck) (h : RCelRow w x g L) (hk : RClkRow w c gk K) (t : Int) :
  Calls Tryz.prog 153 #[.pointer (some ⟨x, 0, none⟩), .pointer (some ⟨c, 0, none⟩), .int .i64 t] w fun e w' => e = .returned (.int .i64 (rerr (clashV K t L))) ∧ Fr No w w' := by
 have hs := h.few
 obtain ⟨a0, m0, x0⟩ := h.c0
 by_cases hl : L.length = 0
 ·obtain rfl : L = [] := List.eq_nil_of_length_eq_zero hl
  have hr : clashV K t ([] : List (Ver Nat)) = false := rfl
  rw [hr]
  have x1 : w.cell? ⟨x, 0, none⟩ = some (.slice a0 0 m0) := x0
  clear h hk hl hr x0
  go_enter Tryz.func153, Tryz.ntmps153
  go_wp2_with fail
  go_ret
  exact ⟨rfl, Fr.refl _ _⟩
 ·obtain ⟨j, hj⟩ : ∃ j, L.length = j + 1 := ⟨L.length - 1, by omega⟩
  obtain ⟨y, hy⟩ : ∃ y, L[j]? = some y := ⟨L[j]'(by omega), List.getElem?_eq_getElem _⟩
  obtain ⟨m, ⟨e0, y0, y1, y2⟩⟩ := h.cell hy
  have hr : clashV K t L = K.clashes t y.by_ := by unfold clashV; rw [List.getLast?_eq_getElem?, hj, show j + 1 - 1 = j by omega, hy]
  rw [hr]
  rw [hj] at e0 hs
  have HC := hid (rclashes_any w c gk K hk t y.by_)
  have hwj : wrap64 (((j + 1 : Nat) : Int) - 1) = (j : Int) := by unfold wrap64; omega
  have hwk : IntKind.i64.wrap (((j + 1 : Nat) : Int) - 1) = (j : Int) := by rw [show (((j + 1 : Nat) : Int) - 1) = (j : Int) by omega]; exact IntWalk.i64_in _ (by omega)
  have hwl : IntKind.i64.wrap (j : Int) = (j : Int) := IntWalk.i64_in _ (by omega)
  clear h hk hy hr y1 y2 x0 hl hj
  cases hc : K.clashes t y.by_ with
  | false =>
   rw [hc] at HC
   clear hc
   go_enter Tryz.func153, Tryz.ntmps153
   go_wp2_with (go_at_call 199; refine HC.out.mono ?_; rintro e w1 ⟨rfl, f1⟩; have F1 := hid f1; clear f1)
   go_ret
   exact ⟨rfl, F1.out⟩
  | true =>
   rw [hc] at HC
   clear hc
   go_enter Tryz.func153, Tryz.ntmps153
   go_wp2_with (go_at_call 199; refine HC.out.mono ?_; rintro e w1 ⟨rfl, f1⟩; have F1 := hid f1; clear f1)
   go_ret
   exact ⟨rfl, F1.out⟩
end Go.Proofs.YthadcdoepoglkaaGreatDoor
namespace Go.Proofs.YthadcdoepoglkaaGreatDoor
open Go.RowKit Go.Lig
theorem rbuilt_v (t v : Int) (g : Bool) : Tryz.prog.built 222 [(0, .int .i64 t), (1, .int .i64 v), (2, .bool g)] = some #[.int .i64 t, .int .i64 v, .bool g] := by cases g <;> kernel_rfl
theorem rflat_take (L : List (Ver Nat)) (i : Nat) : (L.flatMap rvcell).take (i * 3) = (L.take i).flatMap rvcell := by
 induction L generalizing i with
 | nil => simp
 | cons p L ih =>
  cases i with
  | zero => simp
  | succ i =>
   rw [List.take_succ_cons, List.flatMap_cons, List.flatMap_cons, ← ih i, Nat.succ_mul]
   show List.take (i * 3 + 3) (_ :: _ :: _ :: _) = _ :: _ :: _ :: _
   rfl
theorem rflat_drop (L : List (Ver Nat)) (i : Nat) : (L.flatMap rvcell).drop (i * 3) = (L.drop i).flatMap rvcell := by
 induction L generalizing i with
 | nil => simp
 | cons p L ih =>
  cases i with
  | zero => simp
  | succ i =>
   rw [List.drop_succ_cons, List.flatMap_cons, ← ih i, Nat.succ_mul]
   show List.drop (i * 3 + 3) (_ :: _ :: _ :: _) = _
   rfl
theorem rcell_new {w w1 w2 : World} {T : Nat → Prop} {x : Nat} {L L' : List (Ver Nat)} {a : Option Addr} {n : Nat} (h : RCellAt w T x L) (hf : Fr (fun k => k = x) w w1) (o : w1.ownsRow 0 222 3 (.slice a L'.length n) L'.length (L'.flatMap rvcell))
  (hn : ∀ k, (Value.slice a L'.length n).ownBlock = some k → w.heap.size ≤ k) (p : Put x #[.slice a L'.length n] 129 w1 w2) (hs : L'.length ≤ 1000000) (hv : ∀ y ∈ L', y.v ≤ 1000000) : ∃ T', RCellAt w2 T' x L' ∧ Fr T w w2 ∧ Grown w T T' := by
 have hxl : x < w.heap.size := h.bound x h.root
 have hne : ∀ k, (Value.slice a L'.length n).ownBlock = some k → k ≠ x := fun k hk => by have := hn k hk; omega
 refine ⟨fun k => k = x ∨ (Value.slice a L'.length n).ownBlock = some k, ⟨⟨_, p.at_, p.fr.owns o hne, fun k hk => ⟨.inr hk, hne k hk⟩⟩, .inl rfl, fun k hk => ?_, hs, hv⟩, (hf.mono (fun k _ e => by subst e; exact h.root)).thenS (p.fr.mono (fun k _ e => by subst e; exact h.root)), fun k hk => ?_⟩
 ·have hz := p.fr.size
  have hz1 := hf.size
  rcases hk with rfl | hk
  ·omega
  ·have := (o.lt k hk).2; omega
 ·rcases hk with rfl | hk
  ·exact .inl h.root
  ·exact .inr (hn k hk)
structure RPre (w w2 : World) (x : Nat) (u : Value) (B : List (Ver Nat)) : Prop where
 at_ : w2.heap[x]? = some (.cells #[u] 129 (0, 0))
 rd : Rd w2 u B.length 3 (B.flatMap rvcell)
 fr : Fr (fun k => k = x) w w2
theorem rcell_done {w w2 w3 w4 w5 w6 w7 : World} {T : Nat → Prop} {x : Nat} {u : Value} {L B : List (Ver Nat)} {z : Ver Nat} {a4 a6 : Option Addr} {n4 n6 : Nat} {zs : Array Value} (h : RCellAt w T x L) (p2 : RPre w w2 x u B) (p3 : New #[] 222 w2 w3)
  (_ : w4.ownsRow 0 222 3 (.slice a4 B.length n4) B.length (B.flatMap rvcell)) (f4 : Fr (fun k => (Value.slice (some ⟨w2.heap.size, 0, none⟩) 0 0).ownBlock = some k) w3 w4) (b4 : ∀ k, (Value.slice a4 B.length n4).ownBlock = some k → (Value.slice (some ⟨w2.heap.size, 0, none⟩) 0 0).ownBlock = some k ∨ w3.heap.size ≤ k)
  (p5 : New zs 222 w4 w5) (o6 : w6.ownsRow 0 222 3 (.slice a6 (B.length + 1) n6) (B.length + 1) (B.flatMap rvcell ++ rvcell z)) (f6 : Fr (fun k => (Value.slice a4 B.length n4).ownBlock = some k) w5 w6)
  (b6 : ∀ k, (Value.slice a6 (B.length + 1) n6).ownBlock = some k → (Value.slice a4 B.length n4).ownBlock = some k ∨ w5.heap.size ≤ k) (p7 : Put x #[.slice a6 (B.length + 1) n6] 129 w6 w7) (hs : B.length < 1000000) (hv : ∀ y ∈ B, y.v ≤ 1000000) (hz : z.v ≤ 1000000) :
  ∃ T', RCellAt w7 T' x (B ++ [z]) ∧ Fr T w w7 ∧ Grown w T T' := by
 have hb4 : ∀ k, (Value.slice a4 B.length n4).ownBlock = some k → w2.heap.size ≤ k := fun k hk => by
  rcases b4 k hk with e | e
  ·have e1 : w2.heap.size = k := Option.some.inj e
   omega
  ·exact Nat.le_trans p3.fr.size e
 have f26 : Fr No w2 w6 := (((p3.fr.trans f4 (fun k hk e => by have e1 : w2.heap.size = k := Option.some.inj e; omega)).thenNo p5.fr)).trans f6 (fun k hk e => by have := hb4 k e; omega)
 have hb6 : ∀ k, (Value.slice a6 (B.length + 1) n6).ownBlock = some k → w2.heap.size ≤ k := fun k hk => by
  rcases b6 k hk with e | e
  ·exact hb4 k e
  ·have h1 := p3.fr.size; have h2 := f4.size; have h3 := p5.fr.size; omega
 have hl : (B ++ [z]).length = B.length + 1 := by simp
 refine rcell_new (a := a6) (n := n6) h (p2.fr.thenNo f26) ?_ (fun k hk => Nat.le_trans p2.fr.size (hb6 k (by rw [hl] at hk; exact hk))) (by rw [hl]; exact p7) (by rw [hl]; omega) (fun y hy => ?_)
 ·rw [hl, List.flatMap_append, List.flatMap_cons, List.flatMap_nil, List.append_nil]
  exact o6
 ·rcases List.mem_append.1 hy with e | e
  ·exact hv y e
  ·rw [List.mem_singleton.1 e]; exact hz
set_option maxHeartbeats 2000000 in
theorem rwrite_new (w : World) (T : Nat → Prop) (x c gk : Nat) (K : Ck) (B : List (Ver Nat)) (h : RCellAt w T x B) (hk : RClkRow w c gk K) (t : Int) (v : Nat) (gone : Bool) (hc : clashV K t B = false) (hne : ∀ y, B.getLast? = some y → y.by_ ≠ t) (hL1 : B.length < 1000000) (hv : v ≤ 1000000) :
  Calls Tryz.prog 152 #[.pointer (some ⟨x, 0, none⟩), .pointer (some ⟨c, 0, none⟩), .int .i64 t, .int .i64 (v : Int), .bool gone] w fun e w' => e = .returned (.int .i64 0) ∧ ∃ T', RCellAt w' T' x (B ++ [⟨t, v, gone⟩]) ∧ Fr T w w' ∧ Grown w T T' := by
 obtain ⟨g, hr, -⟩ := h.row
 have HC := hid (rcheck_any w x g c gk B K hr hk t)
 rw [hc] at HC
 have HH := hid h
 have HB := hid (⟨hL1, h.vs, hv⟩ : B.length < 1000000 ∧ (∀ y ∈ B, y.v ≤ 1000000) ∧ v ≤ 1000000)
 have hs := h.small
 have HP := hid (show ∀ w1, Fr No w w1 → ∃ a n, RPre w w1 x (.slice a B.length n) B from fun w1 f => by
  obtain ⟨v0, h1, h2, h3⟩ := (h.frame f (fun _ _ e => e)).ex
  obtain ⟨a, n, rfl⟩ := ownsRow_slice h2
  exact ⟨a, n, h1, Rd.of_owns h2 (rvcell_one B), f.mono (fun _ _ e => e.elim)⟩)
 by_cases hl : B.length = 0
 ·have n1 : ¬ (0 < B.length) := by omega
  clear h hk hc hne hl hr hL1 hv
  go_enter Tryz.func152, Tryz.ntmps152
  go_wp2_with (first | (go_at_call 153; refine HC.out.mono ?_; rintro e w2 ⟨rfl, f1⟩; have e6 : rerr false = 0 := rfl; rw [e6]; clear e6; obtain ⟨a, n, hp⟩ := HP.out w2 f1; have x2 := cells1 hp.at_; have P2 := hid hp; clear f1 hp) | (refine wpList_buildSlice0 rfl 127 222 rfl _ 3 24 Tryz.underlying127 infoRv ?_; intro w3 p3; have x3 := cells1 (p3.keep P2.out.at_); have P3 := hid p3; clear p3) | (at_builtin; (refine wpList_app rfl (.tmp 48) (.tmp 52) 127 rfl 222 (.agg #[.int .i64 0, .int .i64 0, .bool false]) 3 24 Tryz.underlying127 infoRv rfl (by decide) _ 0 [] rfl P3.out.own0 (.slice a B.length n) B.length (B.flatMap rvcell) rfl (P2.out.rd.frame P3.out.fr (fun _ _ e => e)) (by have := HB.out; unfold maxLen; omega) (by have := HB.out; omega) ?_; rintro v4 w4 o4 f4 b4 -; simp only [Nat.zero_add, List.nil_append] at o4; obtain ⟨a4, n4, rfl⟩ := ownsRow_slice o4; have X4 := hid (f4.keep (P3.out.keep P2.out.at_) (fun e => absurd (Option.some.inj e) (Nat.ne_of_gt (lt_of_block P2.out.at_)))); have O4 := hid (⟨o4, f4, b4⟩ : _ ∧ _ ∧ _); clear o4 f4 b4)) | (refine wpList_build' rfl 222 [(0, .tmp 54), (1, .tmp 55), (2, .tmp 56)] rfl [(0, .int .i64 t), (1, .int .i64 (v : Int)), (2, .bool gone)] rfl _ (rbuilt_v ..) ?_) | (refine wpList_buildSlice1 rfl 127 222 (.tmp 57) rfl _ 3 24 Tryz.underlying127 infoRv (by decide) (by decide) (.agg (rvcell ⟨t, v, gone⟩).toArray) rfl rfl ?_; intro w5 p5; have P5 := hid (show New (rvcell ⟨t, v, gone⟩).toArray 222 w4 w5 from p5); clear p5) | (at_builtin; go_must (refine wpList_app rfl (.tmp 53) (.tmp 58) 127 rfl 222 (.agg #[.int .i64 0, .int .i64 0, .bool false]) 3 24 Tryz.underlying127 infoRv rfl (by decide) (.slice a4 B.length n4) B.length (B.flatMap rvcell) rfl (fd_owns O4.out.1 P5.out.fr) (.slice (some ⟨w4.heap.size, 0, none⟩) 1 1) 1 (rvcell ⟨t, v, gone⟩) rfl (Rd.block P5.out.at_ 1 3 1 rfl (by simp [rvcell, Value.oneCell']) (Nat.le_refl _) (by simp [maxLen])) (by have := HB.out; unfold maxLen; omega) (by have := HB.out; omega) ?_; rintro v6 w6 o6 f6 b6 -; obtain ⟨a6, n6, rfl⟩ := ownsRow_slice o6; have X6 := hid (f6.keep (P5.out.keep X4.out) (fun e => (O4.out.2.2 x e).elim (fun q => absurd (Option.some.inj q) (Nat.ne_of_gt (lt_of_block P2.out.at_))) (fun q => absurd (Nat.lt_of_lt_of_le (lt_of_block P2.out.at_) P3.out.fr.size) (Nat.not_lt.2 q)))); have O6 := hid (⟨o6, f6, b6⟩ : _ ∧ _ ∧ _); clear o6 f6 b6)) | (refine wpList_store1 rfl 127 (.tmp 61) (.tmp 59) rfl x 0 rfl _ 129 (.slice a6 (B.length + 1) n6) rfl (by kernel_rfl) X6.out (by simp) rfl ?_; intro w7 p7; have P7 := hid p7; clear p7))
  go_ret
  obtain ⟨T', q1, q2, q3⟩ := rcell_done HH.out P2.out P3.out O4.out.1 O4.out.2.1 O4.out.2.2 P5.out O6.out.1 O6.out.2.1 O6.out.2.2 P7.out HB.out.1 HB.out.2.1 HB.out.2.2
  exact ⟨rfl, T', q1, q2, q3⟩
 ·obtain ⟨m, hm⟩ : ∃ m, B.length = m + 1 := ⟨B.length - 1, by omega⟩
  obtain ⟨y, hy⟩ : ∃ y, B[m]? = some y := ⟨B[m]'(by omega), List.getElem?_eq_getElem _⟩
  have hyt : (y.by_ == t) = false := beq_eq_false_iff_ne.2 (hne y (by rw [List.getLast?_eq_getElem?, hm]; exact hy))
  have HJ := hid (fun w' (hf : Fr No w w') => (hr.frame hf).cell hy)
  have hwj : wrap64 ((B.length : Int) - 1) = (m : Int) := by unfold wrap64; omega
  have hwk : IntKind.i64.wrap ((B.length : Int) - 1) = (m : Int) := by rw [show ((B.length : Int) - 1) = (m : Int) by omega]; exact IntWalk.i64_in _ (by omega)
  have hmb : m < B.length := by omega
  have n1 : 0 < B.length := by omega
  clear h hk hc hne hl hr hL1 hv hy hm
  go_enter Tryz.func152, Tryz.ntmps152
  go_wp2_with (first | (go_at_call 153; refine HC.out.mono ?_; rintro e w2 ⟨rfl, f1⟩; have e6 : rerr false = 0 := rfl; rw [e6]; clear e6; obtain ⟨a, n, hp⟩ := HP.out w2 f1; obtain ⟨n', ⟨x2, y0, -, -⟩⟩ := HJ.out w2 f1; obtain ⟨rfl, rfl⟩ : a = some ⟨g, 0, none⟩ ∧ n = n' := (by simpa using (cells1 hp.at_).symm.trans x2); have P2 := hid hp; clear f1 hp) | (refine wpList_buildSlice0 rfl 127 222 rfl _ 3 24 Tryz.underlying127 infoRv ?_; intro w3 p3; have x3 := cells1 (p3.keep P2.out.at_); have P3 := hid p3; clear p3) | (at_builtin; (refine wpList_app rfl (.tmp 48) (.tmp 52) 127 rfl 222 (.agg #[.int .i64 0, .int .i64 0, .bool false]) 3 24 Tryz.underlying127 infoRv rfl (by decide) _ 0 [] rfl P3.out.own0 (.slice (some ⟨g, 0, none⟩) B.length n) B.length (B.flatMap rvcell) rfl (P2.out.rd.frame P3.out.fr (fun _ _ e => e)) (by have := HB.out; unfold maxLen; omega) (by have := HB.out; omega) ?_; rintro v4 w4 o4 f4 b4 -; simp only [Nat.zero_add, List.nil_append] at o4; obtain ⟨a4, n4, rfl⟩ := ownsRow_slice o4; have X4 := hid (f4.keep (P3.out.keep P2.out.at_) (fun e => absurd (Option.some.inj e) (Nat.ne_of_gt (lt_of_block P2.out.at_)))); have O4 := hid (⟨o4, f4, b4⟩ : _ ∧ _ ∧ _); clear o4 f4 b4)) | (refine wpList_build' rfl 222 [(0, .tmp 54), (1, .tmp 55), (2, .tmp 56)] rfl [(0, .int .i64 t), (1, .int .i64 (v : Int)), (2, .bool gone)] rfl _ (rbuilt_v ..) ?_) | (refine wpList_buildSlice1 rfl 127 222 (.tmp 57) rfl _ 3 24 Tryz.underlying127 infoRv (by decide) (by decide) (.agg (rvcell ⟨t, v, gone⟩).toArray) rfl rfl ?_; intro w5 p5; have P5 := hid (show New (rvcell ⟨t, v, gone⟩).toArray 222 w4 w5 from p5); clear p5) | (at_builtin; go_must (refine wpList_app rfl (.tmp 53) (.tmp 58) 127 rfl 222 (.agg #[.int .i64 0, .int .i64 0, .bool false]) 3 24 Tryz.underlying127 infoRv rfl (by decide) (.slice a4 B.length n4) B.length (B.flatMap rvcell) rfl (fd_owns O4.out.1 P5.out.fr) (.slice (some ⟨w4.heap.size, 0, none⟩) 1 1) 1 (rvcell ⟨t, v, gone⟩) rfl (Rd.block P5.out.at_ 1 3 1 rfl (by simp [rvcell, Value.oneCell']) (Nat.le_refl _) (by simp [maxLen])) (by have := HB.out; unfold maxLen; omega) (by have := HB.out; omega) ?_; rintro v6 w6 o6 f6 b6 -; obtain ⟨a6, n6, rfl⟩ := ownsRow_slice o6; have X6 := hid (f6.keep (P5.out.keep X4.out) (fun e => (O4.out.2.2 x e).elim (fun q => absurd (Option.some.inj q) (Nat.ne_of_gt (lt_of_block P2.out.at_))) (fun q => absurd (Nat.lt_of_lt_of_le (lt_of_block P2.out.at_) P3.out.fr.size) (Nat.not_lt.2 q)))); have O6 := hid (⟨o6, f6, b6⟩ : _ ∧ _ ∧ _); clear o6 f6 b6)) | (refine wpList_store1 rfl 127 (.tmp 61) (.tmp 59) rfl x 0 rfl _ 129 (.slice a6 (B.length + 1) n6) rfl (by kernel_rfl) X6.out (by simp) rfl ?_; intro w7 p7; have P7 := hid p7; clear p7))
  go_ret
  obtain ⟨T', q1, q2, q3⟩ := rcell_done HH.out P2.out P3.out O4.out.1 O4.out.2.1 O4.out.2.2 P5.out O6.out.1 O6.out.2.1 O6.out.2.2 P7.out HB.out.1 HB.out.2.1 HB.out.2.2
  exact ⟨rfl, T', q1, q2, q3⟩
end Go.Proofs.YthadcdoepoglkaaGreatDoor
namespace Go.Proofs.YthadcdoepoglkaaGreatDoor
open Go.RowKit Go.Lig
set_option maxHeartbeats 2000000 in
theorem rwrite_over (w : World) (T : Nat → Prop) (x c gk m : Nat) (K : Ck) (L : List (Ver Nat)) (h : RCellAt w T x L) (hk : RClkRow w c gk K) (t : Int) (v : Nat) (gone : Bool) (hc : clashV K t L = false) (hm : L.length = m + 1) (y : Ver Nat) (hy : L[m]? = some y) (hyt : y.by_ = t) (hv : v ≤ 1000000) :
  Calls Tryz.prog 152 #[.pointer (some ⟨x, 0, none⟩), .pointer (some ⟨c, 0, none⟩), .int .i64 t, .int .i64 (v : Int), .bool gone] w fun e w' => e = .returned (.int .i64 0) ∧ ∃ T', RCellAt w' T' x (L.take m ++ [⟨t, v, gone⟩]) ∧ Fr T w w' ∧ Grown w T T' := by
 obtain ⟨g, hr, -⟩ := h.row
 have HC := hid (rcheck_any w x g c gk L K hr hk t)
 rw [hc] at HC
 have HH := hid h
 have hs := h.small
 obtain ⟨B, hB⟩ : ∃ B, L.take m = B := ⟨_, rfl⟩
 have hBl : B.length = m := by rw [← hB, List.length_take]; omega
 have HB := hid (⟨by omega, fun z hz => h.vs z (List.mem_of_mem_take (by rw [hB]; exact hz)), hv⟩ : B.length < 1000000 ∧ (∀ y ∈ B, y.v ≤ 1000000) ∧ v ≤ 1000000)
 rw [hB]
 have HP := hid (show ∀ w1, Fr No w w1 → ∃ n a' n', (w1.heap[x]? = some (.cells #[.slice (some ⟨g, 0, none⟩) L.length n] 129 (0, 0)) ∧ x ≠ g) ∧ (∀ w' : World, (Instr.slice 127 (.slice (some ⟨g, 0, none⟩) L.length n) none (some (.int .i64 (m : Int))) none).run Tryz.prog w' = .ok (.slice a' B.length n') w') ∧ Rd w1 (.slice a' B.length n') B.length 3 (B.flatMap rvcell) ∧ (∀ k, slBlock (.slice a' B.length n') = some k → k = g) from fun w1 f => by
  obtain ⟨a, n, h1, h2, h3, h4⟩ := (hr.frame f).ex
  obtain rfl := h3 (by omega)
  obtain ⟨va, q1, q2, q3⟩ := Rd.upto (P := Tryz.prog) (Rd.of_owns h2 (rvcell_one L)) Tryz.underlying127 sizeRv m (by omega)
  obtain ⟨a', n', rfl, -⟩ := id q2
  refine ⟨n, a', n', ⟨h1, fun e => h4 e.symm⟩, ?_, ?_, fun k hk => ?_⟩
  ·rw [hBl]; exact q1
  ·rw [hBl, ← hB]; rw [rflat_take] at q2; exact q2
  ·rw [hBl] at hk
   have := q3 k hk
   exact (Option.some.inj this).symm)
 have HJ := hid (fun w' (hf : Fr No w w') => (hr.frame hf).cell hy)
 have n1 : 0 < L.length := by omega
 have hyt2 : (y.by_ == t) = true := by rw [beq_iff_eq]; exact hyt
 have hwj : wrap64 ((L.length : Int) - 1) = (m : Int) := by unfold wrap64; omega
 have hwk : IntKind.i64.wrap ((L.length : Int) - 1) = (m : Int) := by rw [show ((L.length : Int) - 1) = (m : Int) by omega]; exact IntWalk.i64_in _ (by omega)
 have hmb : m < L.length := by omega
 have HBl := hid hBl
 clear h hk hc hr hv hy hyt hB hm hBl
 go_enter Tryz.func152, Tryz.ntmps152
 go_wp2_with (first | (go_at_call 153; refine HC.out.mono ?_; rintro e w1 ⟨rfl, f1⟩; have e6 : rerr false = 0 := rfl; rw [e6]; clear e6; obtain ⟨n, a', n', p1, p2, p3, p4⟩ := HP.out w1 f1; obtain ⟨n'', ⟨x2, y0, -, -⟩⟩ := HJ.out w1 f1; obtain rfl : n = n'' := (by simpa using (cells1 p1.1).symm.trans x2); have P1 := hid (⟨p1, p2, p3, p4, f1⟩ : _ ∧ _ ∧ _ ∧ _ ∧ _); clear f1 p1 p2 p3 p4) | (refine wpList_slice rfl 127 222 Tryz.underlying127 (.tmp 41) none (some (.tmp 43)) rfl (.slice (some ⟨g, 0, none⟩) L.length n) rfl none (some (.int .i64 (m : Int))) rfl rfl (.slice a' B.length n') P1.out.2.1 ?_) | (refine wpList_store1 rfl 127 (.tmp 46) (.tmp 44) rfl x 0 rfl _ 129 (.slice a' B.length n') rfl (by kernel_rfl) P1.out.1.1 (by simp) rfl ?_; intro w2 p2; have P2 := hid (show RPre w w2 x (.slice a' B.length n') B from ⟨p2.at_, P1.out.2.2.1.frame p2.fr (fun k hk e => P1.out.1.2 (e.symm.trans (P1.out.2.2.2.1 k hk))), (P1.out.2.2.2.2.mono (fun _ _ e => e.elim)).thenS p2.fr⟩); have z2 := cells1 P2.out.at_; clear p2) | (refine wpList_buildSlice0 rfl 127 222 rfl _ 3 24 Tryz.underlying127 infoRv ?_; intro w3 p3; have x3 := cells1 (p3.keep P2.out.at_); have P3 := hid p3; clear p3) | (at_builtin; (refine wpList_app rfl (.tmp 48) (.tmp 52) 127 rfl 222 (.agg #[.int .i64 0, .int .i64 0, .bool false]) 3 24 Tryz.underlying127 infoRv rfl (by decide) _ 0 [] rfl P3.out.own0 (.slice a' B.length n') B.length (B.flatMap rvcell) rfl (P2.out.rd.frame P3.out.fr (fun _ _ e => e)) (by have := HB.out; unfold maxLen; omega) (by have := HB.out; omega) ?_; rintro v4 w4 o4 f4 b4 -; simp only [Nat.zero_add, List.nil_append] at o4; obtain ⟨a4, n4, rfl⟩ := ownsRow_slice o4; have X4 := hid (f4.keep (P3.out.keep P2.out.at_) (fun e => absurd (Option.some.inj e) (Nat.ne_of_gt (lt_of_block P2.out.at_)))); have O4 := hid (⟨o4, f4, b4⟩ : _ ∧ _ ∧ _); clear o4 f4 b4)) | (refine wpList_build' rfl 222 [(0, .tmp 54), (1, .tmp 55), (2, .tmp 56)] rfl [(0, .int .i64 t), (1, .int .i64 (v : Int)), (2, .bool gone)] rfl _ (rbuilt_v ..) ?_) | (refine wpList_buildSlice1 rfl 127 222 (.tmp 57) rfl _ 3 24 Tryz.underlying127 infoRv (by decide) (by decide) (.agg (rvcell ⟨t, v, gone⟩).toArray) rfl rfl ?_; intro w5 p5; have P5 := hid (show New (rvcell ⟨t, v, gone⟩).toArray 222 w4 w5 from p5); clear p5) | (at_builtin; go_must (refine wpList_app rfl (.tmp 53) (.tmp 58) 127 rfl 222 (.agg #[.int .i64 0, .int .i64 0, .bool false]) 3 24 Tryz.underlying127 infoRv rfl (by decide) (.slice a4 B.length n4) B.length (B.flatMap rvcell) rfl (fd_owns O4.out.1 P5.out.fr) (.slice (some ⟨w4.heap.size, 0, none⟩) 1 1) 1 (rvcell ⟨t, v, gone⟩) rfl (Rd.block P5.out.at_ 1 3 1 rfl (by simp [rvcell, Value.oneCell']) (Nat.le_refl _) (by simp [maxLen])) (by have := HB.out; unfold maxLen; omega) (by have := HB.out; omega) ?_; rintro v6 w6 o6 f6 b6 -; obtain ⟨a6, n6, rfl⟩ := ownsRow_slice o6; have X6 := hid (f6.keep (P5.out.keep X4.out) (fun e => (O4.out.2.2 x e).elim (fun q => absurd (Option.some.inj q) (Nat.ne_of_gt (lt_of_block P2.out.at_))) (fun q => absurd (Nat.lt_of_lt_of_le (lt_of_block P2.out.at_) P3.out.fr.size) (Nat.not_lt.2 q)))); have O6 := hid (⟨o6, f6, b6⟩ : _ ∧ _ ∧ _); clear o6 f6 b6)) | (refine wpList_store1 rfl 127 (.tmp 61) (.tmp 59) rfl x 0 rfl _ 129 (.slice a6 (B.length + 1) n6) rfl (by kernel_rfl) X6.out (by simp) rfl ?_; intro w7 p7; have P7 := hid p7; clear p7))
 go_ret
 obtain ⟨T', q1, q2, q3⟩ := rcell_done HH.out P2.out P3.out O4.out.1 O4.out.2.1 O4.out.2.2 P5.out O6.out.1 O6.out.2.1 O6.out.2.2 P7.out HB.out.1 HB.out.2.1 HB.out.2.2
 exact ⟨rfl, T', q1, q2, q3⟩
theorem rwrite_clash (w : World) (T : Nat → Prop) (x c gk : Nat) (K : Ck) (L : List (Ver Nat)) (h : RCellAt w T x L) (hk : RClkRow w c gk K) (t : Int) (v : Nat) (gone : Bool) (hc : clashV K t L = true) :
  Calls Tryz.prog 152 #[.pointer (some ⟨x, 0, none⟩), .pointer (some ⟨c, 0, none⟩), .int .i64 t, .int .i64 (v : Int), .bool gone] w fun e w' => e = .returned (.int .i64 6) ∧ Fr No w w' := by
 obtain ⟨g, hr, -⟩ := h.row
 have HC := hid (rcheck_any w x g c gk L K hr hk t)
 rw [hc] at HC
 clear h hk hc hr
 go_enter Tryz.func152, Tryz.ntmps152
 go_wp2_with (go_at_call 153; refine HC.out.mono ?_; rintro e w1 ⟨rfl, f1⟩; have e6 : rerr true = 6 := rfl; rw [e6]; clear e6; have F1 := hid f1; clear f1)
 go_ret
 exact ⟨rfl, F1.out⟩
theorem rwrite_any (w : World) (T : Nat → Prop) (x c gk : Nat) (K : Ck) (L : List (Ver Nat)) (h : RCellAt w T x L) (hk : RClkRow w c gk K) (hL : L.length < 1000000) (t : Int) (v : Nat) (gone : Bool) (hv : v ≤ 1000000) :
  Calls Tryz.prog 152 #[.pointer (some ⟨x, 0, none⟩), .pointer (some ⟨c, 0, none⟩), .int .i64 t, .int .i64 (v : Int), .bool gone] w fun e w' => e = .returned (.int .i64 (rerr (clashV K t L))) ∧ ∃ T', RCellAt w' T' x (writeV K t v gone L) ∧ Fr T w w' ∧ Grown w T T' := by
 cases hc : clashV K t L with
 | true =>
  have e : writeV K t v gone L = L := by unfold writeV; rw [if_pos hc]
  rw [e]
  exact (rwrite_clash w T x c gk K L h hk t v gone hc).mono fun e' w' ⟨h1, f⟩ => ⟨h1, T, h.frame f (fun _ _ e => e), f.mono (fun _ _ e => e.elim), Grown.refl _ _⟩
 | false =>
  cases hy : L.getLast? with
  | none =>
   have e : writeV K t v gone L = L ++ [⟨t, v, gone⟩] := by unfold writeV; rw [if_neg (by simp [hc]), hy]
   rw [e]
   exact rwrite_new w T x c gk K L h hk t v gone hc (fun y e => by rw [hy] at e; cases e) hL hv
  | some y =>
   by_cases hyt : y.by_ = t
   ·have e : writeV K t v gone L = L.dropLast ++ [⟨t, v, gone⟩] := by unfold writeV; rw [if_neg (by simp [hc]), hy]; simp only [if_pos hyt]
    obtain ⟨A, rfl⟩ := List.getLast?_eq_some_iff.1 hy
    rw [e, List.dropLast_concat]
    have := rwrite_over w T x c gk A.length K (A ++ [y]) h hk t v gone hc (by simp) y (by simp) hyt hv
    rwa [List.take_left'] at this
    rfl
   ·have e : writeV K t v gone L = L ++ [⟨t, v, gone⟩] := by unfold writeV; rw [if_neg (by simp [hc]), hy]; simp only [if_neg hyt]
    rw [e]
    exact rwrite_new w T x c gk K L h hk t v gone hc (fun z e => by rw [hy] at e; obtain rfl := Option.some.inj e; exact hyt) hL hv
end Go.Proofs.YthadcdoepoglkaaGreatDoor
