/- A part of the proof: contracts of functions of the program, for the row's text. -/
import Derived.Test.YthadcdoepoglkaaGreatDoorJ29
namespace Go.Proofs.YthadcdoepoglkaaGreatDoor
open Go.RowKit Go.Lig
theorem infoIx : (Tryz.prog.info? 167).map (fun i => (i.zero, i.size, i.bytes)) = some (some (.agg #[.string (ByteArray.mk #[]), .int .i64 0, .bool false, .int .i64 0, .float .f64 0, .string (ByteArray.mk #[]), .int .i64 0]), 7, 72) := by kernel_rfl
theorem cells7 {w : World} {b : Nat} {t : TypeId} {fr : Nat × Nat} {v0 v1 v2 v3 v4 v5 v6 : Value} (h : w.heap[b]? = some (.cells #[v0, v1, v2, v3, v4, v5, v6] t fr)) :
  w.cell? ⟨b, 0, none⟩ = some v0 ∧ w.cell? ⟨b, 1, none⟩ = some v1 ∧ w.cell? ⟨b, 2, none⟩ = some v2 ∧ w.cell? ⟨b, 3, none⟩ = some v3 ∧ w.cell? ⟨b, 4, none⟩ = some v4 ∧ w.cell? ⟨b, 5, none⟩ = some v5 ∧ w.cell? ⟨b, 6, none⟩ = some v6 := by
 simp [World.cell?, h]
theorem ixcell_one {l : List IxR} {u : Value} (h : u ∈ l.flatMap ixcell) : u.oneCell' = true := by
 obtain ⟨y, -, hu⟩ := List.mem_flatMap.1 h
 simp only [ixcell, List.mem_cons, List.not_mem_nil, or_false] at hu
 rcases hu with rfl | rfl | rfl | rfl | rfl | rfl | rfl <;> rfl
structure FBase (w0 : World) (T0 : Nat → Prop) (s m b2 b3 b6 : Nat) : Prop where
 n2 : w0.heap.size ≤ b2
 n3 : w0.heap.size ≤ b3
 n6 : w0.heap.size ≤ b6
 d2 : b6 ≠ b2
 d3 : b6 ≠ b3
 s6 : w0.cell? ⟨s, 6, none⟩ = some (.map (some m))
 sT : ¬ T0 s
 bd : ∀ b, T0 b → b < w0.heap.size
structure FSt (Kp : Nat → Obj → Prop) (w0 : World) (T0 : Nat → Prop) (s m b2 b3 b6 : Nat) (id : Int) (w : World) (X : List (ByteArray × List EntR)) (F : Nat) (es : List IxR) : Prop where
 ex : ∃ (T : Nat → Prop) (row : Value), IxAt w T m X F ∧ Fr T0 w0 w ∧ Grown w0 T0 T ∧ (∀ b, T b → b < w.heap.size) ∧ w.heap[b2]? = some (.cells #[.pointer (some ⟨s, 0, none⟩)] 25 (0, 0)) ∧ w.heap[b3]? = some (.cells #[.int .i64 id] 3 (0, 0)) ∧ w.heap[b6]? = some (.cells #[row] 163 (0, 0)) ∧
  w.ownsRow 0 167 7 row es.length (es.flatMap ixcell) ∧ (∀ b, row.ownBlock = some b → ¬ T b ∧ w0.heap.size ≤ b ∧ b ≠ b2 ∧ b ≠ b3 ∧ b ≠ b6) ∧ ¬ T b2 ∧ ¬ T b3 ∧ ¬ T b6 ∧ ∀ b o, Kp b o → w.heap[b]? = some o ∧ ¬ T b ∧ b ≠ b6 ∧ row.ownBlock ≠ some b
theorem FSt.frame {Kp : Nat → Obj → Prop} {w0 w w' : World} {T0 : Nat → Prop} {s m b2 b3 b6 F : Nat} {id : Int} {X : List (ByteArray × List EntR)} {es : List IxR} (h : FSt Kp w0 T0 s m b2 b3 b6 id w X F es) (hf : Fr No w w') : FSt Kp w0 T0 s m b2 b3 b6 id w' X F es := by
 obtain ⟨T, row, h1, h2, h3, h4, h5, h6, h7, h8, h9, h10, h11, h12, h13⟩ := h.ex
 exact ⟨T, row, h1.frame hf (fun _ _ e => e), h2.thenNo hf, h3, fun b hb => Nat.lt_of_lt_of_le (h4 b hb) hf.size, hf.keep h5 (fun e => e), hf.keep h6 (fun e => e), hf.keep h7 (fun e => e), fd_owns h8 hf, h9, h10, h11, h12, fun b o hk => ⟨hf.keep (h13 b o hk).1 (fun e => e), (h13 b o hk).2⟩⟩
set_option maxRecDepth 100000 in
set_option maxHeartbeats 2000000 in
theorem find1_any {Kp : Nat → Obj → Prop} {w0 : World} {T0 : Nat → Prop} {s m b2 b3 b6 : Nat} (B : FBase w0 T0 s m b2 b3 b6) {id : Int} (w : World) (X : List (ByteArray × List EntR)) (F : Nat) (es : List IxR) (h : FSt Kp w0 T0 s m b2 b3 b6 id w X F es) (hF : F < 999990) (hes : es.length < 1000000) (key : ByteArray) (hk : key.size ≤ maxLen) (v : ValR) (hok : ValOk v) (hid0 : (Lit.int .i64 id).wf = true) :
  Calls Tryz.prog 98 #[.string key, .agg #[.int .i64 v.kind, .bool v.b, .int .i64 v.n, .float .f64 v.f, .string v.t], .pointer (some ⟨b3, 0, none⟩), .pointer (some ⟨b2, 0, none⟩), .pointer (some ⟨b6, 0, none⟩)] w fun e w' =>
   e = .returned (.tuple #[]) ∧ FSt Kp w0 T0 s m b2 b3 b6 id w' (addX X key ⟨v, id⟩) (F + 2) (if hasX X key ⟨v, id⟩ then es else es ++ [⟨key, ⟨v, id⟩⟩]) := by
 obtain ⟨hb, hhb⟩ : ∃ hb, hasX X key ⟨v, id⟩ = hb := ⟨_, rfl⟩
 rw [hhb]
 obtain ⟨es', hes'⟩ : ∃ es', es' = if hb = true then es else es ++ [⟨key, ⟨v, id⟩⟩] := ⟨_, rfl⟩
 rw [← hes']
 have HES := hid hes'
 have HHB := hid hhb
 clear hes' hhb
 obtain ⟨k1, k2⟩ := heap2 w (.cells #[.int .i64 v.kind, .bool v.b, .int .i64 v.n, .float .f64 v.f, .string v.t] 56) (.cells #[.string key, .int .i64 v.kind, .bool v.b, .int .i64 v.n, .float .f64 v.f, .string v.t, .int .i64 id] 167)
 have hf : Fr No w ((w.alloc (.cells #[.int .i64 v.kind, .bool v.b, .int .i64 v.n, .float .f64 v.f, .string v.t] 56)).alloc (.cells #[.string key, .int .i64 v.kind, .bool v.b, .int .i64 v.n, .float .f64 v.f, .string v.t, .int .i64 id] 167)) := ((Fr.refl No w).alloc _).alloc _
 obtain ⟨T, row, i1, f0, g0, bd, e2, e3, e6, o6, r6, t2, t3, t6, kp⟩ := h.ex
 have c3 := cells1 e3
 have hl3 := lt_of_block e3
 have hbT : ¬ T (w.heap.size + 1) := fun E => by have := bd _ E; omega
 have hbb : b2 ≠ w.heap.size + 1 ∧ b6 ≠ w.heap.size + 1 := ⟨fun E => by have := lt_of_block e2; omega, fun E => by have := lt_of_block e6; omega⟩
 have hrb : row.ownBlock ≠ some (w.heap.size + 1) := fun E => by have := (o6.lt _ E).2; omega
 have HW := hid (⟨i1.frame hf (fun _ _ e => e), f0.thenNo hf, g0, (fun b hb => Nat.lt_of_lt_of_le (bd b hb) hf.size : ∀ b, T b → b < _), hf.keep e2 (fun e => e), hf.keep e3 (fun e => e), hf.keep e6 (fun e => e), fd_owns o6 hf, r6, t2, t3, t6, (fun b o hk => ⟨hf.keep (kp b o hk).1 (fun e => e), (kp b o hk).2⟩ : ∀ b o, Kp b o → _ ∧ _)⟩ : _ ∧ _ ∧ _ ∧ _ ∧ _ ∧ _ ∧ _ ∧ _ ∧ _ ∧ _ ∧ _ ∧ _ ∧ _)
 have HV := hid (⟨hbT, hbb, hrb⟩ : _ ∧ _ ∧ _)
 clear h i1 f0 g0 e2 e3 e6 o6 r6 t2 t3 t6 kp bd hbT hbb hrb
 go_enter Tryz.func98, Tryz.ntmps98
 go_wp2_with fail
 generalize hw2 : (w.alloc (.cells #[.int .i64 v.kind, .bool v.b, .int .i64 v.n, .float .f64 v.f, .string v.t] 56)).alloc (.cells #[.string key, .int .i64 v.kind, .bool v.b, .int .i64 v.n, .float .f64 v.f, .string v.t, .int .i64 id] 167) = w2 at *
 clear k1 hw2 c3 hl3
 generalize hbt : w.heap.size + 1 = bt at *
 clear hbt hf
 obtain ⟨i2, f2, g2, bd2, e2, e3, e6, o6, r6, t2, t3, t6, kp⟩ := HW.out
 have hs0 := World.block_lt_of_cell? _ _ B.s6
 have hsT : ¬ T s := fun E => by
  rcases g2 s E with h1 | h1
  ·exact B.sT h1
  ·exact Nat.lt_irrefl _ (Nat.lt_of_lt_of_le hs0 h1)
 have s6 : w2.cell? ⟨s, 6, none⟩ = some (.map (some m)) := by
  rw [World.cell?_of_block (w := w0) (f2.block s hs0 B.sT)]
  exact B.s6
 have x2 := cells1 e2
 obtain ⟨y0, y1, y2, y3, y4, y5, y6⟩ := cells7 k2
 have HS := hid (⟨s6, hsT⟩ : _ ∧ _)
 have HK := hid k2
 have hsc : ∀ U : Nat → Prop, (∀ k, U k → T k ∨ w2.heap.size ≤ k) → ∀ b ∈ [b2, bt], b < w2.drew.heap.size ∧ ¬ U b := fun U hU b hb => by
  have l1 : b2 < w2.drew.heap.size := lt_of_block e2
  have l2 : bt < w2.drew.heap.size := lt_of_block k2
  rcases List.mem_cons.1 hb with rfl | hb
  ·exact ⟨l1, fun E => by rcases hU _ E with h1 | h1; exact t2 h1; exact Nat.lt_irrefl _ (Nat.lt_of_lt_of_le l1 h1)⟩
  ·rw [List.mem_singleton.1 hb]
   exact ⟨l2, fun E => by rcases hU _ E with h1 | h1; exact HV.out.1 h1; exact Nat.lt_irrefl _ (Nat.lt_of_lt_of_le l2 h1)⟩
 have HSC := hid hsc
 clear e2 e3 e6 o6 r6 t2 t3 t6 kp s6 hsT hs0 k2 i2 f2 g2 bd2 hsc
 refine wp_region_sched (by kernel_rfl) 6 [2, 5] [0, 1, 3, 4, 2, 5] (AgC [b2, bt] w2.drew) (by kernel_rfl) (AgC.refl _ _) ?_
 simp only [List.map_cons, List.map_nil, List.contains_cons, List.contains_nil, nth_zero, nth_succ, Nat.reduceBEq, Bool.or_false, Bool.or_true]
 repeat (refine sched_quiet (fun K hK => ?_); go_simp; refine hK _ ?_; clear hK K)
 refine sched_call (by first | rfl | go_simp) 96 #[.pointer (some ⟨s, 0, none⟩), .string key] (by first | kernel_rfl | go_simp) (tree_any w2.drew T m F s X (HW.out.1.frame (Fr.refl No w2).drew (fun _ _ e => e)) HW.out.2.2.2.1 (by omega) HS.out.1 HS.out.2 key hk) ?_
 rintro e w3 ⟨q3, a3, j, rfl, hj, T3, i3, f3, g3, bd3⟩
 have a3' := (AgC.refl [b2, bt] w2.drew).fr f3 (HSC.out T (fun k h1 => .inl h1))
 refine ⟨_, rfl, a3', ?_⟩
 repeat (refine sched_quiet (fun K hK => ?_); go_simp; refine hK _ ?_; clear hK K)
 have hl3 := lOf_at hj
 have HA := hid (⟨addX_some hj ⟨v, id⟩, hasX_some hj ⟨v, id⟩⟩ : _ ∧ _)
 refine sched_call (by first | rfl | go_simp) 99 #[ptrAt a3 j, entA ⟨v, id⟩] (by first | kernel_rfl | go_simp) (ix_add w3 T3 m (F + 1) (openX X key) q3 a3 i3 bd3 (by omega) j key _ hl3 ⟨v, id⟩ ⟨hok, hid0⟩) ?_
 rintro e w4 ⟨rfl, q4, T4, i4, f4, g4, bd4⟩
 rw [← HA.out.1] at i4
 rw [← HA.out.2, HHB.out]
 have g34 : Grown w2.drew T T4 := g3.trans g4 f3.size
 have f24 : Fr T w2.drew w4 := f3.trans f4 (fun k hk E => by rcases g3 k E with h1 | h1; exact h1; omega)
 refine ⟨_, rfl, a3'.fr f4 (HSC.out T3 g3), ?_⟩
 have hdr : w2.drew.heap.size = w2.heap.size := rfl
 obtain ⟨i2, f2, g2, bd2, e2, e3, e6, o6, r6, t2, t3, t6, kp⟩ := HW.out
 have hold : ∀ b, b < w2.heap.size → ¬ T b → ¬ T4 b := fun b hb hn E => by
  rcases g34 b E with h1 | h1
  ·exact hn h1
  ·omega
 have H4 := hid (⟨i4.close.more (show F + 1 + 1 ≤ F + 2 by omega), f2.drew.trans f24 (fun k hk E => by rcases g2 k E with h1 | h1; exact h1; omega), g2.trans g34 f2.size, bd4, f24.keep (w := w2.drew) e2 t2, f24.keep (w := w2.drew) e3 t3, f24.keep (w := w2.drew) e6 t6, f24.owns (w := w2.drew) o6 (fun k hk => (r6 k hk).1), (fun b hb => ⟨hold b (o6.lt b hb).2 (r6 b hb).1, (r6 b hb).2⟩ : ∀ b, row.ownBlock = some b → _ ∧ _), hold b2 (lt_of_block e2) t2, hold b3 (lt_of_block e3) t3, hold b6 (lt_of_block e6) t6, (fun b o hk => ⟨f24.keep (w := w2.drew) (kp b o hk).1 (kp b o hk).2.1, hold b (lt_of_block (kp b o hk).1) (kp b o hk).2.1, (kp b o hk).2.2⟩ : ∀ b o, Kp b o → _ ∧ _ ∧ _)⟩ : _ ∧ _ ∧ _ ∧ _ ∧ _ ∧ _ ∧ _ ∧ _ ∧ _ ∧ _ ∧ _ ∧ _ ∧ _)
 have HT := hid (f24.keep (w := w2.drew) HK.out HV.out.1)
 clear i2 f2 g2 bd2 e2 e3 e6 o6 r6 t2 t3 t6 kp i4 i3 f3 g3 f4 g4 bd3 bd4 g34 f24 hold hj hl3 HA a3' x2 y0 y1 y2 y3 y4 y5 y6
 refine sched_nil ?_
 cases hb with
 | true =>
  go_wp2_with fail
  go_end0
  have hee : es' = es := by have := HES.out; simpa using this
  rw [hee]
  exact ⟨rfl, ⟨T4, row, H4.out⟩⟩
 | false =>
  obtain ⟨i4, f04, g04, bd4, e2, e3, e6, o6, r6, t2, t3, t6, kp⟩ := H4.out
  have x6 := cells1 e6
  obtain ⟨y0, y1, y2, y3, y4, y5, y6⟩ := cells7 HT.out
  clear i4 f04 g04 bd4 e2 e3 e6 o6 r6 t2 t3 t6 kp
  go_wp2_with (first | (refine wpList_buildSlice1 rfl 163 167 (.tmp 20) rfl _ 7 72 Tryz.underlying163 infoIx (by decide) (by decide) (.agg #[.string key, .int .i64 v.kind, .bool v.b, .int .i64 v.n, .float .f64 v.f, .string v.t, .int .i64 id]) rfl rfl ?_; intro w5 p5; have P5 := hid p5; clear p5) | (refine wpList_app rfl (.tmp 19) (.tmp 21) 163 rfl 167 _ 7 72 Tryz.underlying163 infoIx ?_ (by decide) row es.length (es.flatMap ixcell) rfl ?_ (.slice (some ⟨w4.heap.size, 0, none⟩) 1 1) 1 (ixcell ⟨key, ⟨v, id⟩⟩) rfl ?_ ?_ ?_ ?_))
  case refine_1 => kernel_rfl
  case refine_2 => exact fd_owns H4.out.2.2.2.2.2.2.2.1 P5.out.fr
  case refine_3 => exact Rd.block (cs := ixcell ⟨key, ⟨v, id⟩⟩) P5.out.at_ 1 7 1 rfl (fun u hu => ixcell_one (l := [⟨key, ⟨v, id⟩⟩]) (by simpa using hu)) (Nat.le_refl _) (by simp [maxLen])
  case refine_4 => unfold maxLen; omega
  case refine_5 => omega
  case refine_6 =>
   intro v6 w6 o6 f6 b6' _
   have x6' := f6.keep (P5.out.fr.keep H4.out.2.2.2.2.2.2.1 (fun e => e)) (fun E => (H4.out.2.2.2.2.2.2.2.2.1 _ E).2.2.2.2 rfl)
   obtain ⟨av, cv, rfl⟩ := ownsRow_slice o6
   have H6 := hid (⟨o6, f6, b6', x6'⟩ : _ ∧ _ ∧ _ ∧ _)
   clear o6 f6 b6' x6' x6
   go_wp2_with (refine wpList_store1 rfl 163 (.tmp 4) (.tmp 22) rfl b6 0 rfl _ _ (.slice av (es.length + 1) cv) rfl (by kernel_rfl) H6.out.2.2.2 (by simp) rfl ?_; intro w7 p7; have P7 := hid p7; clear p7)
   go_end0
   have hee : es' = es ++ [⟨key, ⟨v, id⟩⟩] := by have := HES.out; simpa using this
   rw [hee]
   obtain ⟨i4, f04, g04, bd4, e2, e3, e6, o6, r6, t2, t3, t6, kp⟩ := H4.out
   have q7 : Put b6 #[.slice av (es.length + 1) cv] 163 w6 w7 := by simpa using P7.out
   have l6 := lt_of_block e6
   have l2 := lt_of_block e2
   have l3 := lt_of_block e3
   have hz5 := P5.out.fr.size
   -- what the append and the store leave alone
   have k6 : ∀ b, b < w4.heap.size → row.ownBlock ≠ some b → b ≠ b6 → w7.heap[b]? = w4.heap[b]? := fun b hb h1 h2 => by
    rw [q7.fr.block b (Nat.lt_of_lt_of_le (Nat.lt_of_lt_of_le hb hz5) H6.out.2.1.size) h2, H6.out.2.1.block b (Nat.lt_of_lt_of_le hb hz5) h1, P5.out.fr.block b hb (fun e => e)]
   have f47 : Fr (fun b => row.ownBlock = some b ∨ b = b6) w4 w7 := (((P5.out.fr.mono (fun _ _ E => E.elim)).thenS (H6.out.2.1.mono (fun k _ E => .inl E)))).thenS (q7.fr.mono (fun k _ E => .inr E))
   have hrow : ∀ b, (Value.slice av (es.length + 1) cv).ownBlock = some b → row.ownBlock = some b ∨ w4.heap.size ≤ b := fun b hb => by
    rcases H6.out.2.2.1 b hb with h1 | h1
    ·exact .inl h1
    ·exact .inr (Nat.le_trans hz5 h1)
   have hnb6 : (Value.slice av (es.length + 1) cv).ownBlock ≠ some b6 := fun E => by
    rcases hrow _ E with h1 | h1
    ·exact (r6 _ h1).2.2.2.2 rfl
    ·omega
   refine ⟨rfl, ⟨T4, _, i4.frame f47 (fun k hk E => by rcases E with h1 | h1; exact (r6 _ h1).1 hk; subst h1; exact t6 hk), f04.trans f47 (fun k hk E => by rcases E with h1 | h1; exact absurd hk (Nat.not_lt.2 (r6 _ h1).2.1); subst h1; exact absurd hk (Nat.not_lt.2 B.n6)), g04, fun b hb => Nat.lt_of_lt_of_le (bd4 b hb) f47.size, ?_, ?_, q7.at_, ?_, fun b hb => ?_, t2, t3, t6, fun b o hk => ?_⟩⟩
   ·rw [k6 b2 l2 (fun E => (r6 _ E).2.2.1 rfl) (fun E => B.d2 E.symm)]; exact e2
   ·rw [k6 b3 l3 (fun E => (r6 _ E).2.2.2.1 rfl) (fun E => B.d3 E.symm)]; exact e3
   ·have := q7.fr.owns H6.out.1 (fun b hb E => by subst E; exact hnb6 hb)
    rw [List.length_append, List.flatMap_append]
    simpa using this
   ·rcases hrow b hb with h1 | h1
    ·exact r6 b h1
    ·refine ⟨fun E => by have := bd4 b E; omega, by have := f04.size; omega, by omega, by omega, by omega⟩
   ·obtain ⟨c1, c2, c3, c4⟩ := kp b o hk
    have lb := lt_of_block c1
    exact ⟨(k6 b lb c4 c3).trans c1, c2, c3, fun E => by
     rcases hrow b E with h1 | h1
     ·exact c4 h1
     ·omega⟩
end Go.Proofs.YthadcdoepoglkaaGreatDoor
namespace Go.Proofs.YthadcdoepoglkaaGreatDoor
open Go.RowKit Go.Lig
def labV (s : ByteArray) : ValR := ⟨4, false, 0, 0, s⟩
theorem label_any (w : World) (s : ByteArray) : Calls Tryz.prog 103 #[.string s] w fun e w' => e = .returned (.agg #[.int .i64 4, .bool false, .int .i64 0, .float .f64 0, .string s]) ∧ Fr No w w' := by
 go_enter Tryz.func103, Tryz.ntmps103
 go_wp2_with fail
 refine bodyPost_ret (v := .agg #[.int .i64 4, .bool false, .int .i64 0, .float .f64 0, .string s]) ?_ rfl ⟨rfl, (Fr.refl No w).alloc _⟩
 simp [results, Tryz.f103, go_sem]
def stepE (id : Int) (p : List (ByteArray × List EntR) × List IxR) (y : ByteArray × ValR) : List (ByteArray × List EntR) × List IxR := (addX p.1 y.1 ⟨y.2, id⟩, if hasX p.1 y.1 ⟨y.2, id⟩ then p.2 else p.2 ++ [⟨y.1, ⟨y.2, id⟩⟩])
def runE (id : Int) (p : List (ByteArray × List EntR) × List IxR) (l : List (ByteArray × ValR)) : List (ByteArray × List EntR) × List IxR := l.foldl (stepE id) p
theorem runE_snoc (id : Int) (p : List (ByteArray × List EntR) × List IxR) (l : List (ByteArray × ValR)) (y : ByteArray × ValR) : runE id p (l ++ [y]) = stepE id (runE id p l) y := by
 unfold runE
 rw [List.foldl_append]
 rfl
theorem runE_len (id : Int) : ∀ (l : List (ByteArray × ValR)) (p : List (ByteArray × List EntR) × List IxR), (runE id p l).2.length ≤ p.2.length + l.length
 | [], p => Nat.le_refl _
 | y :: l, p => by
  have h1 := runE_len id l (stepE id p y)
  have h2 : (stepE id p y).2.length ≤ p.2.length + 1 := by
   unfold stepE
   simp only []
   split
   ·omega
   ·simp
  show (runE id (stepE id p y) l).2.length ≤ _
  simp only [List.length_cons]
  omega
theorem FSt.keepNew {Kp : Nat → Obj → Prop} {w0 w w' : World} {T0 : Nat → Prop} {s m b2 b3 b6 F : Nat} {id : Int} {X : List (ByteArray × List EntR)} {es : List IxR} (h : FSt Kp w0 T0 s m b2 b3 b6 id w X F es) (hf : Fr No w w') {Kq : Nat → Obj → Prop}
  (hn : ∀ b o, Kq b o → Kp b o ∨ (w'.heap[b]? = some o ∧ w.heap.size ≤ b)) : FSt Kq w0 T0 s m b2 b3 b6 id w' X F es := by
 obtain ⟨T, row, h1, h2, h3, h4, h5, h6, h7, h8, h9, h10, h11, h12, h13⟩ := (h.frame hf).ex
 obtain ⟨T1, row1, g1, g2, g3, g4, g5, g6, g7, g8, g9, g10, g11, g12, g13⟩ := h.ex
 have l6 := lt_of_block g7
 refine ⟨T1, row1, g1.frame hf (fun _ _ e => e), g2.thenNo hf, g3, fun b hb => Nat.lt_of_lt_of_le (g4 b hb) hf.size, hf.keep g5 (fun e => e), hf.keep g6 (fun e => e), hf.keep g7 (fun e => e), fd_owns g8 hf, g9, g10, g11, g12, fun b o hk => ?_⟩
 rcases hn b o hk with hk | ⟨hk, hl⟩
 ·exact ⟨hf.keep (g13 b o hk).1 (fun e => e), (g13 b o hk).2⟩
 ·exact ⟨hk, fun e => by have := g4 b e; omega, by omega, fun e => by have := (g8.lt b e).2; omega⟩
theorem FSt.kept {Kp : Nat → Obj → Prop} {w0 w : World} {T0 : Nat → Prop} {s m b2 b3 b6 F : Nat} {id : Int} {X : List (ByteArray × List EntR)} {es : List IxR} (h : FSt Kp w0 T0 s m b2 b3 b6 id w X F es) {b : Nat} {o : Obj} (hk : Kp b o) : w.heap[b]? = some o := by
 obtain ⟨T, row, h1, h2, h3, h4, h5, h6, h7, h8, h9, h10, h11, h12, h13⟩ := h.ex
 exact (h13 b o hk).1
theorem FSt.fr {Kp : Nat → Obj → Prop} {w0 w : World} {T0 : Nat → Prop} {s m b2 b3 b6 F : Nat} {id : Int} {X : List (ByteArray × List EntR)} {es : List IxR} (h : FSt Kp w0 T0 s m b2 b3 b6 id w X F es) : Fr T0 w0 w := by
 obtain ⟨T, row, h1, h2, h3⟩ := h.ex
 exact h2
theorem FSt.more {Kp : Nat → Obj → Prop} {w0 w : World} {T0 : Nat → Prop} {s m b2 b3 b6 F G : Nat} {id : Int} {X : List (ByteArray × List EntR)} {es : List IxR} (h : FSt Kp w0 T0 s m b2 b3 b6 id w X F es) (hg : F ≤ G) : FSt Kp w0 T0 s m b2 b3 b6 id w X G es := by
 obtain ⟨T, row, h1, h2⟩ := h.ex
 exact ⟨T, row, h1.more hg, h2⟩
end Go.Proofs.YthadcdoepoglkaaGreatDoor
namespace Go.Proofs.YthadcdoepoglkaaGreatDoor
open Go.RowKit Go.Lig
def labsOf (d : NodeD) : List (ByteArray × ValR) := d.L.map (fun s => (ByteArray.mk #[], labV s))
def propsOf (d : NodeD) : List (ByteArray × ValR) := d.Q.map (fun p => (p.key, p.v))
theorem takeSnoc {α : Type} {l : List α} {i : Nat} {y : α} (h : l[i]? = some y) : l.take (i + 1) = l.take i ++ [y] := by
 rw [List.take_add_one, h]
 rfl
theorem labV_ok {s : ByteArray} (h : s.size ≤ maxLen) : ValOk (labV s) := ⟨show (Lit.int .i64 4).wf = true by decide, show (Lit.int .i64 0).wf = true by decide, show (Lit.float .f64 0).wf = true by decide, h⟩
set_option maxRecDepth 100000 in
set_option maxHeartbeats 4000000 in
theorem finds2_any {Kp : Nat → Obj → Prop} {w0 : World} {T0 : Nat → Prop} {s m b2 b3 b6 : Nat} (B : FBase w0 T0 s m b2 b3 b6) {id : Int} (w : World) (X : List (ByteArray × List EntR)) (F : Nat) (es : List IxR) (h : FSt Kp w0 T0 s m b2 b3 b6 id w X F es) (b7 : Nat) (h7 : Kp b7 (.cells #[.func (.func 98) #[] #[.pointer (some ⟨b3, 0, none⟩), .pointer (some ⟨b2, 0, none⟩), .pointer (some ⟨b6, 0, none⟩)]] 170 (0, 0)))
  (la pa : Option Addr) (ln lc pn pc : Nat) (d : NodeD) (I : Nat → Prop) (hnd : NodeIn w0 I (.slice la ln lc) (.slice pa pn pc) d) (hI : ∀ k, I k → ¬ T0 k) (hF : F + 2 * (d.L.length + d.Q.length) < 999990) (hes : es.length + (d.L.length + d.Q.length) < 1000000) (hid0 : (Lit.int .i64 id).wf = true) :
  Calls Tryz.prog 102 #[.agg #[.slice la ln lc, .slice pa pn pc], .pointer (some ⟨b7, 0, none⟩)] w fun e w' =>
   e = .returned (.tuple #[]) ∧ FSt Kp w0 T0 s m b2 b3 b6 id w' (runE id (X, es) (labsOf d ++ propsOf d)).1 (F + 2 * (d.L.length + d.Q.length)) (runE id (X, es) (labsOf d ++ propsOf d)).2 := by
 obtain ⟨ao1, co1, e1, -⟩ := rd_len hnd.l.rd
 obtain ⟨ao2, co2, e2, -⟩ := rd_len hnd.p.rd
 obtain ⟨-, rfl, -⟩ := Value.slice.inj e1
 obtain ⟨-, rfl, -⟩ := Value.slice.inj e2
 clear e1 e2 ao1 co1 ao2 co2
 generalize hnl : d.L.length = nl at *
 generalize hnp : d.Q.length = np at *
 have hbk := heap1 w (.cells #[.slice la nl lc, .slice pa np pc] 34)
 have hf : Fr No w (w.alloc (.cells #[.slice la nl lc, .slice pa np pc] 34)) := (Fr.refl No w).alloc _
 obtain ⟨Kq, hKq⟩ : ∃ Kq : Nat → Obj → Prop, Kq = fun b o => Kp b o ∨ (b = w.heap.size ∧ o = .cells #[.slice la nl lc, .slice pa np pc] 34 (0, 0)) := ⟨_, rfl⟩
 have h2 : FSt Kq w0 T0 s m b2 b3 b6 id _ X F es := h.keepNew hf (Kq := Kq) (fun b o hk => by
  rw [hKq] at hk
  rcases hk with hk | ⟨rfl, rfl⟩
  ·exact .inl hk
  ·exact .inr ⟨hbk, Nat.le_refl _⟩)
 have k7 : Kq b7 (.cells #[.func (.func 98) #[] #[.pointer (some ⟨b3, 0, none⟩), .pointer (some ⟨b2, 0, none⟩), .pointer (some ⟨b6, 0, none⟩)]] 170 (0, 0)) := by rw [hKq]; exact .inl h7
 have kn : Kq w.heap.size (.cells #[.slice la nl lc, .slice pa np pc] 34 (0, 0)) := by rw [hKq]; exact .inr ⟨rfl, rfl⟩
 have HK := hid (⟨k7, kn, (fun b o hk => by rw [hKq]; exact .inl hk : ∀ b o, Kp b o → Kq b o)⟩ : _ ∧ _ ∧ _)
 have H2 := hid h2
 have HN := hid (⟨hnd, hI, hnl, hnp⟩ : _ ∧ _ ∧ _ ∧ _)
 have HBo := hid (⟨hF, hes⟩ : _ ∧ _)
 have hnlS : nl ≤ 1000000 := by have := hnd.few.1; omega
 have hnpS : np ≤ 1000000 := by have := hnd.few.2; omega
 clear h h2 k7 kn hKq h7 hnd hI hnl hnp hF hes
 go_enter Tryz.func102, Tryz.ntmps102
 go_wp2_with fail
 generalize w.alloc (.cells #[.slice la nl lc, .slice pa np pc] 34) = w2 at *
 obtain ⟨c0, c1⟩ := cells2 hbk
 generalize w.heap.size = bn at *
 have HLT := hid (lt_of_block hbk)
 clear hf hbk c0 c1
 go_loopw [10] (fun vi wr => ∃ i : Nat, i ≤ nl ∧ vi = .int .i64 (i : Int) ∧ Hid (FSt Kq w0 T0 s m b2 b3 b6 id wr (runE id (X, es) ((labsOf d).take i)).1 (F + 2 * i) (runE id (X, es) ((labsOf d).take i)).2)) (fun vi _ => nl - (intOf vi).toNat)
 case atStart => exact ⟨0, Nat.zero_le _, rfl, H2.out⟩
 case round =>
  obtain ⟨i, hi, rfl, HI⟩ := hrel
  by_cases hlt : i < nl
  ·obtain ⟨y, hy⟩ : ∃ y, d.L[i]? = some y := ⟨d.L[i]'(by have := HN.out.2.2.1; omega), List.getElem?_eq_getElem _⟩
   have hrd := (HN.out.1.l.frame HI.out.fr HN.out.2.1).rd
   obtain ⟨bl, ol, cl, el, hcl⟩ := hrd.at1 (k := i) (u := .string y) (by rw [List.getElem?_map, hy]; rfl)
   obtain ⟨rfl, -, rfl⟩ := Value.slice.inj el
   have y0 := hcl wr (Fr.refl _ _)
   have HY := hid (⟨hy, hcl⟩ : _ ∧ _)
   have x7 := cells1 (HI.out.kept HK.out.1)
   have hl7 := World.block_lt_of_cell? _ _ x7
   clear hy el hcl hrd
   go_wp2_with fail
   have hsc : ∀ b ∈ [b7], b < wr.drew.heap.size ∧ ¬ No b := fun b hb => ⟨by rw [List.mem_singleton.1 hb]; exact hl7, fun e => e⟩
   refine wp_region_sched (by kernel_rfl) 4 [2, 3] [0, 1, 2, 3] (AgC [b7] wr.drew) (by kernel_rfl) (AgC.refl _ _) ?_
   simp only [List.map_cons, List.map_nil, List.contains_cons, List.contains_nil, nth_zero, nth_succ, Nat.reduceBEq, Bool.or_false, Bool.or_true]
   repeat (refine sched_quiet (fun K hK => ?_); go_simp; refine hK _ ?_; clear hK K)
   refine sched_call (by first | rfl | go_simp) 103 #[.string y] (by first | kernel_rfl | go_simp) (label_any _ y) ?_
   rintro e w3 ⟨rfl, f3⟩
   have a3 := (AgC.refl [b7] wr.drew).fr f3 hsc
   refine ⟨_, rfl, a3, ?_⟩
   have hst := HI.out.frame ((Fr.refl No wr).drew.thenNo f3)
   obtain ⟨p, hp⟩ : ∃ p, p = runE id (X, es) ((labsOf d).take i) := ⟨_, rfl⟩
   have hpl : p.2.length ≤ es.length + i := by
    have := runE_len id ((labsOf d).take i) (X, es)
    rw [← hp] at this
    rw [List.length_take] at this
    simp only [] at this
    omega
   rw [← hp] at hst
   have hns : runE id (X, es) ((labsOf d).take (i + 1)) = stepE id p (ByteArray.mk #[], labV y) := by
    rw [takeSnoc (l := labsOf d) (i := i) (y := (ByteArray.mk #[], labV y)) (by unfold labsOf; rw [List.getElem?_map, HY.out.1]; rfl), runE_snoc, hp]
   have hle : y.size ≤ maxLen := HN.out.1.ls y (List.mem_of_getElem? HY.out.1)
   have HNS := hid hns
   have hkp : ∀ b o, Kq b o → True := fun _ _ _ => trivial
   clear hp hns hkp x7 y0 hl7
   refine sched_call (by first | rfl | go_simp) 98 #[.string (ByteArray.mk #[]), .agg #[.int .i64 4, .bool false, .int .i64 0, .float .f64 0, .string y], .pointer (some ⟨b3, 0, none⟩), .pointer (some ⟨b2, 0, none⟩), .pointer (some ⟨b6, 0, none⟩)] (by first | kernel_rfl | go_simp) (find1_any B w3 p.1 (F + 2 * i) p.2 hst (by have := HBo.out; omega) (by have := HBo.out; omega) (ByteArray.mk #[]) (Nat.zero_le _) (labV y) (labV_ok hle) hid0) ?_
   rintro e w4 ⟨rfl, h4⟩
   have x4 := h4.kept HK.out.1
   have x3 := hst.kept HK.out.1
   refine ⟨_, rfl, AgC.mk (fun b hb => by rw [List.mem_singleton.1 hb, x4]; exact (HI.out.kept HK.out.1).symm), ?_⟩
   have H4 := hid h4
   clear h4 x4 x3 hst a3 hsc f3
   repeat (refine sched_quiet (fun K hK => ?_); go_simp; refine hK _ ?_; clear hK K)
   refine sched_nil ?_
   go_wp2_with fail
   go_roundw
   case rel => exact ⟨i + 1, by omega, by go_num, by rw [HNS.out]; exact H4.out⟩
   case measure => simp [intOf]; omega
  ·have hin : i = nl := by omega
   subst hin
   have hnl' : (labsOf d).take i = labsOf d := List.take_of_length_le (by unfold labsOf; rw [List.length_map, HN.out.2.2.1]; exact Nat.le_refl _)
   rw [hnl'] at HI
   obtain ⟨x0, x1⟩ := cells2 (HI.out.kept HK.out.2.1)
   clear hnl' hi hlt
   go_wp2_with fail
   obtain ⟨p0, hp0⟩ : ∃ p0, p0 = runE id (X, es) (labsOf d) := ⟨_, rfl⟩
   have hfin : runE id (X, es) (labsOf d ++ propsOf d) = runE id p0 (propsOf d) := by rw [hp0]; unfold runE; rw [List.foldl_append]
   have hp0l : p0.2.length ≤ es.length + i := by
    have := runE_len id (labsOf d) (X, es)
    rw [← hp0] at this
    have h2 : (labsOf d).length = i := by unfold labsOf; rw [List.length_map, HN.out.2.2.1]
    simp only [] at this
    omega
   rw [← hp0] at HI
   have HFin := hid hfin
   have HPl := hid hp0l
   clear hfin hp0l hp0 x0 x1
   go_loopw [22] (fun vi w5 => ∃ j : Nat, j ≤ np ∧ vi = .int .i64 (j : Int) ∧ Hid (FSt Kq w0 T0 s m b2 b3 b6 id w5 (runE id p0 ((propsOf d).take j)).1 (F + 2 * i + 2 * j) (runE id p0 ((propsOf d).take j)).2)) (fun vi _ => np - (intOf vi).toNat)
   case atStart => exact ⟨0, Nat.zero_le _, rfl, HI.out⟩
   case round =>
    obtain ⟨j, hj, rfl, HJ⟩ := hrel
    by_cases hltj : j < np
    ·obtain ⟨⟨yk, ⟨vk, vb, vn, vf, vt⟩⟩, hy⟩ : ∃ y, d.Q[j]? = some y := ⟨d.Q[j]'(by have := HN.out.2.2.2; omega), List.getElem?_eq_getElem _⟩
     have hrd := (HN.out.1.p.frame HJ.out.fr HN.out.2.1).rd
     have hg : ∀ t, t < 6 → (d.Q.flatMap pcell)[j * 6 + t]? = (pcell ⟨yk, ⟨vk, vb, vn, vf, vt⟩⟩)[t]? := fun t ht => flat_get (f := pcell) (m := 6) (fun _ => rfl) _ _ _ hy t ht
     obtain ⟨bl, ol, cl, el, hc0⟩ := hrd.at1 (k := j * 6) (u := .string yk) (by rw [← Nat.add_zero (j * 6), hg 0 (by decide)]; rfl)
     obtain ⟨rfl, -, rfl⟩ := Value.slice.inj el
     have cg : ∀ t u, t < 6 → (pcell ⟨yk, ⟨vk, vb, vn, vf, vt⟩⟩)[t]? = some u → wr.cell? ⟨bl, ol + j * 6 + t, none⟩ = some u := fun t u ht hu => by
      obtain ⟨bl', ol', cl', el', hc'⟩ := hrd.at1 (k := j * 6 + t) (u := u) (by rw [hg t ht]; exact hu)
      obtain ⟨e1, -, -⟩ := Value.slice.inj el'
      simp only [Option.some.injEq, Addr.mk.injEq, and_true] at e1
      obtain ⟨rfl, rfl⟩ := e1
      rw [Nat.add_assoc]
      exact hc' _ (Fr.refl _ _)
     have y0 := hc0 wr (Fr.refl _ _)
     have y1 := cg 1 _ (by decide) rfl
     have y2 := cg 2 _ (by decide) rfl
     have y3 := cg 3 _ (by decide) rfl
     have y4 := cg 4 _ (by decide) rfl
     have y5 := cg 5 _ (by decide) rfl
     have x7 := cells1 (HJ.out.kept HK.out.1)
     have hl7 := World.block_lt_of_cell? _ _ x7
     obtain ⟨p, hp⟩ : ∃ p, p = runE id p0 ((propsOf d).take j) := ⟨_, rfl⟩
     have hpl : p.2.length ≤ es.length + i + j := by
      have := runE_len id ((propsOf d).take j) p0
      rw [← hp, List.length_take] at this
      have := HPl.out
      omega
     have hns : runE id p0 ((propsOf d).take (j + 1)) = stepE id p (yk, ⟨vk, vb, vn, vf, vt⟩) := by
      rw [takeSnoc (l := propsOf d) (i := j) (y := (yk, ⟨vk, vb, vn, vf, vt⟩)) (by unfold propsOf; rw [List.getElem?_map, hy]; rfl), runE_snoc, hp]
     have hok := HN.out.1.ok _ (List.mem_of_getElem? hy)
     have HNS := hid hns
     have hfr : Fr No wr (wr.alloc (.cells #[.string yk, .int .i64 vk, .bool vb, .int .i64 vn, .float .f64 vf, .string vt] 98)) := (Fr.refl No wr).alloc _
     have hst := HJ.out.frame hfr
     rw [← hp] at hst
     have HC := hid (find1_any B _ p.1 (F + 2 * i + 2 * j) p.2 hst (by have := HBo.out; omega) (by have := HBo.out; omega) yk hok.key ⟨vk, vb, vn, vf, vt⟩ hok.v hid0)
     clear hp hns hy hrd hg cg hc0 el hst hfr hok hpl
     go_wp2_with (go_at_call 98; refine HC.out.mono ?_; rintro e w4 ⟨rfl, h4⟩; have H4 := hid h4; clear h4)
     go_roundw
     case rel => exact ⟨j + 1, by omega, by go_num, by rw [HNS.out]; exact H4.out⟩
     case measure => simp [intOf]; omega
    ·have hjn : j = np := by omega
     subst hjn
     have hnl' : (propsOf d).take j = propsOf d := List.take_of_length_le (by unfold propsOf; rw [List.length_map, HN.out.2.2.2]; exact Nat.le_refl _)
     rw [hnl', ← HFin.out] at HJ
     clear hnl' hj hltj
     go_wp2_with fail
     go_end0
     exact ⟨rfl, (HJ.out.keepNew (Fr.refl No _) (fun b o hk => .inl (HK.out.2.2 b o hk))).more (by omega)⟩
end Go.Proofs.YthadcdoepoglkaaGreatDoor
namespace Go.Proofs.YthadcdoepoglkaaGreatDoor
open Go.RowKit Go.Lig
structure LSt (Kp : Nat → Obj → Prop) (w0 : World) (T0 : Nat → Prop) (m : Nat) (w : World) (X : List (ByteArray × List EntR)) (F : Nat) : Prop where
 ex : ∃ T : Nat → Prop, IxAt w T m X F ∧ Fr T0 w0 w ∧ Grown w0 T0 T ∧ (∀ b, T b → b < w.heap.size) ∧ ∀ b o, Kp b o → w.heap[b]? = some o ∧ ¬ T b
theorem LSt.frame {Kp : Nat → Obj → Prop} {w0 w w' : World} {T0 : Nat → Prop} {m F : Nat} {X : List (ByteArray × List EntR)} (h : LSt Kp w0 T0 m w X F) (hf : Fr No w w') : LSt Kp w0 T0 m w' X F := by
 obtain ⟨T, h1, h2, h3, h4, h5⟩ := h.ex
 exact ⟨T, h1.frame hf (fun _ _ e => e), h2.thenNo hf, h3, fun b hb => Nat.lt_of_lt_of_le (h4 b hb) hf.size, fun b o hk => ⟨hf.keep (h5 b o hk).1 (fun e => e), (h5 b o hk).2⟩⟩
theorem LSt.fr {Kp : Nat → Obj → Prop} {w0 w : World} {T0 : Nat → Prop} {m F : Nat} {X : List (ByteArray × List EntR)} (h : LSt Kp w0 T0 m w X F) : Fr T0 w0 w := by
 obtain ⟨T, h1, h2, h3⟩ := h.ex
 exact h2
theorem LSt.kept {Kp : Nat → Obj → Prop} {w0 w : World} {T0 : Nat → Prop} {m F : Nat} {X : List (ByteArray × List EntR)} (h : LSt Kp w0 T0 m w X F) {b : Nat} {o : Obj} (hk : Kp b o) : w.heap[b]? = some o := by
 obtain ⟨T, h1, h2, h3, h4, h5⟩ := h.ex
 exact (h5 b o hk).1
theorem LSt.keepNew {Kp Kq : Nat → Obj → Prop} {w0 w w' : World} {T0 : Nat → Prop} {m F : Nat} {X : List (ByteArray × List EntR)} (h : LSt Kp w0 T0 m w X F) (hf : Fr No w w') (hn : ∀ b o, Kq b o → Kp b o ∨ (w'.heap[b]? = some o ∧ w.heap.size ≤ b)) : LSt Kq w0 T0 m w' X F := by
 obtain ⟨T, h1, h2, h3, h4, h5⟩ := h.ex
 refine ⟨T, h1.frame hf (fun _ _ e => e), h2.thenNo hf, h3, fun b hb => Nat.lt_of_lt_of_le (h4 b hb) hf.size, fun b o hk => ?_⟩
 rcases hn b o hk with hk | ⟨hk, hl⟩
 ·exact ⟨hf.keep (h5 b o hk).1 (fun e => e), (h5 b o hk).2⟩
 ·exact ⟨hk, fun e => by have := h4 b e; omega⟩
theorem LSt.tree {Kp : Nat → Obj → Prop} {w0 w : World} {T0 : Nat → Prop} {m F s : Nat} {X : List (ByteArray × List EntR)} (h : LSt Kp w0 T0 m w X F) (hF : F < 1000000) (h6 : w0.cell? ⟨s, 6, none⟩ = some (.map (some m))) (hsT : ¬ T0 s) (key : ByteArray) (hk : key.size ≤ maxLen) (e : EntR) :
  Calls Tryz.prog 96 #[.pointer (some ⟨s, 0, none⟩), .string key] w fun r w' => ∃ v, r = .returned v ∧ (∀ b o, Kp b o → w'.heap[b]? = some o) ∧
   Calls Tryz.prog 97 #[v, entA e] w' fun r2 w2 => (∃ b, r2 = .returned (.bool b)) ∧ LSt Kp w0 T0 m w2 (delX X key e) (F + 1) := by
 obtain ⟨T, h1, h2, h3, h4, h5⟩ := h.ex
 have hs0 := World.block_lt_of_cell? _ _ h6
 have hsT2 : ¬ T s := fun E => by
  rcases h3 s E with h8 | h8
  ·exact hsT h8
  ·exact Nat.lt_irrefl _ (Nat.lt_of_lt_of_le hs0 h8)
 have s6 : w.cell? ⟨s, 6, none⟩ = some (.map (some m)) := by
  rw [World.cell?_of_block (w := w0) (h2.block s hs0 hsT)]
  exact h6
 refine (tree_any w T m F s X h1 h4 hF s6 hsT2 key hk).mono ?_
 rintro r w3 ⟨q3, a3, j, rfl, hj, T3, i3, f3, g3, bd3⟩
 refine ⟨_, rfl, fun b o hk' => f3.keep (h5 b o hk').1 (h5 b o hk').2, ?_⟩
 have hl3 := lOf_at hj
 refine (ix_del w3 T3 m (F + 1) (openX X key) q3 a3 i3 bd3 (by omega) j key _ hl3 e).mono ?_
 rintro r2 w4 ⟨hr, T4, i4, f4, g4, bd4⟩
 rw [← delX_some hj e] at i4
 have hold : ∀ b o, Kp b o → ¬ T3 b := fun b o hk' E => by
  rcases g3 b E with h8 | h8
  ·exact (h5 b o hk').2 h8
  ·have := lt_of_block (h5 b o hk').1; omega
 have hold4 : ∀ b o, Kp b o → ¬ T4 b := fun b o hk' E => by
  rcases g4 b E with h8 | h8
  ·exact hold b o hk' h8
  ·have := lt_of_block (f3.keep (h5 b o hk').1 (h5 b o hk').2); omega
 refine ⟨hr, T4, i4.close, (h2.trans f3 (fun k hk' E => by rcases h3 k E with h8 | h8; exact h8; omega)).trans f4 (fun k hk' E => ?_), (h3.trans g3 h2.size).trans g4 (Nat.le_trans h2.size f3.size), bd4, fun b o hk' => ⟨f4.keep (f3.keep (h5 b o hk').1 (h5 b o hk').2) (hold b o hk'), hold4 b o hk'⟩⟩
 rcases g3 k E with h8 | h8
 ·rcases h3 k h8 with h9 | h9
  ·exact h9
  ·omega
 ·have := h2.size; omega
end Go.Proofs.YthadcdoepoglkaaGreatDoor
