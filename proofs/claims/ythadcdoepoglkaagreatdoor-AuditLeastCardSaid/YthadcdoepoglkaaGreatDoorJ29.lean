/- A part of the proof: contracts of functions of the program, for the row's text. -/
import Derived.Test.YthadcdoepoglkaaGreatDoorJ28
import Derived.Test.YthadcdoepoglkaaGreatDoorJ22
namespace Go.Lig
end Go.Lig
namespace Go.Proofs.YthadcdoepoglkaaGreatDoor
open Go.RowKit Go.Lig
structure IxO (w : World) (T : Nat → Prop) (m : Nat) (X : List (ByteArray × List EntR)) (F : Nat) (q : Nat → Option Xp) (a : Nat → Nat) : Prop where
 mp : At q .mp m
 map : MapS w Tryz.prog 9 m F (kvs a X)
 tr : ∀ j key l, X[j]? = some (key, l) → TreeAt w (At q (.tree j)) (a j) l ∧ l.length ≤ F
 bd : ∀ b, q b ≠ none → T b ∧ b < w.heap.size
 keys : ∀ p ∈ X, p.1.size ≤ maxLen
theorem IxAt.open_ {w : World} {T : Nat → Prop} {m F : Nat} {X : List (ByteArray × List EntR)} (h : IxAt w T m X F) : ∃ q a, IxO w T m X F q a := by
 obtain ⟨q, a, h1, h2, h3, h4⟩ := h.ex
 exact ⟨q, a, h1, h2, h3, h4, h.keys⟩
theorem IxO.close {w : World} {T : Nat → Prop} {m F : Nat} {X : List (ByteArray × List EntR)} {q : Nat → Option Xp} {a : Nat → Nat} (h : IxO w T m X F q a) : IxAt w T m X F := ⟨⟨q, a, h.mp, h.map, h.tr, h.bd⟩, h.keys⟩
theorem IxO.frame {w w' : World} {T S : Nat → Prop} {m F : Nat} {X : List (ByteArray × List EntR)} {q : Nat → Option Xp} {a : Nat → Nat} (h : IxO w T m X F q a) (hf : Fr S w w') (hd : ∀ k, T k → ¬ S k) : IxO w' T m X F q a := by
 have hq : ∀ p b, At q p b → ¬ S b := fun p b hb => hd b (h.bd b (by rw [show q b = some p from hb]; simp)).1
 exact ⟨h.mp, h.map.frame hf (hq _ _ h.mp), fun j key l e => ⟨(h.tr j key l e).1.frame hf (hq _), (h.tr j key l e).2⟩, fun b hb => ⟨(h.bd b hb).1, Nat.lt_of_lt_of_le (h.bd b hb).2 hf.size⟩, h.keys⟩
theorem IxO.more {w : World} {T : Nat → Prop} {m F G : Nat} {X : List (ByteArray × List EntR)} {q : Nat → Option Xp} {a : Nat → Nat} (h : IxO w T m X F q a) (hg : F ≤ G) : IxO w T m X G q a :=
 ⟨h.mp, h.map.more hg, fun j key l e => ⟨(h.tr j key l e).1, Nat.le_trans (h.tr j key l e).2 hg⟩, h.bd, h.keys⟩
def slot (X : List (ByteArray × List EntR)) (key : ByteArray) : Option Nat := X.findIdx? (fun p => decide (p.1 = key))
def openX (X : List (ByteArray × List EntR)) (key : ByteArray) : List (ByteArray × List EntR) := match slot X key with
 | some _ => X
 | none => X ++ [(key, [])]
def ptrAt (a : Nat → Nat) (j : Nat) : Value := .pointer (some ⟨a j, 0, none⟩)
theorem kvs_find (key : ByteArray) (a : Nat → Nat) : ∀ (X : List (ByteArray × List EntR)) (k : Nat), ((X.zipIdx k).map fun p => (p.1.1, ptrAt a p.2)).find? (fun p => decide (p.1 = key)) = (X.findIdx? (fun p => decide (p.1 = key))).map (fun j => (key, ptrAt a (j + k)))
 | [], _ => rfl
 | p :: X, k => by
  rw [List.zipIdx_cons, List.map_cons, List.find?_cons, List.findIdx?_cons]
  by_cases h : p.1 = key
  ·simp [h]
  ·simp only [h, decide_false]
   rw [kvs_find key a X (k + 1)]
   simp only [Bool.false_eq_true, if_false, Option.map_map]
   congr 1
   funext j
   simp only [Function.comp]
   congr 2
   omega
theorem getS_kvs (a : Nat → Nat) (X : List (ByteArray × List EntR)) (key : ByteArray) : getS (kvs a X) key = match slot X key with
  | some j => ptrAt a j
  | none => .pointer none := by
 unfold getS kvs slot
 have := kvs_find key a X 0
 unfold ptrAt at this ⊢
 rw [this]
 cases X.findIdx? (fun p => decide (p.1 = key)) <;> simp
theorem slot_some {X : List (ByteArray × List EntR)} {key : ByteArray} {j : Nat} (h : slot X key = some j) : ∃ l, X[j]? = some (key, l) := by
 unfold slot at h
 obtain ⟨hj, hp, -⟩ := List.findIdx?_eq_some_iff_getElem.1 h
 refine ⟨(X[j]).2, ?_⟩
 rw [List.getElem?_eq_getElem hj]
 have : X[j].1 = key := by simpa using hp
 rw [← this]
theorem slot_none {X : List (ByteArray × List EntR)} {key : ByteArray} (h : slot X key = none) : ∀ p ∈ X, p.1 ≠ key := by
 unfold slot at h
 intro p hp e
 have := List.findIdx?_eq_none_iff.1 h p hp
 simp [e] at this
theorem kvs_snoc (a : Nat → Nat) (X : List (ByteArray × List EntR)) (key : ByteArray) (l : List EntR) : kvs a (X ++ [(key, l)]) = kvs a X ++ [(key, ptrAt a X.length)] := by
 simp [kvs, ptrAt, List.zipIdx_append]
theorem kvs_congr {a a' : Nat → Nat} {X : List (ByteArray × List EntR)} (h : ∀ j, j < X.length → a j = a' j) : kvs a X = kvs a' X := by
 unfold kvs
 refine List.map_congr_left (fun p hp => ?_)
 have := List.mem_zipIdx hp
 rw [h p.2 (by omega)]
theorem kvs_keys (a : Nat → Nat) (X : List (ByteArray × List EntR)) : ∀ p ∈ kvs a X, ∃ x ∈ X, x.1 = p.1 := by
 intro p hp
 obtain ⟨y, hy, rfl⟩ := List.mem_map.1 hp
 have := List.mem_zipIdx hy
 exact ⟨y.1, by rw [this.2.2]; exact List.getElem_mem _, rfl⟩
theorem treenew_any (w : World) : Calls Tryz.prog 169 #[] w fun e w' => e = .returned (.pointer (some ⟨w.heap.size, 0, none⟩)) ∧ New #[.slice none 0 0] 191 w w' := by
 go_enter Tryz.func169, Tryz.ntmps169
 go_wp2_with fail
 go_ret
 exact ⟨rfl, New.alloc _ _ _⟩
set_option maxRecDepth 100000 in
set_option maxHeartbeats 1000000 in
theorem open_hit (w : World) (T : Nat → Prop) (m F s : Nat) (X : List (ByteArray × List EntR)) (q : Nat → Option Xp) (a : Nat → Nat) (h : IxO w T m X F q a) (hs : w.cell? ⟨s, 6, none⟩ = some (.map (some m))) (key : ByteArray) (hk : key.size ≤ maxLen) (j : Nat) (hj : slot X key = some j) :
  Calls Tryz.prog 96 #[.pointer (some ⟨s, 0, none⟩), .string key] w fun e w' => e = .returned (ptrAt a j) ∧ Fr No w w' := by
 have hz : (zeroValue 104).run Tryz.prog w = .ok (.pointer none) w := by kernel_rfl
 have HM := hid (⟨h.map, getS_kvs a X key⟩ : _ ∧ _)
 rw [hj] at HM
 unfold ptrAt at *
 clear h hj
 go_enter Tryz.func96, Tryz.ntmps96
 go_wp2_with (first | (refine wpList_slook rfl (.tmp 8) (.tmp 9) 81 rfl Tryz.underlying9 Tryz.underlying81 hz rfl HM.out.1 key rfl hk _ HM.out.2 ?_) | (refine wpList_slook rfl (.tmp 21) (.tmp 22) 81 rfl Tryz.underlying9 Tryz.underlying81 hz rfl HM.out.1 key rfl hk _ HM.out.2 ?_))
 go_ret
 exact ⟨rfl, Fr.refl _ _⟩
end Go.Proofs.YthadcdoepoglkaaGreatDoor
namespace Go.Proofs.YthadcdoepoglkaaGreatDoor
open Go.RowKit Go.Lig
def IxTo (w : World) (T : Nat → Prop) (m : Nat) (X' : List (ByteArray × List EntR)) (F' : Nat) (q' : Nat → Option Xp) (a' : Nat → Nat) (w' : World) : Prop := ∃ T', IxO w' T' m X' F' q' a' ∧ Fr T w w' ∧ Grown w T T' ∧ ∀ b, T' b → b < w'.heap.size
set_option maxRecDepth 100000 in
set_option maxHeartbeats 1000000 in
theorem open_miss (w : World) (T : Nat → Prop) (m F s : Nat) (X : List (ByteArray × List EntR)) (q : Nat → Option Xp) (a : Nat → Nat) (h : IxO w T m X F q a) (hb : ∀ b, T b → b < w.heap.size) (hF : F < 1000000) (hs : w.cell? ⟨s, 6, none⟩ = some (.map (some m))) (hsT : ¬ T s) (key : ByteArray) (hk : key.size ≤ maxLen) (hj : slot X key = none) :
  Calls Tryz.prog 96 #[.pointer (some ⟨s, 0, none⟩), .string key] w fun e w' => ∃ q' a', e = .returned (ptrAt a' X.length) ∧ IxTo w T m (X ++ [(key, [])]) (F + 1) q' a' w' := by
 have hz : ∀ w, (zeroValue 104).run Tryz.prog w = .ok (.pointer none) w := fun w => by kernel_rfl
 have HM := hid (⟨h.map, getS_kvs a X key⟩ : _ ∧ _)
 have hsm : s ≠ m := fun E => hsT (by rw [E]; exact (h.bd m (by rw [show q m = some .mp from h.mp]; simp)).1)
 have HH := hid (⟨h, hb, hsT⟩ : _ ∧ _ ∧ _)
 have HS := hid hs
 have HJ := hid hj
 rw [hj] at HM
 have hls := World.block_lt_of_cell? _ _ hs
 clear h hj hb hsT
 go_enter Tryz.func96, Tryz.ntmps96
 go_wp2_with (refine wpList_slook rfl (.tmp 8) (.tmp 9) 81 rfl Tryz.underlying9 Tryz.underlying81 (hz _) rfl HM.out.1 key rfl hk _ HM.out.2 ?_)
 have hsc : ∀ b ∈ [s], b < w.drew.heap.size ∧ ¬ No b := fun b hb => ⟨by rw [List.mem_singleton.1 hb]; exact hls, fun E => E⟩
 refine wp_region_sched (by kernel_rfl) 7 [5, 6] [0, 1, 2, 3, 4, 5, 6] (AgC [s] w.drew) (by kernel_rfl) (AgC.refl _ _) ?_
 simp only [List.map_cons, List.map_nil, List.contains_cons, List.contains_nil, nth_zero, nth_succ, Nat.reduceBEq, Bool.or_false, Bool.or_true]
 repeat (refine sched_quiet (fun K hK => ?_); go_simp; refine hK _ ?_; clear hK K)
 refine sched_call (by first | rfl | go_simp) 169 #[] (by first | kernel_rfl | go_simp) (treenew_any _) ?_
 rintro e w2 ⟨rfl, p2⟩
 refine ⟨_, rfl, (AgC.refl [s] w.drew).fr p2.fr hsc, ?_⟩
 have f2 : Fr No w w2 := (Fr.refl No w).drew.thenNo p2.fr
 have m2 : MapS w2 Tryz.prog 9 m F (kvs a X) := HM.out.1.frame f2 (fun E => E)
 refine sched_loud (wpList_sstore rfl (.tmp 15) (.tmp 16) (.tmp 17) 81 rfl Tryz.underlying9 Tryz.underlying81 rfl m2 (by unfold maxLen; omega) key rfl hk (fun p hp => ?_) (.pointer (some ⟨w.drew.heap.size, 0, none⟩)) rfl ?_)
 ·obtain ⟨x, hx, hxe⟩ := kvs_keys a X p hp
  rw [← hxe]
  exact slot_none HJ.out x hx
 intro w3 m3 f3 e3
 refine sched_on (((AgC.refl [s] w.drew).fr p2.fr hsc).fr f3 (fun b hb => ⟨(hsc b hb).1, by rw [List.mem_singleton.1 hb]; exact hsm⟩)) ?_
 repeat (refine sched_quiet (fun K hK => ?_); go_simp; refine hK _ ?_; clear hK K)
 refine sched_nil ?_
 have s3 : w3.cell? ⟨s, 6, none⟩ = some (.map (some m)) := by
  rw [World.cell?_of_block (w := w) ((f3.block s (Nat.lt_of_lt_of_le hls f2.size) hsm).trans (f2.block s hls (fun E => E)))]
  exact HS.out
 have H3 := hid (⟨m3, f3, p2.at_, p2.fr⟩ : _ ∧ _ ∧ _ ∧ _)
 obtain ⟨a', ha'⟩ : ∃ a' : Nat → Nat, a' = fun i => if i = X.length then w.drew.heap.size else a i := ⟨_, rfl⟩
 have haL : a' X.length = w.drew.heap.size := by rw [ha']; simp
 have hao : ∀ i, i ≠ X.length → a' i = a i := fun i hi => by rw [ha']; simp [hi]
 have hkv : kvs a' (X ++ [(key, [])]) = kvs a X ++ [(key, .pointer (some ⟨w.drew.heap.size, 0, none⟩))] := by
  rw [kvs_snoc, ← kvs_congr (a := a) (a' := a') (fun i hi => (hao i (by omega)).symm)]
  unfold ptrAt
  rw [haL]
 have hsl : slot (X ++ [(key, [])]) key = some X.length := by
  unfold slot at HJ ⊢
  rw [List.findIdx?_append, HJ.out]
  simp
 have m4 : MapS w3 Tryz.prog 9 m (F + 1) (kvs a' (X ++ [(key, [])])) := by rw [hkv]; exact m3
 have HG := hid (⟨m4, getS_kvs a' (X ++ [(key, [])]) key⟩ : _ ∧ _)
 rw [hsl] at HG
 have HA := hid (⟨haL, hao⟩ : _ ∧ _)
 have HF2 := hid (⟨f2, f3, e3⟩ : _ ∧ _ ∧ _)
 clear m3 f3 p2 m2 f2 e3 m4 hkv ha' haL hao hsl hsc
 unfold ptrAt at *
 go_wp2_with (refine wpList_slook rfl (.tmp 21) (.tmp 22) 81 rfl Tryz.underlying9 Tryz.underlying81 (hz _) rfl HG.out.1 key rfl hk _ HG.out.2 ?_)
 go_ret
 have hm := HH.out.1.mp
 have hdz : w.drew.heap.size = w.heap.size := rfl
 have hn2 : w.heap.size < w2.heap.size := lt_of_block H3.out.2.2.1
 have hlt : ∀ p b, At q p b → b < w.heap.size := fun p b hb => (HH.out.1.bd b (by rw [show q b = some p from hb]; simp)).2
 have hmn : w.heap.size ≠ m := fun E => by have := hlt _ _ hm; omega
 obtain ⟨q', hq'⟩ : ∃ q' : Nat → Option Xp, q' = fun b => if b = w.heap.size then some (.tree X.length) else if q b = some (.tree X.length) then none else q b := ⟨_, rfl⟩
 have hqs : At q' (.tree X.length) = fun b => b = w.heap.size := by
  funext b
  refine propext ?_
  unfold At
  rw [hq']
  simp only []
  by_cases h1 : b = w.heap.size
  ·simp [h1]
  ·by_cases h2 : q b = some (.tree X.length) <;> simp [h1, h2]
 have hqo : ∀ p, p ≠ .tree X.length → At q' p = At q p := fun p hp => by
  funext b
  refine propext ?_
  unfold At
  rw [hq']
  simp only []
  by_cases h1 : b = w.heap.size
  ·subst h1
   simp only [if_true, Option.some.injEq]
   exact ⟨fun E => absurd E.symm hp, fun E => absurd (hlt _ _ E) (Nat.lt_irrefl _)⟩
  ·by_cases h2 : q b = some (.tree X.length)
   ·rw [if_neg h1, if_pos h2, h2]
    exact ⟨fun E => by simp at E, fun E => absurd (Option.some.inj E).symm hp⟩
   ·simp [h1, h2]
 have hbt : w3.heap[w.heap.size]? = some (.cells #[.slice none 0 0] 191 (0, 0)) := HF2.out.2.1.keep H3.out.2.2.1 hmn
 have fT : Fr T w w3 := (HF2.out.1.mono (fun _ _ E => E.elim)).thenS (HF2.out.2.1.mono (fun b _ E => by rw [E]; exact (HH.out.1.bd m (by rw [show q m = some .mp from hm]; simp)).1))
 refine ⟨q', a', by unfold ptrAt; rw [HA.out.1]; rfl, fun b => T b ∨ b = w.heap.size, ⟨?_, HG.out.1, ?_, ?_, ?_⟩, fT, ?_, ?_⟩
 ·rw [hqo _ (by simp)]; exact hm
 ·intro j k2 l e
  rcases Nat.lt_or_ge j X.length with h1 | h1
  ·rw [List.getElem?_append_left h1] at e
   have := HH.out.1.tr j k2 l e
   rw [hqo _ (by simp; omega), HA.out.2 j (by omega)]
   refine ⟨this.1.frame (HF2.out.1.mono (fun _ _ E => E.elim) |>.thenS HF2.out.2.1) (fun b hb E => ?_), by omega⟩
   have h2 : q b = some (.tree j) := hb
   rw [E, show q m = some .mp from hm] at h2
   cases h2
  ·have h2 : j = X.length := by
    rcases Nat.eq_or_lt_of_le h1 with h2 | h2
    ·exact h2.symm
    ·rw [List.getElem?_eq_none (by simp; omega)] at e; cases e
   subst h2
   simp only [List.getElem?_append_right (Nat.le_refl _), Nat.sub_self, List.getElem?_cons_zero, Option.some.injEq, Prod.mk.injEq] at e
   obtain ⟨rfl, rfl⟩ := e
   rw [hqs, HA.out.1]
   exact ⟨⟨⟨.slice none 0 0, hbt, World.ownsRow_nil _ _ _ _, fun k E => by cases E⟩, hdz, fun y hy => by cases hy⟩, Nat.zero_le _⟩
 ·intro b hb
  by_cases h1 : b = w.heap.size
  ·exact ⟨.inr h1, by rw [h1]; exact lt_of_block hbt⟩
  ·have : q b ≠ none := fun E => hb (by rw [hq']; simp [h1, E])
   exact ⟨.inl (HH.out.1.bd b this).1, Nat.lt_of_lt_of_le (HH.out.1.bd b this).2 fT.size⟩
 ·intro p hp
  rcases List.mem_append.1 hp with h1 | h1
  ·exact HH.out.1.keys p h1
  ·rw [List.mem_singleton.1 h1]; exact hk
 ·intro b hb
  rcases hb with h1 | h1
  ·exact .inl h1
  ·exact .inr (by omega)
 ·intro b hb
  rcases hb with h1 | h1
  ·exact Nat.lt_of_lt_of_le (HH.out.2.1 b h1) fT.size
  ·rw [h1]; exact lt_of_block hbt
theorem tree_any (w : World) (T : Nat → Prop) (m F s : Nat) (X : List (ByteArray × List EntR)) (h : IxAt w T m X F) (hb : ∀ b, T b → b < w.heap.size) (hF : F < 1000000) (hs : w.cell? ⟨s, 6, none⟩ = some (.map (some m))) (hsT : ¬ T s) (key : ByteArray) (hk : key.size ≤ maxLen) :
  Calls Tryz.prog 96 #[.pointer (some ⟨s, 0, none⟩), .string key] w fun e w' => ∃ q' a' j, e = .returned (ptrAt a' j) ∧ slot (openX X key) key = some j ∧ IxTo w T m (openX X key) (F + 1) q' a' w' := by
 obtain ⟨q, a, ho⟩ := h.open_
 unfold openX
 cases hj : slot X key with
 | some j =>
  refine (open_hit w T m F s X q a ho hs key hk j hj).mono ?_
  rintro e w' ⟨rfl, f⟩
  exact ⟨q, a, j, rfl, hj, T, (ho.more (Nat.le_succ F)).frame f (fun _ _ E => E), f.mono (fun _ _ E => E.elim), Grown.refl _ _, fun b hb' => Nat.lt_of_lt_of_le (hb b hb') f.size⟩
 | none =>
  refine (open_miss w T m F s X q a ho hb hF hs hsT key hk hj).mono ?_
  rintro e w' ⟨q', a', rfl, h2⟩
  refine ⟨q', a', X.length, rfl, ?_, h2⟩
  unfold slot at hj ⊢
  simp only []
  rw [List.findIdx?_append, hj]
  simp
end Go.Proofs.YthadcdoepoglkaaGreatDoor
namespace Go.Proofs.YthadcdoepoglkaaGreatDoor
open Go.RowKit Go.Lig
theorem infoEd : (Tryz.prog.info? 48).map (fun i => (i.zero, i.size, i.bytes)) = some (some (.agg #[.int .i64 0, .int .i64 0, .string ⟨#[]⟩, .float .f64 0]), 4, 40) := by kernel_rfl
end Go.Proofs.YthadcdoepoglkaaGreatDoor
namespace Go.Proofs.YthadcdoepoglkaaGreatDoor
open Go.RowKit Go.Lig
theorem kvs_set (a : Nat → Nat) {X : List (ByteArray × List EntR)} {j : Nat} {key : ByteArray} {l l' : List EntR} (h : X[j]? = some (key, l)) : kvs a (X.set j (key, l')) = kvs a X := by
 unfold kvs
 apply List.ext_getElem?
 intro i
 simp only [List.getElem?_map, List.getElem?_zipIdx]
 by_cases e : j = i
 ·subst e
  rw [List.getElem?_set_self (List.getElem?_eq_some_iff.1 h).1, h]
  rfl
 ·rw [List.getElem?_set_ne e]
def entA (e : EntR) : Value := .agg #[.int .i64 e.v.kind, .bool e.v.b, .int .i64 e.v.n, .float .f64 e.v.f, .string e.v.t, .int .i64 e.id]
theorem ix_del (w : World) (T : Nat → Prop) (m F : Nat) (X : List (ByteArray × List EntR)) (q : Nat → Option Xp) (a : Nat → Nat) (h : IxO w T m X F q a) (hb : ∀ b, T b → b < w.heap.size) (hF : F ≤ 1000000) (j : Nat) (key : ByteArray) (l : List EntR) (hj : X[j]? = some (key, l)) (e : EntR) :
  Calls Tryz.prog 97 #[ptrAt a j, entA e] w fun r w' => (∃ b, r = .returned (.bool b)) ∧ IxTo w T m (X.set j (key, delT l e)) F q a w' := by
 obtain ⟨ht, hlF⟩ := h.tr j key l hj
 refine (tree_del w (At q (.tree j)) (a j) l ht (by omega) e (fun b hb' => (h.bd b (by rw [show q b = _ from hb']; simp)).2)).mono ?_
 rintro r w' ⟨rfl, h1, f1⟩
 have hsub : ∀ b, At q (.tree j) b → T b := fun b hb' => (h.bd b (by rw [show q b = _ from hb']; simp)).1
 have hjl := (List.getElem?_eq_some_iff.1 hj).1
 refine ⟨⟨_, rfl⟩, T, ⟨h.mp, ?_, ?_, fun b hb' => ⟨(h.bd b hb').1, Nat.lt_of_lt_of_le (h.bd b hb').2 f1.size⟩, ?_⟩, f1.mono (fun b _ => hsub b), Grown.refl _ _, fun b hb' => Nat.lt_of_lt_of_le (hb b hb') f1.size⟩
 ·rw [kvs_set a hj]
  exact h.map.frame f1 (fun E => by have h2 := h.mp; unfold At at h2 E; rw [h2] at E; cases E)
 ·intro i k2 l2 e2
  by_cases hi : j = i
  ·subst hi
   rw [List.getElem?_set_self hjl] at e2
   obtain ⟨rfl, rfl⟩ := Prod.mk.inj (Option.some.inj e2)
   exact ⟨h1, Nat.le_trans (delT_len l e) hlF⟩
  ·rw [List.getElem?_set_ne hi] at e2
   obtain ⟨h3, h4⟩ := h.tr i k2 l2 e2
   exact ⟨h3.frame f1 (fun b hb' E => by unfold At at hb' E; rw [hb'] at E; simp at E; exact hi E.symm), h4⟩
 ·intro p hp
  rcases List.mem_or_eq_of_mem_set hp with h2 | rfl
  ·exact h.keys p h2
  ·exact h.keys (key, l) (List.mem_of_getElem? hj)
theorem ix_add (w : World) (T : Nat → Prop) (m F : Nat) (X : List (ByteArray × List EntR)) (q : Nat → Option Xp) (a : Nat → Nat) (h : IxO w T m X F q a) (hb : ∀ b, T b → b < w.heap.size) (hF : F ≤ 1000000) (j : Nat) (key : ByteArray) (l : List EntR) (hj : X[j]? = some (key, l)) (e : EntR) (hok : ValOk e.v ∧ (Lit.int .i64 e.id).wf = true) :
  Calls Tryz.prog 99 #[ptrAt a j, entA e] w fun r w' => r = .returned (.bool (!isV l e)) ∧ ∃ q', IxTo w T m (X.set j (key, addT l e)) (F + 1) q' a w' := by
 obtain ⟨ht, hlF⟩ := h.tr j key l hj
 have hqb : ∀ b, q b ≠ none → b < w.heap.size := fun b hb' => (h.bd b hb').2
 refine (tree_add w (At q (.tree j)) (a j) l ht (by omega) e hok (fun b hb' => hqb b (by rw [show q b = _ from hb']; simp))).mono ?_
 rintro r w' ⟨rfl, T1, h1, f1, g1, bd1⟩
 have hsub : ∀ b, At q (.tree j) b → T b := fun b hb' => (h.bd b (by rw [show q b = _ from hb']; simp)).1
 have hjl := (List.getElem?_eq_some_iff.1 hj).1
 have hot : ∀ p, p ≠ .tree j → At (turn q (.tree j) T1) p = At q p := fun p hp => at_turn_other hp g1 hqb
 have hap : ∀ p b, p ≠ .tree j → At q p b → ¬ At q (.tree j) b := fun p b hp hb' E => by
  unfold At at hb' E
  rw [hb'] at E
  exact hp (Option.some.inj E)
 refine ⟨rfl, turn q (.tree j) T1, fun b => T b ∨ T1 b, ⟨?_, ?_, ?_, ?_, ?_⟩, f1.mono (fun b _ => hsub b), ?_, ?_⟩
 ·rw [hot _ (by simp)]; exact h.mp
 ·rw [kvs_set a hj]
  exact (h.map.frame f1 (hap .mp _ (by simp) h.mp)).more (Nat.le_succ F)
 ·intro i k2 l2 e2
  by_cases hi : j = i
  ·subst hi
   rw [List.getElem?_set_self hjl] at e2
   obtain ⟨rfl, rfl⟩ := Prod.mk.inj (Option.some.inj e2)
   rw [at_turn_same]
   exact ⟨h1, Nat.le_trans (addT_len l e) (by omega)⟩
  ·rw [List.getElem?_set_ne hi] at e2
   obtain ⟨h3, h4⟩ := h.tr i k2 l2 e2
   rw [hot _ (by simp; omega)]
   exact ⟨h3.frame f1 (fun b hb' => hap (.tree i) b (by simp; omega) hb'), by omega⟩
 ·intro b hb'
  have h5 := bound_turn hqb f1.size bd1 b hb'
  refine ⟨?_, h5⟩
  by_cases h6 : T1 b
  ·exact .inr h6
  ·refine .inl (h.bd b (fun E => hb' ?_)).1
   unfold turn
   simp [h6, E]
 ·intro p hp
  rcases List.mem_or_eq_of_mem_set hp with h2 | rfl
  ·exact h.keys p h2
  ·exact h.keys (key, l) (List.mem_of_getElem? hj)
 ·intro b hb'
  rcases hb' with h2 | h2
  ·exact .inl h2
  ·rcases g1 b h2 with h3 | h3
   ·exact .inl (hsub b h3)
   ·exact .inr h3
 ·intro b hb'
  rcases hb' with h2 | h2
  ·exact Nat.lt_of_lt_of_le (hb b h2) f1.size
  ·exact bd1 b h2
theorem StAt.idx {w : World} {ρ : Nat → Option Pt} {s : Nat} {A : Ad} {M : PSt} {F : Nat} (h : StAt w ρ s A M F) : IxAt w (At ρ .index) A.m M.X F := h.at_ .index
theorem StAt.bdp {w : World} {ρ : Nat → Option Pt} {s : Nat} {A : Ad} {M : PSt} {F : Nat} (h : StAt w ρ s A M F) (p : Pt) : ∀ b, At ρ p b → b < w.heap.size := fun b hb => h.bound b (by rw [show ρ b = some p from hb]; simp)
def lOf (X : List (ByteArray × List EntR)) (j : Nat) : List EntR := (X[j]?.getD (⟨#[]⟩, [])).2
def delX (X : List (ByteArray × List EntR)) (key : ByteArray) (e : EntR) : List (ByteArray × List EntR) := match slot (openX X key) key with
 | some j => (openX X key).set j (key, delT (lOf (openX X key) j) e)
 | none => openX X key
def addX (X : List (ByteArray × List EntR)) (key : ByteArray) (e : EntR) : List (ByteArray × List EntR) := match slot (openX X key) key with
 | some j => (openX X key).set j (key, addT (lOf (openX X key) j) e)
 | none => openX X key
theorem delX_some {X : List (ByteArray × List EntR)} {key : ByteArray} {j : Nat} (h : slot (openX X key) key = some j) (e : EntR) : delX X key e = (openX X key).set j (key, delT (lOf (openX X key) j) e) := by
 unfold delX
 rw [h]
theorem addX_some {X : List (ByteArray × List EntR)} {key : ByteArray} {j : Nat} (h : slot (openX X key) key = some j) (e : EntR) : addX X key e = (openX X key).set j (key, addT (lOf (openX X key) j) e) := by
 unfold addX
 rw [h]
theorem lOf_at {X : List (ByteArray × List EntR)} {key : ByteArray} {j : Nat} (h : slot X key = some j) : X[j]? = some (key, lOf X j) := by
 obtain ⟨l, hl⟩ := slot_some h
 unfold lOf
 rw [hl]
 rfl
def hasX (X : List (ByteArray × List EntR)) (key : ByteArray) (e : EntR) : Bool := match slot (openX X key) key with
 | some j => isV (lOf (openX X key) j) e
 | none => false
theorem hasX_some {X : List (ByteArray × List EntR)} {key : ByteArray} {j : Nat} (h : slot (openX X key) key = some j) (e : EntR) : hasX X key e = isV (lOf (openX X key) j) e := by
 unfold hasX
 rw [h]
end Go.Proofs.YthadcdoepoglkaaGreatDoor
