/- A part of the proof: contracts of functions of the program, for the row's text. -/
import Derived.Test.YthadcdoepoglkaaGreatDoorRows
import Derived.Test.YthadcdoepoglkaaGreatDoorJ02
import Derived.StringKeys
import Derived.Test.YthadcdoepoglkaaGreatDoorJ10
namespace Go.Proofs.YthadcdoepoglkaaGreatDoor
open Go.RowKit Go.Lig
theorem infoInt : (Tryz.prog.info? 3).map (fun i => (i.zero, i.size, i.bytes)) = some (some (.int .i64 0), 1, 8) := by kernel_rfl
def iv (x : Int) : Value := .int .i64 x
structure OwnI (w w' : World) (v : Value) (l : List Int) : Prop where
 row : w'.ownsRow 0 3 1 v l.length (l.map iv)
 blk : ∀ j, v.ownBlock = some j → w.heap.size ≤ j
 fr : Fr No w w'
theorem OwnI.nil (w : World) : OwnI w w (.slice none 0 0) [] := ⟨World.ownsRow_nil _ _ _ _, fun _ e => (by cases e), Fr.refl _ _⟩
theorem OwnI.next {w w1 w2 : World} {v : Value} {l : List Int} (h : OwnI w w1 v l) (hf : Fr No w1 w2) : OwnI w w2 v l := ⟨fd_owns h.row hf, h.blk, h.fr.thenNo hf⟩
theorem OwnI.app {w w1 w2 w3 : World} {v v' : Value} {l : List Int} {x : Int} {cs : Array Value} {t : TypeId} (h : OwnI w w1 v l) (p2 : New cs t w1 w2) (o : w3.ownsRow 0 3 1 v' (l.length + 1) (l.map iv ++ [iv x])) (f : Fr (fun k => v.ownBlock = some k) w2 w3)
  (b : ∀ k, v'.ownBlock = some k → v.ownBlock = some k ∨ w2.heap.size ≤ k) : OwnI w w3 v' (l ++ [x]) := by
 refine ⟨by simpa using o, fun j hj => ?_, (h.fr.thenNo p2.fr).trans f (fun k hk e => by have := h.blk k e; omega)⟩
 rcases b j hj with e | e
 ·exact h.blk j e
 ·have := h.fr.size
  have := p2.fr.size
  omega
end Go.Proofs.YthadcdoepoglkaaGreatDoor
namespace Go.Lig
open Go.RowKit
inductive Sch where
 | done
 | quiet (i : Nat) (r : Sch)
 | one (i : Nat) (r : Sch)
 | two (i : Nat) (r : Sch) (j : Nat) (r' : Sch)
inductive SchO where
 | done
 | quiet (o : Oper) (r : SchO)
 | one (o : Oper) (r : SchO)
 | two (o : Oper) (r : SchO) (o' : Oper) (r' : SchO)
def fill (l : List Oper) : Sch → SchO
 | .done => .done
 | .quiet i r => .quiet (nth l i) (fill l r)
 | .one i r => .one (nth l i) (fill l r)
 | .two i r j r' => .two (nth l i) (fill l r) (nth l j) (fill l r')
def treeOk (ops : Array Oper) : Sch → Array Bool → Bool
 | .done, listed => (Region.ready .any ops listed).isEmpty
 | .quiet i r, listed => ((Region.ready .any ops listed).contains i && Region.free .any ops listed i) && treeOk ops r (listed.setIfInBounds i true)
 | .one i r, listed => Region.ready .any ops listed == [i] && treeOk ops r (listed.setIfInBounds i true)
 | .two i r j r', listed => Region.ready .any ops listed == [i, j] && treeOk ops r (listed.setIfInBounds i true) && treeOk ops r' (listed.setIfInBounds j true)
def Sch.size : Sch → Nat
 | .done => 0
 | .quiet _ r => r.size + 1
 | .one _ r => r.size + 1
 | .two _ r _ _ => r.size + 1
def Sch.even : Sch → Bool
 | .done => true
 | .quiet _ r => r.even
 | .one _ r => r.even
 | .two _ r _ r' => r.even && r'.even && r.size == r'.size
section
variable {P : Program} {ops : Array Oper} {Q : Exit → Act → World → Prop} {S : World → Prop}
def wpTreeR (P : Program) (ops : Array Oper) (Q : Exit → Act → World → Prop) (S : World → Prop) : SchO → Act → World → Prop
 | .done, a, w => Q .normal a w
 | .quiet o r, a, w => if Region.wanted o (yielded ops a.tmps) then yields P o a S (fun a' => Box (wpTreeR P ops Q S r a' w)) else Box (wpTreeR P ops Q S r (a.put o.dst undef) w)
 | .one o r, a, w => wpList P ops (schedQ P Q S True (fun a' w' => Box (wpTreeR P ops Q S r a' w'))) [o] a w
 | .two o r o' r', a, w => Box (wpList P ops (schedQ P Q S True (fun a' w' => Box (wpTreeR P ops Q S r a' w'))) [o] a w) ∧ Box (wpList P ops (schedQ P Q S True (fun a' w' => Box (wpTreeR P ops Q S r' a' w'))) [o'] a w)
abbrev wpTree (P : Program) (ops : Array Oper) (Q : Exit → Act → World → Prop) (S : World → Prop) (t : SchO) (a : Act) (w : World) : Prop := Box (wpTreeR P ops Q S t a w)
theorem tree_nil {a : Act} {w : World} (h : Q .normal a w) : wpTree P ops Q S .done a w := ⟨h⟩
theorem tree_quiet {a : Act} {w : World} {o : Oper} {r : SchO} (h : ∀ K : Act → Prop, (∀ a, wpTree P ops Q S r a w → K a) → if Region.wanted o (yielded ops a.tmps) then yields P o a S K else K (a.put o.dst undef)) : wpTree P ops Q S (.quiet o r) a w :=
 ⟨h _ (fun _ h => h)⟩
theorem tree_one {a : Act} {w : World} {o : Oper} {r : SchO} (h : wpList P ops (schedQ P Q S True (fun a' w' => wpTree P ops Q S r a' w')) [o] a w) : wpTree P ops Q S (.one o r) a w := ⟨h⟩
theorem tree_two {a : Act} {w : World} {o o' : Oper} {r r' : SchO} (h : wpTree P ops Q S (.one o r) a w) (h' : wpTree P ops Q S (.one o' r') a w) : wpTree P ops Q S (.two o r o' r') a w := ⟨⟨h.out⟩, ⟨h'.out⟩⟩
theorem tree_on {a : Act} {w : World} {K : Act → World → Prop} (hS : S w) (h : K a w) : wpList P ops (schedQ P Q S True K) [] a w := wpList_nil ⟨fun _ => hS, h⟩
theorem tree_call {a : Act} {w : World} {o : Oper} {r : SchO} (hgd : Region.wanted o (yielded ops a.tmps) = true) (f : FuncId) (vs : Array Value)
  (hrun : (execOp a.eval o).run P w = .ok (.enter f vs) w) {R} (hc : Calls P f vs w R)
  (h : ∀ e w', R e w' → ∃ v, e = .returned v ∧ S w' ∧ wpTree P ops Q S r (a.put o.dst v) w') : wpTree P ops Q S (.one o r) a w := by
 refine tree_one ?_
 unfold wpList
 rw [if_pos hgd]
 refine .inl ?_
 unfold Oper.wp
 rw [hrun]
 refine hc.mono fun e w' hR => ?_
 obtain ⟨v, rfl, hS, hk⟩ := h e w' hR
 exact tree_on hS hk
theorem wpAnyK_of_tree {l : List Oper} (hops : ops = l.toArray) (hsel : Region.noSelect ops = true) :
  ∀ (σ : Sch) (listed : Array Bool) (fuel : Nat) (a : Act) (w : World), Down ops listed → treeOk ops σ listed = true → σ.even = true → fuel = σ.size → S w →
  wpTree P ops Q S (fill l σ) a w → wpAnyK P ops (NoPanic Q) S ops.size fuel listed a w := by
 have hsink : sinkOk ops ops.size = true := by simp [sinkOk]
 intro σ
 induction σ with
 | done =>
  intro listed fuel a w _ hok _ hf hS h
  subst hf
  exact ⟨by simpa [treeOk] using hok, h.out⟩
 | quiet i r ih =>
  intro listed fuel a w hdown hok hev hf hS h
  subst hf
  simp only [treeOk, Bool.and_eq_true] at hok
  obtain ⟨⟨hr, hfree⟩, h2⟩ := hok
  have hi : i ∈ Region.ready .any ops listed := by simpa using hr
  obtain ⟨_, o, ho, _⟩ := mem_ready.1 hi
  have hn : nth l i = o := nth_get l i o (by rw [hops] at ho; simpa using ho)
  have hil : i ≠ ops.size := by have := (Array.getElem?_eq_some_iff.1 ho).1; omega
  have h := h.out
  simp only [fill, wpTreeR, hn] at h
  by_cases hw : Region.wanted o (yielded ops a.tmps) = true
  ·rw [if_pos hw] at h
   obtain ⟨v, hv, hk⟩ := h
   exact wpAnyK_first ho hsel hsink hil (fun _ _ _ h => h) (v := v) _ _ _ _ hdown (Region.free_spec ho hfree) hi (.inl ⟨hw, fun w' hw' => run_of_yields (hv w' hw')⟩) hS (ih _ _ _ w (hdown.set hi) h2 hev rfl hS hk)
  ·rw [if_neg hw] at h
   have hw' : Region.wanted o (yielded ops a.tmps) = false := by simpa using hw
   exact wpAnyK_first ho hsel hsink hil (fun _ _ _ h => h) (v := undef) _ _ _ _ hdown (Region.free_spec ho hfree) hi (.inr ⟨hw', rfl⟩) hS (ih _ _ _ w (hdown.set hi) h2 hev rfl hS h)
 | one i r ih =>
  intro listed fuel a w hdown hok hev hf hS h
  subst hf
  simp only [treeOk, Bool.and_eq_true] at hok
  obtain ⟨h1, h2⟩ := hok
  have hr : Region.ready .any ops listed = [i] := by simpa using h1
  have hi : i ∈ Region.ready .any ops listed := by rw [hr]; simp
  obtain ⟨_, o, ho, _⟩ := mem_ready.1 hi
  have hn : nth l i = o := nth_get l i o (by rw [hops] at ho; simpa using ho)
  have hq := h.out
  simp only [fill, wpTreeR, hn] at hq
  refine ⟨fun h0 => (by rw [hr] at h0; cases h0), fun j hj => ?_⟩
  obtain rfl : j = i := by rw [hr] at hj; simpa using hj
  refine wpOp_mono (fun a' w' hh => ?_) (wpOp_of_list ho hq)
  exact ⟨fun _ => hh.1 trivial, ih _ _ a' w' (hdown.set hi) h2 hev rfl (hh.1 trivial) hh.2⟩
 | two i r j r' ih ih' =>
  intro listed fuel a w hdown hok hev hf hS h
  subst hf
  simp only [treeOk, Bool.and_eq_true] at hok
  obtain ⟨⟨h1, h2⟩, h3⟩ := hok
  simp only [Sch.even, Bool.and_eq_true, beq_iff_eq] at hev
  have hr : Region.ready .any ops listed = [i, j] := by simpa using h1
  have hi : i ∈ Region.ready .any ops listed := by rw [hr]; simp
  have hj : j ∈ Region.ready .any ops listed := by rw [hr]; simp
  obtain ⟨_, o, ho, _⟩ := mem_ready.1 hi
  obtain ⟨_, o', ho', _⟩ := mem_ready.1 hj
  have hn : nth l i = o := nth_get l i o (by rw [hops] at ho; simpa using ho)
  have hn' : nth l j = o' := nth_get l j o' (by rw [hops] at ho'; simpa using ho')
  have hq := h.out
  simp only [fill, wpTreeR, hn, hn'] at hq
  refine ⟨fun h0 => (by rw [hr] at h0; cases h0), fun k hk => ?_⟩
  rw [hr] at hk
  rcases List.mem_cons.1 hk with rfl | hk
  ·refine wpOp_mono (fun a' w' hh => ?_) (wpOp_of_list ho hq.1.out)
   exact ⟨fun _ => hh.1 trivial, ih _ _ a' w' (hdown.set hi) h2 hev.1.1 rfl (hh.1 trivial) hh.2⟩
  ·obtain rfl := List.mem_singleton.1 hk
   refine wpOp_mono (fun a' w' hh => ?_) (wpOp_of_list ho' hq.2.out)
   exact ⟨fun _ => hh.1 trivial, ih' _ _ a' w' (hdown.set hj) h3 hev.1.2 (by rw [← hev.2]) (hh.1 trivial) hh.2⟩
theorem wp_region_tree {id : Nat} {a : Act} {w : World} {l : List Oper} (hm : P.follows .mixedOrders = true) (σ : Sch) (S : World → Prop)
  (hB : (Region.noSelect l.toArray && σ.size == l.length && treeOk l.toArray σ (Array.replicate l.length false) && σ.even) = true) (hS : S w.drew)
  (h : wpTree P l.toArray Q S (fill l σ) a w.drew) : (Code.region id l.toArray true).wp P Q a w := by
 simp only [Bool.and_eq_true, beq_iff_eq] at hB
 obtain ⟨⟨⟨hsel, hlen⟩, hok⟩, hev⟩ := hB
 refine wp_region_noPanic (wp_region_any hm (wpAny_of_K (S := S) (last := l.toArray.size) _ _ _ _ ?_))
 exact wpAnyK_of_tree (ops := l.toArray) rfl hsel σ _ _ a w.drew (Down.start _) (by simpa using hok) hev (by simp [hlen]) hS h
end
end Go.Lig
namespace Go.Lig
open Go.RowKit Go.Maps Go.MapKept Go.ChangeMaps
def sKey (s : ByteArray) : Lit := .string s.data.toList
theorem sKey_ne {s t : ByteArray} (h : s ≠ t) : sKey s ≠ sKey t := fun e => h (by
 obtain ⟨⟨a⟩⟩ := s
 obtain ⟨⟨b⟩⟩ := t
 simp [sKey] at e
 subst e
 rfl)
def dOf (kv : List (ByteArray × Value)) : DataW Value := kv.foldl (fun D p => D.put (sKey p.1) (.held p.2)) (.map [])
def getS (kv : List (ByteArray × Value)) (s : ByteArray) : Value := match kv.find? (fun p => decide (p.1 = s)) with
 | some p => p.2
 | none => .pointer none
theorem dOf_snoc (kv : List (ByteArray × Value)) (s : ByteArray) (v : Value) : dOf (kv ++ [(s, v)]) = (dOf kv).put (sKey s) (.held v) := by simp [dOf, List.foldl_append]
theorem isMap_put {D : DataW Value} (h : IsMap D) (k : Lit) (d : DataW Value) : IsMap (D.put k d) := by
 obtain ⟨es, rfl⟩ := h
 exact ⟨_, rfl⟩
theorem at_fold (s : ByteArray) : ∀ (kv : List (ByteArray × Value)) (D : DataW Value), IsMap D → (kv.map (·.1)).Nodup → (∀ p ∈ kv, p.1 = s → D.atKey (sKey s) (.held (.pointer none)) = .held (.pointer none)) →
  (kv.foldl (fun D p => D.put (sKey p.1) (.held p.2)) D).atKey (sKey s) (.held (.pointer none)) = match kv.find? (fun p => decide (p.1 = s)) with
   | some p => .held p.2
   | none => D.atKey (sKey s) (.held (.pointer none)) := by
 intro kv
 induction kv with
 | nil => intro D _ _ _; rfl
 | cons p kv ih =>
  intro D hD hn hd
  rw [List.map_cons, List.nodup_cons] at hn
  simp only [List.foldl_cons, List.find?_cons]
  by_cases hp : p.1 = s
  ·have hnone : kv.find? (fun p => decide (p.1 = s)) = none := by
    rw [List.find?_eq_none]
    intro q hq
    simp only [decide_eq_true_eq]
    intro e
    exact hn.1 (List.mem_map.2 ⟨q, hq, e.trans hp.symm⟩)
   rw [ih _ (isMap_put hD _ _) hn.2 (fun q hq e => absurd (by simpa using e) (by have := List.find?_eq_none.1 hnone q hq; simpa using this)), hnone]
   subst hp
   simp [atKey_put_same hD (show WideAt.IsKeyLit (sKey p.1) by trivial)]
  ·rw [ih _ (isMap_put hD _ _) hn.2 (fun q hq e => by rw [atKey_put_other (sKey_ne (fun e' => hp e'.symm))]; exact hd q (List.mem_cons_of_mem _ hq) e)]
   rw [atKey_put_other (sKey_ne (fun e' => hp e'.symm))]
   simp [hp]
theorem at_dOf {kv : List (ByteArray × Value)} (hn : (kv.map (·.1)).Nodup) (s : ByteArray) : (dOf kv).atKey (sKey s) (.held (.pointer none)) = .held (getS kv s) := by
 unfold dOf
 rw [at_fold s kv (.map []) ⟨[], rfl⟩ hn (fun _ _ _ => rfl)]
 unfold getS
 split <;> simp_all <;> rfl
structure MapS (w : World) (P : Program) (k : TypeId) (g n : Nat) (kv : List (ByteArray × Value)) : Prop where
 ex : w.ownsMap P k ptrR g n (dOf kv)
 nodup : (kv.map (·.1)).Nodup
theorem MapS.lt {w : World} {P : Program} {k : TypeId} {g n : Nat} {kv : List (ByteArray × Value)} (h : MapS w P k g n kv) : g < w.heap.size := h.ex.lt
theorem MapS.frame {w w' : World} {P : Program} {k : TypeId} {g n : Nat} {kv : List (ByteArray × Value)} {S : Nat → Prop} (h : MapS w P k g n kv) (hf : Fr S w w') (hn : ¬ S g) : MapS w' P k g n kv := by
 have hlt := h.lt
 obtain ⟨es, clock, hb, r⟩ := h.ex
 exact ⟨⟨es, clock, (hf.block g hlt hn).trans hb, r⟩, h.nodup⟩
theorem MapS.more {w : World} {P : Program} {k : TypeId} {g n m : Nat} {kv : List (ByteArray × Value)} (h : MapS w P k g n kv) (hm : n ≤ m) : MapS w P k g m kv := ⟨h.ex.mono hm, h.nodup⟩
theorem MapS.made (w : World) (P : Program) (k : TypeId) : MapS (w.alloc (.map #[] 0)) P k w.heap.size 0 [] := ⟨World.ownsMap_made w P k ptrR, List.nodup_nil⟩
section
variable {P : Program} {k e t : TypeId} {w : World} {g n : Nat} {kv : List (ByteArray × Value)}
theorem MapS.look (h : MapS w P k g n kv) (hk : P.underlying k = some .string) (ht : P.underlying t = some (.map k e)) (hz : (zeroValue e).run P w = .ok (.pointer none) w) {s : ByteArray} (hs : s.size ≤ maxLen) :
  (Instr.lookup t (.map (some g)) (.string s) false).run P w = .ok (getS kv s) w := by
 obtain ⟨v, ps, hrun, hv⟩ := h.ex.lookup (string_keyed hk) ht hz (zd := .held (.pointer none)) (zp := []) rfl (Go.WideMaps.keyOf_string_mk hk hs)
 have := at_dOf h.nodup s
 unfold sKey at this
 rw [this] at hv
 simp only [ptrR, Option.some.injEq, Prod.mk.injEq, DataW.held.injEq] at hv
 rw [hrun, hv.1]
theorem MapS.store (h : MapS w P k g n kv) (hk : P.underlying k = some .string) (ht : P.underlying t = some (.map k e)) (hn : n < maxLen) {s : ByteArray} (hs : s.size ≤ maxLen) (hnew : ∀ p ∈ kv, p.1 ≠ s) (v : Value) :
  ∃ w', (Instr.mapUpdate t (.map (some g)) (.string s) v).run P w = .ok () w' ∧ MapS w' P k g (n + 1) (kv ++ [(s, v)]) ∧ Fr (fun j => j = g) w w' ∧ w'.heap.size = w.heap.size := by
 obtain ⟨w', hrun, h', ht'⟩ := h.ex.store (string_keyed hk) ht hn (Go.WideMaps.keyOf_string_mk hk hs) (val := v) (d := .held v) (ps := []) rfl
 refine ⟨w', hrun, ⟨by rw [dOf_snoc]; exact h', ?_⟩, (Fr.refl _ w).grown ht'.grown (fun j hj _ => (Option.some.inj hj).symm), ?_⟩
 ·rw [List.map_append, List.nodup_append]
  refine ⟨h.nodup, by simp, fun a ha c hc e1 => ?_⟩
  obtain ⟨p, hp, rfl⟩ := List.mem_map.1 ha
  simp only [List.map_cons, List.map_nil, List.mem_singleton] at hc
  exact hnew p hp (e1.trans hc)
 ·obtain ⟨_, _, _, _, _, rfl⟩ := ht'
  simp [setBlock]
end
section
variable {P : Program} {ops : Array Oper} {rest : List Oper} {o : Oper} {a : Act} {w : World} {Q : Exit → Act → World → Prop} {k e : TypeId} {g n : Nat} {kv : List (ByteArray × Value)}
theorem wpList_slook (hgd : o.guard = none) (m x : Operand) (t : TypeId) (ho : o.op = .lookup t m x false) (hk : P.underlying k = some .string) (ht : P.underlying t = some (.map k e)) (hz : (zeroValue e).run P w = .ok (.pointer none) w)
  (hm : a.eval m = .map (some g)) (h : MapS w P k g n kv) (s : ByteArray) (hx : a.eval x = .string s) (hs : s.size ≤ maxLen) (v : Value) (hv : getS kv s = v)
  (hQ : wpList P ops Q rest (a.put o.dst v) w) : wpList P ops Q (o :: rest) a w := by
 subst hv
 exact wpList_run hgd (v := getS kv s) (w' := w) (by simp [execOp, ho, hm, hx, h.look hk ht hz hs, Result.andThen]) hQ
theorem wpList_sstore (hgd : o.guard = none) (m x y : Operand) (t : TypeId) (ho : o.op = .mapUpdate t m x y) (hk : P.underlying k = some .string) (ht : P.underlying t = some (.map k e))
  (hm : a.eval m = .map (some g)) (h : MapS w P k g n kv) (hn : n < maxLen) (s : ByteArray) (hx : a.eval x = .string s) (hs : s.size ≤ maxLen) (hnew : ∀ p ∈ kv, p.1 ≠ s) (v : Value) (hy : a.eval y = v)
  (hQ : ∀ w', MapS w' P k g (n + 1) (kv ++ [(s, v)]) → Fr (fun j => j = g) w w' → w'.heap.size = w.heap.size → wpList P ops Q rest (a.put o.dst undef) w') : wpList P ops Q (o :: rest) a w := by
 obtain ⟨w', hrun, h1, h2, h3⟩ := h.store hk ht hn hs hnew v
 exact wpList_runSkip hgd (w' := w') (by simp [execOp, ho, hm, hx, hy, hrun, Result.andThen]) (hQ w' h1 h2 h3)
end
end Go.Lig
