/- Maps from integers to pointers that the call has made: what is at each key. No program in sight. -/
import Derived.Test.YtofjbigojbnmfaaGreatDoorLib
import Derived.Maps.OwnSet
import Derived.Maps.Views
import Derived.WideKeyEntry
import Derived.Carry
namespace Go.Lig
open Go.RowKit Go.Maps Go.MapKept Go.ChangeMaps

def ptrR (v : Value) : Option (DataW Value × List MemPlace) := some (.held v, [])
/-- Block g is a map that holds f i at i (nil: nothing). -/
structure MapAt (w : World) (P : Program) (k : TypeId) (g n : Nat) (f : Int → Value) : Prop where
  ex : ∃ D : DataW Value, w.ownsMap P k ptrR g n D ∧ ∀ i, D.atKey (.int .i64 i) (.held (.pointer none)) = .held (f i)
def upd (f : Int → Value) (i : Int) (v : Value) : Int → Value := fun j => if j = i then v else f j
theorem MapAt.lt {w : World} {P : Program} {k : TypeId} {g n : Nat} {f : Int → Value} (h : MapAt w P k g n f) : g < w.heap.size := by
  obtain ⟨D, h, _⟩ := h.ex
  exact h.lt
theorem MapAt.frame {w w' : World} {P : Program} {k : TypeId} {g n : Nat} {f : Int → Value} {S : Nat → Prop} (h : MapAt w P k g n f) (hf : Fr S w w') (hn : ¬ S g) : MapAt w' P k g n f := by
  have hlt := h.lt
  obtain ⟨D, ⟨es, clock, hb, r⟩, hat⟩ := h.ex
  exact ⟨⟨D, ⟨es, clock, (hf.block g hlt hn).trans hb, r⟩, hat⟩⟩
theorem MapAt.more {w : World} {P : Program} {k : TypeId} {g n m : Nat} {f : Int → Value} (h : MapAt w P k g n f) (hm : n ≤ m) : MapAt w P k g m f := by
  obtain ⟨D, h, hat⟩ := h.ex
  exact ⟨⟨D, h.mono hm, hat⟩⟩
theorem MapAt.made (w : World) (P : Program) (k : TypeId) : MapAt (w.alloc (.map #[] 0)) P k w.heap.size 0 (fun _ => .pointer none) :=
  ⟨⟨.map [], World.ownsMap_made w P k ptrR, fun _ => rfl⟩⟩
section
variable {P : Program} {k e t : TypeId} {w : World} {g n : Nat} {f : Int → Value}
theorem MapAt.look (h : MapAt w P k g n f) (hk : P.underlying k = some (.int .i64)) (ht : P.underlying t = some (.map k e)) (hz : (zeroValue e).run P w = .ok (.pointer none) w) {i : Int} (hi : (Lit.int .i64 i).wf = true) :
    (Instr.lookup t (.map (some g)) (.int .i64 i) false).run P w = .ok (f i) w := by
  obtain ⟨D, h, hat⟩ := h.ex
  obtain ⟨v, ps, hrun, hv⟩ := h.lookup (int_keyed hk) ht hz (zd := .held (.pointer none)) (zp := []) rfl (keyOf_int_mk hk hi)
  rw [hat i] at hv
  simp only [ptrR, Option.some.injEq, Prod.mk.injEq, DataW.held.injEq] at hv
  rw [hrun, hv.1]
theorem MapAt.store (h : MapAt w P k g n f) (hk : P.underlying k = some (.int .i64)) (ht : P.underlying t = some (.map k e)) (hn : n < maxLen) {i : Int} (hi : (Lit.int .i64 i).wf = true) (v : Value) :
    ∃ w', (Instr.mapUpdate t (.map (some g)) (.int .i64 i) v).run P w = .ok () w' ∧ MapAt w' P k g (n + 1) (upd f i v) ∧ Fr (fun j => j = g) w w' ∧ w'.heap.size = w.heap.size := by
  obtain ⟨D, h, hat⟩ := h.ex
  have hm := h.isMap
  obtain ⟨w', hrun, h', ht'⟩ := h.store (int_keyed hk) ht hn (keyOf_int_mk hk hi) (val := v) (d := .held v) (ps := []) rfl
  refine ⟨w', hrun, ⟨⟨_, h', fun j => ?_⟩⟩, (Fr.refl _ w).grown ht'.grown (fun j hj _ => (Option.some.inj hj).symm), ?_⟩
  · unfold upd
    split
    · rename_i e
      subst e
      exact atKey_put_same hm (by trivial) _ _
    · rename_i e
      rw [atKey_put_other (fun e' => e (by injection e'))]
      exact hat j
  · obtain ⟨_, _, _, _, _, rfl⟩ := ht'
    simp [setBlock]
theorem MapAt.drop (h : MapAt w P k g n f) (hk : P.underlying k = some (.int .i64)) (ht : P.underlying t = some (.map k e)) {i : Int} (hi : (Lit.int .i64 i).wf = true) (ty : TypeId) :
    ∃ w', (Builtin.delete_ #[t, k] ty #[.map (some g), .int .i64 i]).run P w = .ok (.tuple #[]) w' ∧ MapAt w' P k g n (upd f i (.pointer none)) ∧ Fr (fun j => j = g) w w' ∧ w'.heap.size = w.heap.size := by
  obtain ⟨D, h, hat⟩ := h.ex
  obtain ⟨w', hrun, h', ht'⟩ := h.drop (int_keyed hk) ht (keyOf_int_mk hk hi) ty
  refine ⟨w', hrun, ⟨⟨_, h', fun j => ?_⟩⟩, (Fr.refl _ w).grown ht'.grown (fun j hj _ => (Option.some.inj hj).symm), ?_⟩
  · unfold upd
    split
    · rename_i e
      subst e
      exact atKey_del_same _
    · rename_i e
      rw [atKey_del_other (fun e' => e (by injection e'))]
      exact hat j
  · obtain ⟨_, _, _, _, _, rfl⟩ := ht'
    simp [setBlock]
/-- 'm[i]' as a place (tuple assignments), then the store into it: together what a plain store does. -/
theorem MapAt.entry (h : MapAt w P k g n f) (hk : P.underlying k = some (.int .i64)) (ht : P.underlying t = some (.map k e)) (hz : ∀ u : World, (zeroValue e).run P u = .ok (.pointer none) u) {i : Int} (hi : (Lit.int .i64 i).wf = true) (v : Value) :
    ∃ (v0 : Value) (st : Nat) (w1 w2 : World), (Instr.mapEntry t (.map (some g)) (.int .i64 i)).run P w = .ok (.tuple #[v0, goInt st]) w1 ∧ (Instr.entryStore t (.map (some g)) (goInt st) v).run P w1 = .ok () w2 ∧
      (Instr.mapUpdate t (.map (some g)) (.int .i64 i) v).run P w = .ok () w2 := by
  obtain ⟨D, ⟨es, clock, hb, F, _, _⟩, _⟩ := h.ex
  have K := int_keyed hk
  have hkey := keyOf_int_mk hk hi
  obtain ⟨s1, s2, _⟩ := F.stamped
  have hw1 : ∀ es1 c1, (setBlock w g (.map es1 c1)).heap[g]? = some (.map es1 c1) := fun es1 c1 => heap_setBlock_same hb _
  rcases K.find w hkey es.toList F.keys with ⟨h1, h2⟩ | ⟨j, e0, h1, h2, h3⟩
  · have hmod : (es.push ⟨.int .i64 i, .pointer none, clock⟩).modify es.size (fun e => { e with val := v }) = es.push ⟨.int .i64 i, v, clock⟩ := by
      apply Array.ext'
      rw [Array.toList_modify, Array.toList_push, Array.toList_push, ← Array.length_toList, WideElems.modify_last]
    have hidx : (es.push ⟨.int .i64 i, .pointer none, clock⟩).findIdx? (fun e => ((e.born : Nat) : Int) == ((clock : Nat) : Int)) = some es.size := by
      rw [WideElems.findIdx_arr]
      refine WideElems.findIdx_born (j := es.size) (e0 := ⟨.int .i64 i, .pointer none, clock⟩) ?_ (by simp)
      simp only [Array.toList_push, List.map_append, List.map_cons, List.map_nil]
      refine List.nodup_append.2 ⟨s2, by simp, fun a ha c hc e1 => ?_⟩
      rw [List.mem_singleton.1 hc] at e1
      obtain ⟨x, hx, rfl⟩ := List.mem_map.1 ha
      have := s1 x hx
      omega
    refine ⟨.pointer none, clock, setBlock w g (.map (es.push ⟨.int .i64 i, .pointer none, clock⟩) (clock + 1)), setBlock w g (.map (es.push ⟨.int .i64 i, v, clock⟩) (clock + 1)), ?_, ?_, ?_⟩
    · simp [Instr.mapEntry, run_underlying ht, MapKept.run_getObj_map hb, K.check w false hkey, h1, hz, MapKept.run_setObj_map _ hb, Result.andThen, setBlock]
    · simp [Instr.entryStore, MapKept.run_getObj_map (hw1 _ _), asInt, asIntOf, goInt, hidx, hmod, MapKept.run_setObj_map _ (hw1 _ _), Result.andThen]
      simp [setBlock]
    · simp [Instr.mapUpdate, run_underlying ht, MapKept.run_getObj_map hb, K.check w false hkey, h1, MapKept.run_setObj_map _ hb, Result.andThen, setBlock]
  · have hj : es[j]? = some e0 := by simpa using h2
    have hsame : es.modify j (fun e => { e with key := .int .i64 i }) = es := by
      apply Array.ext'
      rw [Array.toList_modify, modify_eq_set _ _ _ _ h2, ← h3]
      exact WideElems.set_self _ _ _ h2
    have hidx : es.findIdx? (fun e => ((e.born : Nat) : Int) == ((e0.born : Nat) : Int)) = some j := by
      rw [WideElems.findIdx_arr]
      exact WideElems.findIdx_born s2 h2
    have hmod : es.modify j (fun e => { e with val := v }) = es.modify j (fun e' => { e' with key := .int .i64 i, val := v }) := by
      apply Array.ext'
      rw [Array.toList_modify, Array.toList_modify, modify_eq_set _ _ _ _ h2, modify_eq_set _ _ _ _ h2, ← h3]
    refine ⟨e0.val, e0.born, setBlock w g (.map es clock), setBlock w g (.map (es.modify j (fun e' => { e' with key := .int .i64 i, val := v })) clock), ?_, ?_, ?_⟩
    · simp [Instr.mapEntry, run_underlying ht, MapKept.run_getObj_map hb, K.check w false hkey, h1, hj, h3, K.stays w hkey, hsame, MapKept.run_setObj_map _ hb, Result.andThen, setBlock]
    · simp [Instr.entryStore, MapKept.run_getObj_map (hw1 _ _), asInt, asIntOf, goInt, hidx, hmod, MapKept.run_setObj_map _ (hw1 _ _), Result.andThen]
      simp [setBlock]
    · simp [Instr.mapUpdate, run_underlying ht, MapKept.run_getObj_map hb, K.check w false hkey, h1, hj, h3, K.stays w hkey, MapKept.run_setObj_map _ hb, Result.andThen, setBlock]
end
section
variable {P : Program} {ops : Array Oper} {rest : List Oper} {o : Oper} {a : Act} {w : World} {Q : Exit → Act → World → Prop} {k e : TypeId} {g n : Nat} {f : Int → Value}
theorem wpList_mmake (hgd : o.guard = none) (t : TypeId) (ho : o.op = .makeMap t none)
    (hQ : ∀ w', MapAt w' P k w.heap.size 0 (fun _ => .pointer none) → Fr No w w' → w'.heap.size = w.heap.size + 1 → wpList P ops Q rest (a.put o.dst (.map (some w.heap.size))) w') : wpList P ops Q (o :: rest) a w :=
  wpList_run hgd (v := .map (some w.heap.size)) (w' := w.alloc (.map #[] 0)) (by
    have hr : (Instr.makeMap t none).run P w = .ok (.map (some w.heap.size)) (w.alloc (.map #[] 0)) := rfl
    simp [execOp, ho, hr, Result.andThen]) (hQ _ (MapAt.made w P k) ((Fr.refl No w).alloc _) (by simp))
theorem wpList_look (hgd : o.guard = none) (m x : Operand) (t : TypeId) (ho : o.op = .lookup t m x false) (hk : P.underlying k = some (.int .i64)) (ht : P.underlying t = some (.map k e)) (hz : (zeroValue e).run P w = .ok (.pointer none) w)
    (hm : a.eval m = .map (some g)) (h : MapAt w P k g n f) (i : Int) (hx : a.eval x = .int .i64 i) (hi : (Lit.int .i64 i).wf = true) (v : Value) (hv : f i = v)
    (hQ : wpList P ops Q rest (a.put o.dst v) w) : wpList P ops Q (o :: rest) a w := by
  subst hv
  exact wpList_run hgd (v := f i) (w' := w) (by simp [execOp, ho, hm, hx, h.look hk ht hz hi, Result.andThen]) hQ
/-- a look-up behind a guard that holds -/
theorem wpList_lookG (hgd : Region.wanted o (yielded ops a.tmps) = true) (m x : Operand) (t : TypeId) (ho : o.op = .lookup t m x false) (hk : P.underlying k = some (.int .i64)) (ht : P.underlying t = some (.map k e)) (hz : (zeroValue e).run P w = .ok (.pointer none) w)
    (hm : a.eval m = .map (some g)) (h : MapAt w P k g n f) (i : Int) (hx : a.eval x = .int .i64 i) (hi : (Lit.int .i64 i).wf = true) (v : Value) (hv : f i = v)
    (hQ : wpList P ops Q rest (a.put o.dst v) w) : wpList P ops Q (o :: rest) a w := by
  subst hv
  unfold wpList
  rw [if_pos hgd]
  refine .inl ?_
  unfold Oper.wp
  have hr : (execOp a.eval o).run P w = .ok (.value (f i)) w := by simp [execOp, ho, hm, hx, h.look hk ht hz hi, Result.andThen]
  rw [hr]
  exact hQ
theorem wpList_mstore (hgd : o.guard = none) (m x y : Operand) (t : TypeId) (ho : o.op = .mapUpdate t m x y) (hk : P.underlying k = some (.int .i64)) (ht : P.underlying t = some (.map k e))
    (hm : a.eval m = .map (some g)) (h : MapAt w P k g n f) (hn : n < maxLen) (i : Int) (hx : a.eval x = .int .i64 i) (hi : (Lit.int .i64 i).wf = true) (v : Value) (hy : a.eval y = v)
    (hQ : ∀ w', MapAt w' P k g (n + 1) (upd f i v) → Fr (fun j => j = g) w w' → w'.heap.size = w.heap.size → wpList P ops Q rest (a.put o.dst undef) w') : wpList P ops Q (o :: rest) a w := by
  obtain ⟨w', hrun, h1, h2, h3⟩ := h.store hk ht hn hi v
  exact wpList_runSkip hgd (w' := w') (by simp [execOp, ho, hm, hx, hy, hrun, Result.andThen]) (hQ w' h1 h2 h3)
theorem wpList_mdrop (hgd : o.guard = none) (m x : Operand) (t : TypeId) (ho : o.op = .call { callee := .builtin .delete, args := #[m, x], argTypes := #[t, k] }) (hk : P.underlying k = some (.int .i64)) (ht : P.underlying t = some (.map k e))
    (hm : a.eval m = .map (some g)) (h : MapAt w P k g n f) (i : Int) (hx : a.eval x = .int .i64 i) (hi : (Lit.int .i64 i).wf = true)
    (hQ : ∀ w', MapAt w' P k g n (upd f i (.pointer none)) → Fr (fun j => j = g) w w' → w'.heap.size = w.heap.size → wpList P ops Q rest (a.put o.dst (.tuple #[])) w') : wpList P ops Q (o :: rest) a w := by
  obtain ⟨w', hrun, h1, h2, h3⟩ := h.drop hk ht hi o.type
  exact wpList_run hgd (v := .tuple #[]) (w' := w') (by simp [execOp, ho, resolve, invoke, builtin, hm, hx, hrun, Result.andThen]) (hQ w' h1 h2 h3)
/-- the place of a tuple assignment, and what the store into it will do -/
theorem wpList_mentry (hgd : o.guard = none) (m x : Operand) (t : TypeId) (ho : o.op = .mapEntry t m x) (hk : P.underlying k = some (.int .i64)) (ht : P.underlying t = some (.map k e)) (hz : ∀ u : World, (zeroValue e).run P u = .ok (.pointer none) u)
    (hm : a.eval m = .map (some g)) (h : MapAt w P k g n f) (hn : n < maxLen) (i : Int) (hx : a.eval x = .int .i64 i) (hi : (Lit.int .i64 i).wf = true) (v : Value)
    (hQ : ∀ (v0 : Value) (st : Nat) (w1 : World), (∃ w2, (Instr.entryStore t (.map (some g)) (.int .i64 (st : Int)) v).run P w1 = .ok () w2 ∧ MapAt w2 P k g (n + 1) (upd f i v) ∧ Fr (fun j => j = g) w w2 ∧ w2.heap.size = w.heap.size) →
      wpList P ops Q rest (a.put o.dst (.tuple #[v0, .int .i64 (st : Int)])) w1) : wpList P ops Q (o :: rest) a w := by
  obtain ⟨v0, st, w1, w2, h1, h2, h3⟩ := h.entry hk ht hz hi v
  obtain ⟨w', hrun, q1, q2, q3⟩ := h.store hk ht hn hi v
  rw [h3] at hrun
  obtain rfl : w2 = w' := by injection hrun
  exact wpList_run hgd (v := .tuple #[v0, .int .i64 (st : Int)]) (w' := w1) (by
    have h1' : (Instr.mapEntry t (.map (some g)) (.int .i64 i)).run P w = .ok (.tuple #[v0, .int .i64 (st : Int)]) w1 := h1
    simp [execOp, ho, hm, hx, h1', Result.andThen]) (hQ v0 st w1 ⟨w2, h2, q1, q2, q3⟩)
theorem wpList_mentryStore (hgd : o.guard = none) (m s x : Operand) (t : TypeId) (ho : o.op = .entryStore t m s x) (vm vs vx : Value) (hm : a.eval m = vm) (hs : a.eval s = vs) (hx : a.eval x = vx) {w2 : World}
    (hrun : (Instr.entryStore t vm vs vx).run P w = .ok () w2) (hQ : wpList P ops Q rest (a.put o.dst undef) w2) : wpList P ops Q (o :: rest) a w :=
  wpList_runSkip hgd (w' := w2) (by simp [execOp, ho, hm, hs, hx, hrun, Result.andThen]) hQ
end
end Go.Lig
