/- A part of the proof: contracts of functions of the program, for the row's text. -/
import Derived.WalkKit
import Derived.WalkSpells
import Derived.WalkLawsBesides
import Derived.Laws.CopyOwn
import Derived.Deep.MidRow
import Derived.StillTailTactics
import Derived.Deep.QuietTactic
import Derived.BigQuiet
namespace Go.Lig
open Go.RowKit
theorem hid {p : Prop} (h : p) : Hid p := h
structure Fr (S : Nat → Prop) (w w' : World) : Prop where
 os : w'.os = w.os
 tape : w'.tape = w.tape
 output : w'.output = w.output
 size : w.heap.size ≤ w'.heap.size
 block : ∀ k, k < w.heap.size → ¬ S k → w'.heap[k]? = w.heap[k]?
def No : Nat → Prop := fun _ => False
theorem Fr.refl (S : Nat → Prop) (w : World) : Fr S w w := ⟨rfl, rfl, rfl, Nat.le_refl _, fun _ _ _ => rfl⟩
theorem Fr.trans {S S' : Nat → Prop} {a b c : World} (h : Fr S a b) (h' : Fr S' b c) (hs : ∀ k, k < a.heap.size → S' k → S k) : Fr S a c :=
 ⟨h'.os.trans h.os, h'.tape.trans h.tape, h'.output.trans h.output, Nat.le_trans h.size h'.size,
  fun k hk hn => (h'.block k (Nat.lt_of_lt_of_le hk h.size) (fun e => hn (hs k hk e))).trans (h.block k hk hn)⟩
theorem Fr.mono {S S' : Nat → Prop} {a b : World} (h : Fr S a b) (hs : ∀ k, k < a.heap.size → S k → S' k) : Fr S' a b :=
 ⟨h.os, h.tape, h.output, h.size, fun k hk hn => h.block k hk (fun e => hn (hs k hk e))⟩
theorem Fr.thenS {S : Nat → Prop} {a b c : World} (h : Fr S a b) (h' : Fr S b c) : Fr S a c := h.trans h' (fun _ _ e => e)
theorem Fr.thenNo {S : Nat → Prop} {a b c : World} (h : Fr S a b) (h' : Fr No b c) : Fr S a c := h.trans h' (fun _ _ e => e.elim)
theorem Fr.alloc {S : Nat → Prop} {a w : World} (h : Fr S a w) (o : Obj) : Fr S a (w.alloc o) :=
 h.trans (S' := No) ⟨rfl, rfl, rfl, by simp, fun k hk _ => Below.heap_alloc _ _ _ hk⟩ (fun _ _ e => e.elim)
theorem Fr.drew {S : Nat → Prop} {a w : World} (h : Fr S a w) : Fr S a w.drew := ⟨h.os, h.tape, h.output, h.size, h.block⟩
theorem Fr.setCell {S : Nat → Prop} {a w : World} (h : Fr S a w) {p : Addr} (v : Value) (hp : p.block < a.heap.size → S p.block) : Fr S a (w.setCell p v) :=
 ⟨h.os, h.tape, h.output, by simpa [World.setCell] using h.size, fun k hk hn =>
  (Below.heap_setCell w p v k (fun e => hn (by subst e; exact hp hk))).trans (h.block k hk hn)⟩
theorem Fr.setRow {S : Nat → Prop} {a w : World} (h : Fr S a w) {g : Nat} (cs : Array Value) (hp : g < a.heap.size → S g) : Fr S a (w.setRow g cs) :=
 ⟨h.os, h.tape, h.output, by simpa [World.setRow] using h.size, fun k hk hn =>
  (setRow_other w g k cs (fun e => hn (by subst e; exact hp hk))).trans (h.block k hk hn)⟩
theorem Fr.grown {S : Nat → Prop} {a w w' : World} (h : Fr S a w) {row : Option Nat} (hg : w.grownBy w' row) (hr : ∀ k, row = some k → k < a.heap.size → S k) : Fr S a w' :=
 ⟨hg.os.trans h.os, hg.tape.trans h.tape, hg.output.trans h.output, Nat.le_trans h.size hg.size, fun k hk hn =>
  (hg.block k (Nat.lt_of_lt_of_le hk h.size) (fun e => hn (hr k e.symm hk))).trans (h.block k hk hn)⟩
theorem Fr.keep {S : Nat → Prop} {w w' : World} (h : Fr S w w') {b : Nat} {o : Obj} (hb : w.heap[b]? = some o) (hn : ¬ S b) : w'.heap[b]? = some o :=
 (h.block b (lt_of_block hb) hn).trans hb
theorem Fr.below {S : Nat → Prop} {w w' : World} {B : Nat} (h : Fr S w w') (hB : B ≤ w.heap.size) (hS : ∀ k, S k → B ≤ k) : Below B w w' :=
 ⟨h.os, h.tape, h.output, h.size, fun k hk => h.block k (by omega) (fun e => by have := hS k e; omega)⟩
theorem Fr.of_below {w w' : World} (h : Below w.heap.size w w') : Fr No w w' :=
 ⟨h.os, h.tape, h.output, h.size, fun k hk _ => h.block k hk⟩
theorem Fr.toBelow {w w' : World} (h : Fr No w w') : Below w.heap.size w w' := h.below (Nat.le_refl _) (fun _ e => e.elim)
theorem hset {w : World} {b k : Nat} {cs : Array Value} {t : TypeId} {fr : Nat × Nat} {v : Value} (h : w.heap[b]? = some (.cells cs t fr)) :
  (w.setCell ⟨b, k, none⟩ v).heap[b]? = some (.cells (cs.setIfInBounds k v) t fr) := by
 rw [setCell_eq_setRow w b k cs t fr v h]
 exact setRow_heap w b cs _ t _ h
theorem hset_ne {w : World} {b : Nat} {a : Addr} {v : Value} (h : b ≠ a.block) : (w.setCell a v).heap[b]? = w.heap[b]? := heap_setCell_other w a b v h
theorem hnew {w : World} {o : Obj} : (w.alloc o).heap[w.heap.size]? = some o := heap_alloc_new w o
theorem hold {w : World} {o : Obj} {b : Nat} (h : b < w.heap.size) : (w.alloc o).heap[b]? = w.heap[b]? := Below.heap_alloc w o b h
theorem hold' {w : World} {o o' : Obj} {b : Nat} (h : w.heap[b]? = some o') : (w.alloc o).heap[b]? = some o' := (hold (lt_of_block h)).trans h
theorem hrow {w : World} {b : Nat} {cs cs' : Array Value} {t : TypeId} {fr : Nat × Nat} (h : w.heap[b]? = some (.cells cs t fr)) :
  (w.setRow b cs').heap[b]? = some (.cells cs' t fr) := setRow_heap w b cs _ t _ h
theorem hp_alloc (w : World) (o : Obj) : (w.alloc o).heap = w.heap.push o := rfl
theorem cellOf {w : World} {b : Nat} {cs : Array Value} {t : TypeId} {fr : Nat × Nat} (h : w.heap[b]? = some (.cells cs t fr)) (k : Nat) :
  w.cell? ⟨b, k, none⟩ = cs[k]? := cell_of_row w b k cs t fr h
theorem freeOf {w : World} {b : Nat} {cs : Array Value} {t : TypeId} (h : w.heap[b]? = some (.cells cs t (0, 0))) (o : Nat) :
  w.frozen? ⟨b, o, none⟩ = false := by simp [World.frozen?, h]
theorem cells1 {w : World} {b : Nat} {t : TypeId} {fr : Nat × Nat} {v0 : Value} (h : w.heap[b]? = some (.cells #[v0] t fr)) :
  w.cell? ⟨b, 0, none⟩ = some v0 := by simp [cellOf h]
theorem cells2 {w : World} {b : Nat} {t : TypeId} {fr : Nat × Nat} {v0 v1 : Value} (h : w.heap[b]? = some (.cells #[v0, v1] t fr)) :
  w.cell? ⟨b, 0, none⟩ = some v0 ∧ w.cell? ⟨b, 1, none⟩ = some v1 := by simp [cellOf h]
theorem cells3 {w : World} {b : Nat} {t : TypeId} {fr : Nat × Nat} {v0 v1 v2 : Value} (h : w.heap[b]? = some (.cells #[v0, v1, v2] t fr)) :
  w.cell? ⟨b, 0, none⟩ = some v0 ∧ w.cell? ⟨b, 1, none⟩ = some v1 ∧ w.cell? ⟨b, 2, none⟩ = some v2 := by simp [cellOf h]
theorem cells4 {w : World} {b : Nat} {t : TypeId} {fr : Nat × Nat} {v0 v1 v2 v3 : Value} (h : w.heap[b]? = some (.cells #[v0, v1, v2, v3] t fr)) :
  w.cell? ⟨b, 0, none⟩ = some v0 ∧ w.cell? ⟨b, 1, none⟩ = some v1 ∧ w.cell? ⟨b, 2, none⟩ = some v2 ∧ w.cell? ⟨b, 3, none⟩ = some v3 := by simp [cellOf h]
theorem cells5 {w : World} {b : Nat} {t : TypeId} {fr : Nat × Nat} {v0 v1 v2 v3 v4 : Value} (h : w.heap[b]? = some (.cells #[v0, v1, v2, v3, v4] t fr)) :
  w.cell? ⟨b, 0, none⟩ = some v0 ∧ w.cell? ⟨b, 1, none⟩ = some v1 ∧ w.cell? ⟨b, 2, none⟩ = some v2 ∧ w.cell? ⟨b, 3, none⟩ = some v3 ∧ w.cell? ⟨b, 4, none⟩ = some v4 := by simp [cellOf h]
theorem freeAll {w : World} {b : Nat} {cs : Array Value} {t : TypeId} (h : w.heap[b]? = some (.cells cs t (0, 0))) : ∀ o, w.frozen? ⟨b, o, none⟩ = false := freeOf h
theorem heap1 (w : World) (A : Obj) : (w.alloc A).heap[w.heap.size]? = some A := heap_alloc_new w A
theorem heap2 (w : World) (A B : Obj) : ((w.alloc A).alloc B).heap[w.heap.size]? = some A ∧ ((w.alloc A).alloc B).heap[w.heap.size + 1]? = some B := by
 have h := heap1 (w.alloc A) B
 rw [World.size_alloc] at h
 exact ⟨hold' (heap1 w A), h⟩
theorem heap3 (w : World) (A B C : Obj) : (((w.alloc A).alloc B).alloc C).heap[w.heap.size]? = some A ∧ (((w.alloc A).alloc B).alloc C).heap[w.heap.size + 1]? = some B ∧
  (((w.alloc A).alloc B).alloc C).heap[w.heap.size + 1 + 1]? = some C := by
 have h := heap1 ((w.alloc A).alloc B) C
 simp only [World.size_alloc] at h
 exact ⟨hold' (heap2 w A B).1, hold' (heap2 w A B).2, h⟩
theorem heap4 (w : World) (A B C D : Obj) : ((((w.alloc A).alloc B).alloc C).alloc D).heap[w.heap.size]? = some A ∧ ((((w.alloc A).alloc B).alloc C).alloc D).heap[w.heap.size + 1]? = some B ∧
  ((((w.alloc A).alloc B).alloc C).alloc D).heap[w.heap.size + 1 + 1]? = some C ∧ ((((w.alloc A).alloc B).alloc C).alloc D).heap[w.heap.size + 1 + 1 + 1]? = some D := by
 have h := heap1 (((w.alloc A).alloc B).alloc C) D
 simp only [World.size_alloc] at h
 exact ⟨hold' (heap3 w A B C).1, hold' (heap3 w A B C).2.1, hold' (heap3 w A B C).2.2, h⟩
theorem Fr.owns {S : Nat → Prop} {w w' : World} (h : Fr S w w') {base : Nat} {e : TypeId} {size : Nat} {v : Value} {n : Nat} {xs : List Value} (ho : w.ownsRow base e size v n xs)
  (hn : ∀ k, v.ownBlock = some k → ¬ S k) : w'.ownsRow base e size v n xs := by
 refine ⟨ho.1, ?_⟩
 rcases ho.2 with h0 | ⟨g, cap, cur, rfl, hb, hg, rest⟩
 ·exact .inl h0
 ·exact .inr ⟨g, cap, cur, rfl, hb, h.keep hg (hn g rfl), rest⟩
section
variable {P : Program} {ops : Array Oper} {rest : List Oper} {o : Oper} {a : Act} {w : World} {Q : Exit → Act → World → Prop}
theorem wpList_run (hgd : o.guard = none) {v : Value} {w' : World} (hrun : (execOp a.eval o).run P w = .ok (.value v) w') (h : wpList P ops Q rest (a.put o.dst v) w') :
  wpList P ops Q (o :: rest) a w :=
 wpList_plain hgd fun K hK => by unfold Oper.wp; rw [hrun]; exact hK _ _ h
theorem wpList_runSkip (hgd : o.guard = none) {w' : World} (hrun : (execOp a.eval o).run P w = .ok .skip w') (h : wpList P ops Q rest (a.put o.dst undef) w') :
  wpList P ops Q (o :: rest) a w :=
 wpList_plain hgd fun K hK => by unfold Oper.wp; rw [hrun]; exact hK _ _ h
theorem run_copy_rows (dT sT ty elem : TypeId) (i : TypeInfo) (size : Nat) (hu : P.underlying dT = some (.slice elem)) (hi : P.info? elem = some i) (hs : i.size = size)
  (g off dLen dCap : Nat) (ad : Addr) (sLen sCap : Nat) (cur : Array Value) (t : TypeId) (cs : List Value)
  (hg : w.heap[g]? = some (.cells cur t (0, 0))) (hn : cs.length = Nat.min sLen dLen * size)
  (hsrc : ∀ j v, cs[j]? = some v → w.cell? (ad.add j) = some v) (hfit : off + cs.length ≤ cur.size) (h1 : ∀ v ∈ cs, v.oneCell' = true) :
  (Builtin.copy_ #[dT, sT] ty #[.slice (some ⟨g, off, none⟩) dLen dCap, .slice (some ad) sLen sCap]).run P w =
   .ok (goInt (Nat.min sLen dLen : Nat)) (w.setRow g (cur.toList.take off ++ cs ++ cur.toList.drop (off + cs.length)).toArray) := by
 have hl := run_loadCells_list (P := P) w ad cs hsrc
 have hst := run_storeCells_at P g off t cs 0 cur w hg (by simpa using hfit) h1
 subst hs
 simp [Builtin.copy_, run_underlying hu, Builtin.lenOf, Builtin.firstCells, sizeOf, typeInfo, hi, ← hn, hl, hst]
theorem wpList_copy_rows (hgd : o.guard = none) (d s : Operand) (dT sT : TypeId)
  (ho : o.op = .call { callee := .builtin .copy, args := #[d, s], argTypes := #[dT, sT] }) (elem : TypeId) (i : TypeInfo) (size : Nat)
  (hu : P.underlying dT = some (.slice elem)) (hi : P.info? elem = some i) (hs : i.size = size)
  (g off dLen dCap : Nat) (ad : Addr) (sLen sCap : Nat) (hd : a.eval d = .slice (some ⟨g, off, none⟩) dLen dCap) (hs' : a.eval s = .slice (some ad) sLen sCap)
  (cur : Array Value) (t : TypeId) (cs : List Value)
  (hg : w.heap[g]? = some (.cells cur t (0, 0))) (hn : cs.length = Nat.min sLen dLen * size)
  (hsrc : ∀ j v, cs[j]? = some v → w.cell? (ad.add j) = some v) (hfit : off + cs.length ≤ cur.size) (h1 : ∀ v ∈ cs, v.oneCell' = true)
  (h : wpList P ops Q rest (a.put o.dst (goInt (Nat.min sLen dLen : Nat))) (w.setRow g (cur.toList.take off ++ cs ++ cur.toList.drop (off + cs.length)).toArray)) :
  wpList P ops Q (o :: rest) a w := by
 refine wpList_run hgd ?_ h
 have hrun := run_copy_rows (P := P) (w := w) dT sT o.type elem i size hu hi hs g off dLen dCap ad sLen sCap cur t cs hg hn hsrc hfit h1
 simp [execOp, ho, resolve, invoke, builtin, hd, hs', hrun, Result.andThen]
theorem run_load_seg (ty : TypeId) (d : TypeDesc) (hu : P.underlying ty = some d) (hd : (match d with | .struct _ | .array _ _ => true | _ => false) = true) (cs : List Value) (hi : (P.info? ty).map (·.size) = some cs.length)
  (ad : Addr) (hsrc : ∀ j v, cs[j]? = some v → w.cell? (ad.add j) = some v) : (Instr.loadAt ty (.pointer (some ad))).run P w = .ok (.agg cs.toArray) w := by
 have hl := run_loadCells_list (P := P) w ad cs hsrc
 cases hq : P.info? ty with
 | none => simp [hq] at hi
 | some i =>
  have hs : i.size = cs.length := by simpa [hq] using hi
  have hagg : (isAgg ty).run P w = .ok true w := by
   unfold isAgg
   rw [Sem.run_bind, run_underlying hu w]
   cases d <;> simp_all
  simp [Instr.loadAt, Instr.sureAddr, loadVar, Sem.run_bind, hagg, sizeOf, typeInfo, hq, hs, hl]
theorem wpList_load_seg (hgd : o.guard = none) (ty : TypeId) (x : Operand) (ho : o.op = .load ty x) (d : TypeDesc) (hu : P.underlying ty = some d) (hd : (match d with | .struct _ | .array _ _ => true | _ => false) = true)
  (cs : List Value) (hi : (P.info? ty).map (·.size) = some cs.length) (ad : Addr) (hx : a.eval x = .pointer (some ad)) (hsrc : ∀ j v, cs[j]? = some v → w.cell? (ad.add j) = some v)
  (h : wpList P ops Q rest (a.put o.dst (.agg cs.toArray)) w) : wpList P ops Q (o :: rest) a w := by
 refine wpList_run hgd ?_ h
 have hrun := run_load_seg (P := P) (w := w) ty d hu hd cs hi ad hsrc
 simp [execOp, ho, hx, hrun, Result.andThen]
theorem run_store_seg (ty : TypeId) (g off : Nat) (cur : Array Value) (t : TypeId) (cs : List Value) (hi : (P.info? ty).map (·.size) = some cs.length)
  (hg : w.heap[g]? = some (.cells cur t (0, 0))) (hfit : off + cs.length ≤ cur.size) (h1 : ∀ v ∈ cs, v.oneCell' = true) :
  (Instr.storeAt ty (.pointer (some ⟨g, off, none⟩)) (.agg cs.toArray)).run P w = .ok () (w.setRow g (cur.toList.take off ++ cs ++ cur.toList.drop (off + cs.length)).toArray) := by
 have hst := run_storeCells_at P g off t cs 0 cur w hg (by simpa using hfit) h1
 cases hq : P.info? ty with
 | none => simp [hq] at hi
 | some i =>
  have hs : i.size = cs.length := by simpa [hq] using hi
  simp [Instr.storeAt, Instr.sureAddr, storeVar, Sem.run_bind, sizeOf, typeInfo, hq, hs, hst, Value.cells]
theorem wpList_store_seg (hgd : o.guard = none) (ty : TypeId) (x y : Operand) (ho : o.op = .store ty x y) (g off : Nat) (hx : a.eval x = .pointer (some ⟨g, off, none⟩))
  (cur : Array Value) (t : TypeId) (cs : List Value) (hy : a.eval y = .agg cs.toArray) (hi : (P.info? ty).map (·.size) = some cs.length)
  (hg : w.heap[g]? = some (.cells cur t (0, 0))) (hfit : off + cs.length ≤ cur.size) (h1 : ∀ v ∈ cs, v.oneCell' = true)
  (h : wpList P ops Q rest (a.put o.dst undef) (w.setRow g (cur.toList.take off ++ cs ++ cur.toList.drop (off + cs.length)).toArray)) : wpList P ops Q (o :: rest) a w := by
 refine wpList_runSkip hgd ?_ h
 have hrun := run_store_seg (P := P) (w := w) ty g off cur t cs hi hg hfit h1
 simp [execOp, ho, hx, hy, hrun, Result.andThen]
end
def Rd (w : World) (v : Value) (n size : Nat) (xs : List Value) : Prop :=
 ∃ ao c, v = .slice ao n c ∧ xs.length = n * size ∧ (ao = none → n = 0 ∧ c = 0) ∧ (∀ ad, ao = some ad → ∀ j u, xs[j]? = some u → w.cell? (ad.add j) = some u) ∧
  (∀ u ∈ xs, u.oneCell' = true) ∧ n ≤ c ∧ c ≤ maxLen
def slBlock : Value → Option Nat
 | .slice (some a) _ _ => some a.block
 | _ => none
theorem Rd.frame {w w' : World} {S : Nat → Prop} {v : Value} {n size : Nat} {xs : List Value} (h : Rd w v n size xs) (hf : Fr S w w') (hn : ∀ k, slBlock v = some k → ¬ S k) : Rd w' v n size xs := by
 obtain ⟨ao, c, rfl, hl, h0, h1, r⟩ := h
 refine ⟨ao, c, rfl, hl, h0, fun ad e j u hu => ?_, r⟩
 have hc := h1 ad e j u hu
 have hb : (ad.add j).block = ad.block := by unfold Addr.add; split <;> rfl
 have hlt := World.block_lt_of_cell? w _ hc
 subst e
 exact (World.cell?_of_block (w := w) (hf.block _ hlt (by rw [hb]; exact hn _ rfl))).trans hc
theorem Rd.nil (w : World) (size : Nat) : Rd w (.slice none 0 0) 0 size [] := ⟨none, 0, rfl, by simp, fun _ => ⟨rfl, rfl⟩, fun _ e => (by cases e), fun _ e => (by cases e), Nat.le_refl _, Nat.zero_le _⟩
theorem Rd.of_owns {w : World} {base : Nat} {e : TypeId} {size : Nat} {v : Value} {n : Nat} {xs : List Value} (h : w.ownsRow base e size v n xs) (h1 : ∀ u ∈ xs, u.oneCell' = true) : Rd w v n size xs := by
 have hc := h
 obtain ⟨hl, h | ⟨g, cap, cur, rfl, hb, hg, hnc, hcm, r⟩⟩ := h
 ·obtain ⟨rfl, rfl⟩ := h
  have hx : xs = [] := List.eq_nil_of_length_eq_zero (by simpa using hl)
  subst hx
  exact Rd.nil w size
 ·exact ⟨some ⟨g, 0, none⟩, cap, rfl, hl, fun e => by (cases e), fun ad e => (by
   obtain rfl := Option.some.inj e
   exact hc.cells (g := g) rfl), h1, hnc, hcm⟩
theorem Rd.cell {w : World} {v : Value} {n size : Nat} {xs : List Value} (h : Rd w v n size xs) {a : Addr} {m c : Nat} (hv : v = .slice (some a) m c) {j : Nat} {u : Value} (hj : xs[j]? = some u) :
  w.cell? (a.add j) = some u := by
 obtain ⟨ao, c', rfl, hl, h0, h1, r⟩ := h
 simp only [Value.slice.injEq] at hv
 obtain ⟨rfl, rfl, rfl⟩ := hv
 exact h1 a rfl j u hj
theorem spot_of_cell {w : World} {a : Addr} {u : Value} (h : w.cell? a = some u) : a.spot = none := by
 unfold World.cell? at h
 split at h
 ·split at h
  ·cases h
  ·rename_i hs
   simpa using hs
 ·cases h
theorem Rd.spot {w : World} {ad : Addr} {n m c size : Nat} {xs : List Value} (h : Rd w (.slice (some ad) n c) m size xs) (hx : 0 < xs.length) : ad.spot = none := by
 obtain ⟨u, hu⟩ : ∃ u, xs[0]? = some u := ⟨_, List.getElem?_eq_getElem hx⟩
 exact spot_of_cell (h.cell rfl hu)
theorem app_value {P : Program} {w : World} (t ty e : TypeId) (i : TypeInfo) (z : Value) (size bytes : Nat) (ht : P.underlying t = some (.slice e)) (hi : P.info? e = some i) (hz : i.zero = some z)
  (hsize : i.size = size) (hby : i.bytes = bytes) (hzs : z.cells.size = size) (hsz : 0 < size)
  (v : Value) (n : Nat) (xs : List Value) (hown : w.ownsRow 0 e size v n xs) (x : Value) (m : Nat) (news : List Value) (hx : Rd w x m size news)
  (h63 : n + m ≤ maxLen) (hbytes : (n + m) * bytes ≤ 140737488355328) :
  ∃ v' w', (Builtin.append_ #[t, t] ty #[v, x]).run P w = .ok v' w' ∧ w'.ownsRow 0 e size v' (n + m) (xs ++ news) ∧ w.grownBy w' v.ownBlock ∧
   (∀ k, v'.ownBlock = some k → v.ownBlock = some k ∨ w.heap.size ≤ k) ∧ (v' = .slice none 0 0 ↔ v = .slice none 0 0 ∧ m = 0) := by
 obtain ⟨ao, c, rfl, hl, h0, h1, hone, _⟩ := hx
 cases ao with
 | none =>
  obtain ⟨rfl, rfl⟩ := h0 rfl
  have hnil : news = [] := List.eq_nil_of_length_eq_zero (by simpa using hl)
  subst hnil
  exact ⟨v, w, run_append_owned_none (P := P) w 0 t ty e i size ht hi v n xs hown, by simpa using hown, World.grownBy.refl _ _, fun k hk => .inl hk, by simp⟩
 | some a =>
  have hnews := h1 a rfl
  obtain ⟨v', w', hr, hown', hgr, hiff⟩ := run_append_own (P := P) w 0 t ty e i z size bytes ht hi hz hsize hby hzs hsz v n xs hown a m c news hl hnews hone h63 hbytes (Nat.zero_le _)
  refine ⟨v', w', hr, hown', hgr, fun k hk => ?_, hiff⟩
  have hown2 := hown
  rcases hown.2 with ⟨rfl, rfl⟩ | ⟨g, cap, cur, rfl, hbg, hg, hnc, hcm, hcs, htake⟩
  ·have hxs : xs = [] := List.eq_nil_of_length_eq_zero (by simpa using hown.1)
   subst hxs
   obtain ⟨v2, w2, hr2, hown2, _⟩ := run_append_own (P := P) w w.heap.size t ty e i z size bytes ht hi hz hsize hby hzs hsz (.slice none 0 0) 0 [] (World.ownsRow_nil w _ e size) a m c news hl hnews hone h63 hbytes (Nat.le_refl _)
   rw [hr] at hr2
   injection hr2 with e1 e2
   subst e1
   exact .inr (hown2.lt k hk).1
  ·by_cases hroom : n + m ≤ cap
   ·have hfit : n * i.size + news.length ≤ cur.size := by rw [hl, hcs, hsize, ← Nat.add_mul]; exact Nat.mul_le_mul_right _ hroom
    have hr2 := run_append_room (P := P) w t ty e i ht hi g n cap cur hg a m c news (by rw [hsize]; exact hl) hnews hone hroom hfit
    rw [hr] at hr2
    injection hr2 with e1 e2
    subst e1
    exact .inl hk
   ·have holds : ∀ j u, xs[j]? = some u → w.cell? ((⟨g, 0, none⟩ : Addr).add j) = some u := hown.cells (g := g) rfl
    have hr2 := run_append_grow (P := P) w t ty e i z ht hi hz ⟨g, 0, none⟩ n cap xs (by rw [hsize]; exact hown.1) holds a m c news (by rw [hsize]; exact hl) hnews (by omega) (by simp only [maxLen] at h63; omega) (by rw [hby]; exact growslice_fits (by omega) hbytes)
    rw [hr] at hr2
    injection hr2 with e1 e2
    subst e1
    simp only [Value.ownBlock, Option.some.injEq] at hk
    exact .inr (by omega)
theorem wpList_app {P : Program} {ops : Array Oper} {rest : List Oper} {o : Oper} {a : Act} {w : World} {Q : Exit → Act → World → Prop} (hgd : o.guard = none) (s x : Operand) (t : TypeId)
  (ho : o.op = .call { callee := .builtin .append, args := #[s, x], argTypes := #[t, t] }) (e : TypeId) (z : Value) (size bytes : Nat)
  (ht : P.underlying t = some (.slice e)) (hinfo : (P.info? e).map (fun i => (i.zero, i.size, i.bytes)) = some (some z, size, bytes)) (hzs : z.cells.size = size) (hsz : 0 < size)
  (v : Value) (n : Nat) (xs : List Value) (hs : a.eval s = v) (hown : w.ownsRow 0 e size v n xs) (xv : Value) (m : Nat) (news : List Value) (hxe : a.eval x = xv) (hx : Rd w xv m size news)
  (h63 : n + m ≤ maxLen) (hbytes : (n + m) * bytes ≤ 140737488355328)
  (h : ∀ v' w', w'.ownsRow 0 e size v' (n + m) (xs ++ news) → Fr (fun k => v.ownBlock = some k) w w' → (∀ k, v'.ownBlock = some k → v.ownBlock = some k ∨ w.heap.size ≤ k) →
   (v' = .slice none 0 0 ↔ v = .slice none 0 0 ∧ m = 0) → wpList P ops Q rest (a.put o.dst v') w') : wpList P ops Q (o :: rest) a w := by
 obtain ⟨i, hi, hz, hsize, hby⟩ := info_parts hinfo
 obtain ⟨v', w', hr, h2, h3, h4, h5⟩ := app_value (P := P) (w := w) t o.type e i z size bytes ht hi hz hsize hby hzs hsz v n xs hown xv m news hx h63 hbytes
 refine wpList_run hgd (v := v') (w' := w') ?_ (h v' w' h2 ⟨h3.os, h3.tape, h3.output, h3.size, fun k hk hn => h3.block k hk (fun e => hn e.symm)⟩ h4 h5)
 simp [execOp, ho, resolve, invoke, builtin, hs, hxe, hr, Result.andThen]
section
variable {P : Program} {ops : Array Oper} {rest : List Oper} {o : Oper} {a : Act} {w : World} {Q : Exit → Act → World → Prop}
theorem wpList_build' (hgd : o.guard = none) (t : TypeId) (parts : List (Nat × Operand)) (ho : o.op = .build t parts.toArray) (vs : List (Nat × Value))
  (hev : parts.map (fun (i, x) => (i, a.eval x)) = vs) (cells : Array Value) (hb : P.built t vs = some cells)
  (h : wpList P ops Q rest (a.put o.dst (.agg cells)) w) : wpList P ops Q (o :: rest) a w := by
 subst hev
 have e : (parts.toArray.map fun (i, x) => (i, a.eval x)).toList = parts.map (fun (i, x) => (i, a.eval x)) := by simp
 exact wpList_build hgd t parts.toArray ho (by rw [e, hb]; rfl) (by rw [e, hb]; exact h)
theorem wpList_alloc' (hgd : o.guard = none) (t : TypeId) (ho : o.op = .alloc t) (i : TypeInfo) (z : Value) (hi : P.info? t = some i) (hz : i.zero = some z)
  (h : wpList P ops Q rest (a.put o.dst (.pointer (some ⟨w.heap.size, 0, none⟩))) (w.alloc (.cells z.cells t))) : wpList P ops Q (o :: rest) a w := by
 refine wpList_run hgd ?_ h
 simp [execOp, ho, Instr.alloc, zeroValue, typeInfo, hi, hz, newVar, newRow, Result.andThen]
end
theorem wpList_local {P : Program} {ops : Array Oper} {rest : List Oper} {o1 o2 : Oper} {a : Act} {w : World} {Q : Exit → Act → World → Prop} (g1 : o1.guard = none) (g2 : o2.guard = none)
  (t : TypeId) (d : Tmp) (y : Operand) (ho1 : o1.op = .alloc t) (hd : o1.dst = some d) (ho2 : o2.op = .store t (.tmp d) y)
  (z : Value) (size bytes : Nat) (hinfo : (P.info? t).map (fun i => (i.zero, i.size, i.bytes)) = some (some z, size, bytes)) (hzs : z.cells.size = size)
  (hp : ∀ p, (a.put (some d) p).eval (.tmp d) = p) (v : Value) (hv : ∀ p, (a.put (some d) p).eval y = v) (cs : List Value) (hcs : v.cells.toList = cs) (hl : cs.length = size) (h1 : ∀ u ∈ cs, u.oneCell' = true)
  (h : ∀ w2 : World, w2.heap[w.heap.size]? = some (.cells cs.toArray t (0, 0)) → Fr No w w2 → w2.heap.size = w.heap.size + 1 →
   wpList P ops Q rest ((a.put (some d) (.pointer (some ⟨w.heap.size, 0, none⟩))).put o2.dst undef) w2) : wpList P ops Q (o1 :: o2 :: rest) a w := by
 obtain ⟨i, hi, hz, hsize, hby⟩ := info_parts hinfo
 refine wpList_alloc' g1 t ho1 i z hi hz ?_
 rw [hd]
 have hg := heap1 w (.cells z.cells t)
 have hst := run_storeCells_at P w.heap.size 0 t cs 0 z.cells (w.alloc (.cells z.cells t)) hg (by simp [hl, hzs]) h1
 refine wpList_runSkip g2 (w' := (w.alloc (.cells z.cells t)).setRow w.heap.size (z.cells.toList.take (0 + 0) ++ cs ++ z.cells.toList.drop (0 + 0 + cs.length)).toArray) ?_ ?_
 ·have hsz : v.cells.size = i.size := by rw [← Array.length_toList, hcs, hl, hsize]
  have hst' : (storeVar t ⟨w.heap.size, 0, none⟩ v).run P (w.alloc (.cells z.cells t)) = .ok () ((w.alloc (.cells z.cells t)).setRow w.heap.size (z.cells.toList.take (0 + 0) ++ cs ++ z.cells.toList.drop (0 + 0 + cs.length)).toArray) := by
   simp only [storeVar, Sem.run_bind, sizeOf, typeInfo]
   simp [hi, hsz, hcs] at hst ⊢
   exact hst
  simp only [execOp, ho2, hp, hv, Instr.storeAt, Instr.sureAddr, Sem.run_bind, Sem.run_pure, Result.andThen_ok, hst']
 ·refine h _ ?_ (((Fr.refl No w).alloc _).setRow _ (fun e => absurd e (Nat.lt_irrefl _))) (by simp)
  rw [hrow hg]
  simp [List.drop_eq_nil_of_le, hl, hzs]
structure Put (g : Nat) (cs : Array Value) (t : TypeId) (w w' : World) : Prop where
 at_ : w'.heap[g]? = some (.cells cs t (0, 0))
 fr : Fr (fun k => k = g) w w'
 size : w'.heap.size = w.heap.size
theorem Put.row {w : World} {g : Nat} {cur cs : Array Value} {t : TypeId} (hg : w.heap[g]? = some (.cells cur t (0, 0))) : Put g cs t w (w.setRow g cs) :=
 ⟨hrow hg, (Fr.refl _ w).setRow _ (fun _ => rfl), by simp⟩
theorem Put.cell {w : World} {g k : Nat} {cur : Array Value} {v : Value} {t : TypeId} (hg : w.heap[g]? = some (.cells cur t (0, 0))) : Put g (cur.setIfInBounds k v) t w (w.setCell ⟨g, k, none⟩ v) :=
 ⟨hset hg, (Fr.refl _ w).setCell _ (fun _ => rfl), by simp⟩
theorem Put.keep {w w' : World} {g : Nat} {cs : Array Value} {t : TypeId} (h : Put g cs t w w') {b : Nat} {o : Obj} (hb : w.heap[b]? = some o) (hn : b ≠ g) : w'.heap[b]? = some o := h.fr.keep hb hn
structure New (cs : Array Value) (t : TypeId) (w w' : World) : Prop where
 at_ : w'.heap[w.heap.size]? = some (.cells cs t (0, 0))
 fr : Fr No w w'
 size : w'.heap.size = w.heap.size + 1
theorem New.alloc (w : World) (cs : Array Value) (t : TypeId) : New cs t w (w.alloc (.cells cs t)) := ⟨heap1 w _, (Fr.refl No w).alloc _, by simp⟩
theorem New.keep {w w' : World} {cs : Array Value} {t : TypeId} (h : New cs t w w') {b : Nat} {o : Obj} (hb : w.heap[b]? = some o) : w'.heap[b]? = some o := h.fr.keep hb (fun e => e)
section
variable {P : Program} {ops : Array Oper} {rest : List Oper} {o : Oper} {a : Act} {w : World} {Q : Exit → Act → World → Prop}
theorem wpList_allocO (hgd : o.guard = none) (t : TypeId) (ho : o.op = .alloc t) (z : Value) (size bytes : Nat) (hinfo : (P.info? t).map (fun i => (i.zero, i.size, i.bytes)) = some (some z, size, bytes))
  (h : ∀ w', New z.cells t w w' → wpList P ops Q rest (a.put o.dst (.pointer (some ⟨w.heap.size, 0, none⟩))) w') : wpList P ops Q (o :: rest) a w := by
 obtain ⟨i, hi, hz, _, _⟩ := info_parts hinfo
 exact wpList_alloc' hgd t ho i z hi hz (h _ (New.alloc w z.cells t))
theorem wpList_storeO (hgd : o.guard = none) (ty : TypeId) (x y : Operand) (ho : o.op = .store ty x y) (g off : Nat) (hx : a.eval x = .pointer (some ⟨g, off, none⟩))
  (cur : List Value) (t : TypeId) (cs : List Value) (hy : a.eval y = .agg cs.toArray) (hi : (P.info? ty).map (·.size) = some cs.length)
  (hg : w.heap[g]? = some (.cells cur.toArray t (0, 0))) (hfit : off + cs.length ≤ cur.length) (h1 : ∀ v ∈ cs, v.oneCell' = true)
  (h : ∀ w', Put g (cur.take off ++ cs ++ cur.drop (off + cs.length)).toArray t w w' → wpList P ops Q rest (a.put o.dst undef) w') : wpList P ops Q (o :: rest) a w :=
 wpList_store_seg hgd ty x y ho g off hx cur.toArray t cs hy hi hg (by simpa using hfit) h1 (h _ (Put.row hg))
end
section
variable {P : Program} {ops : Array Oper} {rest : List Oper} {o : Oper} {a : Act} {w : World} {Q : Exit → Act → World → Prop}
theorem cells_one {v : Value} (h : v.oneCell' = true) : v.cells = #[v] := by cases v <;> first | rfl | cases h
theorem wpList_store1 (hgd : o.guard = none) (ty : TypeId) (x y : Operand) (ho : o.op = .store ty x y) (g k : Nat) (hx : a.eval x = .pointer (some ⟨g, k, none⟩))
  (cur : Array Value) (t : TypeId) (v : Value) (hy : a.eval y = v) (hi : (P.info? ty).map (·.size) = some 1)
  (hg : w.heap[g]? = some (.cells cur t (0, 0))) (hk : k < cur.size) (h1 : v.oneCell' = true)
  (h : ∀ w', Put g (cur.setIfInBounds k v) t w w' → wpList P ops Q rest (a.put o.dst undef) w') : wpList P ops Q (o :: rest) a w := by
 obtain ⟨i, hi, hs⟩ := Option.map_eq_some_iff.1 hi
 refine wpList_runSkip hgd ?_ (h _ (Put.cell hg))
 have hc : w.cell? ⟨g, k, none⟩ = some cur[k] := by rw [cellOf hg]; simp [hk]
 have hf := freeOf hg k
 have hst : (store ((⟨g, k, none⟩ : Addr).add 0) v).run P w = .ok () (w.setCell ⟨g, k, none⟩ v) := by
  rw [show (⟨g, k, none⟩ : Addr).add 0 = ⟨g, k, none⟩ from rfl, run_store P w _ v _ h1, hc]
  simp [hf]
 have hrun : (Instr.storeAt ty (.pointer (some ⟨g, k, none⟩)) v).run P w = .ok () (w.setCell ⟨g, k, none⟩ v) := by
  simp [Instr.storeAt, Instr.sureAddr, storeVar, sizeOf, typeInfo, hi, hs, cells_one h1, storeCells, hst]
 simp [execOp, ho, hx, hy, hrun, Result.andThen]
theorem fill_all (cs : List Value) : ∀ (k : Nat) (acc : Array Value), k + cs.length ≤ acc.size → ∀ j : Nat,
  ((cs.zipIdx k).foldl (fun (a : Array Value) (x : Value × Nat) => a.setIfInBounds (0 + x.2) x.1) acc)[j]? = if k ≤ j ∧ j < k + cs.length then cs[j - k]? else acc[j]? := by
 induction cs with
 | nil => intro k acc _ j; simp; omega
 | cons c cs ih =>
  intro k acc h j
  simp only [List.zipIdx_cons, List.foldl_cons, List.length_cons] at h ⊢
  rw [ih (k + 1) _ (by simp; omega) j]
  by_cases h1 : k + 1 ≤ j ∧ j < k + 1 + cs.length
  ·rw [if_pos h1, if_pos (by omega), show j - k = (j - (k + 1)) + 1 by omega]
   simp
  ·rw [if_neg h1]
   by_cases h2 : j = k
   ·subst h2
    rw [if_pos (by omega)]
    have hj : j < acc.size := by omega
    simp [hj]
   ·rw [if_neg (by omega)]
    rw [Array.getElem?_setIfInBounds]
    rw [if_neg (by omega)]
theorem run_buildSlice1 (t elem : TypeId) (z : Value) (size bytes : Nat) (hu : P.underlying t = some (.slice elem)) (hinfo : (P.info? elem).map (fun i => (i.zero, i.size, i.bytes)) = some (some z, size, bytes))
  (hs0 : 0 < size) (hs1 : size ≤ 16777216) (v : Value) (hv : v.cells.size = size) :
  (Instr.buildSlice t 1 #[(0, v)]).run P w = .ok (.slice (some ⟨w.heap.size, 0, none⟩) 1 1) (w.alloc (.cells v.cells elem)) := by
 obtain ⟨i, hi, hz, hsize, hby⟩ := info_parts hinfo
 have hfill : Instr.fill (fun i => some (i * size, size)) ((Array.range (1 * size)).map (z.cells[· % z.cells.size]!)) [(0, v)] = some v.cells := by
  simp only [Instr.fill, Nat.zero_mul]
  rw [if_neg (by simp [hv])]
  congr 1
  apply Array.ext_getElem?
  intro j
  rw [← Array.foldl_toList, Array.toList_zipIdx]
  rw [fill_all v.cells.toList 0 _ (by simp [hv]) j]
  by_cases hj : j < size
  ·rw [if_pos (by simp [hv, hj])]
   simp
  ·rw [if_neg (by simp [hv, hj])]
   rw [Array.getElem?_eq_none (by simp; omega), Array.getElem?_eq_none (by omega)]
 have hne : ¬ size = 0 := by omega
 have hbig : ¬ (16777216 < size) := by omega
 simp only [Nat.one_mul] at hfill
 simp [Instr.buildSlice, run_underlying hu, sizeOf, typeInfo, zeroValue, hi, hz, hsize, hne, hbig, hfill, newRow]
theorem wpList_buildSlice1 (hgd : o.guard = none) (t elem : TypeId) (x : Operand) (ho : o.op = .buildSlice t 1 #[(0, x)]) (z : Value) (size bytes : Nat) (hu : P.underlying t = some (.slice elem))
  (hinfo : (P.info? elem).map (fun i => (i.zero, i.size, i.bytes)) = some (some z, size, bytes)) (hs0 : 0 < size) (hs1 : size ≤ 16777216) (v : Value) (hv : a.eval x = v) (hvs : v.cells.size = size)
  (h : ∀ w', New v.cells elem w w' → wpList P ops Q rest (a.put o.dst (.slice (some ⟨w.heap.size, 0, none⟩) 1 1)) w') : wpList P ops Q (o :: rest) a w := by
 refine wpList_run hgd ?_ (h _ (New.alloc w v.cells elem))
 have hrun := run_buildSlice1 (P := P) (w := w) t elem z size bytes hu hinfo hs0 hs1 v hvs
 simp [execOp, ho, hv, hrun, Result.andThen]
end
theorem Rd.block {w : World} {g : Nat} {cs : List Value} {t : TypeId} {fr : Nat × Nat} (hg : w.heap[g]? = some (.cells cs.toArray t fr)) (n size c : Nat) (hl : cs.length = n * size) (h1 : ∀ u ∈ cs, u.oneCell' = true) (hc : n ≤ c) (hm : c ≤ maxLen) :
  Rd w (.slice (some ⟨g, 0, none⟩) n c) n size cs :=
 ⟨some ⟨g, 0, none⟩, c, rfl, hl, fun e => (by cases e), fun ad e => (by
  obtain rfl := Option.some.inj e
  intro j u hu
  rw [Addr.add_mid, cellOf hg]
  simpa using hu), h1, hc, hm⟩
theorem local_done {w w3 w4 : World} {z cs : List Value} {t : TypeId} {zs : Array Value} {n : Nat} (h3 : New zs t w w3) (h4 : Put w.heap.size (z.take 0 ++ cs ++ z.drop (0 + cs.length)).toArray t w3 w4) (hl : cs.length = n) (hz : z.length ≤ n := by simp) : New cs.toArray t w w4 :=
 ⟨by have := h4.at_; rwa [List.take_zero, List.nil_append, List.drop_eq_nil_of_le (by omega), List.append_nil] at this,
  h3.fr.trans h4.fr (fun k hk e => by omega), by rw [h4.size, h3.size]⟩
theorem Rd.at1 {w : World} {v : Value} {n size : Nat} {xs : List Value} (h : Rd w v n size xs) {k : Nat} {u : Value} (hk : xs[k]? = some u) :
  ∃ b o c, v = .slice (some ⟨b, o, none⟩) n c ∧ ∀ w', Fr No w w' → w'.cell? ⟨b, o + k, none⟩ = some u := by
 have hlt := (List.getElem?_eq_some_iff.1 hk).1
 obtain ⟨ao, c, rfl, hl, h0, h1, _⟩ := id h
 cases ao with
 | none =>
  have := (h0 rfl).1
  subst this
  rw [Nat.zero_mul] at hl
  omega
 | some ad =>
  obtain ⟨b, o, sp⟩ := ad
  have hsp := h.spot (by omega)
  simp only at hsp
  subst hsp
  refine ⟨b, o, c, rfl, fun w' hf => ?_⟩
  have := (h.frame hf (fun _ _ e => e)).cell rfl hk
  rwa [Addr.add_mid] at this
end Go.Lig
