/- A part of the proof: contracts of functions of the program, for the row's text. -/
import Derived.Test.YtibfpkfpmkghhaaGreatDoorJ01
namespace Go.Lig
open Go.RowKit Go.ChangeShapes Go.WideShapes Go.ChangeAt Go.Deep

theorem rd_len {w : World} {v : Value} {n size : Nat} {xs : List Value} (h : Rd w v n size xs) : ∃ ao c, v = .slice ao n c ∧ n ≤ 9223372036854775807 := by
  obtain ⟨ao, c, rfl, _, _, _, _, h1, h2⟩ := h
  exact ⟨ao, c, rfl, by unfold maxLen at h2; omega⟩
theorem Rd.frameE {w w' : World} {S : Nat → Prop} {v : Value} {n size : Nat} {xs : List Value} (h : Rd w v n size xs) (hf : Fr S w w') (hn : ∀ k, slBlock v = some k → xs ≠ [] → ¬ S k) : Rd w' v n size xs := by
  cases hx : xs with
  | nil =>
    subst hx
    obtain ⟨ao, c, rfl, hl, h0, _, r⟩ := h
    exact ⟨ao, c, rfl, hl, h0, fun _ _ j u hu => (by simp at hu), r⟩
  | cons x l => exact hx ▸ h.frame hf (fun k hk => hn k hk (by rw [hx]; exact List.cons_ne_nil _ _))
theorem rd_block {w : World} {v : Value} {n size : Nat} {xs : List Value} (h : Rd w v n size xs) {k : Nat} (hk : slBlock v = some k) (hn : xs ≠ []) : k < w.heap.size := by
  obtain ⟨ao, c, rfl, hl, h0, h1, r⟩ := h
  cases xs with
  | nil => exact absurd rfl hn
  | cons x l =>
    cases ao with
    | none => cases hk
    | some ad =>
      obtain rfl : ad.block = k := Option.some.inj hk
      have := World.block_lt_of_cell? w _ (h1 ad rfl 0 x rfl)
      have hb : (ad.add 0).block = ad.block := by unfold Addr.add; split <;> rfl
      rwa [hb] at this
/-! ### Owned rows -/
theorem ownsRow_slice {w : World} {base : Nat} {e : TypeId} {size : Nat} {v : Value} {n : Nat} {xs : List Value} (h : w.ownsRow base e size v n xs) : ∃ a c, v = .slice a n c := by
  rcases h.2 with ⟨rfl, rfl⟩ | ⟨g, cap, cur, e, _⟩
  · exact ⟨none, 0, rfl⟩
  · exact ⟨_, _, e⟩
theorem fd_owns {w w' : World} {base : Nat} {e : TypeId} {size : Nat} {v : Value} {n : Nat} {xs : List Value} (h : w.ownsRow base e size v n xs) (hf : Fr No w w') : w'.ownsRow base e size v n xs := hf.owns h (fun _ _ e => e)
theorem owns_at {w : World} {base : Nat} {e : TypeId} {size : Nat} {a : Option Addr} {c n : Nat} {xs : List Value} (h : w.ownsRow base e size (.slice a n c) n xs) (hn : 0 < n) : ∃ g cur, a = some ⟨g, 0, none⟩ ∧ base ≤ g ∧ w.heap[g]? = some (.cells cur e (0, 0)) ∧ n ≤ c ∧ cur.size = c * size ∧ cur.toList.take (n * size) = xs := by
  rcases h.2 with ⟨_, e⟩ | ⟨g, cap, cur, e, hb, hg, hnc, hcm, hcs, ht⟩
  · omega
  · simp only [Value.slice.injEq] at e
    obtain ⟨rfl, -, rfl⟩ := e
    exact ⟨g, cur, rfl, hb, hg, hnc, hcs, ht⟩
theorem owns_cell {w : World} {base : Nat} {e : TypeId} {size : Nat} {a : Option Addr} {c n : Nat} {xs : List Value} (h : w.ownsRow base e size (.slice a n c) n xs) {g : Nat} (ha : a = some ⟨g, 0, none⟩) {j : Nat} {u : Value} (hj : xs[j]? = some u) : w.cell? ⟨g, j, none⟩ = some u := by
  subst ha
  have := h.cells (g := g) rfl j u hj
  rwa [Addr.add_mid, Nat.zero_add] at this
theorem flat_get {α β : Type} {f : α → List β} {m : Nat} (hf : ∀ x, (f x).length = m) (l : List α) (k : Nat) (x : α) (hx : l[k]? = some x) (j : Nat) (hj : j < m) : (l.flatMap f)[k * m + j]? = (f x)[j]? := by
  induction l generalizing k with
  | nil => simp at hx
  | cons y l ih =>
    rw [List.flatMap_cons]
    cases k with
    | zero =>
      obtain rfl : y = x := by simpa using hx
      rw [Nat.zero_mul, Nat.zero_add, List.getElem?_append_left (by rw [hf]; exact hj)]
    | succ k =>
      have : (k + 1) * m + j = (f y).length + (k * m + j) := by rw [hf, Nat.succ_mul]; omega
      rw [this, List.getElem?_append_right (by omega), Nat.add_sub_cancel_left]
      exact ih k (by simpa using hx)
theorem flat_len {α β : Type} {f : α → List β} {m : Nat} (hf : ∀ x, (f x).length = m) (l : List α) : (l.flatMap f).length = l.length * m := by
  induction l with
  | nil => simp
  | cons y l ih => rw [List.flatMap_cons, List.length_append, hf, ih, List.length_cons, Nat.succ_mul]; omega
/-! ### Classes of worlds, frames -/
/-- The worlds that come behind w, and touch nothing of it. -/
def Frr (w : World) : Type := { u : World // Fr No w u }
def Frr.val {w : World} (u : Frr w) : World := Subtype.val u
instance {w : World} : Nonempty (Frr w) := ⟨⟨w, Fr.refl _ _⟩⟩
def FrC (w : World) : World → Prop := fun w' => ∃ u : Frr w, w' = u.val
attribute [go_sem] FrC
theorem FrC.mk {w w' : World} (h : Fr No w w') : FrC w w' := ⟨⟨w', h⟩, rfl⟩
theorem FrC.fr {w w' : World} (h : FrC w w') : Fr No w w' := by
  obtain ⟨u, rfl⟩ := h
  exact u.2
theorem FrC.refl (w : World) : FrC w w := FrC.mk (Fr.refl _ _)
theorem FrC.sub {w w1 : World} (h : Fr No w w1) (u : World) (hu : FrC w1 u) : FrC w u := FrC.mk (h.thenNo hu.fr)
section
variable {P : Program} {ops : Array Oper} {o : Oper} {a : Act} {w : World} {i last : Nat} {S : World → Prop} {Q : Exit → Act → World → Prop}
/-- the frame written out anew, the rest out of reach -/
theorem sched_hide {rest : List (Bool × Nat × Oper)} (h : ∀ K : Act → Prop, (∀ a, wpSched P ops Q S last rest a w → K a) → K a) : wpSched P ops Q S last rest a w := h _ (fun _ h => h)
theorem sched_build {rest : List (Bool × Nat × Oper)} (hgd : o.guard = none) (t : TypeId) (parts : List (Nat × Operand)) (ho : o.op = .build t parts.toArray) (vs : List (Nat × Value))
    (hev : parts.map (fun (i, x) => (i, a.eval x)) = vs) (cells : Array Value) (hb : P.built t vs = some cells) (h : wpSched P ops Q S last rest (a.put o.dst (.agg cells)) w) : wpSched P ops Q S last ((false, i, o) :: rest) a w := by
  subst hev
  refine sched_run hgd (v := .agg cells) (fun w' _ => ?_) h
  have e : (parts.toArray.map fun (i, x) => (i, a.eval x)).toList = parts.map (fun (i, x) => (i, a.eval x)) := by simp
  unfold execOp
  simp only [ho, Sem.run_bind, run_build w' t _ cells (by rw [e]; exact hb), Result.andThen_ok]
  rfl
end
/-! ### Arguments -/
section
variable {H : Type} {enc : TypeId × Value → H} {P : Program} {W : World}
end
end Go.Lig

namespace Go.Lig
open Go.RowKit

theorem take_drop_get {α : Type} (xs : List α) (k j : Nat) (u : α) (h : (xs.drop k)[j]? = some u) : xs[k + j]? = some u := by
  rwa [List.getElem?_drop] at h
/-- v[l:] -/
theorem Rd.from_ {P : Program} {w : World} {t e : TypeId} {v : Value} {n size : Nat} {xs : List Value} (h : Rd w v n size xs) (ht : P.underlying t = some (.slice e)) (hs : (P.info? e).map (·.size) = some size) (l : Nat) (hl : l ≤ n) :
    ∃ v', (∀ w' : World, (Instr.slice t v (some (.int .i64 (l : Int))) none none).run P w' = .ok v' w') ∧ Rd w v' (n - l) size (xs.drop (l * size)) ∧ (∀ k, slBlock v' = some k → slBlock v = some k) := by
  obtain ⟨ao, c, rfl, hlen, h0, h1, hone, hnc, hm⟩ := h
  obtain ⟨i, hi, hsz⟩ := Option.map_eq_some_iff.1 hs
  have hlen' : (xs.drop (l * size)).length = (n - l) * size := by rw [List.length_drop, hlen, Nat.sub_mul]
  refine ⟨.slice (if c = l then ao else ao.map (·.add (l * size))) (n - l) (c - l), fun w' => ?_, ⟨_, _, rfl, hlen', fun e => ?_, fun ad e j u hu => ?_, fun u hu => hone u (List.mem_of_mem_drop hu), by omega, by omega⟩, fun k hk => ?_⟩
  · simp [Instr.slice, run_underlying ht, Instr.sliceBounds, Instr.sliceBound, asIntOf, sizeOf, typeInfo, hi, hsz, Sem.run_bind]
    intro h; omega
  · have hao : ao = none := by
      split at e
      · exact e
      · simpa using e
    obtain ⟨rfl, rfl⟩ := h0 hao
    omega
  · split at e
    · rename_i hcl
      have : (xs.drop (l * size)).length = 0 := by rw [hlen', show n - l = 0 by omega, Nat.zero_mul]
      rw [List.eq_nil_of_length_eq_zero this] at hu
      simp at hu
    · obtain ⟨a0, rfl, rfl⟩ := Option.map_eq_some_iff.1 e
      rw [Addr.add_add]
      exact h1 a0 rfl (l * size + j) u (take_drop_get xs _ _ _ hu)
  · cases ao with
    | none => simp [slBlock] at hk
    | some a0 =>
      have hb : (a0.add (l * size)).block = a0.block := by unfold Addr.add; split <;> rfl
      split at hk
      · exact hk
      · simpa [slBlock, hb] using hk
/-- v[:h] -/
theorem Rd.upto {P : Program} {w : World} {t e : TypeId} {v : Value} {n size : Nat} {xs : List Value} (h : Rd w v n size xs) (ht : P.underlying t = some (.slice e)) (hs : (P.info? e).map (·.size) = some size) (l : Nat) (hl : l ≤ n) :
    ∃ v', (∀ w' : World, (Instr.slice t v none (some (.int .i64 (l : Int))) none).run P w' = .ok v' w') ∧ Rd w v' l size (xs.take (l * size)) ∧ (∀ k, slBlock v' = some k → slBlock v = some k) := by
  obtain ⟨ao, c, rfl, hlen, h0, h1, hone, hnc, hm⟩ := h
  obtain ⟨i, hi, hsz⟩ := Option.map_eq_some_iff.1 hs
  have hle : l * size ≤ n * size := Nat.mul_le_mul_right _ hl
  have hz : (if c = 0 then ao else ao.map (·.add (0 * size))) = ao := by
    split
    · rfl
    · cases ao with
      | none => rfl
      | some a => simp [Addr.add]
  refine ⟨.slice ao l c, fun w' => ?_, ⟨_, _, rfl, by rw [List.length_take, hlen]; omega, fun e => ?_, fun ad e j u hu => ?_, fun u hu => hone u (List.mem_of_mem_take hu), by omega, by omega⟩, fun k hk => ?_⟩
  · have hz' : (if c = 0 then ao else Option.map (fun x => x.add 0) ao) = ao := by simpa using hz
    simp [Instr.slice, run_underlying ht, Instr.sliceBounds, Instr.sliceBound, asIntOf, sizeOf, typeInfo, hi, Sem.run_bind]
    rw [if_pos (show l ≤ c by omega), hz']
  · obtain ⟨rfl, rfl⟩ := h0 e
    omega
  · rw [List.getElem?_take] at hu
    split at hu
    · exact h1 ad e j u hu
    · cases hu
  · cases ao with
    | none => simp [slBlock] at hk
    | some a => simpa [slBlock] using hk
section
variable {P : Program} {ops : Array Oper} {rest : List Oper} {o : Oper} {a : Act} {w : World} {Q : Exit → Act → World → Prop}
/-- []T{} -/
theorem wpList_buildSlice0 (hgd : o.guard = none) (t elem : TypeId) (ho : o.op = .buildSlice t 0 #[]) (z : Value) (size bytes : Nat) (hu : P.underlying t = some (.slice elem))
    (hinfo : (P.info? elem).map (fun i => (i.zero, i.size, i.bytes)) = some (some z, size, bytes))
    (h : ∀ w', New #[] elem w w' → wpList P ops Q rest (a.put o.dst (.slice (some ⟨w.heap.size, 0, none⟩) 0 0)) w') : wpList P ops Q (o :: rest) a w := by
  obtain ⟨i, hi, hz, hs, hby⟩ := info_parts hinfo
  refine wpList_run hgd ?_ (h _ (New.alloc w #[] elem))
  have hrun : (Instr.buildSlice t 0 #[]).run P w = .ok (.slice (some ⟨w.heap.size, 0, none⟩) 0 0) (w.alloc (.cells #[] elem)) := by
    simp [Instr.buildSlice, run_underlying hu, sizeOf, typeInfo, hi, Instr.fill, newRow]
    have e0 : Array.map (fun _ : Nat => (default : Value)) (Array.range 0) = #[] := by apply Array.ext'; simp
    rw [e0]
  simp [execOp, ho, hrun, Result.andThen]
end
section
variable {P : Program} {ops : Array Oper} {o : Oper} {a : Act} {w : World} {i last : Nat} {S : World → Prop} {Q : Exit → Act → World → Prop}
theorem run_slice_op (t e : TypeId) (ht : P.underlying t = some (.slice e)) (x : Operand) (lo hi : Option Operand) (ho : o.op = .slice t x lo hi none) (xv : Value) (hx : a.eval x = xv) (lov hiv : Option Value) (hl : lo.map a.eval = lov) (hh : hi.map a.eval = hiv)
    (v : Value) {w : World} (hrun : (Instr.slice t xv lov hiv none).run P w = .ok v w) : (execOp a.eval o).run P w = .ok (.value v) w := by
  subst hl hh hx
  have h1 : (Instr.sliceAt t (a.eval x) (lo.map a.eval) (hi.map a.eval) none).run P w = (Instr.slice t (a.eval x) (lo.map a.eval) (hi.map a.eval) none).run P w := by simp [Instr.sliceAt, run_underlying ht]
  simp only [execOp, ho, Option.map_none, Sem.run_bind, h1, hrun, Result.andThen_ok]
  rfl
theorem sched_slice {rest : List (Bool × Nat × Oper)} (hgd : o.guard = none) (t e : TypeId) (ht : P.underlying t = some (.slice e)) (x : Operand) (lo hi : Option Operand) (ho : o.op = .slice t x lo hi none) (xv : Value) (hx : a.eval x = xv) (lov hiv : Option Value) (hl : lo.map a.eval = lov) (hh : hi.map a.eval = hiv)
    (v : Value) (hrun : ∀ w' : World, (Instr.slice t xv lov hiv none).run P w' = .ok v w') (h : wpSched P ops Q S last rest (a.put o.dst v) w) : wpSched P ops Q S last ((false, i, o) :: rest) a w :=
  sched_run hgd (fun w' _ => run_slice_op t e ht x lo hi ho xv hx lov hiv hl hh v (hrun w')) h
theorem wpList_slice {rest : List Oper} (hgd : o.guard = none) (t e : TypeId) (ht : P.underlying t = some (.slice e)) (x : Operand) (lo hi : Option Operand) (ho : o.op = .slice t x lo hi none) (xv : Value) (hx : a.eval x = xv) (lov hiv : Option Value) (hl : lo.map a.eval = lov) (hh : hi.map a.eval = hiv)
    (v : Value) (hrun : ∀ w' : World, (Instr.slice t xv lov hiv none).run P w' = .ok v w') (h : wpList P ops Q rest (a.put o.dst v) w) : wpList P ops Q (o :: rest) a w :=
  wpList_run hgd (run_slice_op t e ht x lo hi ho xv hx lov hiv hl hh v (hrun w)) h
end
theorem New.own0 {e : TypeId} {size : Nat} {w w' : World} (h : New #[] e w w') : w'.ownsRow 0 e size (.slice (some ⟨w.heap.size, 0, none⟩) 0 0) 0 [] :=
  ⟨by simp, .inr ⟨w.heap.size, 0, #[], rfl, Nat.zero_le _, h.at_, Nat.le_refl _, by simp [maxLen], by simp, by simp⟩⟩
end Go.Lig

namespace Go.Lig
open Go.RowKit

structure ValR where
  kind : Int
  b : Bool
  n : Int
  f : Nat
  t : ByteArray
  deriving DecidableEq
instance : Inhabited ValR := ⟨⟨0, false, 0, 0, ⟨#[]⟩⟩⟩
structure PropV where
  key : ByteArray
  v : ValR
  deriving DecidableEq
instance : Inhabited PropV := ⟨⟨⟨#[]⟩, default⟩⟩
structure NodeD where
  L : List ByteArray
  Q : List PropV
  deriving DecidableEq
instance : Inhabited NodeD := ⟨⟨[], []⟩⟩
def NodeD.none : NodeD := ⟨[], []⟩
/-- an entry of a tree -/
structure EntR where
  v : ValR
  id : Int
  deriving DecidableEq
/-- an entry of an index -/
structure IxR where
  key : ByteArray
  x : EntR
  deriving DecidableEq
def pcell (q : PropV) : List Value := [.string q.key, .int .i64 q.v.kind, .bool q.v.b, .int .i64 q.v.n, .float .f64 q.v.f, .string q.v.t]
def ncellE (x : EntR) : List Value := [.int .i64 x.v.kind, .bool x.v.b, .int .i64 x.v.n, .float .f64 x.v.f, .string x.v.t, .int .i64 x.id]
def ixcell (x : IxR) : List Value := [.string x.key, .int .i64 x.x.v.kind, .bool x.x.v.b, .int .i64 x.x.v.n, .float .f64 x.x.v.f, .string x.x.v.t, .int .i64 x.x.id]
structure ValOk (v : ValR) : Prop where
  kind : (Lit.int .i64 v.kind).wf = true
  n : (Lit.int .i64 v.n).wf = true
  f : (Lit.float .f64 v.f).wf = true
  t : v.t.size ≤ maxLen
structure PropOk (q : PropV) : Prop where
  key : q.key.size ≤ maxLen
  v : ValOk q.v
/-- the node sl, sp is d -/
structure NodeOf (w : World) (sl sp : Value) (d : NodeD) : Prop where
  l : Rd w sl d.L.length 1 (d.L.map Value.string)
  p : Rd w sp d.Q.length 6 (d.Q.flatMap pcell)
  ok : ∀ q ∈ d.Q, PropOk q
  ls : ∀ s ∈ d.L, s.size ≤ maxLen
theorem NodeOf.frame {w w' : World} {sl sp : Value} {d : NodeD} (h : NodeOf w sl sp d) (hf : Fr No w w') : NodeOf w' sl sp d :=
  ⟨h.l.frame hf (fun _ _ e => e), h.p.frame hf (fun _ _ e => e), h.ok, h.ls⟩
theorem NodeOf.none (w : World) : NodeOf w (.slice none 0 0) (.slice none 0 0) NodeD.none := ⟨Rd.nil _ _, Rd.nil _ _, fun _ h => (by cases h), fun _ h => (by cases h)⟩
/-- v is read within I -/
structure RdI (w : World) (I : Nat → Prop) (v : Value) (n size : Nat) (xs : List Value) : Prop where
  rd : Rd w v n size xs
  blk : xs ≠ [] → ∀ k, slBlock v = some k → I k
theorem RdI.frame {w w' : World} {I S : Nat → Prop} {v : Value} {n size : Nat} {xs : List Value} (h : RdI w I v n size xs) (hf : Fr S w w') (hd : ∀ k, I k → ¬ S k) : RdI w' I v n size xs :=
  ⟨h.rd.frameE hf (fun k hk hx => hd k (h.blk hx k hk)), h.blk⟩
theorem RdI.mono {w : World} {I J : Nat → Prop} {v : Value} {n size : Nat} {xs : List Value} (h : RdI w I v n size xs) (hj : ∀ k, I k → J k) : RdI w J v n size xs := ⟨h.rd, fun hx k hk => hj k (h.blk hx k hk)⟩
theorem RdI.nil (w : World) (I : Nat → Prop) (size : Nat) : RdI w I (.slice none 0 0) 0 size [] := ⟨Rd.nil _ _, fun h => absurd rfl h⟩
/-- the node, all its blocks within I -/
structure NodeIn (w : World) (I : Nat → Prop) (sl sp : Value) (d : NodeD) : Prop where
  l : RdI w I sl d.L.length 1 (d.L.map Value.string)
  p : RdI w I sp d.Q.length 6 (d.Q.flatMap pcell)
  ok : ∀ q ∈ d.Q, PropOk q
  ls : ∀ s ∈ d.L, s.size ≤ maxLen
  few : d.L.length ≤ 1000000 ∧ d.Q.length ≤ 1000000
theorem NodeIn.of {w : World} {I : Nat → Prop} {sl sp : Value} {d : NodeD} (h : NodeIn w I sl sp d) : NodeOf w sl sp d := ⟨h.l.rd, h.p.rd, h.ok, h.ls⟩
theorem NodeIn.frame {w w' : World} {I S : Nat → Prop} {sl sp : Value} {d : NodeD} (h : NodeIn w I sl sp d) (hf : Fr S w w') (hd : ∀ k, I k → ¬ S k) : NodeIn w' I sl sp d := ⟨h.l.frame hf hd, h.p.frame hf hd, h.ok, h.ls, h.few⟩
theorem NodeIn.mono {w : World} {I J : Nat → Prop} {sl sp : Value} {d : NodeD} (h : NodeIn w I sl sp d) (hj : ∀ k, I k → J k) : NodeIn w J sl sp d := ⟨h.l.mono hj, h.p.mono hj, h.ok, h.ls, h.few⟩
theorem NodeIn.none (w : World) (I : Nat → Prop) : NodeIn w I (.slice none 0 0) (.slice none 0 0) NodeD.none := ⟨RdI.nil _ _ _, RdI.nil _ _ _, fun _ h => (by cases h), fun _ h => (by cases h), Nat.zero_le _, Nat.zero_le _⟩
end Go.Lig

namespace Go.Lig
open Go.RowKit

/-- a schedule that branches -/
inductive Sch where
  | done
  | quiet (i : Nat) (r : Sch)
  | one (i : Nat) (r : Sch)
  | two (i : Nat) (r : Sch) (j : Nat) (r' : Sch)
/-- with its operations -/
inductive SchO where
  | done
  | quiet (o : Oper) (r : SchO)
  | one (o : Oper) (r : SchO)
  | two (o : Oper) (r : SchO) (o' : Oper) (r' : SchO)
def fill (l : List Oper) : Sch → SchO
  | .done => .done
  | .quiet i r => .quiet (nth l i) (fill l r)
  | .one i r => .one (nth l i) (fill l r)
  | .two i r j r' => .two (nth l i) (fill l r) (nth l j) (fill l r')
def treeOk (ops : Array Oper) : Sch → Array Bool → Bool
  | .done, listed => (Region.ready .any ops listed).isEmpty
  | .quiet i r, listed => ((Region.ready .any ops listed).contains i && Region.free .any ops listed i) && treeOk ops r (listed.setIfInBounds i true)
  | .one i r, listed => Region.ready .any ops listed == [i] && treeOk ops r (listed.setIfInBounds i true)
  | .two i r j r', listed => Region.ready .any ops listed == [i, j] && treeOk ops r (listed.setIfInBounds i true) && treeOk ops r' (listed.setIfInBounds j true)
def Sch.size : Sch → Nat
  | .done => 0
  | .quiet _ r => r.size + 1
  | .one _ r => r.size + 1
  | .two _ r _ _ => r.size + 1
/-- each way is as long -/
def Sch.even : Sch → Bool
  | .done => true
  | .quiet _ r => r.even
  | .one _ r => r.even
  | .two _ r _ r' => r.even && r'.even && r.size == r'.size
section
variable {P : Program} {ops : Array Oper} {Q : Exit → Act → World → Prop} {S : World → Prop}
def wpTreeR (P : Program) (ops : Array Oper) (Q : Exit → Act → World → Prop) (S : World → Prop) : SchO → Act → World → Prop
  | .done, a, w => Q .normal a w
  | .quiet o r, a, w => if Region.wanted o (yielded ops a.tmps) then yields P o a S (fun a' => Box (wpTreeR P ops Q S r a' w)) else Box (wpTreeR P ops Q S r (a.put o.dst undef) w)
  | .one o r, a, w => wpList P ops (schedQ P Q S True (fun a' w' => Box (wpTreeR P ops Q S r a' w'))) [o] a w
  | .two o r o' r', a, w => Box (wpList P ops (schedQ P Q S True (fun a' w' => Box (wpTreeR P ops Q S r a' w'))) [o] a w) ∧ Box (wpList P ops (schedQ P Q S True (fun a' w' => Box (wpTreeR P ops Q S r' a' w'))) [o'] a w)
abbrev wpTree (P : Program) (ops : Array Oper) (Q : Exit → Act → World → Prop) (S : World → Prop) (t : SchO) (a : Act) (w : World) : Prop := Box (wpTreeR P ops Q S t a w)
theorem tree_nil {a : Act} {w : World} (h : Q .normal a w) : wpTree P ops Q S .done a w := ⟨h⟩
theorem tree_quiet {a : Act} {w : World} {o : Oper} {r : SchO} (h : ∀ K : Act → Prop, (∀ a, wpTree P ops Q S r a w → K a) → if Region.wanted o (yielded ops a.tmps) then yields P o a S K else K (a.put o.dst undef)) : wpTree P ops Q S (.quiet o r) a w :=
  ⟨h _ (fun _ h => h)⟩
theorem tree_one {a : Act} {w : World} {o : Oper} {r : SchO} (h : wpList P ops (schedQ P Q S True (fun a' w' => wpTree P ops Q S r a' w')) [o] a w) : wpTree P ops Q S (.one o r) a w := ⟨h⟩
theorem tree_two {a : Act} {w : World} {o o' : Oper} {r r' : SchO} (h : wpTree P ops Q S (.one o r) a w) (h' : wpTree P ops Q S (.one o' r') a w) : wpTree P ops Q S (.two o r o' r') a w := ⟨⟨h.out⟩, ⟨h'.out⟩⟩
theorem tree_on {a : Act} {w : World} {K : Act → World → Prop} (hS : S w) (h : K a w) : wpList P ops (schedQ P Q S True K) [] a w := wpList_nil ⟨fun _ => hS, h⟩
theorem tree_call {a : Act} {w : World} {o : Oper} {r : SchO} (hgd : Region.wanted o (yielded ops a.tmps) = true) (f : FuncId) (vs : Array Value)
    (hrun : (execOp a.eval o).run P w = .ok (.enter f vs) w) {R} (hc : Calls P f vs w R)
    (h : ∀ e w', R e w' → ∃ v, e = .returned v ∧ S w' ∧ wpTree P ops Q S r (a.put o.dst v) w') : wpTree P ops Q S (.one o r) a w := by
  refine tree_one ?_
  unfold wpList
  rw [if_pos hgd]
  refine .inl ?_
  unfold Oper.wp
  rw [hrun]
  refine hc.mono fun e w' hR => ?_
  obtain ⟨v, rfl, hS, hk⟩ := h e w' hR
  exact tree_on hS hk
theorem wpAnyK_of_tree {l : List Oper} (hops : ops = l.toArray) (hsel : Region.noSelect ops = true) :
    ∀ (σ : Sch) (listed : Array Bool) (fuel : Nat) (a : Act) (w : World), Down ops listed → treeOk ops σ listed = true → σ.even = true → fuel = σ.size → S w →
    wpTree P ops Q S (fill l σ) a w → wpAnyK P ops (NoPanic Q) S ops.size fuel listed a w := by
  have hsink : sinkOk ops ops.size = true := by simp [sinkOk]
  intro σ
  induction σ with
  | done =>
    intro listed fuel a w _ hok _ hf hS h
    subst hf
    exact ⟨by simpa [treeOk] using hok, h.out⟩
  | quiet i r ih =>
    intro listed fuel a w hdown hok hev hf hS h
    subst hf
    simp only [treeOk, Bool.and_eq_true] at hok
    obtain ⟨⟨hr, hfree⟩, h2⟩ := hok
    have hi : i ∈ Region.ready .any ops listed := by simpa using hr
    obtain ⟨_, o, ho, _⟩ := mem_ready.1 hi
    have hn : nth l i = o := nth_get l i o (by rw [hops] at ho; simpa using ho)
    have hil : i ≠ ops.size := by have := (Array.getElem?_eq_some_iff.1 ho).1; omega
    have h := h.out
    simp only [fill, wpTreeR, hn] at h
    by_cases hw : Region.wanted o (yielded ops a.tmps) = true
    · rw [if_pos hw] at h
      obtain ⟨v, hv, hk⟩ := h
      exact wpAnyK_first ho hsel hsink hil (fun _ _ _ h => h) (v := v) _ _ _ _ hdown (Region.free_spec ho hfree) hi (.inl ⟨hw, fun w' hw' => run_of_yields (hv w' hw')⟩) hS (ih _ _ _ w (hdown.set hi) h2 hev rfl hS hk)
    · rw [if_neg hw] at h
      have hw' : Region.wanted o (yielded ops a.tmps) = false := by simpa using hw
      exact wpAnyK_first ho hsel hsink hil (fun _ _ _ h => h) (v := undef) _ _ _ _ hdown (Region.free_spec ho hfree) hi (.inr ⟨hw', rfl⟩) hS (ih _ _ _ w (hdown.set hi) h2 hev rfl hS h)
  | one i r ih =>
    intro listed fuel a w hdown hok hev hf hS h
    subst hf
    simp only [treeOk, Bool.and_eq_true] at hok
    obtain ⟨h1, h2⟩ := hok
    have hr : Region.ready .any ops listed = [i] := by simpa using h1
    have hi : i ∈ Region.ready .any ops listed := by rw [hr]; simp
    obtain ⟨_, o, ho, _⟩ := mem_ready.1 hi
    have hn : nth l i = o := nth_get l i o (by rw [hops] at ho; simpa using ho)
    have hq := h.out
    simp only [fill, wpTreeR, hn] at hq
    refine ⟨fun h0 => (by rw [hr] at h0; cases h0), fun j hj => ?_⟩
    obtain rfl : j = i := by rw [hr] at hj; simpa using hj
    refine wpOp_mono (fun a' w' hh => ?_) (wpOp_of_list ho hq)
    exact ⟨fun _ => hh.1 trivial, ih _ _ a' w' (hdown.set hi) h2 hev rfl (hh.1 trivial) hh.2⟩
  | two i r j r' ih ih' =>
    intro listed fuel a w hdown hok hev hf hS h
    subst hf
    simp only [treeOk, Bool.and_eq_true] at hok
    obtain ⟨⟨h1, h2⟩, h3⟩ := hok
    simp only [Sch.even, Bool.and_eq_true, beq_iff_eq] at hev
    have hr : Region.ready .any ops listed = [i, j] := by simpa using h1
    have hi : i ∈ Region.ready .any ops listed := by rw [hr]; simp
    have hj : j ∈ Region.ready .any ops listed := by rw [hr]; simp
    obtain ⟨_, o, ho, _⟩ := mem_ready.1 hi
    obtain ⟨_, o', ho', _⟩ := mem_ready.1 hj
    have hn : nth l i = o := nth_get l i o (by rw [hops] at ho; simpa using ho)
    have hn' : nth l j = o' := nth_get l j o' (by rw [hops] at ho'; simpa using ho')
    have hq := h.out
    simp only [fill, wpTreeR, hn, hn'] at hq
    refine ⟨fun h0 => (by rw [hr] at h0; cases h0), fun k hk => ?_⟩
    rw [hr] at hk
    rcases List.mem_cons.1 hk with rfl | hk
    · refine wpOp_mono (fun a' w' hh => ?_) (wpOp_of_list ho hq.1.out)
      exact ⟨fun _ => hh.1 trivial, ih _ _ a' w' (hdown.set hi) h2 hev.1.1 rfl (hh.1 trivial) hh.2⟩
    · obtain rfl := List.mem_singleton.1 hk
      refine wpOp_mono (fun a' w' hh => ?_) (wpOp_of_list ho' hq.2.out)
      exact ⟨fun _ => hh.1 trivial, ih' _ _ a' w' (hdown.set hj) h3 hev.1.2 (by rw [← hev.2]) (hh.1 trivial) hh.2⟩
theorem wp_region_tree {id : Nat} {a : Act} {w : World} {l : List Oper} (hm : P.follows .mixedOrders = true) (σ : Sch) (S : World → Prop)
    (hB : (Region.noSelect l.toArray && σ.size == l.length && treeOk l.toArray σ (Array.replicate l.length false) && σ.even) = true) (hS : S w.drew)
    (h : wpTree P l.toArray Q S (fill l σ) a w.drew) : (Code.region id l.toArray true).wp P Q a w := by
  simp only [Bool.and_eq_true, beq_iff_eq] at hB
  obtain ⟨⟨⟨hsel, hlen⟩, hok⟩, hev⟩ := hB
  refine wp_region_noPanic (wp_region_any hm (wpAny_of_K (S := S) (last := l.toArray.size) _ _ _ _ ?_))
  exact wpAnyK_of_tree (ops := l.toArray) rfl hsel σ _ _ a w.drew (Down.start _) (by simpa using hok) hev (by simp [hlen]) hS h
end
end Go.Lig
