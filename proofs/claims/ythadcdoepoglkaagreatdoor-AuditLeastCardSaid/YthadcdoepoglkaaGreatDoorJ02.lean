/- A part of the proof: contracts of functions of the program, for the row's text. -/
import Derived.Test.YthadcdoepoglkaaGreatDoorJ01
import Derived.SizedLaws
import Derived.LaidMore
import Derived.Lay
import Derived.Stop.Joined
import Derived.Test.YthadcdoepoglkaaGreatDoorRows
import Derived.IntWalk
namespace Go.Lig
open Go.RowKit Go.ChangeShapes Go.WideShapes Go.ChangeAt Go.Deep
theorem rd_len {w : World} {v : Value} {n size : Nat} {xs : List Value} (h : Rd w v n size xs) : ∃ ao c, v = .slice ao n c ∧ n ≤ 9223372036854775807 := by
 obtain ⟨ao, c, rfl, _, _, _, _, h1, h2⟩ := h
 exact ⟨ao, c, rfl, by unfold maxLen at h2; omega⟩
theorem Rd.frameE {w w' : World} {S : Nat → Prop} {v : Value} {n size : Nat} {xs : List Value} (h : Rd w v n size xs) (hf : Fr S w w') (hn : ∀ k, slBlock v = some k → xs ≠ [] → ¬ S k) : Rd w' v n size xs := by
 cases hx : xs with
 | nil =>
  subst hx
  obtain ⟨ao, c, rfl, hl, h0, _, r⟩ := h
  exact ⟨ao, c, rfl, hl, h0, fun _ _ j u hu => (by simp at hu), r⟩
 | cons x l => exact hx ▸ h.frame hf (fun k hk => hn k hk (by rw [hx]; exact List.cons_ne_nil _ _))
theorem rd_block {w : World} {v : Value} {n size : Nat} {xs : List Value} (h : Rd w v n size xs) {k : Nat} (hk : slBlock v = some k) (hn : xs ≠ []) : k < w.heap.size := by
 obtain ⟨ao, c, rfl, hl, h0, h1, r⟩ := h
 cases xs with
 | nil => exact absurd rfl hn
 | cons x l =>
  cases ao with
  | none => cases hk
  | some ad =>
   obtain rfl : ad.block = k := Option.some.inj hk
   have := World.block_lt_of_cell? w _ (h1 ad rfl 0 x rfl)
   have hb : (ad.add 0).block = ad.block := by unfold Addr.add; split <;> rfl
   rwa [hb] at this
theorem ownsRow_slice {w : World} {base : Nat} {e : TypeId} {size : Nat} {v : Value} {n : Nat} {xs : List Value} (h : w.ownsRow base e size v n xs) : ∃ a c, v = .slice a n c := by
 rcases h.2 with ⟨rfl, rfl⟩ | ⟨g, cap, cur, e, _⟩
 ·exact ⟨none, 0, rfl⟩
 ·exact ⟨_, _, e⟩
theorem fd_owns {w w' : World} {base : Nat} {e : TypeId} {size : Nat} {v : Value} {n : Nat} {xs : List Value} (h : w.ownsRow base e size v n xs) (hf : Fr No w w') : w'.ownsRow base e size v n xs := hf.owns h (fun _ _ e => e)
theorem owns_at {w : World} {base : Nat} {e : TypeId} {size : Nat} {a : Option Addr} {c n : Nat} {xs : List Value} (h : w.ownsRow base e size (.slice a n c) n xs) (hn : 0 < n) : ∃ g cur, a = some ⟨g, 0, none⟩ ∧ base ≤ g ∧ w.heap[g]? = some (.cells cur e (0, 0)) ∧ n ≤ c ∧ cur.size = c * size ∧ cur.toList.take (n * size) = xs := by
 rcases h.2 with ⟨_, e⟩ | ⟨g, cap, cur, e, hb, hg, hnc, hcm, hcs, ht⟩
 ·omega
 ·simp only [Value.slice.injEq] at e
  obtain ⟨rfl, -, rfl⟩ := e
  exact ⟨g, cur, rfl, hb, hg, hnc, hcs, ht⟩
theorem owns_cell {w : World} {base : Nat} {e : TypeId} {size : Nat} {a : Option Addr} {c n : Nat} {xs : List Value} (h : w.ownsRow base e size (.slice a n c) n xs) {g : Nat} (ha : a = some ⟨g, 0, none⟩) {j : Nat} {u : Value} (hj : xs[j]? = some u) : w.cell? ⟨g, j, none⟩ = some u := by
 subst ha
 have := h.cells (g := g) rfl j u hj
 rwa [Addr.add_mid, Nat.zero_add] at this
theorem flat_get {α β : Type} {f : α → List β} {m : Nat} (hf : ∀ x, (f x).length = m) (l : List α) (k : Nat) (x : α) (hx : l[k]? = some x) (j : Nat) (hj : j < m) : (l.flatMap f)[k * m + j]? = (f x)[j]? := by
 induction l generalizing k with
 | nil => simp at hx
 | cons y l ih =>
  rw [List.flatMap_cons]
  cases k with
  | zero =>
   obtain rfl : y = x := by simpa using hx
   rw [Nat.zero_mul, Nat.zero_add, List.getElem?_append_left (by rw [hf]; exact hj)]
  | succ k =>
   have : (k + 1) * m + j = (f y).length + (k * m + j) := by rw [hf, Nat.succ_mul]; omega
   rw [this, List.getElem?_append_right (by omega), Nat.add_sub_cancel_left]
   exact ih k (by simpa using hx)
theorem flat_len {α β : Type} {f : α → List β} {m : Nat} (hf : ∀ x, (f x).length = m) (l : List α) : (l.flatMap f).length = l.length * m := by
 induction l with
 | nil => simp
 | cons y l ih => rw [List.flatMap_cons, List.length_append, hf, ih, List.length_cons, Nat.succ_mul]; omega
def Frr (w : World) : Type := { u : World // Fr No w u }
instance {w : World} : Nonempty (Frr w) := ⟨⟨w, Fr.refl _ _⟩⟩
def FrC (w : World) : World → Prop := fun w' => ∃ u : Frr w, w' = u.val
attribute [go_sem] FrC
section
variable {P : Program} {ops : Array Oper} {o : Oper} {a : Act} {w : World} {i last : Nat} {S : World → Prop} {Q : Exit → Act → World → Prop}
theorem sched_build {rest : List (Bool × Nat × Oper)} (hgd : o.guard = none) (t : TypeId) (parts : List (Nat × Operand)) (ho : o.op = .build t parts.toArray) (vs : List (Nat × Value))
  (hev : parts.map (fun (i, x) => (i, a.eval x)) = vs) (cells : Array Value) (hb : P.built t vs = some cells) (h : wpSched P ops Q S last rest (a.put o.dst (.agg cells)) w) : wpSched P ops Q S last ((false, i, o) :: rest) a w := by
 subst hev
 refine sched_run hgd (v := .agg cells) (fun w' _ => ?_) h
 have e : (parts.toArray.map fun (i, x) => (i, a.eval x)).toList = parts.map (fun (i, x) => (i, a.eval x)) := by simp
 unfold execOp
 simp only [ho, Sem.run_bind, run_build w' t _ cells (by rw [e]; exact hb), Result.andThen_ok]
 rfl
end
section
variable {H : Type} {enc : TypeId × Value → H} {P : Program} {W : World}
end
end Go.Lig
namespace Go.Lig
open Go.RowKit
theorem take_drop_get {α : Type} (xs : List α) (k j : Nat) (u : α) (h : (xs.drop k)[j]? = some u) : xs[k + j]? = some u := by
 rwa [List.getElem?_drop] at h
theorem Rd.from_ {P : Program} {w : World} {t e : TypeId} {v : Value} {n size : Nat} {xs : List Value} (h : Rd w v n size xs) (ht : P.underlying t = some (.slice e)) (hs : (P.info? e).map (·.size) = some size) (l : Nat) (hl : l ≤ n) :
  ∃ v', (∀ w' : World, (Instr.slice t v (some (.int .i64 (l : Int))) none none).run P w' = .ok v' w') ∧ Rd w v' (n - l) size (xs.drop (l * size)) ∧ (∀ k, slBlock v' = some k → slBlock v = some k) := by
 obtain ⟨ao, c, rfl, hlen, h0, h1, hone, hnc, hm⟩ := h
 obtain ⟨i, hi, hsz⟩ := Option.map_eq_some_iff.1 hs
 have hlen' : (xs.drop (l * size)).length = (n - l) * size := by rw [List.length_drop, hlen, Nat.sub_mul]
 refine ⟨.slice (if c = l then ao else ao.map (·.add (l * size))) (n - l) (c - l), fun w' => ?_, ⟨_, _, rfl, hlen', fun e => ?_, fun ad e j u hu => ?_, fun u hu => hone u (List.mem_of_mem_drop hu), by omega, by omega⟩, fun k hk => ?_⟩
 ·simp [Instr.slice, run_underlying ht, Instr.sliceBounds, Instr.sliceBound, asIntOf, sizeOf, typeInfo, hi, hsz, Sem.run_bind]
  intro h; omega
 ·have hao : ao = none := by
   split at e
   ·exact e
   ·simpa using e
  obtain ⟨rfl, rfl⟩ := h0 hao
  omega
 ·split at e
  ·rename_i hcl
   have : (xs.drop (l * size)).length = 0 := by rw [hlen', show n - l = 0 by omega, Nat.zero_mul]
   rw [List.eq_nil_of_length_eq_zero this] at hu
   simp at hu
  ·obtain ⟨a0, rfl, rfl⟩ := Option.map_eq_some_iff.1 e
   rw [Addr.add_add]
   exact h1 a0 rfl (l * size + j) u (take_drop_get xs _ _ _ hu)
 ·cases ao with
  | none => simp [slBlock] at hk
  | some a0 =>
   have hb : (a0.add (l * size)).block = a0.block := by unfold Addr.add; split <;> rfl
   split at hk
   ·exact hk
   ·simpa [slBlock, hb] using hk
theorem Rd.upto {P : Program} {w : World} {t e : TypeId} {v : Value} {n size : Nat} {xs : List Value} (h : Rd w v n size xs) (ht : P.underlying t = some (.slice e)) (hs : (P.info? e).map (·.size) = some size) (l : Nat) (hl : l ≤ n) :
  ∃ v', (∀ w' : World, (Instr.slice t v none (some (.int .i64 (l : Int))) none).run P w' = .ok v' w') ∧ Rd w v' l size (xs.take (l * size)) ∧ (∀ k, slBlock v' = some k → slBlock v = some k) := by
 obtain ⟨ao, c, rfl, hlen, h0, h1, hone, hnc, hm⟩ := h
 obtain ⟨i, hi, hsz⟩ := Option.map_eq_some_iff.1 hs
 have hle : l * size ≤ n * size := Nat.mul_le_mul_right _ hl
 have hz : (if c = 0 then ao else ao.map (·.add (0 * size))) = ao := by
  split
  ·rfl
  ·cases ao with
   | none => rfl
   | some a => simp [Addr.add]
 refine ⟨.slice ao l c, fun w' => ?_, ⟨_, _, rfl, by rw [List.length_take, hlen]; omega, fun e => ?_, fun ad e j u hu => ?_, fun u hu => hone u (List.mem_of_mem_take hu), by omega, by omega⟩, fun k hk => ?_⟩
 ·have hz' : (if c = 0 then ao else Option.map (fun x => x.add 0) ao) = ao := by simpa using hz
  simp [Instr.slice, run_underlying ht, Instr.sliceBounds, Instr.sliceBound, asIntOf, sizeOf, typeInfo, hi, Sem.run_bind]
  rw [if_pos (show l ≤ c by omega), hz']
 ·obtain ⟨rfl, rfl⟩ := h0 e
  omega
 ·rw [List.getElem?_take] at hu
  split at hu
  ·exact h1 ad e j u hu
  ·cases hu
 ·cases ao with
  | none => simp [slBlock] at hk
  | some a => simpa [slBlock] using hk
section
variable {P : Program} {ops : Array Oper} {rest : List Oper} {o : Oper} {a : Act} {w : World} {Q : Exit → Act → World → Prop}
theorem wpList_buildSlice0 (hgd : o.guard = none) (t elem : TypeId) (ho : o.op = .buildSlice t 0 #[]) (z : Value) (size bytes : Nat) (hu : P.underlying t = some (.slice elem))
  (hinfo : (P.info? elem).map (fun i => (i.zero, i.size, i.bytes)) = some (some z, size, bytes))
  (h : ∀ w', New #[] elem w w' → wpList P ops Q rest (a.put o.dst (.slice (some ⟨w.heap.size, 0, none⟩) 0 0)) w') : wpList P ops Q (o :: rest) a w := by
 obtain ⟨i, hi, hz, hs, hby⟩ := info_parts hinfo
 refine wpList_run hgd ?_ (h _ (New.alloc w #[] elem))
 have hrun : (Instr.buildSlice t 0 #[]).run P w = .ok (.slice (some ⟨w.heap.size, 0, none⟩) 0 0) (w.alloc (.cells #[] elem)) := by
  simp [Instr.buildSlice, run_underlying hu, sizeOf, typeInfo, hi, Instr.fill, newRow]
  have e0 : Array.map (fun _ : Nat => (default : Value)) (Array.range 0) = #[] := by apply Array.ext'; simp
  rw [e0]
 simp [execOp, ho, hrun, Result.andThen]
end
section
variable {P : Program} {ops : Array Oper} {o : Oper} {a : Act} {w : World} {i last : Nat} {S : World → Prop} {Q : Exit → Act → World → Prop}
theorem run_slice_op (t e : TypeId) (ht : P.underlying t = some (.slice e)) (x : Operand) (lo hi : Option Operand) (ho : o.op = .slice t x lo hi none) (xv : Value) (hx : a.eval x = xv) (lov hiv : Option Value) (hl : lo.map a.eval = lov) (hh : hi.map a.eval = hiv)
  (v : Value) {w : World} (hrun : (Instr.slice t xv lov hiv none).run P w = .ok v w) : (execOp a.eval o).run P w = .ok (.value v) w := by
 subst hl hh hx
 have h1 : (Instr.sliceAt t (a.eval x) (lo.map a.eval) (hi.map a.eval) none).run P w = (Instr.slice t (a.eval x) (lo.map a.eval) (hi.map a.eval) none).run P w := by simp [Instr.sliceAt, run_underlying ht]
 simp only [execOp, ho, Option.map_none, Sem.run_bind, h1, hrun, Result.andThen_ok]
 rfl
theorem sched_slice {rest : List (Bool × Nat × Oper)} (hgd : o.guard = none) (t e : TypeId) (ht : P.underlying t = some (.slice e)) (x : Operand) (lo hi : Option Operand) (ho : o.op = .slice t x lo hi none) (xv : Value) (hx : a.eval x = xv) (lov hiv : Option Value) (hl : lo.map a.eval = lov) (hh : hi.map a.eval = hiv)
  (v : Value) (hrun : ∀ w' : World, (Instr.slice t xv lov hiv none).run P w' = .ok v w') (h : wpSched P ops Q S last rest (a.put o.dst v) w) : wpSched P ops Q S last ((false, i, o) :: rest) a w :=
 sched_run hgd (fun w' _ => run_slice_op t e ht x lo hi ho xv hx lov hiv hl hh v (hrun w')) h
theorem wpList_slice {rest : List Oper} (hgd : o.guard = none) (t e : TypeId) (ht : P.underlying t = some (.slice e)) (x : Operand) (lo hi : Option Operand) (ho : o.op = .slice t x lo hi none) (xv : Value) (hx : a.eval x = xv) (lov hiv : Option Value) (hl : lo.map a.eval = lov) (hh : hi.map a.eval = hiv)
  (v : Value) (hrun : ∀ w' : World, (Instr.slice t xv lov hiv none).run P w' = .ok v w') (h : wpList P ops Q rest (a.put o.dst v) w) : wpList P ops Q (o :: rest) a w :=
 wpList_run hgd (run_slice_op t e ht x lo hi ho xv hx lov hiv hl hh v (hrun w)) h
end
theorem New.own0 {e : TypeId} {size : Nat} {w w' : World} (h : New #[] e w w') : w'.ownsRow 0 e size (.slice (some ⟨w.heap.size, 0, none⟩) 0 0) 0 [] :=
 ⟨by simp, .inr ⟨w.heap.size, 0, #[], rfl, Nat.zero_le _, h.at_, Nat.le_refl _, by simp [maxLen], by simp, by simp⟩⟩
end Go.Lig
namespace Go.Lig
open Go.RowKit Go.ChangeShapes Go.WideShapes Go.ChangeAt Go.Deep
theorem law_liftedU {C : Checked} {os : Os} {n : FuncId} {fn : Func} {s : ChangeSpec} {conds : List PathCond} {H : Type} {enc : TypeId × Value → H} {tb : TypeId} {laid : List (String × DataW Unit)} (own : ownKnob C.prog.godebug = none) (started : os.Started) (noInit : C.prog.inits.idxOf? n = none) (hfn : C.prog.funcs[n]? = some fn)
  (witness : ∃ (w : World) (tape : Tape) (i : Input), w.os = os ∧ (w.forCall tape i).Shaped C.prog ∧ i.vars = [] ∧ Input.okWide C.prog (w.forCall tape i) .any w.heap.size n i ∧
   ((s.pre enc C.prog fn conds false (w.forCall tape i).memory i.args ∧ laidMetH C.prog laid (w.forCall tape i).memory) ∧ sizedMet enc C.prog fn (OpenSpec.ofChange s) false (w.forCall tape i).memory i.args) ∧ Assume.holds {} C.prog (lone (Frame.enter C.prog n i.args .normal) [] (w.forCall tape i)))
  (hl : laidOutB C.prog = true) (hv : s.vars = []) (htb : C.prog.underlying tb = some .bool) (hr : fn.resultTypes = #[tb])
  (hts : ∀ t ∈ fn.params.toList, C.prog.readableRec t = true ∧ t < C.prog.types.size) (hspec : ∀ xs : List (DataW H), xs.length = fn.params.size → s.fn H xs = { results := [.lit (.bool true)], args := xs })
  (contract : ∀ (W : World) (base : Nat) (args : Array Value) (ds gs : List (DataW H)) (p : List MemPlace), (∀ (j : Nat) t v, fn.params[j]? = some t → args[j]? = some v → Value.okWide C.prog W .any base t v) →
   DataW.TrodAll enc C.prog W 0 (fun _ => true) true fn.params.toList args.toList ds p →
   (DataW.weightsEach C.prog (fn.params.toList ++ s.plain.varTypes C.prog) (ds ++ gs)).all (· ≤ reachBytes) = true →
   Calls C.prog n args W fun e W' => e = .returned (.bool true) ∧ Below W.heap.size W W') :
  ReturnsInHanded {} C os n .any (fun w args => (s.pre enc C.prog fn conds false w args ∧ laidMetH C.prog laid w) ∧ sizedMet enc C.prog fn (OpenSpec.ofChange s) false w args) (s.post enc C.prog fn false true false false) := by
 refine returnsInHanded_of_change_and (C := C) (X := fun w _ => laidMetH C.prog laid w) (fun _ _ _ hh h => h.of_heap hh) own started noInit hfn witness ?_
 intro W base args ds gs before hval hW _ hsz _ _
 obtain ⟨p, q, hA, _⟩ := id hW
 exact (contract W base args ds gs p hval hA hsz).mono fun e W' ⟨he, hb⟩ => ⟨_, he, law_post hl hv htb hr hts hspec hW hb⟩
section
variable {H : Type} {P : Program}
def RchD (P : Program) (t : TypeId) (d : DataW H) : Prop := ∀ n ∈ d.weights P t, n ≤ reachBytes
theorem mem_weightsAll {e : TypeId} {n : Nat} {d : DataW H} : ∀ {l : List (DataW H)}, d ∈ l → n ∈ d.weights P e → n ∈ DataW.weightsAll P e l
 | d0 :: l, hd, hn => by
  simp only [DataW.weightsAll, List.mem_append]
  rcases List.mem_cons.1 hd with rfl | h
  ·exact .inl hn
  ·exact .inr (mem_weightsAll h hn)
theorem RchD.elem {t e : TypeId} (ht : P.underlying t = some (.slice e)) {elems spare : List (DataW H)} (h : RchD P t (.slice elems spare)) {d : DataW H} (hd : d ∈ elems) : RchD P e d := fun n hn =>
 h n (by simp only [DataW.weights, ht, List.mem_cons, List.mem_append]; exact .inr (.inl (mem_weightsAll hd hn)))
theorem RchD.len {t e : TypeId} (ht : P.underlying t = some (.slice e)) (hb : 1 ≤ P.bytesOf e) {elems spare : List (DataW H)} (h : RchD P t (.slice elems spare)) : elems.length ≤ reachBytes := by
 have := h ((elems.length + spare.length) * P.bytesOf e) (by simp [DataW.weights, ht])
 have h2 := Nat.le_mul_of_pos_right (elems.length + spare.length) hb
 omega
theorem RchD.part {t : TypeId} {fs : Array Field} (ht : P.underlying t = some (.struct fs)) {parts : List (DataW H)} (h : RchD P t (.agg parts)) {i : Nat} {f : Field} {d : DataW H} (hf : fs[i]? = some f) (hd : parts[i]? = some d) : RchD P f.type d := fun n hn =>
 h n (by
  simp only [DataW.weights, ht]
  exact DataW.weights_mem_each (j := i) (t := f.type) (d := d) (by simpa using congrArg (Option.map Field.type) hf) hd n hn)
theorem RchD.string {t : TypeId} {s : ByteArray} (h : RchD (H := H) P t (.lit (.string s.data.toList))) : s.size ≤ reachBytes := by
 have := h s.data.toList.length (by simp [DataW.weights])
 simpa using this
theorem reach_of {ts us : List TypeId} {ds gs : List (DataW H)} (h : (DataW.weightsEach P (ts ++ us) (ds ++ gs)).all (· ≤ reachBytes) = true) {j : Nat} {t : TypeId} {d : DataW H} (ht : ts[j]? = some t) (hd : ds[j]? = some d) : RchD P t d := fun n hn => by
 have h1 := (List.getElem?_eq_some_iff.1 ht).1
 have h2 := (List.getElem?_eq_some_iff.1 hd).1
 have := List.all_eq_true.1 h n (DataW.weights_mem_each (j := j) (t := t) (d := d) (by rw [List.getElem?_append_left h1]; exact ht) (by rw [List.getElem?_append_left h2]; exact hd) n hn)
 simpa using this
end
section
variable {H : Type} {enc : TypeId × Value → H} {P : Program} {W : World}
theorem trodf {k : FloatKind} {t : TypeId} {fuel : Nat} {cs : List Value} {x : DataW H × List MemPlace} (ht : P.underlying t = some (.float k)) (h : DataW.trod enc P W 0 (fun _ => true) true fuel t cs = some x) : ∃ b, cs = [.float k b] ∧ (Lit.float k b).wf = true := by
 cases fuel with
 | zero => simp [DataW.trod] at h
 | succ n =>
  unfold DataW.trod at h
  rw [ht] at h
  split at h <;> simp_all
theorem rd_rowU {α : Type} [Inhabited α] (f : α → List Value) {m : Nat} (hm0 : 0 < m) (hf : ∀ x, (f x).length = m) (h1 : ∀ x, ∀ u ∈ f x, u.oneCell' = true) (ok : α → Prop) {t e : TypeId} (ht : P.underlying t = some (.slice e)) (hc : P.cellsOf e = m) (hb : 1 ≤ P.bytesOf e)
  (hel : ∀ (n : Nat) (cs : List Value) (y : DataW H × List MemPlace), DataW.trod enc P W 0 (fun _ => true) true n e cs = some y → cs.length = m → RchD P e y.1 → ∃ x, cs = f x ∧ ok x)
  {n : Nat} {v : Value} {y : DataW H × List MemPlace} (h : DataW.trod enc P W 0 (fun _ => true) true n t [v] = some y) (hr : RchD P t y.1) :
  ∃ l : List α, Rd W v l.length m (l.flatMap f) ∧ (∀ x ∈ l, ok x) ∧ l.length ≤ reachBytes := by
 rcases open_slice ht h with ⟨e0, _⟩ | ⟨a, len, cap, mm, n', D, Pl, e0, _, hlc, hm, hmm, hy, hx⟩
 ·obtain rfl : v = .slice none 0 0 := by simpa using e0
  exact ⟨[], Rd.nil W m, by simp, Nat.zero_le _⟩
 ·obtain rfl : v = .slice (some a) len cap := by simpa using e0
  simp only [if_true] at hmm
  subst hmm
  subst hy
  have hlen : len ≤ reachBytes := by simpa using hr.len ht hb
  have each : ∀ i, i < len → ∃ q : α, (∀ j u, (f q)[j]? = some u → W.cell? (a.add (i * m + j)) = some u) ∧ ok q := by
   intro i hi
   obtain ⟨cs', k1, k2⟩ := hx i (by omega)
   rw [hc] at k1
   obtain ⟨_, hl, hcell⟩ := World.cells?_some k1
   obtain ⟨q, rfl, hq⟩ := hel n' cs' _ k2 hl (hr.elem ht (by simp only [List.mem_map, List.mem_range]; exact ⟨i, hi, rfl⟩))
   refine ⟨q, fun j u hj => ?_, hq⟩
   have hjl : j < m := by have := (List.getElem?_eq_some_iff.1 hj).1; rw [hf] at this; exact this
   have := hcell j hjl
   rw [add_add] at this
   rw [this]
   exact hj
  obtain ⟨g, hg⟩ := choose_lt each
  have hl1 : ∀ q ∈ (List.range len).map g, ok q := fun q hq => by
   simp only [List.mem_map, List.mem_range] at hq
   obtain ⟨i, hi, rfl⟩ := hq
   exact (hg i hi).2
  refine ⟨(List.range len).map g, ⟨some a, mm, by simp, flat_len (f := f) (m := m) hf _, fun h => (by cases h), fun ad had j u hu => ?_, fun u hu => ?_, by simpa using hlc, hm⟩, hl1, by simpa using hlen⟩
  ·obtain rfl := Option.some.inj had
   have hj : j < len * m := by
    have := (List.getElem?_eq_some_iff.1 hu).1
    rw [flat_len (f := f) (m := m) hf] at this
    simpa using this
   have hd : j = (j / m) * m + j % m := by rw [Nat.mul_comm]; exact (Nat.div_add_mod j m).symm
   have hq : j / m < len := Nat.div_lt_of_lt_mul (by rw [Nat.mul_comm]; exact hj)
   have hr' : j % m < m := Nat.mod_lt _ hm0
   rw [hd] at hu ⊢
   rw [flat_get (f := f) (m := m) hf _ (j / m) (g (j / m)) (by rw [List.getElem?_map, List.getElem?_range hq]; rfl) (j % m) hr'] at hu
   exact (hg (j / m) hq).1 _ _ hu
  ·obtain ⟨q, hq, hu⟩ := List.mem_flatMap.1 hu
   exact h1 q u hu
end
end Go.Lig
namespace Go.Lig
open Go.RowKit
section
variable {ι : Type}
def At (ρ : Nat → Option ι) (p : ι) : Nat → Prop := fun b => ρ b = some p
def Own (ρ : Nat → Option ι) : Nat → Prop := fun b => ρ b ≠ none
noncomputable def turn (ρ : Nat → Option ι) (p : ι) (T : Nat → Prop) : Nat → Option ι := fun b => by
 classical exact if T b then some p else if ρ b = some p then none else ρ b
theorem at_turn_same (ρ : Nat → Option ι) (p : ι) (T : Nat → Prop) : At (turn ρ p T) p = T := by
 classical
 funext b
 unfold At turn
 by_cases h1 : T b
 ·simp [h1]
 ·by_cases h2 : ρ b = some p
  ·simp [h1, h2]
  ·simp [h1, h2]
def Grown (w : World) (T T' : Nat → Prop) : Prop := ∀ b, T' b → T b ∨ w.heap.size ≤ b
theorem at_turn_other {w : World} {ρ : Nat → Option ι} {p q : ι} {T : Nat → Prop} (hq : q ≠ p) (hT : Grown w (At ρ p) T) (hb : ∀ b, ρ b ≠ none → b < w.heap.size) : At (turn ρ p T) q = At ρ q := by
 classical
 funext b
 unfold At turn
 refine propext ?_
 by_cases h1 : T b
 ·rw [if_pos h1]
  constructor
  ·intro e; exact absurd (Option.some.inj e).symm hq
  ·intro e
   rcases hT b h1 with h2 | h2
   ·rw [show ρ b = some p from h2] at e
    exact absurd (Option.some.inj e).symm hq
   ·have := hb b (by rw [e]; simp)
    omega
 ·rw [if_neg h1]
  by_cases h2 : ρ b = some p
  ·rw [if_pos h2]
   constructor
   ·intro e; cases e
   ·intro e; rw [h2] at e; exact absurd (Option.some.inj e).symm hq
  ·rw [if_neg h2]
theorem own_turn {w : World} {ρ : Nat → Option ι} {p : ι} {T : Nat → Prop} (hT : Grown w (At ρ p) T) : Grown w (Own ρ) (Own (turn ρ p T)) := by
 classical
 intro b hb
 unfold Own turn at hb
 by_cases h1 : T b
 ·rcases hT b h1 with h2 | h2
  ·exact .inl (by unfold Own; rw [show ρ b = some p from h2]; simp)
  ·exact .inr h2
 ·rw [if_neg h1] at hb
  by_cases h2 : ρ b = some p
  ·rw [if_pos h2] at hb; exact absurd rfl hb
  ·rw [if_neg h2] at hb; exact .inl hb
theorem bound_turn {w w' : World} {ρ : Nat → Option ι} {p : ι} {T : Nat → Prop} (hb : ∀ b, ρ b ≠ none → b < w.heap.size) (hz : w.heap.size ≤ w'.heap.size) (hT : ∀ b, T b → b < w'.heap.size) : ∀ b, turn ρ p T b ≠ none → b < w'.heap.size := by
 classical
 intro b h
 unfold turn at h
 by_cases h1 : T b
 ·exact hT b h1
 ·rw [if_neg h1] at h
  by_cases h2 : ρ b = some p
  ·rw [if_pos h2] at h; exact absurd rfl h
  ·rw [if_neg h2] at h; exact Nat.lt_of_lt_of_le (hb b h) hz
theorem at_apart {ρ : Nat → Option ι} {p q : ι} (h : q ≠ p) : ∀ b, At ρ q b → ¬ At ρ p b := fun b h1 h2 => h (Option.some.inj ((show ρ b = some q from h1).symm.trans h2))
theorem at_own {ρ : Nat → Option ι} {p : ι} : ∀ b, At ρ p b → Own ρ b := fun b h => by unfold Own; rw [show ρ b = some p from h]; simp
theorem Grown.refl (w : World) (T : Nat → Prop) : Grown w T T := fun _ h => .inl h
theorem Grown.trans {w w' : World} {T T' T'' : Nat → Prop} (h : Grown w T T') (h' : Grown w' T' T'') (hz : w.heap.size ≤ w'.heap.size) : Grown w T T'' := fun b hb => by
 rcases h' b hb with h1 | h1
 ·exact h b h1
 ·exact .inr (by omega)
end
end Go.Lig
namespace Go.Proofs.YthadcdoepoglkaaGreatDoor
open Go.RowKit Go.Lig
structure Tx where
 state : Int
 mark : Int
 commit : Int
 deriving DecidableEq
def tcell (x : Tx) : List Value := [.int .i64 x.state, .int .i64 x.mark, .int .i64 x.commit]
structure Ck where
 l : List Tx
 commits : Int
def Ck.tx (K : Ck) (t : Int) : Option Tx := if 1 ≤ t then K.l[(t - 1).toNat]? else none
def Ck.live (K : Ck) (t : Int) : Bool := match K.tx t with
 | some x => x.state == 0
 | none => false
def Ck.aborted (K : Ck) (t : Int) : Bool := match K.tx t with
 | some x => x.state == 2
 | none => false
def Ck.count (K : Ck) : Nat := (K.l.filter fun x => x.state == 0).length
def Ck.sees (K : Ck) (t b : Int) : Bool := match K.tx t, K.tx b with
 | some x, some y => t == b || (y.state == 1 && decide (y.commit ≤ x.mark))
 | _, _ => false
def Ck.clashes (K : Ck) (t b : Int) : Bool := match K.tx t, K.tx b with
 | some x, some y => !(t == b) && (y.state == 0 || (y.state == 1 && decide (x.mark < y.commit)))
 | _, _ => false
def Ck.begins (K : Ck) : Ck := { K with l := K.l ++ [⟨0, K.commits, 0⟩] }
def Ck.put (K : Ck) (t : Int) (x : Tx) : Ck := { K with l := K.l.set (t - 1).toNat x }
def Ck.commit (K : Ck) (t : Int) : Ck := match K.tx t with
 | some x => { (K.put t { x with state := 1, commit := K.commits + 1 }) with commits := K.commits + 1 }
 | none => K
def Ck.abort (K : Ck) (t : Int) : Ck := match K.tx t with
 | some x => K.put t { x with state := 2 }
 | none => K
structure ClockAt (w : World) (T : Nat → Prop) (c : Nat) (K : Ck) : Prop where
 ex : ∃ v, w.heap[c]? = some (.cells #[v, .int .i64 K.commits] 136 (0, 0)) ∧ w.ownsRow 0 140 3 v K.l.length (K.l.flatMap tcell) ∧ ∀ k, v.ownBlock = some k → T k ∧ k ≠ c
 root : T c
 bound : ∀ k, T k → k < w.heap.size
 small : K.l.length ≤ 1000000 ∧ 0 ≤ K.commits ∧ K.commits ≤ 1000000
theorem ClockAt.frame {w w' : World} {T U : Nat → Prop} {c : Nat} {K : Ck} (h : ClockAt w T c K) (hf : Fr U w w') (hd : ∀ k, T k → ¬ U k) : ClockAt w' T c K := by
 obtain ⟨v, h1, h2, h3⟩ := h.ex
 exact ⟨⟨v, hf.keep h1 (hd c h.root), hf.owns h2 (fun k hk => hd k (h3 k hk).1), h3⟩, h.root, fun k hk => Nat.lt_of_lt_of_le (h.bound k hk) hf.size, h.small⟩
theorem Ck.tx_some {K : Ck} {t : Int} {x : Tx} (h : K.tx t = some x) : 1 ≤ t ∧ (t - 1).toNat < K.l.length ∧ K.l[(t - 1).toNat]? = some x ∧ t ≤ (K.l.length : Int) := by
 unfold Ck.tx at h
 split at h
 ·rename_i h1
  have := (List.getElem?_eq_some_iff.1 h).1
  exact ⟨h1, this, h, by omega⟩
 ·cases h
theorem Ck.tx_none {K : Ck} {t : Int} (h : K.tx t = none) : t < 1 ∨ (K.l.length : Int) < t := by
 unfold Ck.tx at h
 split at h
 ·have := List.getElem?_eq_none_iff.1 h
  omega
 ·omega
end Go.Proofs.YthadcdoepoglkaaGreatDoor
namespace Go.Proofs.YthadcdoepoglkaaGreatDoor
open Go.RowKit Go.Lig
def atV (g : Nat) (K : Ck) (t : Int) : Value := match K.tx t with
 | some _ => .pointer (some ⟨g, (t - 1).toNat * 3, none⟩)
 | none => .pointer none
structure ClkRow (w : World) (c g : Nat) (K : Ck) : Prop where
 ex : ∃ a n, w.heap[c]? = some (.cells #[.slice a K.l.length n, .int .i64 K.commits] 136 (0, 0)) ∧ w.ownsRow 0 140 3 (.slice a K.l.length n) K.l.length (K.l.flatMap tcell) ∧ (0 < K.l.length → a = some ⟨g, 0, none⟩) ∧ g ≠ c
theorem ClockAt.row {w : World} {T : Nat → Prop} {c : Nat} {K : Ck} (h : ClockAt w T c K) : ∃ g, ClkRow w c g K ∧ (0 < K.l.length → T g) := by
 obtain ⟨v, h1, h2, h3⟩ := h.ex
 obtain ⟨a, n, rfl⟩ := ownsRow_slice h2
 by_cases hl : 0 < K.l.length
 ·obtain ⟨g, cur, rfl, -, -⟩ := owns_at h2 hl
  exact ⟨g, ⟨_, n, h1, h2, fun _ => rfl, (h3 g rfl).2⟩, fun _ => (h3 g rfl).1⟩
 ·exact ⟨c + 1, ⟨a, n, h1, h2, fun e => absurd e hl, by omega⟩, fun e => absurd e hl⟩
theorem ClkRow.cell {w : World} {c g : Nat} {K : Ck} (h : ClkRow w c g K) {t : Int} {x : Tx} (hx : K.tx t = some x) :
  w.cell? ⟨g, (t - 1).toNat * 3, none⟩ = some (.int .i64 x.state) ∧ w.cell? ⟨g, (t - 1).toNat * 3 + 1, none⟩ = some (.int .i64 x.mark) ∧ w.cell? ⟨g, (t - 1).toNat * 3 + 2, none⟩ = some (.int .i64 x.commit) := by
 obtain ⟨a, n, h1, h2, h3, _⟩ := h.ex
 obtain ⟨t1, t2, t3, t4⟩ := Ck.tx_some hx
 obtain rfl := h3 (by omega)
 have g0 : ∀ j, j < 3 → (K.l.flatMap tcell)[(t - 1).toNat * 3 + j]? = (tcell x)[j]? := fun j hj => flat_get (f := tcell) (m := 3) (fun _ => rfl) _ _ _ t3 j hj
 exact ⟨owns_cell h2 rfl (by rw [← Nat.add_zero ((t - 1).toNat * 3), g0 0 (by decide)]; rfl), owns_cell h2 rfl (by rw [g0 1 (by decide)]; rfl), owns_cell h2 rfl (by rw [g0 2 (by decide)]; rfl)⟩
theorem clkat_any (w : World) (c g : Nat) (K : Ck) (h : ClkRow w c g K) (hs : K.l.length ≤ 1000000) (t : Int) :
  Calls Tryz.prog 79 #[.pointer (some ⟨c, 0, none⟩), .int .i64 t] w fun e w' => e = .returned (atV g K t) ∧ w = w' := by
 obtain ⟨a, n, h1, h2, h3, _⟩ := h.ex
 obtain ⟨c0, c1⟩ := cells2 h1
 cases hx : K.tx t with
 | none =>
  have hr : atV g K t = .pointer none := by unfold atV; rw [hx]
  rw [hr]
  have hn := Ck.tx_none hx
  clear h h1 h2 h3 c1 hr hx
  by_cases h1 : t < 1
  ·clear hn
   go_enter Tryz.func79, Tryz.ntmps79
   go_wp2
   go_ret
   exact ⟨rfl, rfl⟩
  ·have h2 : (K.l.length : Int) < t := by omega
   clear hn
   go_enter Tryz.func79, Tryz.ntmps79
   go_wp2
   go_ret
   exact ⟨rfl, rfl⟩
 | some x =>
  have hr : atV g K t = .pointer (some ⟨g, (t - 1).toNat * 3, none⟩) := by unfold atV; rw [hx]
  rw [hr]
  obtain ⟨t1, t2, t3, t4⟩ := Ck.tx_some hx
  obtain rfl := h3 (by omega)
  obtain ⟨i, hi⟩ : ∃ i : Nat, t = (i : Int) + 1 := ⟨(t - 1).toNat, by omega⟩
  subst hi
  have hit : ((i : Int) + 1 - 1).toNat = i := by omega
  rw [hit] at t2 ⊢
  have n1 : ¬ (i : Int) + 1 < 1 := by omega
  have n2 : ¬ (K.l.length : Int) < (i : Int) + 1 := by omega
  have hil : i < K.l.length := t2
  clear h h1 h2 h3 c1 hr hx t1 t2 t3 t4 hit
  go_enter Tryz.func79, Tryz.ntmps79
  go_wp2
  go_ret
  exact ⟨rfl, rfl⟩
end Go.Proofs.YthadcdoepoglkaaGreatDoor
namespace Go.Proofs.YthadcdoepoglkaaGreatDoor
open Go.RowKit Go.Lig
theorem atV_some {g : Nat} {K : Ck} {t : Int} {x : Tx} (h : K.tx t = some x) : atV g K t = .pointer (some ⟨g, (t - 1).toNat * 3, none⟩) := by unfold atV; rw [h]
theorem atV_none {g : Nat} {K : Ck} {t : Int} (h : K.tx t = none) : atV g K t = .pointer none := by unfold atV; rw [h]
theorem live_any (w : World) (c g : Nat) (K : Ck) (h : ClkRow w c g K) (hs : K.l.length ≤ 1000000) (t : Int) :
  Calls Tryz.prog 78 #[.pointer (some ⟨c, 0, none⟩), .int .i64 t] w fun e w' => e = .returned (.bool (K.live t)) ∧ w = w' := by
 have HA := hid (clkat_any w c g K h hs t)
 cases hx : K.tx t with
 | none =>
  have hr : K.live t = false := by unfold Ck.live; rw [hx]
  rw [hr]
  rw [atV_none hx] at HA
  clear h hr hx
  go_enter Tryz.func78, Tryz.ntmps78
  go_wp2_with (go_at_call 79; refine HA.out.mono ?_; rintro e w' ⟨rfl, rfl⟩)
  go_ret
  exact ⟨rfl, rfl⟩
 | some x =>
  obtain ⟨c0, c1, c2⟩ := h.cell hx
  rw [atV_some hx] at HA
  generalize (t - 1).toNat * 3 = o at *
  by_cases hz : x.state = 0
  ·have hr : K.live t = true := by unfold Ck.live; rw [hx]; simp [hz]
   have n1 : ((x.state : Int) == 0) = true := by rw [beq_iff_eq]; exact hz
   rw [hr]
   clear h hr hx hz c1 c2
   go_enter Tryz.func78, Tryz.ntmps78
   go_wp2_with (go_at_call 79; refine HA.out.mono ?_; rintro e w' ⟨rfl, rfl⟩)
   go_ret
   exact ⟨rfl, rfl⟩
  ·have hr : K.live t = false := by unfold Ck.live; rw [hx]; simp [hz]
   have n1 : ((x.state : Int) == 0) = false := by rw [beq_eq_false_iff_ne]; exact hz
   rw [hr]
   clear h hr hx hz c1 c2
   go_enter Tryz.func78, Tryz.ntmps78
   go_wp2_with (go_at_call 79; refine HA.out.mono ?_; rintro e w' ⟨rfl, rfl⟩)
   go_ret
   exact ⟨rfl, rfl⟩
end Go.Proofs.YthadcdoepoglkaaGreatDoor
