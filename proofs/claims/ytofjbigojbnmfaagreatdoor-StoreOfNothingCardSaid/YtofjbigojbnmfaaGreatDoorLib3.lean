/- Slices of slices; an empty row. No program in sight. -/
import Derived.Test.YtofjbigojbnmfaaGreatDoorLib2
namespace Go.Lig
open Go.RowKit

theorem take_drop_get {α : Type} (xs : List α) (k j : Nat) (u : α) (h : (xs.drop k)[j]? = some u) : xs[k + j]? = some u := by
  rwa [List.getElem?_drop] at h
/-- v[l:] -/
theorem Rd.from_ {P : Program} {w : World} {t e : TypeId} {v : Value} {n size : Nat} {xs : List Value} (h : Rd w v n size xs) (ht : P.underlying t = some (.slice e)) (hs : (P.info? e).map (·.size) = some size) (l : Nat) (hl : l ≤ n) :
    ∃ v', (∀ w' : World, (Instr.slice t v (some (.int .i64 (l : Int))) none none).run P w' = .ok v' w') ∧ Rd w v' (n - l) size (xs.drop (l * size)) ∧ (∀ k, slBlock v' = some k → slBlock v = some k) := by
  obtain ⟨ao, c, rfl, hlen, h0, h1, hone, hnc, hm⟩ := h
  obtain ⟨i, hi, hsz⟩ := Option.map_eq_some_iff.1 hs
  have hlen' : (xs.drop (l * size)).length = (n - l) * size := by rw [List.length_drop, hlen, Nat.sub_mul]
  refine ⟨.slice (if c = l then ao else ao.map (·.add (l * size))) (n - l) (c - l), fun w' => ?_, ⟨_, _, rfl, hlen', fun e => ?_, fun ad e j u hu => ?_, fun u hu => hone u (List.mem_of_mem_drop hu), by omega, by omega⟩, fun k hk => ?_⟩
  · simp [Instr.slice, run_underlying ht, Instr.sliceBounds, Instr.sliceBound, asIntOf, sizeOf, typeInfo, hi, hsz, Sem.run_bind]
    intro h; omega
  · have hao : ao = none := by
      split at e
      · exact e
      · simpa using e
    obtain ⟨rfl, rfl⟩ := h0 hao
    omega
  · split at e
    · rename_i hcl
      have : (xs.drop (l * size)).length = 0 := by rw [hlen', show n - l = 0 by omega, Nat.zero_mul]
      rw [List.eq_nil_of_length_eq_zero this] at hu
      simp at hu
    · obtain ⟨a0, rfl, rfl⟩ := Option.map_eq_some_iff.1 e
      rw [Addr.add_add]
      exact h1 a0 rfl (l * size + j) u (take_drop_get xs _ _ _ hu)
  · cases ao with
    | none => simp [slBlock] at hk
    | some a0 =>
      have hb : (a0.add (l * size)).block = a0.block := by unfold Addr.add; split <;> rfl
      split at hk
      · exact hk
      · simpa [slBlock, hb] using hk
/-- v[:h] -/
theorem Rd.upto {P : Program} {w : World} {t e : TypeId} {v : Value} {n size : Nat} {xs : List Value} (h : Rd w v n size xs) (ht : P.underlying t = some (.slice e)) (hs : (P.info? e).map (·.size) = some size) (l : Nat) (hl : l ≤ n) :
    ∃ v', (∀ w' : World, (Instr.slice t v none (some (.int .i64 (l : Int))) none).run P w' = .ok v' w') ∧ Rd w v' l size (xs.take (l * size)) ∧ (∀ k, slBlock v' = some k → slBlock v = some k) := by
  obtain ⟨ao, c, rfl, hlen, h0, h1, hone, hnc, hm⟩ := h
  obtain ⟨i, hi, hsz⟩ := Option.map_eq_some_iff.1 hs
  have hle : l * size ≤ n * size := Nat.mul_le_mul_right _ hl
  have hz : (if c = 0 then ao else ao.map (·.add (0 * size))) = ao := by
    split
    · rfl
    · cases ao with
      | none => rfl
      | some a => simp [Addr.add]
  refine ⟨.slice ao l c, fun w' => ?_, ⟨_, _, rfl, by rw [List.length_take, hlen]; omega, fun e => ?_, fun ad e j u hu => ?_, fun u hu => hone u (List.mem_of_mem_take hu), by omega, by omega⟩, fun k hk => ?_⟩
  · have hz' : (if c = 0 then ao else Option.map (fun x => x.add 0) ao) = ao := by simpa using hz
    simp [Instr.slice, run_underlying ht, Instr.sliceBounds, Instr.sliceBound, asIntOf, sizeOf, typeInfo, hi, hsz, Sem.run_bind]
    rw [if_pos (show l ≤ c by omega), hz']
  · obtain ⟨rfl, rfl⟩ := h0 e
    omega
  · rw [List.getElem?_take] at hu
    split at hu
    · exact h1 ad e j u hu
    · cases hu
  · cases ao with
    | none => simp [slBlock] at hk
    | some a => simpa [slBlock] using hk
section
variable {P : Program} {ops : Array Oper} {rest : List Oper} {o : Oper} {a : Act} {w : World} {Q : Exit → Act → World → Prop}
/-- []T{} -/
theorem wpList_buildSlice0 (hgd : o.guard = none) (t elem : TypeId) (ho : o.op = .buildSlice t 0 #[]) (z : Value) (size bytes : Nat) (hu : P.underlying t = some (.slice elem))
    (hinfo : (P.info? elem).map (fun i => (i.zero, i.size, i.bytes)) = some (some z, size, bytes))
    (h : ∀ w', New #[] elem w w' → wpList P ops Q rest (a.put o.dst (.slice (some ⟨w.heap.size, 0, none⟩) 0 0)) w') : wpList P ops Q (o :: rest) a w := by
  obtain ⟨i, hi, hz, hs, hby⟩ := info_parts hinfo
  refine wpList_run hgd ?_ (h _ (New.alloc w #[] elem))
  have hrun : (Instr.buildSlice t 0 #[]).run P w = .ok (.slice (some ⟨w.heap.size, 0, none⟩) 0 0) (w.alloc (.cells #[] elem)) := by
    simp [Instr.buildSlice, run_underlying hu, sizeOf, typeInfo, zeroValue, hi, hz, hs, Instr.fill, newRow]
    have e0 : Array.map (fun _ : Nat => (default : Value)) (Array.range 0) = #[] := by apply Array.ext'; simp
    rw [e0]
  simp [execOp, ho, hrun, Result.andThen]
end
section
variable {P : Program} {ops : Array Oper} {o : Oper} {a : Act} {w : World} {i last : Nat} {S : World → Prop} {Q : Exit → Act → World → Prop}
theorem run_slice_op (t e : TypeId) (ht : P.underlying t = some (.slice e)) (x : Operand) (lo hi : Option Operand) (ho : o.op = .slice t x lo hi none) (xv : Value) (hx : a.eval x = xv) (lov hiv : Option Value) (hl : lo.map a.eval = lov) (hh : hi.map a.eval = hiv)
    (v : Value) {w : World} (hrun : (Instr.slice t xv lov hiv none).run P w = .ok v w) : (execOp a.eval o).run P w = .ok (.value v) w := by
  subst hl hh hx
  have h1 : (Instr.sliceAt t (a.eval x) (lo.map a.eval) (hi.map a.eval) none).run P w = (Instr.slice t (a.eval x) (lo.map a.eval) (hi.map a.eval) none).run P w := by simp [Instr.sliceAt, run_underlying ht]
  simp only [execOp, ho, Option.map_none, Sem.run_bind, h1, hrun, Result.andThen_ok]
  rfl
theorem sched_slice {rest : List (Bool × Nat × Oper)} (hgd : o.guard = none) (t e : TypeId) (ht : P.underlying t = some (.slice e)) (x : Operand) (lo hi : Option Operand) (ho : o.op = .slice t x lo hi none) (xv : Value) (hx : a.eval x = xv) (lov hiv : Option Value) (hl : lo.map a.eval = lov) (hh : hi.map a.eval = hiv)
    (v : Value) (hrun : ∀ w' : World, (Instr.slice t xv lov hiv none).run P w' = .ok v w') (h : wpSched P ops Q S last rest (a.put o.dst v) w) : wpSched P ops Q S last ((false, i, o) :: rest) a w :=
  sched_run hgd (fun w' _ => run_slice_op t e ht x lo hi ho xv hx lov hiv hl hh v (hrun w')) h
theorem wpList_slice {rest : List Oper} (hgd : o.guard = none) (t e : TypeId) (ht : P.underlying t = some (.slice e)) (x : Operand) (lo hi : Option Operand) (ho : o.op = .slice t x lo hi none) (xv : Value) (hx : a.eval x = xv) (lov hiv : Option Value) (hl : lo.map a.eval = lov) (hh : hi.map a.eval = hiv)
    (v : Value) (hrun : ∀ w' : World, (Instr.slice t xv lov hiv none).run P w' = .ok v w') (h : wpList P ops Q rest (a.put o.dst v) w) : wpList P ops Q (o :: rest) a w :=
  wpList_run hgd (run_slice_op t e ht x lo hi ho xv hx lov hiv hl hh v (hrun w)) h
end
theorem New.own0 {e : TypeId} {size : Nat} {w w' : World} (h : New #[] e w w') : w'.ownsRow 0 e size (.slice (some ⟨w.heap.size, 0, none⟩) 0 0) 0 [] :=
  ⟨by simp, .inr ⟨w.heap.size, 0, #[], rfl, Nat.zero_le _, h.at_, Nat.le_refl _, by simp [maxLen], by simp, by simp⟩⟩
/-- a new row of one element of any size, owned -/
theorem New.own1 {e : TypeId} {size : Nat} {w w' : World} {cs : List Value} (h : New cs.toArray e w w') (hl : cs.length = size) : w'.ownsRow 0 e size (.slice (some ⟨w.heap.size, 0, none⟩) 1 1) 1 cs :=
  ⟨by omega, .inr ⟨w.heap.size, 1, cs.toArray, rfl, Nat.zero_le _, h.at_, Nat.le_refl _, by simp [maxLen], by simp [hl], by simp [← hl]⟩⟩
end Go.Lig
