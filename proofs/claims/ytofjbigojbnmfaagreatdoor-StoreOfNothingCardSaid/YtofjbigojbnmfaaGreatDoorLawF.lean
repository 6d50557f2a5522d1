/- The frame of a law's proof: from a contract 'it returns true and leaves old memory alone' to the row; and what arguments read as. No program in sight. -/
import Derived.Test.YtofjbigojbnmfaaGreatDoorLib
import Derived.ProofKit
import Derived.OpenShut
import Derived.Deep.Slices
import Derived.Carry
namespace Go.Lig
open Go.RowKit Go.ChangeShapes Go.WideShapes Go.ChangeAt Go.Deep

section
variable {H : Type} {enc : TypeId × Value → H} {P : Program}
theorem trodAll_below (hl : laidOutB P = true) {W W' : World} (hb : Below W.heap.size W W') : ∀ {ts : List TypeId} {vs : List Value} {ds : List (DataW H)} {ps : List MemPlace}, (∀ t ∈ ts, P.readableRec t = true ∧ t < P.types.size) →
    DataW.TrodAll enc P W 0 (fun _ => true) true ts vs ds ps → (∀ x ∈ ps, x.block < W.heap.size) → DataW.TrodAll enc P W' 0 (fun b => decide (b < W.heap.size)) true ts vs ds ps
  | [], vs, ds, ps, _, h, _ => by
    obtain ⟨rfl, rfl, rfl⟩ := trodAll_nil h
    exact trodAll_mk0
  | t :: ts, vs, ds, ps, ht, h, hlt => by
    obtain ⟨v, vs', d, ds', p, q, rfl, rfl, rfl, h0, h1⟩ := trodAll_cons h
    have := ht t (List.mem_cons_self ..)
    exact trodAll_cons_mk (Below.trod hl this.1 this.2 h0 hb (fun x hx => hlt x (by simp [hx]))) (trodAll_below hl hb (fun t ht' => ht t (List.mem_cons_of_mem _ ht')) h1 (fun x hx => hlt x (by simp [hx])))

/-- A law's 'post': it returns true, and old memory is as it was. -/
theorem law_post {f : Func} {s : ChangeSpec} {W W' : World} {args : Array Value} {ds gs : List (DataW H)} {before : List MemPlace} {tb : TypeId} (hl : laidOutB P = true) (hv : s.vars = []) (htb : P.underlying tb = some .bool) (hr : f.resultTypes = #[tb])
    (hts : ∀ t ∈ f.params.toList, P.readableRec t = true ∧ t < P.types.size) (hspec : ∀ xs : List (DataW H), xs.length = f.params.size → s.fn H xs = { results := [.lit (.bool true)], args := xs })
    (hW : DataW.Whole enc P f.params.toList s.vars false W args.toList ds gs before) (hb : Below W.heap.size W W') : s.post enc P f false true false false W args (.bool true) W' := by
  have hlt := hW.lt
  have hW' := hW
  obtain ⟨p, q, hA, hV, rfl, _, _⟩ := hW
  rw [hv] at hV
  obtain ⟨rfl, rfl⟩ := trodVars_none hV
  have hlen : ds.length = f.params.size := by
    have : ∀ {ts : List TypeId} {vs : List Value} {ds : List (DataW H)} {ps : List MemPlace}, DataW.TrodAll enc P W 0 (fun _ => true) true ts vs ds ps → ds.length = ts.length := by
      intro ts
      induction ts with
      | nil => intro vs ds ps h; obtain ⟨_, rfl, _⟩ := trodAll_nil h; rfl
      | cons t ts ih => intro vs ds ps h; obtain ⟨_, _, _, ds', _, _, _, rfl, _, _, h1⟩ := trodAll_cons h; simp [ih h1]
    simpa using this hA
  have hsp : s.fn H (ds ++ []) = { results := [.lit (.bool true)], args := ds } := by rw [List.append_nil]; exact hspec ds hlen
  refine ⟨ds, [], p ++ [], [], p, [], hW', ?_, ?_, ?_, ?_, fun h => by cases h⟩
  · rw [hr, hsp]
    exact trodAll_cons_mk (shut_bool htb true) trodAll_mk0
  · rw [hsp]
    exact trodAll_below hl hb hts hA (fun x hx => hlt x (by simp [hx]))
  · rw [hsp, hv]
    rfl
  · exact hb.frame _
end

theorem law_lifted {C : Checked} {os : Os} {n : FuncId} {fn : Func} {s : ChangeSpec} {conds : List PathCond} {H : Type} {enc : TypeId × Value → H} {tb : TypeId} (own : ownKnob C.prog.godebug = none) (started : os.Started) (noInit : C.prog.inits.idxOf? n = none) (hfn : C.prog.funcs[n]? = some fn)
    (witness : ∃ (w : World) (tape : Tape) (i : Input), w.os = os ∧ (w.forCall tape i).Shaped C.prog ∧ i.vars = [] ∧ Input.okWide C.prog (w.forCall tape i) .any w.heap.size n i ∧
      s.pre6 enc C.prog fn conds false (w.forCall tape i).memory i.args ∧ Assume.holds {} C.prog (lone (Frame.enter C.prog n i.args .normal) [] (w.forCall tape i)))
    (hl : laidOutB C.prog = true) (hv : s.vars = []) (htb : C.prog.underlying tb = some .bool) (hr : fn.resultTypes = #[tb])
    (hts : ∀ t ∈ fn.params.toList, C.prog.readableRec t = true ∧ t < C.prog.types.size) (hspec : ∀ xs : List (DataW H), xs.length = fn.params.size → s.fn H xs = { results := [.lit (.bool true)], args := xs })
    (contract : ∀ (W : World) (base : Nat) (args : Array Value) (ds : List (DataW H)) (p : List MemPlace), (∀ (j : Nat) t v, fn.params[j]? = some t → args[j]? = some v → Value.okWide C.prog W .any base t v) →
      DataW.TrodAll enc C.prog W 0 (fun _ => true) true fn.params.toList args.toList ds p →
      Calls C.prog n args W fun e W' => e = .returned (.bool true) ∧ Below W.heap.size W W') :
    ReturnsInHanded {} C os n .any (s.pre6 enc C.prog fn conds false) (s.post enc C.prog fn false true false false) := by
  refine returnsInHanded_of_change (C := C) own started noInit hfn witness ?_
  intro W base args ds gs before hval hW _ _
  obtain ⟨p, q, hA, _⟩ := id hW
  exact (contract W base args ds p hval hA).mono fun e W' ⟨he, hb⟩ => ⟨_, he, law_post hl hv htb hr hts hspec hW hb⟩

/-! ### Arguments -/
section
variable {H : Type} {enc : TypeId × Value → H} {P : Program} {W : World}
theorem cells_of_wide {base : Nat} {t e : TypeId} {v : Value} (ht : P.underlying t = some (.slice e)) (h : Value.okWide P W .any base t v) : v.cells.toList = [v] := by
  obtain ⟨a0, len, cap, rfl⟩ := okWide_slice ht h
  rfl
/-- A slice of one-cell elements, each of which is some f x. -/
theorem rd_slice1 {α : Type} [Inhabited α] (f : α → Value) (hf : ∀ x, (f x).oneCell' = true) {t e : TypeId} (ht : P.underlying t = some (.slice e)) (hc : P.cellsOf e = 1)
    (hel : ∀ (n : Nat) (v : Value) (y : DataW H × List MemPlace), DataW.trod enc P W 0 (fun _ => true) true n e [v] = some y → ∃ x, v = f x) {v : Value} {d : DataW H} {p : List MemPlace}
    (hv : v.cells.toList = [v]) (h : DataW.Trod enc P W 0 (fun _ => true) true t v d p) : ∃ l : List α, Rd W v l.length 1 (l.map f) := by
  obtain ⟨fuel, h⟩ := h
  rw [hv] at h
  rcases open_slice1 ht hc h with ⟨e, _⟩ | ⟨a, len, cap, m, n, V, D, Pl, e, _, hlc, hm, hmm, _, hx⟩
  · obtain rfl : v = .slice none 0 0 := by simpa using e
    exact ⟨[], Rd.nil W 1⟩
  · obtain rfl : v = .slice (some a) len cap := by simpa using e
    simp only [if_true] at hmm
    subst hmm
    obtain ⟨g, hg⟩ := choose_lt (α := α) (n := m) (p := fun i x => V i = f x) (fun i hi => hel n (V i) _ (hx i hi).2)
    refine ⟨(List.range len).map g, some a, m, by simp, by simp, fun h => (by cases h), fun ad had j u hu => ?_, ?_, by simpa using hlc, hm⟩
    · obtain rfl := Option.some.inj had
      have hj : j < len := by
        have := (List.getElem?_eq_some_iff.1 hu).1
        simpa using this
      have := (hx j (by omega)).1
      rw [this, hg j (by omega)]
      simpa [hj] using hu
    · intro u hu
      simp only [List.mem_map] at hu
      obtain ⟨x, _, rfl⟩ := hu
      exact hf x
end
end Go.Lig
