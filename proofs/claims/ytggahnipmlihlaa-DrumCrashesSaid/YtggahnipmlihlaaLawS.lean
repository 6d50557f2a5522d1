/- The frame of a law's proof, where the arguments' sizes matter. -/
import Derived.Test.YtggahnipmlihlaaLawF
import Derived.HandedShaped
import Derived.SizedLaws
namespace Go.Lig
open Go.RowKit Go.ChangeShapes Go.WideShapes Go.ChangeAt Go.Deep

theorem law_liftedS {C : Checked} {os : Os} {n : FuncId} {fn : Func} {s : ChangeSpec} {conds : List PathCond} {H : Type} {enc : TypeId × Value → H} {tb : TypeId} (own : ownKnob C.prog.godebug = none) (started : os.Started) (noInit : C.prog.inits.idxOf? n = none) (hfn : C.prog.funcs[n]? = some fn)
    (witness : ∃ (w : World) (tape : Tape) (i : Input), w.os = os ∧ (w.forCall tape i).Shaped C.prog ∧ i.vars = [] ∧ Input.okWide C.prog (w.forCall tape i) .any w.heap.size n i ∧
      s.pre6 enc C.prog fn conds false (w.forCall tape i).memory i.args ∧ Assume.holds {} C.prog (lone (Frame.enter C.prog n i.args .normal) [] (w.forCall tape i)))
    (hl : laidOutB C.prog = true) (hv : s.vars = []) (htb : C.prog.underlying tb = some .bool) (hr : fn.resultTypes = #[tb])
    (hts : ∀ t ∈ fn.params.toList, C.prog.readableRec t = true ∧ t < C.prog.types.size) (hspec : ∀ xs : List (DataW H), xs.length = fn.params.size → s.fn H xs = { results := [.lit (.bool true)], args := xs })
    (contract : ∀ (W : World) (base : Nat) (args : Array Value) (ds gs : List (DataW H)) (p : List MemPlace), (∀ (j : Nat) t v, fn.params[j]? = some t → args[j]? = some v → Value.okWide C.prog W .any base t v) →
      DataW.TrodAll enc C.prog W 0 (fun _ => true) true fn.params.toList args.toList ds p →
      (DataW.weightsEach C.prog (fn.params.toList ++ s.plain.varTypes C.prog) (ds ++ gs)).all (· ≤ reachBytes) = true →
      Calls C.prog n args W fun e W' => e = .returned (.bool true) ∧ Below W.heap.size W W') :
    ReturnsInHanded {} C os n .any (s.pre6 enc C.prog fn conds false) (s.post enc C.prog fn false true false false) := by
  refine returnsInHanded_of_change_shaped (C := C) own started noInit hfn witness ?_
  intro W base args ds gs before hval hW _ hsz _ _
  obtain ⟨p, q, hA, _⟩ := id hW
  exact (contract W base args ds gs p hval hA hsz).mono fun e W' ⟨he, hb⟩ => ⟨_, he, law_post hl hv htb hr hts hspec hW hb⟩

/-- How long a slice is, by what was read of it. -/
theorem slice_len {H : Type} {enc : TypeId × Value → H} {P : Program} {W : World} {t e : TypeId} (ht : P.underlying t = some (.slice e)) {v : Value} {d : DataW H} {p : List MemPlace} (hv : v.cells.toList = [v]) (h : DataW.Trod enc P W 0 (fun _ => true) true t v d p) :
    v = .slice none 0 0 ∨ ∃ a n c elems spare, v = .slice (some a) n c ∧ d = .slice elems spare ∧ elems.length = n := by
  obtain ⟨fuel, h⟩ := h
  rw [hv] at h
  rcases open_slice ht h with ⟨e, _⟩ | ⟨a, len, cap, m, n, D, Pl, e, _, hlc, hm, hmm, hd, _⟩
  · exact .inl (by simpa using e)
  · exact .inr ⟨a, len, cap, _, _, by simpa using e, (Prod.mk.inj hd).1, by simp⟩
end Go.Lig
