/- DrumCrashes: whatever the input, the law returns true: the crashed disk agrees with the reference; keeping all waiting writes yields the current contents; the disk that crashed is unchanged. No condition. -/
import Derived.Test.YtggahnipmlihlaaDrumQ2
import Derived.Test.YtggahnipmlihlaaLawS
namespace Go.Proofs.Ytggahnipmlihlaa
open Go.RowKit Go.Lig Go.ChangeShapes Go.WideShapes Go.ChangeAt

theorem drumCrashesOwn : ownKnob Try.prog.godebug = none := by kernel_rfl
theorem drumCrashesLaid : laidOutB Try.prog = true := by kernel_rfl

set_option maxRecDepth 100000 in
theorem drumCrashesLifted (os : Os) (started : os.Started) (H : Type) (enc : TypeId × Value → H) :
    ReturnsInHanded {} Try.checked os 3 .any (Rows.drumCrashesSpec.pre6 enc Try.prog Try.f3 Rows.drumCrashesRow.domain false) (Rows.drumCrashesSpec.post enc Try.prog Try.f3 false true false false) := by
  refine law_liftedS (C := Try.checked) (tb := 4) drumCrashesOwn started (by kernel_rfl) Try.func3
    (ChangeSpec.witness6 (enc := enc) (C := Try.checked) false ⟨#[], #[.int .i64 0, .slice none 0 0, .slice none 0 0], []⟩ 8 (by kernel_rfl) (by kernel_rfl) (by kernel_rfl) (by kernel_rfl)) drumCrashesLaid rfl Try.underlying4 rfl ?_ ?_ ?_
  · intro t ht
    have hall : (Try.f3.params.toList.all fun t => Try.prog.readableRec t && decide (t < Try.prog.types.size)) = true := by kernel_rfl
    have h2 := List.all_eq_true.1 hall t ht
    rw [Bool.and_eq_true] at h2
    exact ⟨h2.1, of_decide_eq_true h2.2⟩
  · intro xs hx
    have h3 : xs.length = 3 := hx
    match xs, h3 with
    | [x0, x1, x2], _ => rfl
  · intro W base args ds gs p hval0 hA0 hsz0
    have hval : ∀ (j : Nat) t v, Try.f3.params[j]? = some t → args[j]? = some v → Value.okWide Try.prog W .any base t v := hval0
    have hA : DataW.TrodAll enc Try.prog W 0 (fun _ => true) true Try.f3.params.toList args.toList ds p := hA0
    rw [Try.params3] at hA hval
    obtain ⟨v0, vs0, d0, ds0, p0, q0, hargs, rfl, rfl, h0, r0⟩ := trodAll_cons hA
    obtain ⟨v1, vs1, d1, ds1, p1, q1, rfl, rfl, rfl, h1, r1⟩ := trodAll_cons r0
    obtain ⟨v2, vs2, d2, ds2, p2, q2, rfl, rfl, rfl, h2, r2⟩ := trodAll_cons r1
    obtain ⟨rfl, rfl, rfl⟩ := trodAll_nil r2
    obtain rfl : args = #[v0, v1, v2] := by cases args; simp_all
    obtain ⟨a0, rfl, -, -, hw0⟩ := open_int Try.underlying3 (hval 0 3 v0 rfl rfl) h0
    obtain ⟨a1, hr1⟩ := rd_acts (enc := enc) (cells_of_wide Try.underlying22 (hval 1 22 v1 rfl rfl)) h1
    obtain ⟨a2, hr2⟩ := rd_bools (enc := enc) (cells_of_wide Try.underlying23 (hval 2 23 v2 rfl rfl)) h2
    have hsz : (DataW.weightsEach Try.prog (Try.f3.params.toList ++ Rows.drumCrashesSpec.plain.varTypes Try.prog) ([d0, d1, d2] ++ gs)).all (· ≤ reachBytes) = true := hsz0
    have hlen : a1.length ≤ 2199023255552 := by
      obtain ⟨ax, cx, e1, -⟩ := hr1.at_
      rcases slice_len Try.underlying22 (cells_of_wide Try.underlying22 (hval 1 22 v1 rfl rfl)) h1 with e | ⟨ad, m, c, elems, spare, e, hd, he⟩
      · rw [e1] at e
        have := (Value.slice.inj e).2.1
        omega
      · have hs := sized_slice hsz (j := 1) (t := 22) (elems := elems) (spare := spare) (by kernel_rfl) (by rw [hd]; rfl) Try.underlying22
        have hb : Try.prog.bytesOf 31 = 64 := by kernel_rfl
        rw [hb] at hs
        rw [e1] at e
        have := (Value.slice.inj e).2.1
        simp only [reachBytes] at hs
        omega
    exact (crashes_any W a0 v1 a1 hr1 hlen v2 a2 hr2).mono fun e W' ⟨he, hf⟩ => ⟨he, hf.toBelow⟩

theorem drumCrashes_holds : Rows.DrumCrashesSaid :=
  OpenClaim.holds_of_wide 3 Try.f3 rfl rfl rfl rfl rfl rfl rfl ⟨rfl, rfl, rfl, rfl, rfl⟩ rfl rfl rfl rfl rfl (by kernel_rfl) Try.func3 (by kernel_rfl)
    (of_decide_eq_true (by kernel_rfl)) (by unfold Func.isWrapper; first | (rw [if_pos (by decide +kernel)]; kernel_rfl) | (rw [if_neg (by decide +kernel)]; exact ⟨rfl, rfl⟩))
    (fun os started H enc _ => drumCrashesLifted os started H enc)
#print axioms drumCrashes_holds
end Go.Proofs.Ytggahnipmlihlaa
