/- ChainPlays: whatever the input, the law returns true: for every script all answers, the lists, both ways, and how many there are agree with the reference. No condition. -/
import Derived.Test.YtdoapfgcjmkfhaaChPl
import Derived.Test.YtdoapfgcjmkfhaaLawF
namespace Go.Proofs.Ytdoapfgcjmkfhaa
open Go.RowKit Go.Lig Go.ChangeShapes Go.WideShapes Go.ChangeAt

theorem chainPlaysOwn : ownKnob Try.prog.godebug = none := by kernel_rfl
theorem chainPlaysLaid : laidOutB Try.prog = true := by kernel_rfl

set_option maxRecDepth 100000 in
theorem chainPlaysLifted (os : Os) (started : os.Started) (H : Type) (enc : TypeId × Value → H) :
    ReturnsInHanded {} Try.checked os 4 .any (Rows.chainPlaysSpec.pre6 enc Try.prog Try.f4 Rows.chainPlaysRow.domain false) (Rows.chainPlaysSpec.post enc Try.prog Try.f4 false true false false) := by
  refine law_lifted (C := Try.checked) (tb := 4) chainPlaysOwn started (by kernel_rfl) Try.func4
    (ChangeSpec.witness6 (enc := enc) (C := Try.checked) false ⟨#[], #[.slice none 0 0], []⟩ 8 (by kernel_rfl) (by kernel_rfl) (by kernel_rfl) (by kernel_rfl)) chainPlaysLaid rfl Try.underlying4 rfl ?_ ?_ ?_
  · intro t ht
    have hall : (Try.f4.params.toList.all fun t => Try.prog.readableRec t && decide (t < Try.prog.types.size)) = true := by kernel_rfl
    have h2 := List.all_eq_true.1 hall t ht
    rw [Bool.and_eq_true] at h2
    exact ⟨h2.1, of_decide_eq_true h2.2⟩
  · intro xs hx
    have h3 : xs.length = 1 := hx
    match xs, h3 with
    | [x0], _ => rfl
  · intro W base args ds p hval0 hA0
    have hval : ∀ (j : Nat) t v, Try.f4.params[j]? = some t → args[j]? = some v → Value.okWide Try.prog W .any base t v := hval0
    have hA : DataW.TrodAll enc Try.prog W 0 (fun _ => true) true Try.f4.params.toList args.toList ds p := hA0
    rw [Try.params4] at hA hval
    obtain ⟨v0, vs0, d0, ds0, p0, q0, hargs, rfl, rfl, h0, r0⟩ := trodAll_cons hA
    obtain ⟨rfl, rfl, rfl⟩ := trodAll_nil r0
    obtain rfl : args = #[v0] := by cases args; simp_all
    obtain ⟨a0, hr0⟩ := rd_acts (enc := enc) (cells_of_wide Try.underlying30 (hval 0 30 v0 rfl rfl)) h0
    exact (plays_any W v0 a0 hr0).mono fun e W' ⟨he, hf⟩ => ⟨he, hf.toBelow⟩

theorem chainPlays_holds : Rows.ChainPlaysSaid :=
  OpenClaim.holds_of_wide 4 Try.f4 rfl rfl rfl rfl rfl rfl rfl ⟨rfl, rfl, rfl, rfl, rfl⟩ rfl rfl rfl rfl rfl (by kernel_rfl) Try.func4 (by kernel_rfl)
    (of_decide_eq_true (by kernel_rfl)) (by unfold Func.isWrapper; first | (rw [if_pos (by decide +kernel)]; kernel_rfl) | (rw [if_neg (by decide +kernel)]; exact ⟨rfl, rfl⟩))
    (fun os started H enc _ => chainPlaysLifted os started H enc)
#print axioms chainPlays_holds
end Go.Proofs.Ytdoapfgcjmkfhaa
