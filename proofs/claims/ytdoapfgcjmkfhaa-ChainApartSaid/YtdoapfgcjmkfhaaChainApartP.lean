/- ChainApart: whatever the input, the law returns true: what is done to one list changes nothing of another. No condition. -/
import Derived.Test.YtdoapfgcjmkfhaaChAp
import Derived.Test.YtdoapfgcjmkfhaaLawF
namespace Go.Proofs.Ytdoapfgcjmkfhaa
open Go.RowKit Go.Lig Go.ChangeShapes Go.WideShapes Go.ChangeAt

theorem chainApartOwn : ownKnob Try.prog.godebug = none := by kernel_rfl
theorem chainApartLaid : laidOutB Try.prog = true := by kernel_rfl

set_option maxRecDepth 100000 in
theorem chainApartLifted (os : Os) (started : os.Started) (H : Type) (enc : TypeId × Value → H) :
    ReturnsInHanded {} Try.checked os 5 .any (Rows.chainApartSpec.pre6 enc Try.prog Try.f5 Rows.chainApartRow.domain false) (Rows.chainApartSpec.post enc Try.prog Try.f5 false true false false) := by
  refine law_lifted (C := Try.checked) (tb := 4) chainApartOwn started (by kernel_rfl) Try.func5
    (ChangeSpec.witness6 (enc := enc) (C := Try.checked) false ⟨#[], #[.slice none 0 0, .slice none 0 0, .slice none 0 0], []⟩ 8 (by kernel_rfl) (by kernel_rfl) (by kernel_rfl) (by kernel_rfl)) chainApartLaid rfl Try.underlying4 rfl ?_ ?_ ?_
  · intro t ht
    have hall : (Try.f5.params.toList.all fun t => Try.prog.readableRec t && decide (t < Try.prog.types.size)) = true := by kernel_rfl
    have h2 := List.all_eq_true.1 hall t ht
    rw [Bool.and_eq_true] at h2
    exact ⟨h2.1, of_decide_eq_true h2.2⟩
  · intro xs hx
    have h3 : xs.length = 3 := hx
    match xs, h3 with
    | [x0, x1, x2], _ => rfl
  · intro W base args ds p hval0 hA0
    have hval : ∀ (j : Nat) t v, Try.f5.params[j]? = some t → args[j]? = some v → Value.okWide Try.prog W .any base t v := hval0
    have hA : DataW.TrodAll enc Try.prog W 0 (fun _ => true) true Try.f5.params.toList args.toList ds p := hA0
    rw [Try.params5] at hA hval
    obtain ⟨v0, vs0, d0, ds0, p0, q0, hargs, rfl, rfl, h0, r0⟩ := trodAll_cons hA
    obtain ⟨v1, vs1, d1, ds1, p1, q1, rfl, rfl, rfl, h1, r1⟩ := trodAll_cons r0
    obtain ⟨v2, vs2, d2, ds2, p2, q2, rfl, rfl, rfl, h2, r2⟩ := trodAll_cons r1
    obtain ⟨rfl, rfl, rfl⟩ := trodAll_nil r2
    obtain rfl : args = #[v0, v1, v2] := by cases args; simp_all
    obtain ⟨a0, hr0, hw0⟩ := rd_ints (enc := enc) Try.underlying24 Try.underlying3 (by kernel_rfl) (cells_of_wide Try.underlying24 (hval 0 24 v0 rfl rfl)) h0
    obtain ⟨a1, hr1, hw1⟩ := rd_ints (enc := enc) Try.underlying24 Try.underlying3 (by kernel_rfl) (cells_of_wide Try.underlying24 (hval 1 24 v1 rfl rfl)) h1
    obtain ⟨a2, hr2, hw2⟩ := rd_ints (enc := enc) Try.underlying24 Try.underlying3 (by kernel_rfl) (cells_of_wide Try.underlying24 (hval 2 24 v2 rfl rfl)) h2
    exact (apart_any W v0 v1 v2 a0 a1 a2 hr0 hr1 hr2 hw0 hw1 hw2).mono fun e W' ⟨he, hf⟩ => ⟨he, hf.toBelow⟩

theorem chainApart_holds : Rows.ChainApartSaid :=
  OpenClaim.holds_of_wide 5 Try.f5 rfl rfl rfl rfl rfl rfl rfl ⟨rfl, rfl, rfl, rfl, rfl⟩ rfl rfl rfl rfl rfl (by kernel_rfl) Try.func5 (by kernel_rfl)
    (of_decide_eq_true (by kernel_rfl)) (by unfold Func.isWrapper; first | (rw [if_pos (by decide +kernel)]; kernel_rfl) | (rw [if_neg (by decide +kernel)]; exact ⟨rfl, rfl⟩))
    (fun os started H enc _ => chainApartLifted os started H enc)
#print axioms chainApart_holds
end Go.Proofs.Ytdoapfgcjmkfhaa
