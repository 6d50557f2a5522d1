/- StoreTouches: whatever the input, the law returns true: who adds or drops an edge has written its ends, as they are. Tied to the program text for the tables that it lists. No condition. -/
import Derived.Test.YtfaapjcgmjjheaaGreatDoorK32
import Derived.Test.YtfaapjcgmjjheaaGreatDoorK29
import Derived.Test.YtfaapjcgmjjheaaGreatDoorCards
import Derived.Test.YtfaapjcgmjjheaaGreatDoorTie
namespace Go.Proofs.YtfaapjcgmjjheaaGreatDoor
open Go.RowKit Go.Lig Go.ChangeShapes Go.WideShapes Go.ChangeAt

theorem storeTouchesOwn : ownKnob Tryz.prog.godebug = none := by kernel_rfl
theorem storeTouchesLaid : laidOutB Tryz.prog = true := by kernel_rfl

set_option maxRecDepth 100000 in
theorem storeTouchesLifted (os : Os) (started : os.Started) (H : Type) (enc : TypeId × Value → H) :
    ReturnsInHanded {} Tryz.checked os 6 .any (fun w args => (Rows.storeTouchesSpec.pre enc Tryz.prog Tryz.f6 Rows.storeTouchesRow.domain false w args ∧ laidMetH Tryz.prog Rows.storeTouchesRow.laid w) ∧ sizedMet enc Tryz.prog Tryz.f6 (OpenSpec.ofChange Rows.storeTouchesSpec) false w args) (Rows.storeTouchesSpec.post enc Tryz.prog Tryz.f6 false true false false) := by
  refine law_liftedT (C := Tryz.checked) (tb := 4) (laid := Rows.storeTouchesRow.laid) storeTouchesOwn started (by kernel_rfl) Tryz.func6
    (ChangeSpec.witness_shaped (enc := enc) (C := Tryz.checked) (os := os) (X := fun w _ => laidMetH Tryz.prog Rows.storeTouchesRow.laid w) false (World.laidAll Tryz.prog os Rows.storeTouchesRow.laid) #[.bool false] 8 (World.laidAll_os _ _ _)
      (World.shaped_of_ZipB (by kernel_rfl) (by kernel_rfl)) (by kernel_rfl) (by kernel_rfl) (by kernel_rfl)
      (by rw [MakeChecks.laidMetH_plain _ _ _ (by kernel_rfl)]; exact laidMet_laidAll _ (by kernel_rfl) (by kernel_rfl))) storeTouchesLaid rfl Tryz.underlying4 rfl ?_ ?_ ?_
  · intro t ht
    have hall : (Tryz.f6.params.toList.all fun t => Tryz.prog.readableRec t && decide (t < Tryz.prog.types.size)) = true := by kernel_rfl
    have h2 := List.all_eq_true.1 hall t ht
    rw [Bool.and_eq_true] at h2
    exact ⟨h2.1, of_decide_eq_true h2.2⟩
  · intro xs hx
    have h3 : xs.length = 1 := hx
    match xs, h3 with
    | [x0], _ => rfl
  · intro W base args ds p hval0 hA0
    have hval : ∀ (j : Nat) t v, Tryz.f6.params[j]? = some t → args[j]? = some v → Value.okWide Tryz.prog W .any base t v := hval0
    have hA : DataW.TrodAll enc Tryz.prog W 0 (fun _ => true) true Tryz.f6.params.toList args.toList ds p := hA0
    rw [Tryz.params6] at hA hval
    obtain ⟨v0, vs0, d0, ds0, p0, q0, hargs, rfl, rfl, h0, r0⟩ := trodAll_cons hA
    obtain ⟨rfl, rfl, rfl⟩ := trodAll_nil r0
    obtain rfl : args = #[v0] := by cases args; simp_all
    obtain ⟨a0, rfl, -⟩ := open_bool Tryz.underlying4 (hval 0 4 v0 rfl rfl) h0
    exact (touches_law W a0).mono fun e W' ⟨he, hf⟩ => ⟨he, hf.toBelow⟩

theorem storeTouchesRow_holds : Rows.StoreTouchesSaid :=
  OpenClaim.holds_of_wide 6 Tryz.f6 rfl rfl rfl rfl rfl rfl rfl ⟨rfl, rfl, rfl, rfl, rfl⟩ rfl rfl rfl rfl rfl (by kernel_rfl) Tryz.func6 (by kernel_rfl)
    (of_decide_eq_true (by kernel_rfl)) (by unfold Func.isWrapper; first | (rw [if_pos (by decide +kernel)]; kernel_rfl) | (rw [if_neg (by decide +kernel)]; exact ⟨rfl, rfl⟩))
    (fun os started H enc _ => storeTouchesLifted os started H enc)
theorem storeTouchesPlain (f : FuncId) (fn : Func) (hf : Tryz.pinned.checked.prog.funcNamed "ligature/ligaturelaw11.StoreTouches" = some f) (hfn : Tryz.pinned.checked.prog.funcs[f]? = some fn) :
    false = Tryz.pinned.checked.prog.looks [] ∧ ∀ (j : Nat) t, fn.params[j]? = some t → Tryz.pinned.checked.prog.wantsStandIn t = false := by
  obtain rfl : f = 6 := Option.some.inj ((show Tryz.prog.funcNamed "ligature/ligaturelaw11.StoreTouches" = some 6 by kernel_rfl).symm.trans hf) |>.symm
  obtain rfl : fn = Tryz.f6 := (Option.some.inj (Tryz.func6.symm.trans hfn)).symm
  refine ⟨by kernel_rfl, fun j t ht => ?_⟩
  have hm : t ∈ Tryz.f6.params.toList := Array.mem_toList_iff.2 (Array.mem_of_getElem? ht)
  have hall : (Tryz.f6.params.toList.all fun u => !Tryz.prog.wantsStandIn u) = true := by kernel_rfl
  exact (show Tryz.prog.wantsStandIn t = false by simpa using List.all_eq_true.1 hall t hm)
/-- The card. -/
theorem storeTouches_holds : Rows.StoreTouchesCardSaid :=
  Claim7.holds_tied_plain_at .later [] _ _ _ _ storeTouchesRow_holds (fun _ h => by cases h) (by kernel_rfl) (fun _ h => by cases h) storeTouches_row_tie rfl ⟨rfl, rfl⟩ (by kernel_rfl) rfl storeTouchesPlain (by kernel_rfl)
#print axioms storeTouches_holds
end Go.Proofs.YtfaapjcgmjjheaaGreatDoor
