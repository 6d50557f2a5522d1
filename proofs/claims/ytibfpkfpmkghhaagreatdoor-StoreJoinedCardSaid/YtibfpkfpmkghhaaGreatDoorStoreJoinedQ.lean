/- StoreJoined: whatever the input, the law returns true: whatever is done, no edge that anyone reads has an end that they do not read. Tied to the program text for the tables that it lists. No condition. -/
import Derived.Test.YtibfpkfpmkghhaaGreatDoorJ48
import Derived.Test.YtibfpkfpmkghhaaGreatDoorJ45
import Derived.Test.YtibfpkfpmkghhaaGreatDoorCards
import Derived.Test.YtibfpkfpmkghhaaGreatDoorTie
namespace Go.Proofs.YtibfpkfpmkghhaaGreatDoor
open Go.RowKit Go.Lig Go.ChangeShapes Go.WideShapes Go.ChangeAt

theorem storeJoinedOwn : ownKnob Tryz.prog.godebug = none := by kernel_rfl
theorem storeJoinedLaid : laidOutB Tryz.prog = true := by kernel_rfl

set_option maxRecDepth 100000 in
theorem storeJoinedLifted (os : Os) (started : os.Started) (H : Type) (enc : TypeId × Value → H) :
    ReturnsInHanded {} Tryz.checked os 4 .any (fun w args => (Rows.storeJoinedSpec.pre enc Tryz.prog Tryz.f4 Rows.storeJoinedRow.domain false w args ∧ laidMetH Tryz.prog Rows.storeJoinedRow.laid w) ∧ sizedMet enc Tryz.prog Tryz.f4 (OpenSpec.ofChange Rows.storeJoinedSpec) false w args) (Rows.storeJoinedSpec.post enc Tryz.prog Tryz.f4 false true false false) := by
  refine law_liftedU (C := Tryz.checked) (tb := 4) (laid := Rows.storeJoinedRow.laid) storeJoinedOwn started (by kernel_rfl) Tryz.func4
    (ChangeSpec.witness_shaped (enc := enc) (C := Tryz.checked) (os := os) (X := fun w _ => laidMetH Tryz.prog Rows.storeJoinedRow.laid w) false (World.laidAll Tryz.prog os Rows.storeJoinedRow.laid) #[.slice none 0 0] 8 (World.laidAll_os _ _ _)
      (World.shaped_of_ZipB (by kernel_rfl) (by kernel_rfl)) (by kernel_rfl) (by kernel_rfl) (by kernel_rfl)
      (by rw [MakeChecks.laidMetH_plain _ _ _ (by kernel_rfl)]; exact laidMet_laidAll _ (by kernel_rfl) (by kernel_rfl))) storeJoinedLaid rfl Tryz.underlying4 rfl ?_ ?_ ?_
  · intro t ht
    have hall : (Tryz.f4.params.toList.all fun t => Tryz.prog.readableRec t && decide (t < Tryz.prog.types.size)) = true := by kernel_rfl
    have h2 := List.all_eq_true.1 hall t ht
    rw [Bool.and_eq_true] at h2
    exact ⟨h2.1, of_decide_eq_true h2.2⟩
  · intro xs hx
    have h3 : xs.length = 1 := hx
    match xs, h3 with
    | [x0], _ => rfl
  · intro W base args ds gs p hval0 hA0 hsz
    have hval : ∀ (j : Nat) t v, Tryz.f4.params[j]? = some t → args[j]? = some v → Value.okWide Tryz.prog W .any base t v := hval0
    have hA : DataW.TrodAll enc Tryz.prog W 0 (fun _ => true) true Tryz.f4.params.toList args.toList ds p := hA0
    rw [Tryz.params4] at hA hval
    obtain ⟨v0, vs0, d0, ds0, p0, q0, hargs, rfl, rfl, h0, r0⟩ := trodAll_cons hA
    obtain ⟨rfl, rfl, rfl⟩ := trodAll_nil r0
    obtain rfl : args = #[v0] := by cases args; simp_all
    have hrch := reach_of (P := Tryz.prog) (j := 0) (t := 38) hsz (by rw [Tryz.params4]; rfl) rfl
    have hcell := cells_of_wide Tryz.underlying38 (hval 0 38 v0 rfl rfl)
    obtain ⟨n0, hn0⟩ := h0
    rw [hcell] at hn0
    obtain ⟨a0, hr0⟩ := u_acts (enc := enc) hn0 hrch
    exact (joined_any W v0 a0 hr0).mono fun e W' ⟨he, hf⟩ => ⟨he, hf.toBelow⟩

theorem storeJoinedRow_holds : Rows.StoreJoinedSaid :=
  OpenClaim.holds_of_wide 4 Tryz.f4 rfl rfl rfl rfl rfl rfl rfl ⟨rfl, rfl, rfl, rfl, rfl⟩ rfl rfl rfl rfl rfl (by kernel_rfl) Tryz.func4 (by kernel_rfl)
    (of_decide_eq_true (by kernel_rfl)) (by unfold Func.isWrapper; first | (rw [if_pos (by decide +kernel)]; kernel_rfl) | (rw [if_neg (by decide +kernel)]; exact ⟨rfl, rfl⟩))
    (fun os started H enc _ => storeJoinedLifted os started H enc)
theorem storeJoinedPlain (f : FuncId) (fn : Func) (hf : Tryz.pinned.checked.prog.funcNamed "ligature/ligaturelaw11.StoreJoined" = some f) (hfn : Tryz.pinned.checked.prog.funcs[f]? = some fn) :
    false = Tryz.pinned.checked.prog.looks [] ∧ ∀ (j : Nat) t, fn.params[j]? = some t → Tryz.pinned.checked.prog.wantsStandIn t = false := by
  obtain rfl : f = 4 := Option.some.inj ((show Tryz.prog.funcNamed "ligature/ligaturelaw11.StoreJoined" = some 4 by kernel_rfl).symm.trans hf) |>.symm
  obtain rfl : fn = Tryz.f4 := (Option.some.inj (Tryz.func4.symm.trans hfn)).symm
  refine ⟨by kernel_rfl, fun j t ht => ?_⟩
  have hm : t ∈ Tryz.f4.params.toList := Array.mem_toList_iff.2 (Array.mem_of_getElem? ht)
  have hall : (Tryz.f4.params.toList.all fun u => !Tryz.prog.wantsStandIn u) = true := by kernel_rfl
  exact (show Tryz.prog.wantsStandIn t = false by simpa using List.all_eq_true.1 hall t hm)
/-- The card. -/
theorem storeJoined_holds : Rows.StoreJoinedCardSaid :=
  Claim7.holds_tied_plain_at .later [] _ _ _ _ storeJoinedRow_holds (fun _ h => by cases h) (by kernel_rfl) (fun _ h => by cases h) storeJoined_row_tie rfl ⟨rfl, rfl⟩ (by kernel_rfl) rfl storeJoinedPlain (by kernel_rfl)
#print axioms storeJoined_holds
end Go.Proofs.YtibfpkfpmkghhaaGreatDoor
