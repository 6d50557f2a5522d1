/- StoreHeld: whatever the input, the law returns true: a node that has edges is held; without them it goes. Tied to the program text for the tables that it lists. No condition. -/
import Derived.Test.YtfaapjcgmjjheaaGreatDoorK29
import Derived.Test.YtfaapjcgmjjheaaGreatDoorCards
import Derived.Test.YtfaapjcgmjjheaaGreatDoorTie
namespace Go.Proofs.YtfaapjcgmjjheaaGreatDoor
open Go.RowKit Go.Lig Go.ChangeShapes Go.WideShapes Go.ChangeAt

theorem storeHeldOwn : ownKnob Tryz.prog.godebug = none := by kernel_rfl
theorem storeHeldLaid : laidOutB Tryz.prog = true := by kernel_rfl

set_option maxRecDepth 100000 in
theorem storeHeldLifted (os : Os) (started : os.Started) (H : Type) (enc : TypeId × Value → H) :
    ReturnsInHanded {} Tryz.checked os 3 .any (fun w args => (Rows.storeHeldSpec.pre enc Tryz.prog Tryz.f3 Rows.storeHeldRow.domain false w args ∧ laidMetH Tryz.prog Rows.storeHeldRow.laid w) ∧ sizedMet enc Tryz.prog Tryz.f3 (OpenSpec.ofChange Rows.storeHeldSpec) false w args) (Rows.storeHeldSpec.post enc Tryz.prog Tryz.f3 false true false false) := by
  refine law_liftedT (C := Tryz.checked) (tb := 4) (laid := Rows.storeHeldRow.laid) storeHeldOwn started (by kernel_rfl) Tryz.func3
    (ChangeSpec.witness_shaped (enc := enc) (C := Tryz.checked) (os := os) (X := fun w _ => laidMetH Tryz.prog Rows.storeHeldRow.laid w) false (World.laidAll Tryz.prog os Rows.storeHeldRow.laid) #[.int .i64 0, .bool false] 8 (World.laidAll_os _ _ _)
      (World.shaped_of_ZipB (by kernel_rfl) (by kernel_rfl)) (by kernel_rfl) (by kernel_rfl) (by kernel_rfl)
      (by rw [MakeChecks.laidMetH_plain _ _ _ (by kernel_rfl)]; exact laidMet_laidAll _ (by kernel_rfl) (by kernel_rfl))) storeHeldLaid rfl Tryz.underlying4 rfl ?_ ?_ ?_
  · intro t ht
    have hall : (Tryz.f3.params.toList.all fun t => Tryz.prog.readableRec t && decide (t < Tryz.prog.types.size)) = true := by kernel_rfl
    have h2 := List.all_eq_true.1 hall t ht
    rw [Bool.and_eq_true] at h2
    exact ⟨h2.1, of_decide_eq_true h2.2⟩
  · intro xs hx
    have h3 : xs.length = 2 := hx
    match xs, h3 with
    | [x0, x1], _ => rfl
  · intro W base args ds p hval0 hA0
    have hval : ∀ (j : Nat) t v, Tryz.f3.params[j]? = some t → args[j]? = some v → Value.okWide Tryz.prog W .any base t v := hval0
    have hA : DataW.TrodAll enc Tryz.prog W 0 (fun _ => true) true Tryz.f3.params.toList args.toList ds p := hA0
    rw [Tryz.params3] at hA hval
    obtain ⟨v0, vs0, d0, ds0, p0, q0, hargs, rfl, rfl, h0, r0⟩ := trodAll_cons hA
    obtain ⟨v1, vs1, d1, ds1, p1, q1, rfl, rfl, rfl, h1, r1⟩ := trodAll_cons r0
    obtain ⟨rfl, rfl, rfl⟩ := trodAll_nil r1
    obtain rfl : args = #[v0, v1] := by cases args; simp_all
    obtain ⟨a0, rfl, -, -, hw0⟩ := open_int Tryz.underlying3 (hval 0 3 v0 rfl rfl) h0
    obtain ⟨a1, rfl, -⟩ := open_bool Tryz.underlying4 (hval 1 4 v1 rfl rfl) h1
    exact (held_any W a0 a1).mono fun e W' ⟨he, hf⟩ => ⟨he, hf.toBelow⟩

theorem storeHeldRow_holds : Rows.StoreHeldSaid :=
  OpenClaim.holds_of_wide 3 Tryz.f3 rfl rfl rfl rfl rfl rfl rfl ⟨rfl, rfl, rfl, rfl, rfl⟩ rfl rfl rfl rfl rfl (by kernel_rfl) Tryz.func3 (by kernel_rfl)
    (of_decide_eq_true (by kernel_rfl)) (by unfold Func.isWrapper; first | (rw [if_pos (by decide +kernel)]; kernel_rfl) | (rw [if_neg (by decide +kernel)]; exact ⟨rfl, rfl⟩))
    (fun os started H enc _ => storeHeldLifted os started H enc)
theorem storeHeldPlain (f : FuncId) (fn : Func) (hf : Tryz.pinned.checked.prog.funcNamed "ligature/ligaturelaw11.StoreHeld" = some f) (hfn : Tryz.pinned.checked.prog.funcs[f]? = some fn) :
    false = Tryz.pinned.checked.prog.looks [] ∧ ∀ (j : Nat) t, fn.params[j]? = some t → Tryz.pinned.checked.prog.wantsStandIn t = false := by
  obtain rfl : f = 3 := Option.some.inj ((show Tryz.prog.funcNamed "ligature/ligaturelaw11.StoreHeld" = some 3 by kernel_rfl).symm.trans hf) |>.symm
  obtain rfl : fn = Tryz.f3 := (Option.some.inj (Tryz.func3.symm.trans hfn)).symm
  refine ⟨by kernel_rfl, fun j t ht => ?_⟩
  have hm : t ∈ Tryz.f3.params.toList := Array.mem_toList_iff.2 (Array.mem_of_getElem? ht)
  have hall : (Tryz.f3.params.toList.all fun u => !Tryz.prog.wantsStandIn u) = true := by kernel_rfl
  exact (show Tryz.prog.wantsStandIn t = false by simpa using List.all_eq_true.1 hall t hm)
/-- The card. -/
theorem storeHeld_holds : Rows.StoreHeldCardSaid :=
  Claim7.holds_tied_plain_at .later [] _ _ _ _ storeHeldRow_holds (fun _ h => by cases h) (by kernel_rfl) (fun _ h => by cases h) storeHeld_row_tie rfl ⟨rfl, rfl⟩ (by kernel_rfl) rfl storeHeldPlain (by kernel_rfl)
#print axioms storeHeld_holds
end Go.Proofs.YtfaapjcgmjjheaaGreatDoor
