/- StoreApart: whatever the input, the law returns true: two that write other things both commit, in whatever order; two that write one thing do not. Tied to the program text for the tables that it lists. No condition. -/
import Derived.Test.YtibfpkfpmkghhaaGreatDoorK38
import Derived.Test.YtibfpkfpmkghhaaGreatDoorK37
import Derived.Test.YtibfpkfpmkghhaaGreatDoorCards
import Derived.Test.YtibfpkfpmkghhaaGreatDoorTie
namespace Go.Proofs.YtibfpkfpmkghhaaGreatDoor
open Go.RowKit Go.Lig Go.ChangeShapes Go.WideShapes Go.ChangeAt

theorem storeApartOwn : ownKnob Tryz.prog.godebug = none := by kernel_rfl
theorem storeApartLaid : laidOutB Tryz.prog = true := by kernel_rfl

set_option maxRecDepth 100000 in
theorem storeApartLifted (os : Os) (started : os.Started) (H : Type) (enc : TypeId × Value → H) :
    ReturnsInHanded {} Tryz.checked os 3 .any (fun w args => (Rows.storeApartSpec.pre enc Tryz.prog Tryz.f3 Rows.storeApartRow.domain false w args ∧ laidMetH Tryz.prog Rows.storeApartRow.laid w) ∧ sizedMet enc Tryz.prog Tryz.f3 (OpenSpec.ofChange Rows.storeApartSpec) false w args) (Rows.storeApartSpec.post enc Tryz.prog Tryz.f3 false true false false) := by
  refine law_liftedT (C := Tryz.checked) (tb := 4) (laid := Rows.storeApartRow.laid) storeApartOwn started (by kernel_rfl) Tryz.func3
    (ChangeSpec.witness_shaped (enc := enc) (C := Tryz.checked) (os := os) (X := fun w _ => laidMetH Tryz.prog Rows.storeApartRow.laid w) false (World.laidAll Tryz.prog os Rows.storeApartRow.laid) #[.int .i64 0, .int .i64 0, .bool false] 8 (World.laidAll_os _ _ _)
      (World.shaped_of_ZipB (by kernel_rfl) (by kernel_rfl)) (by kernel_rfl) (by kernel_rfl) (by kernel_rfl)
      (by rw [MakeChecks.laidMetH_plain _ _ _ (by kernel_rfl)]; exact laidMet_laidAll _ (by kernel_rfl) (by kernel_rfl))) storeApartLaid rfl Tryz.underlying4 rfl ?_ ?_ ?_
  · intro t ht
    have hall : (Tryz.f3.params.toList.all fun t => Tryz.prog.readableRec t && decide (t < Tryz.prog.types.size)) = true := by kernel_rfl
    have h2 := List.all_eq_true.1 hall t ht
    rw [Bool.and_eq_true] at h2
    exact ⟨h2.1, of_decide_eq_true h2.2⟩
  · intro xs hx
    have h3 : xs.length = 3 := hx
    match xs, h3 with
    | [x0, x1, x2], _ => rfl
  · intro W base args ds p hval0 hA0
    have hval : ∀ (j : Nat) t v, Tryz.f3.params[j]? = some t → args[j]? = some v → Value.okWide Tryz.prog W .any base t v := hval0
    have hA : DataW.TrodAll enc Tryz.prog W 0 (fun _ => true) true Tryz.f3.params.toList args.toList ds p := hA0
    rw [Tryz.params3] at hA hval
    obtain ⟨v0, vs0, d0, ds0, p0, q0, hargs, rfl, rfl, h0, r0⟩ := trodAll_cons hA
    obtain ⟨v1, vs1, d1, ds1, p1, q1, rfl, rfl, rfl, h1, r1⟩ := trodAll_cons r0
    obtain ⟨v2, vs2, d2, ds2, p2, q2, rfl, rfl, rfl, h2, r2⟩ := trodAll_cons r1
    obtain ⟨rfl, rfl, rfl⟩ := trodAll_nil r2
    obtain rfl : args = #[v0, v1, v2] := by cases args; simp_all
    obtain ⟨a0, rfl, -, -, hw0⟩ := open_int Tryz.underlying3 (hval 0 3 v0 rfl rfl) h0
    obtain ⟨a1, rfl, -, -, hw1⟩ := open_int Tryz.underlying3 (hval 1 3 v1 rfl rfl) h1
    obtain ⟨a2, rfl, -⟩ := open_bool Tryz.underlying4 (hval 2 4 v2 rfl rfl) h2
    exact (apart_any W a0 a1 a2).mono fun e W' ⟨he, hf⟩ => ⟨he, hf.toBelow⟩

theorem storeApartRow_holds : Rows.StoreApartSaid :=
  OpenClaim.holds_of_wide 3 Tryz.f3 rfl rfl rfl rfl rfl rfl rfl ⟨rfl, rfl, rfl, rfl, rfl⟩ rfl rfl rfl rfl rfl (by kernel_rfl) Tryz.func3 (by kernel_rfl)
    (of_decide_eq_true (by kernel_rfl)) (by unfold Func.isWrapper; first | (rw [if_pos (by decide +kernel)]; kernel_rfl) | (rw [if_neg (by decide +kernel)]; exact ⟨rfl, rfl⟩))
    (fun os started H enc _ => storeApartLifted os started H enc)
theorem storeApartPlain (f : FuncId) (fn : Func) (hf : Tryz.pinned.checked.prog.funcNamed "ligature/ligaturelaw11.StoreApart" = some f) (hfn : Tryz.pinned.checked.prog.funcs[f]? = some fn) :
    false = Tryz.pinned.checked.prog.looks [] ∧ ∀ (j : Nat) t, fn.params[j]? = some t → Tryz.pinned.checked.prog.wantsStandIn t = false := by
  obtain rfl : f = 3 := Option.some.inj ((show Tryz.prog.funcNamed "ligature/ligaturelaw11.StoreApart" = some 3 by kernel_rfl).symm.trans hf) |>.symm
  obtain rfl : fn = Tryz.f3 := (Option.some.inj (Tryz.func3.symm.trans hfn)).symm
  refine ⟨by kernel_rfl, fun j t ht => ?_⟩
  have hm : t ∈ Tryz.f3.params.toList := Array.mem_toList_iff.2 (Array.mem_of_getElem? ht)
  have hall : (Tryz.f3.params.toList.all fun u => !Tryz.prog.wantsStandIn u) = true := by kernel_rfl
  exact (show Tryz.prog.wantsStandIn t = false by simpa using List.all_eq_true.1 hall t hm)
/-- The card. -/
theorem storeApart_holds : Rows.StoreApartCardSaid :=
  Claim7.holds_tied_plain_at .later [] _ _ _ _ storeApartRow_holds (fun _ h => by cases h) (by kernel_rfl) (fun _ h => by cases h) storeApart_row_tie rfl ⟨rfl, rfl⟩ (by kernel_rfl) rfl storeApartPlain (by kernel_rfl)
#print axioms storeApart_holds
end Go.Proofs.YtibfpkfpmkghhaaGreatDoor
