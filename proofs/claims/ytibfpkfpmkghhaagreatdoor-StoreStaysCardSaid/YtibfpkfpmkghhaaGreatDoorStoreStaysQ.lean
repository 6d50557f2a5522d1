/- StoreStays: whatever the input, the law returns true: what a transaction reads stays, whatever others commit meanwhile. Tied to the program text for the tables that it lists. No condition. -/
import Derived.Test.YtibfpkfpmkghhaaGreatDoorK37
import Derived.Test.YtibfpkfpmkghhaaGreatDoorCards
import Derived.Test.YtibfpkfpmkghhaaGreatDoorTie
namespace Go.Proofs.YtibfpkfpmkghhaaGreatDoor
open Go.RowKit Go.Lig Go.ChangeShapes Go.WideShapes Go.ChangeAt

theorem storeStaysOwn : ownKnob Tryz.prog.godebug = none := by kernel_rfl
theorem storeStaysLaid : laidOutB Tryz.prog = true := by kernel_rfl

set_option maxRecDepth 100000 in
theorem storeStaysLifted (os : Os) (started : os.Started) (H : Type) (enc : TypeId × Value → H) :
    ReturnsInHanded {} Tryz.checked os 5 .any (fun w args => (Rows.storeStaysSpec.pre enc Tryz.prog Tryz.f5 Rows.storeStaysRow.domain false w args ∧ laidMetH Tryz.prog Rows.storeStaysRow.laid w) ∧ sizedMet enc Tryz.prog Tryz.f5 (OpenSpec.ofChange Rows.storeStaysSpec) false w args) (Rows.storeStaysSpec.post enc Tryz.prog Tryz.f5 false true false false) := by
  refine law_liftedT (C := Tryz.checked) (tb := 4) (laid := Rows.storeStaysRow.laid) storeStaysOwn started (by kernel_rfl) Tryz.func5
    (ChangeSpec.witness_shaped (enc := enc) (C := Tryz.checked) (os := os) (X := fun w _ => laidMetH Tryz.prog Rows.storeStaysRow.laid w) false (World.laidAll Tryz.prog os Rows.storeStaysRow.laid) #[.int .i64 0, .bool false] 8 (World.laidAll_os _ _ _)
      (World.shaped_of_ZipB (by kernel_rfl) (by kernel_rfl)) (by kernel_rfl) (by kernel_rfl) (by kernel_rfl)
      (by rw [MakeChecks.laidMetH_plain _ _ _ (by kernel_rfl)]; exact laidMet_laidAll _ (by kernel_rfl) (by kernel_rfl))) storeStaysLaid rfl Tryz.underlying4 rfl ?_ ?_ ?_
  · intro t ht
    have hall : (Tryz.f5.params.toList.all fun t => Tryz.prog.readableRec t && decide (t < Tryz.prog.types.size)) = true := by kernel_rfl
    have h2 := List.all_eq_true.1 hall t ht
    rw [Bool.and_eq_true] at h2
    exact ⟨h2.1, of_decide_eq_true h2.2⟩
  · intro xs hx
    have h3 : xs.length = 2 := hx
    match xs, h3 with
    | [x0, x1], _ => rfl
  · intro W base args ds p hval0 hA0
    have hval : ∀ (j : Nat) t v, Tryz.f5.params[j]? = some t → args[j]? = some v → Value.okWide Tryz.prog W .any base t v := hval0
    have hA : DataW.TrodAll enc Tryz.prog W 0 (fun _ => true) true Tryz.f5.params.toList args.toList ds p := hA0
    rw [Tryz.params5] at hA hval
    obtain ⟨v0, vs0, d0, ds0, p0, q0, hargs, rfl, rfl, h0, r0⟩ := trodAll_cons hA
    obtain ⟨v1, vs1, d1, ds1, p1, q1, rfl, rfl, rfl, h1, r1⟩ := trodAll_cons r0
    obtain ⟨rfl, rfl, rfl⟩ := trodAll_nil r1
    obtain rfl : args = #[v0, v1] := by cases args; simp_all
    obtain ⟨a0, rfl, -, -, hw0⟩ := open_int Tryz.underlying3 (hval 0 3 v0 rfl rfl) h0
    obtain ⟨a1, rfl, -⟩ := open_bool Tryz.underlying4 (hval 1 4 v1 rfl rfl) h1
    exact (stays_any W a0 a1).mono fun e W' ⟨he, hf⟩ => ⟨he, hf.toBelow⟩

theorem storeStaysRow_holds : Rows.StoreStaysSaid :=
  OpenClaim.holds_of_wide 5 Tryz.f5 rfl rfl rfl rfl rfl rfl rfl ⟨rfl, rfl, rfl, rfl, rfl⟩ rfl rfl rfl rfl rfl (by kernel_rfl) Tryz.func5 (by kernel_rfl)
    (of_decide_eq_true (by kernel_rfl)) (by unfold Func.isWrapper; first | (rw [if_pos (by decide +kernel)]; kernel_rfl) | (rw [if_neg (by decide +kernel)]; exact ⟨rfl, rfl⟩))
    (fun os started H enc _ => storeStaysLifted os started H enc)
theorem storeStaysPlain (f : FuncId) (fn : Func) (hf : Tryz.pinned.checked.prog.funcNamed "ligature/ligaturelaw11.StoreStays" = some f) (hfn : Tryz.pinned.checked.prog.funcs[f]? = some fn) :
    false = Tryz.pinned.checked.prog.looks [] ∧ ∀ (j : Nat) t, fn.params[j]? = some t → Tryz.pinned.checked.prog.wantsStandIn t = false := by
  obtain rfl : f = 5 := Option.some.inj ((show Tryz.prog.funcNamed "ligature/ligaturelaw11.StoreStays" = some 5 by kernel_rfl).symm.trans hf) |>.symm
  obtain rfl : fn = Tryz.f5 := (Option.some.inj (Tryz.func5.symm.trans hfn)).symm
  refine ⟨by kernel_rfl, fun j t ht => ?_⟩
  have hm : t ∈ Tryz.f5.params.toList := Array.mem_toList_iff.2 (Array.mem_of_getElem? ht)
  have hall : (Tryz.f5.params.toList.all fun u => !Tryz.prog.wantsStandIn u) = true := by kernel_rfl
  exact (show Tryz.prog.wantsStandIn t = false by simpa using List.all_eq_true.1 hall t hm)
/-- The card. -/
theorem storeStays_holds : Rows.StoreStaysCardSaid :=
  Claim7.holds_tied_plain_at .later [] _ _ _ _ storeStaysRow_holds (fun _ h => by cases h) (by kernel_rfl) (fun _ h => by cases h) storeStays_row_tie rfl ⟨rfl, rfl⟩ (by kernel_rfl) rfl storeStaysPlain (by kernel_rfl)
#print axioms storeStays_holds
end Go.Proofs.YtibfpkfpmkghhaaGreatDoor
