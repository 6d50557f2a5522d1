/- AuditLeast: whatever the input, the law returns true: each node counts one, and its labels and properties, each edge three. Tied to the program text for the tables that it lists. No condition. -/
import Derived.Test.YthadcdoepoglkaaGreatDoorJ53
import Derived.Test.YthadcdoepoglkaaGreatDoorJ02
import Derived.Test.YthadcdoepoglkaaGreatDoorCards
import Derived.Test.YthadcdoepoglkaaGreatDoorTie
namespace Go.Proofs.YthadcdoepoglkaaGreatDoor
open Go.RowKit Go.Lig Go.ChangeShapes Go.WideShapes Go.ChangeAt

theorem auditLeastOwn : ownKnob Tryz.prog.godebug = none := by kernel_rfl
theorem auditLeastLaid : laidOutB Tryz.prog = true := by kernel_rfl

set_option maxRecDepth 100000 in
theorem auditLeastLifted (os : Os) (started : os.Started) (H : Type) (enc : TypeId × Value → H) :
    ReturnsInHanded {} Tryz.checked os 3 .any (fun w args => (Rows.auditLeastSpec.pre enc Tryz.prog Tryz.f3 Rows.auditLeastRow.domain false w args ∧ laidMetH Tryz.prog Rows.auditLeastRow.laid w) ∧ sizedMet enc Tryz.prog Tryz.f3 (OpenSpec.ofChange Rows.auditLeastSpec) false w args) (Rows.auditLeastSpec.post enc Tryz.prog Tryz.f3 false true false false) := by
  refine law_liftedU (C := Tryz.checked) (tb := 4) (laid := Rows.auditLeastRow.laid) auditLeastOwn started (by kernel_rfl) Tryz.func3
    (ChangeSpec.witness_shaped (enc := enc) (C := Tryz.checked) (os := os) (X := fun w _ => laidMetH Tryz.prog Rows.auditLeastRow.laid w) false (World.laidAll Tryz.prog os Rows.auditLeastRow.laid) #[.slice none 0 0, .slice none 0 0] 8 (World.laidAll_os _ _ _)
      (World.shaped_of_ZipB (by kernel_rfl) (by kernel_rfl)) (by kernel_rfl) (by kernel_rfl) (by kernel_rfl)
      (by rw [MakeChecks.laidMetH_plain _ _ _ (by kernel_rfl)]; exact laidMet_laidAll _ (by kernel_rfl) (by kernel_rfl))) auditLeastLaid rfl Tryz.underlying4 rfl ?_ ?_ ?_
  · intro t ht
    have hall : (Tryz.f3.params.toList.all fun t => Tryz.prog.readableRec t && decide (t < Tryz.prog.types.size)) = true := by kernel_rfl
    have h2 := List.all_eq_true.1 hall t ht
    rw [Bool.and_eq_true] at h2
    exact ⟨h2.1, of_decide_eq_true h2.2⟩
  · intro xs hx
    have h3 : xs.length = 2 := hx
    match xs, h3 with
    | [x0, x1], _ => rfl
  · intro W base args ds gs p hval0 hA0 hsz
    have hval : ∀ (j : Nat) t v, Tryz.f3.params[j]? = some t → args[j]? = some v → Value.okWide Tryz.prog W .any base t v := hval0
    have hA : DataW.TrodAll enc Tryz.prog W 0 (fun _ => true) true Tryz.f3.params.toList args.toList ds p := hA0
    rw [Tryz.params3] at hA hval
    obtain ⟨v0, vs0, d0, ds0, p0, q0, hargs, rfl, rfl, h0, r0⟩ := trodAll_cons hA
    obtain ⟨v1, vs1, d1, ds1, p1, q1, rfl, rfl, rfl, h1, r1⟩ := trodAll_cons r0
    obtain ⟨rfl, rfl, rfl⟩ := trodAll_nil r1
    obtain rfl : args = #[v0, v1] := by cases args; simp_all
    have hrch0 := reach_of (P := Tryz.prog) (j := 0) (t := 22) hsz (by rw [Tryz.params3]; rfl) rfl
    have hcell0 := cells_of_wide Tryz.underlying22 (hval 0 22 v0 rfl rfl)
    obtain ⟨n0, hn0⟩ := h0
    rw [hcell0] at hn0
    obtain ⟨a0, hr0⟩ := u_nodes (enc := enc) hn0 hrch0
    have hrch1 := reach_of (P := Tryz.prog) (j := 1) (t := 23) hsz (by rw [Tryz.params3]; rfl) rfl
    have hcell1 := cells_of_wide Tryz.underlying23 (hval 1 23 v1 rfl rfl)
    obtain ⟨n1, hn1⟩ := h1
    rw [hcell1] at hn1
    obtain ⟨a1, hr1⟩ := u_edges (enc := enc) hn1 hrch1
    exact (auditleast_any W v0 v1 a0 a1 hr0 hr1).mono fun e W' ⟨he, hf⟩ => ⟨he, hf.toBelow⟩

theorem auditLeastRow_holds : Rows.AuditLeastSaid :=
  OpenClaim.holds_of_wide 3 Tryz.f3 rfl rfl rfl rfl rfl rfl rfl ⟨rfl, rfl, rfl, rfl, rfl⟩ rfl rfl rfl rfl rfl (by kernel_rfl) Tryz.func3 (by kernel_rfl)
    (of_decide_eq_true (by kernel_rfl)) (by unfold Func.isWrapper; first | (rw [if_pos (by decide +kernel)]; kernel_rfl) | (rw [if_neg (by decide +kernel)]; exact ⟨rfl, rfl⟩))
    (fun os started H enc _ => auditLeastLifted os started H enc)
theorem auditLeastPlain (f : FuncId) (fn : Func) (hf : Tryz.pinned.checked.prog.funcNamed "ligature/ligaturelaw16.AuditLeast" = some f) (hfn : Tryz.pinned.checked.prog.funcs[f]? = some fn) :
    false = Tryz.pinned.checked.prog.looks [] ∧ ∀ (j : Nat) t, fn.params[j]? = some t → Tryz.pinned.checked.prog.wantsStandIn t = false := by
  obtain rfl : f = 3 := Option.some.inj ((show Tryz.prog.funcNamed "ligature/ligaturelaw16.AuditLeast" = some 3 by kernel_rfl).symm.trans hf) |>.symm
  obtain rfl : fn = Tryz.f3 := (Option.some.inj (Tryz.func3.symm.trans hfn)).symm
  refine ⟨by kernel_rfl, fun j t ht => ?_⟩
  have hm : t ∈ Tryz.f3.params.toList := Array.mem_toList_iff.2 (Array.mem_of_getElem? ht)
  have hall : (Tryz.f3.params.toList.all fun u => !Tryz.prog.wantsStandIn u) = true := by kernel_rfl
  exact (show Tryz.prog.wantsStandIn t = false by simpa using List.all_eq_true.1 hall t hm)
/-- The card. -/
theorem auditLeast_holds : Rows.AuditLeastCardSaid :=
  Claim7.holds_tied_plain_at .later [] _ _ _ _ auditLeastRow_holds (fun _ h => by cases h) (by kernel_rfl) (fun _ h => by cases h) auditLeast_row_tie rfl ⟨rfl, rfl⟩ (by kernel_rfl) rfl auditLeastPlain (by kernel_rfl)
#print axioms auditLeast_holds
end Go.Proofs.YthadcdoepoglkaaGreatDoor

