/- AuditNone: the walk. -/
import Derived.Test.YtbnbojidnlnccaaGreatAuO
namespace Go.Proofs.YtbnbojidnlnccaaGreat
open Go.RowKit Go.Lig

theorem joined_nil (w : World) (t : Int) : Calls Tryz.prog 4 #[.pointer none, .int .i64 t] w fun e w' => e = .returned (.bool false) ∧ w = w' := by
  go_enter Tryz.func4, Tryz.ntmps4
  go_wp2
  go_ret
  exact ⟨rfl, rfl⟩
theorem indexed_nil (w : World) (t : Int) : Calls Tryz.prog 5 #[.pointer none, .int .i64 t] w fun e w' => e = .returned (.bool false) ∧ w = w' := by
  go_enter Tryz.func5, Tryz.ntmps5
  go_wp2
  go_ret
  exact ⟨rfl, rfl⟩
set_option maxHeartbeats 1000000 in
theorem known_any (w : World) : Calls Tryz.prog 8 #[] w fun e w' => e = .returned (.bool true) ∧ Fr No w w' := by
  go_enter Tryz.func8, Tryz.ntmps8
  go_wp2_with fail
  refine (emp_new _).mono ?_
  rintro e w1 ⟨s, rfl, h1, f1⟩
  have HE := hid h1
  have H1 := hid f1
  clear h1 f1
  go_wp2_with fail
  refine (least_emp _ s HE.out).mono ?_
  rintro e w2 ⟨rfl, f2⟩
  have H2 := hid f2
  clear f2
  go_wp2_with fail
  refine (clean_emp _ s (HE.out.frame H2.out)).mono ?_
  rintro e w3 ⟨rfl, f3⟩
  have H3 := hid ((H1.out.thenNo H2.out).thenNo f3)
  clear f3
  go_wp2_with fail
  refine (least_nil _).mono ?_
  rintro e w4 ⟨rfl, f4⟩
  have H4 := hid (H3.out.thenNo f4)
  clear f4
  go_wp2_with fail
  refine (clean_nil _).mono ?_
  rintro e w5 ⟨rfl, f5⟩
  have H5 := hid (H4.out.thenNo f5)
  clear f5
  go_wp2
  go_ret
  exact ⟨rfl, H5.out⟩
set_option maxHeartbeats 1000000 in
theorem none_any (w : World) (t : Int) : Calls Tryz.prog 3 #[.int .i64 t] w fun e w' => e = .returned (.bool true) ∧ Fr No w w' := by
  go_enter Tryz.func3, Tryz.ntmps3
  go_wp2_with fail
  refine (joined_nil _ t).mono ?_
  rintro e w1 ⟨rfl, rfl⟩
  go_wp2_with fail
  refine (indexed_nil _ t).mono ?_
  rintro e w1 ⟨rfl, rfl⟩
  go_wp2_with fail
  refine (least_nil _).mono ?_
  rintro e w2 ⟨rfl, f2⟩
  have H2 := hid f2
  clear f2
  go_wp2_with fail
  refine (clean_nil _).mono ?_
  rintro e w3 ⟨rfl, f3⟩
  have H3 := hid (H2.out.thenNo f3)
  clear f3
  go_wp2_with fail
  refine (known_any _).mono ?_
  rintro e w4 ⟨rfl, f4⟩
  have H4 := hid (H3.out.thenNo f4)
  clear f4
  go_wp2
  go_ret
  exact ⟨rfl, H4.out⟩
end Go.Proofs.YtbnbojidnlnccaaGreat
