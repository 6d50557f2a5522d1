/- A part of the proof: contracts of functions of the program, for the row's text. -/
import Derived.Test.YtibfpkfpmkghhaaGreatDoorK34
namespace Go.Proofs.YtibfpkfpmkghhaaGreatDoor
open Go.RowKit Go.Lig

theorem apart_any (w : World) (a b : Int) (c : Bool) : Calls Tryz.prog 3 #[.int .i64 a, .int .i64 b, .bool c] w fun e w' => e = .returned (.bool true) ∧ Fr No w w' := by
  by_cases h1 : a < 1
  · go_enter Tryz.func3, Tryz.ntmps3
    go_wp2_with fail
    go_ret
    exact ⟨rfl, Fr.refl _ _⟩
  by_cases h2 : 2 < a
  · go_enter Tryz.func3, Tryz.ntmps3
    go_wp2_with fail
    go_ret
    exact ⟨rfl, Fr.refl _ _⟩
  by_cases h3 : b < 1
  · go_enter Tryz.func3, Tryz.ntmps3
    go_wp2_with fail
    go_ret
    exact ⟨rfl, Fr.refl _ _⟩
  by_cases h4 : 2 < b
  · go_enter Tryz.func3, Tryz.ntmps3
    go_wp2_with fail
    go_ret
    exact ⟨rfl, Fr.refl _ _⟩
  have ha : a = 1 ∨ a = 2 := by omega
  have hb : b = 1 ∨ b = 2 := by omega
  rcases ha with rfl | rfl <;> rcases hb with rfl | rfl
  · exact apart_11 w c
  · exact apart_12 w c
  · exact apart_21 w c
  · exact apart_22 w c
end Go.Proofs.YtibfpkfpmkghhaaGreatDoor
