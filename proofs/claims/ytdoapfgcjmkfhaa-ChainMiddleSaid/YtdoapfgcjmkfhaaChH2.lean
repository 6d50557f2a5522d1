/- ChainMiddle: every input. -/
import Derived.Test.YtdoapfgcjmkfhaaChH
namespace Go.Proofs.Ytdoapfgcjmkfhaa
open Go.RowKit Go.Lig

theorem middle_out (W : World) (n k : Int) (h : n < 1 ∨ 50 < n ∨ k < 0 ∨ n ≤ k) :
    Calls Try.prog 3 #[.int .i64 n, .int .i64 k] W fun e w' => e = .returned (.bool true) ∧ W = w' := by
  by_cases h1 : n < 1
  · clear h
    go_enter Try.func3, Try.ntmps3
    go_wp2
    go_ret
    exact ⟨rfl, rfl⟩
  by_cases h2 : 50 < n
  · clear h
    go_enter Try.func3, Try.ntmps3
    go_wp2
    go_ret
    exact ⟨rfl, rfl⟩
  by_cases h3 : k < 0
  · clear h
    go_enter Try.func3, Try.ntmps3
    go_wp2
    go_ret
    exact ⟨rfl, rfl⟩
  have h4 : n ≤ k := by omega
  clear h
  go_enter Try.func3, Try.ntmps3
  go_wp2
  go_ret
  exact ⟨rfl, rfl⟩
theorem middle_any (W : World) (n k : Int) :
    Calls Try.prog 3 #[.int .i64 n, .int .i64 k] W fun e w' => e = .returned (.bool true) ∧ Fr No W w' := by
  by_cases h : n < 1 ∨ 50 < n ∨ k < 0 ∨ n ≤ k
  · exact (middle_out W n k h).mono fun e w' ⟨h1, h2⟩ => ⟨h1, h2 ▸ Fr.refl _ _⟩
  · obtain ⟨n', rfl⟩ := Int.eq_ofNat_of_zero_le (show 0 ≤ n by omega)
    obtain ⟨k', rfl⟩ := Int.eq_ofNat_of_zero_le (show 0 ≤ k by omega)
    exact middle_in W n' k' (by omega) (by omega) (by omega)
end Go.Proofs.Ytdoapfgcjmkfhaa
