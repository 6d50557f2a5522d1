/- The walks of package drum, first part. -/
import Derived.Test.YtggahnipmlihlaaDrumM
namespace Go.Proofs.Ytggahnipmlihlaa
open Go.RowKit Go.Lig

theorem info57 : (Try.prog.info? 57).map (fun i => (i.zero, i.size, i.bytes)) = some (some (.agg (Array.replicate 64 (.int .u8 0))), 64, 64) := by kernel_rfl

theorem made64 (n : Nat) : madeCells (Value.agg (Array.replicate 64 (.int .u8 0))).cells (n * 64) = (bs (fun _ => 0) (64 * n)).toArray := by
  apply Array.ext
  · simp [madeCells, bs, Nat.mul_comm]
  · intro i h1 h2
    simp only [madeCells, bs, Value.cells, Array.getElem_map, Array.getElem_range, Array.size_replicate, List.getElem_toArray, List.getElem_map]
    rw [getElem!_pos _ _ (by simp; omega)]
    simp [u8v]

theorem make_secs (z : Int) (h1 : 0 ≤ z) (h2 : z ≤ 200) (w : World) : (Instr.makeSlice 52 (.int .i64 z) (.int .i64 z)).run Try.prog w = .ok (.slice (some ⟨w.heap.size, 0, none⟩) z.toNat z.toNat) (w.alloc (.cells (bs (fun _ => 0) (64 * z.toNat)).toArray 57)) := by
  obtain ⟨i0, hi, hz0, hz1, hz2⟩ := info_parts info57
  obtain ⟨n, rfl⟩ := Int.eq_ofNat_of_zero_le h1
  rw [← made64]
  exact run_make_n 52 57 i0 _ 64 Try.underlying52 hi hz0 hz1 .i64 .i64 n (by rw [hz2]; omega) (by omega) w

theorem new_lies (w : World) (n b bg bn : Nat) (w' : World) (hn : n ≤ 200) (hb : w.heap.size ≤ b) (hg : w.heap.size ≤ bg) (hnn : w.heap.size ≤ bn) (e1 : b ≠ bg) (e2 : b ≠ bn) (e3 : bg ≠ bn)
    (h0 : w'.heap[b]? = some (.cells #[.slice (some ⟨bg, 0, none⟩) n n, .slice (some ⟨bn, 0, none⟩) n n, .slice none 0 0, .bool false, .int .i64 (-1)] 55 (0, 0)))
    (h1 : w'.heap[bg]? = some (.cells (bs (fun _ => 0) (64 * n)).toArray 57 (0, 0))) (h2 : w'.heap[bn]? = some (.cells (bs (fun _ => 0) (64 * n)).toArray 57 (0, 0))) :
    DrumAt w' (Gr No w w') b (Dr.new n) :=
  ⟨hn, by simp [Dr.new], by simp [Dr.new], by simp [Dr.new], fun k hk => by rcases hk with hk | hk; exact hk.elim; exact hk.2, .inr ⟨hb, lt_of_block h0⟩,
    bg, bn, .slice none 0 0, h0, h1, h2, World.ownsRow_nil _ _ _ _, .inr ⟨hg, lt_of_block h1⟩, .inr ⟨hnn, lt_of_block h2⟩, fun k hk => by simp [Value.ownBlock] at hk, e1, e2, e3⟩

set_option maxHeartbeats 400000 in
theorem new_mid (w : World) (n : Int) (h1 : 0 ≤ n) (h2 : n ≤ 200) : Calls Try.prog 11 #[.int .i64 n] w fun e w' => ∃ b, e = .returned (.pointer (some ⟨b, 0, none⟩)) ∧ DrumAt w' (Gr No w w') b (Dr.new (n.toNat)) ∧ Fr No w w' := by
  obtain ⟨Z, hZ⟩ : ∃ Z, Z = (bs (fun _ => 0) (64 * (n.toNat))).toArray := ⟨_, rfl⟩
  have HZ := hid hZ
  have hmk : ∀ w, (Instr.makeSlice 52 (.int .i64 n) (.int .i64 n)).run Try.prog w = .ok (.slice (some ⟨w.heap.size, 0, none⟩) (n.toNat) (n.toNat)) (w.alloc (.cells Z 57)) := by
    intro w
    rw [make_secs n (by omega) (by omega) w, hZ]
    try rfl
  clear hZ
  go_enter Try.func11, Try.ntmps11
  go_wp2
  go_region
  all_goals (go_wp2; go_ret)
  · refine ⟨w.heap.size + 1 + 1, rfl, new_lies w (n.toNat) _ w.heap.size (w.heap.size + 1) _ (by omega) (by omega) (by omega) (by omega) (by omega) (by omega) (by omega) ?_ ?_ ?_, (((Fr.refl No w).alloc _).alloc _).alloc _ |>.drew⟩
    · exact (heap3 w _ _ _).2.2
    · rw [← HZ.out]; exact (heap3 w _ _ _).1
    · rw [← HZ.out]; exact (heap3 w _ _ _).2.1
  · refine ⟨w.heap.size + 1 + 1, rfl, new_lies w (n.toNat) _ (w.heap.size + 1) w.heap.size _ (by omega) (by omega) (by omega) (by omega) (by omega) (by omega) (by omega) ?_ ?_ ?_, (((Fr.refl No w).alloc _).alloc _).alloc _ |>.drew⟩
    · exact (heap3 w _ _ _).2.2
    · rw [← HZ.out]; exact (heap3 w _ _ _).2.1
    · rw [← HZ.out]; exact (heap3 w _ _ _).1

set_option maxHeartbeats 400000 in
theorem new_low (w : World) (n : Int) (h1 : n < 0) : Calls Try.prog 11 #[.int .i64 n] w fun e w' => ∃ b, e = .returned (.pointer (some ⟨b, 0, none⟩)) ∧ DrumAt w' (Gr No w w') b (Dr.new (0)) ∧ Fr No w w' := by
  obtain ⟨Z, hZ⟩ : ∃ Z, Z = (bs (fun _ => 0) (64 * (0))).toArray := ⟨_, rfl⟩
  have HZ := hid hZ
  have hmk : ∀ w, (Instr.makeSlice 52 (.int .i64 0) (.int .i64 0)).run Try.prog w = .ok (.slice (some ⟨w.heap.size, 0, none⟩) (0) (0)) (w.alloc (.cells Z 57)) := by
    intro w
    rw [make_secs 0 (by omega) (by omega) w, hZ]
    try rfl
  clear hZ
  go_enter Try.func11, Try.ntmps11
  go_wp2
  go_region
  all_goals (go_wp2; go_ret)
  · refine ⟨w.heap.size + 1 + 1, rfl, new_lies w (0) _ w.heap.size (w.heap.size + 1) _ (by omega) (by omega) (by omega) (by omega) (by omega) (by omega) (by omega) ?_ ?_ ?_, (((Fr.refl No w).alloc _).alloc _).alloc _ |>.drew⟩
    · exact (heap3 w _ _ _).2.2
    · rw [← HZ.out]; exact (heap3 w _ _ _).1
    · rw [← HZ.out]; exact (heap3 w _ _ _).2.1
  · refine ⟨w.heap.size + 1 + 1, rfl, new_lies w (0) _ (w.heap.size + 1) w.heap.size _ (by omega) (by omega) (by omega) (by omega) (by omega) (by omega) (by omega) ?_ ?_ ?_, (((Fr.refl No w).alloc _).alloc _).alloc _ |>.drew⟩
    · exact (heap3 w _ _ _).2.2
    · rw [← HZ.out]; exact (heap3 w _ _ _).2.1
    · rw [← HZ.out]; exact (heap3 w _ _ _).1

set_option maxHeartbeats 400000 in
theorem new_high (w : World) (n : Int) (h1 : 200 < n) : Calls Try.prog 11 #[.int .i64 n] w fun e w' => ∃ b, e = .returned (.pointer (some ⟨b, 0, none⟩)) ∧ DrumAt w' (Gr No w w') b (Dr.new (200)) ∧ Fr No w w' := by
  obtain ⟨Z, hZ⟩ : ∃ Z, Z = (bs (fun _ => 0) (64 * (200))).toArray := ⟨_, rfl⟩
  have HZ := hid hZ
  have hmk : ∀ w, (Instr.makeSlice 52 (.int .i64 200) (.int .i64 200)).run Try.prog w = .ok (.slice (some ⟨w.heap.size, 0, none⟩) (200) (200)) (w.alloc (.cells Z 57)) := by
    intro w
    rw [make_secs 200 (by omega) (by omega) w, hZ]
    try rfl
  clear hZ
  go_enter Try.func11, Try.ntmps11
  go_wp2
  go_region
  all_goals (go_wp2; go_ret)
  · refine ⟨w.heap.size + 1 + 1, rfl, new_lies w (200) _ w.heap.size (w.heap.size + 1) _ (by omega) (by omega) (by omega) (by omega) (by omega) (by omega) (by omega) ?_ ?_ ?_, (((Fr.refl No w).alloc _).alloc _).alloc _ |>.drew⟩
    · exact (heap3 w _ _ _).2.2
    · rw [← HZ.out]; exact (heap3 w _ _ _).1
    · rw [← HZ.out]; exact (heap3 w _ _ _).2.1
  · refine ⟨w.heap.size + 1 + 1, rfl, new_lies w (200) _ (w.heap.size + 1) w.heap.size _ (by omega) (by omega) (by omega) (by omega) (by omega) (by omega) (by omega) ?_ ?_ ?_, (((Fr.refl No w).alloc _).alloc _).alloc _ |>.drew⟩
    · exact (heap3 w _ _ _).2.2
    · rw [← HZ.out]; exact (heap3 w _ _ _).2.1
    · rw [← HZ.out]; exact (heap3 w _ _ _).1

theorem new_any (w : World) (n : Int) : Calls Try.prog 11 #[.int .i64 n] w fun e w' => ∃ b, e = .returned (.pointer (some ⟨b, 0, none⟩)) ∧ DrumAt w' (Gr No w w') b (Dr.new (clampN n)) ∧ Fr No w w' := by
  rcases Int.lt_or_le n 0 with h | h
  · rw [show clampN n = 0 by unfold clampN; omega]
    exact new_low w n h
  · rcases Int.lt_or_le 200 n with h' | h'
    · rw [show clampN n = 200 by unfold clampN; omega]
      exact new_high w n h'
    · rw [show clampN n = n.toNat by unfold clampN; omega]
      exact new_mid w n h h'
end Go.Proofs.Ytggahnipmlihlaa
