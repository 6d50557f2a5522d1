/- Add. -/
import Derived.Test.YtdoapfgcjmkfhaaChA0
namespace Go.Proofs.Ytdoapfgcjmkfhaa
open Go.RowKit Go.Lig

theorem add_nil (w : World) (k x : Int) : Calls Try.prog 10 #[.pointer none, .int .i64 k, .int .i64 x] w fun e w' => e = .returned (.bool false) ∧ w = w' := by
  go_enter Try.func10, Try.ntmps10
  go_wp2
  go_ret
  exact ⟨rfl, rfl⟩
theorem add_there (w : World) (c : Nat) (I : List (Int × Int)) (B : Role → Nat) (ρ : Nat → Option Role) (m : Nat) (h : ChAt w c I B ρ m) (k x : Int) (hk : keyOk k) (hx : keyOk x) (hm : x ∈ ids I k) :
    Calls Try.prog 10 #[.pointer (some ⟨c, 0, none⟩), .int .i64 k, .int .i64 x] w fun e w' => e = .returned (.bool false) ∧ w = w' := by
  have HA := hid (has_any w c I B ρ m h k x hk hx)
  rw [decide_eq_true hm] at HA
  clear h hm
  go_enter Try.func10, Try.ntmps10
  go_wp2_with (go_at_call 21; refine HA.out.mono ?_; rintro e w' ⟨rfl, rfl⟩)
  go_ret
  exact ⟨rfl, rfl⟩
theorem ne_rmap {w : World} {c : Nat} {I : List (Int × Int)} {B : Role → Nat} {ρ : Nat → Option Role} {m : Nat} (h : ChAt w c I B ρ m) : c ≠ B .rmap := by
  intro e
  have h1 := h.rho .root trivial
  have h2 := h.rho .rmap trivial
  rw [h.root, e, h2] at h1
  cases h1
theorem first_done {w w1 w3 w6 : World} {c : Nat} {I : List (Int × Int)} {B : Role → Nat} {ρ : Nat → Option Role} {m : Nat} {k x : Int} (h : ChAt w c I B ρ m) (hn : ids I k = [])
    (f1 : Fr No w w1) (z1 : w1.heap.size = w.heap.size + 1)
    (m3 : MapAt w3 Try.prog 3 (B .rmap) (m + 1) (upd (fun k => if ids I k = [] then .pointer none else .pointer (some ⟨B (.list k), 0, none⟩)) k (.pointer (some ⟨w1.heap.size, 0, none⟩))))
    (f3 : Fr (fun j => j = B .rmap) (w1.alloc (.cells #[.pointer none, .pointer none, .map (some w.heap.size)] 48)) w3)
    (z3 : w3.heap.size = (w1.alloc (.cells #[.pointer none, .pointer none, .map (some w.heap.size)] 48)).heap.size)
    (hl3 : w3.heap[w1.heap.size]? = some (.cells #[.pointer none, .pointer none, .map (some w.heap.size)] 48 (0, 0)))
    (m6 : MapAt w6 Try.prog 3 w.heap.size (0 + 1) (upd (fun _ => .pointer none) x (.pointer (some ⟨w3.heap.size, 0, none⟩))))
    (f6 : Fr (fun j => j = w.heap.size) (((w3.alloc (.cells #[.int .i64 x, .pointer none, .pointer none] 50)).setCell ⟨w1.heap.size, 1, none⟩ (.pointer (some ⟨w3.heap.size, 0, none⟩))).setCell ⟨w1.heap.size, 0, none⟩ (.pointer (some ⟨w3.heap.size, 0, none⟩))) w6)
    (z6 : w6.heap.size = (((w3.alloc (.cells #[.int .i64 x, .pointer none, .pointer none] 50)).setCell ⟨w1.heap.size, 1, none⟩ (.pointer (some ⟨w3.heap.size, 0, none⟩))).setCell ⟨w1.heap.size, 0, none⟩ (.pointer (some ⟨w3.heap.size, 0, none⟩))).heap.size)
    (hc6 : w6.heap[c]? = some (.cells #[.map (some (B .rmap)), .int .i64 (I.length : Int)] 43 (0, 0))) :
    Added w (w6.setCell ⟨c, 1, none⟩ (.int .i64 ((I.length : Int) + 1))) c I B ρ m k x w1.heap.size w.heap.size w3.heap.size ∧
      Fr (fun b => b = B .rmap ∨ b = c) w (w6.setCell ⟨c, 1, none⟩ (.int .i64 ((I.length : Int) + 1))) := by
  have hc := lt_of_block h.croot
  have hr := h.cmap.lt
  have hz3 : w3.heap.size = w.heap.size + 2 := by rw [z3]; simp; omega
  have hz6 : w6.heap.size = w.heap.size + 3 := by rw [z6]; simp [World.setCell]; omega
  have hcr := ne_rmap h
  have e3 : Fr (fun j => j = B .rmap) w w3 := ((f1.mono (fun _ _ e => e.elim)).alloc _).thenS f3
  have e5 := ((e3.alloc (.cells #[.int .i64 x, .pointer none, .pointer none] 50)).setCell (p := ⟨w1.heap.size, 1, none⟩) (.pointer (some ⟨w3.heap.size, 0, none⟩)) (fun hh => by have : w1.heap.size < w.heap.size := hh; omega)).setCell (p := ⟨w1.heap.size, 0, none⟩) (.pointer (some ⟨w3.heap.size, 0, none⟩)) (fun hh => by have : w1.heap.size < w.heap.size := hh; omega)
  have e6 := e5.trans f6 (fun j hj e => by omega)
  have e7 : Fr (fun b => b = B .rmap ∨ b = c) w (w6.setCell ⟨c, 1, none⟩ (.int .i64 ((I.length : Int) + 1))) := (e6.mono (S' := fun b => b = B .rmap ∨ b = c) (fun _ _ e => .inl e)).setCell _ (fun _ => .inr rfl)
  have g5 := (((Fr.refl (fun j => j = w1.heap.size ∨ j = w.heap.size ∨ j = c) w3).alloc (.cells #[.int .i64 x, .pointer none, .pointer none] 50)).setCell (p := ⟨w1.heap.size, 1, none⟩) (.pointer (some ⟨w3.heap.size, 0, none⟩)) (fun _ => .inl rfl)).setCell (p := ⟨w1.heap.size, 0, none⟩) (.pointer (some ⟨w3.heap.size, 0, none⟩)) (fun _ => .inl rfl)
  have g7 := (g5.trans f6 (fun j _ e => .inr (.inl e))).setCell (p := ⟨c, 1, none⟩) (.int .i64 ((I.length : Int) + 1)) (fun _ => .inr (.inr rfl))
  have hlive : ∀ r, Live I r → r ≠ .root → r ≠ .rmap → ¬ (B r = B .rmap ∨ B r = c) ∧ B r < w.heap.size := fun r hr h1 h2 => by
    refine ⟨?_, h.bound _ (by rw [h.rho r hr]; simp)⟩
    rintro (e | e)
    · have := h.rho r hr
      rw [e, h.rho .rmap trivial] at this
      exact h2 (Option.some.inj this).symm
    · have := h.rho r hr
      rw [e, ← h.root, h.rho .root trivial] at this
      exact h1 (Option.some.inj this).symm
  refine ⟨⟨fun e => absurd hn e, fun _ => by omega, by omega, by simp [World.setCell]; omega, ?_, ?_, ?_, ?_, ?_, ?_, ?_, ?_, ?_⟩, e7⟩
  · have := hset (k := 1) (v := .int .i64 ((I.length : Int) + 1)) hc6
    simpa using this
  · exact m3.frame g7 (by rintro (e | e | e) <;> omega)
  · have a1 : (w3.alloc (.cells #[.int .i64 x, .pointer none, .pointer none] 50)).heap[w1.heap.size]? = _ := hold' hl3
    have a2 := hset (k := 0) (v := .pointer (some ⟨w3.heap.size, 0, none⟩)) (hset (k := 1) (v := .pointer (some ⟨w3.heap.size, 0, none⟩)) a1)
    have a3 := f6.keep a2 (by omega)
    rw [hset_ne (by show w1.heap.size ≠ c; omega), a3, if_pos hn]
    rfl
  · have a1 := (m6.frame ((Fr.refl (fun j => j = c) w6).setCell (p := ⟨c, 1, none⟩) (.int .i64 ((I.length : Int) + 1)) (fun _ => rfl)) (by omega)).more (m := m + 1) (by omega)
    have ef : (fun y => if y = x then Value.pointer (some ⟨w3.heap.size, 0, none⟩) else if y ∈ ids I k then .pointer (some ⟨B (.link k y), 0, none⟩) else .pointer none) = upd (fun _ => .pointer none) x (.pointer (some ⟨w3.heap.size, 0, none⟩)) := by
      funext y
      rw [hn]
      simp [upd]
    rw [ef]
    exact a1
  · have a1 := heap1 w3 (.cells #[.int .i64 x, .pointer none, .pointer none] 50)
    have a3 := f6.keep (b := w3.heap.size) ((hset_ne (a := ⟨w1.heap.size, 0, none⟩) (v := .pointer (some ⟨w3.heap.size, 0, none⟩)) (by show w3.heap.size ≠ w1.heap.size; omega)).trans ((hset_ne (a := ⟨w1.heap.size, 1, none⟩) (v := .pointer (some ⟨w3.heap.size, 0, none⟩)) (by show w3.heap.size ≠ w1.heap.size; omega)).trans a1)) (by omega)
    rw [hset_ne (by show w3.heap.size ≠ c; omega), a3, hn]
    rfl
  · intro y hy
    rw [hn] at hy
    cases hy
  · intro j hj hn'
    obtain ⟨h1, h2⟩ := hlive (.list j) hn' (by simp) (by simp)
    exact e7.block _ h2 h1
  · intro j f hj hn' hm'
    obtain ⟨h1, h2⟩ := hlive (.lmap j) hn' (by simp) (by simp)
    exact (hm'.frame e7 h1).more (by omega)
  · intro j y hj hy
    obtain ⟨h1, h2⟩ := hlive (.link j y) hy (by simp) (by simp)
    exact e7.block _ h2 h1
set_option maxRecDepth 100000 in
set_option maxHeartbeats 1000000 in
theorem add_first (w : World) (c : Nat) (I : List (Int × Int)) (B : Role → Nat) (ρ : Nat → Option Role) (m : Nat) (h : ChAt w c I B ρ m) (k x : Int) (hk : keyOk k) (hx : keyOk x) (hn : ids I k = []) (hm : m ≤ 1000000) (hl : I.length ≤ 1000000) :
    Calls Try.prog 10 #[.pointer (some ⟨c, 0, none⟩), .int .i64 k, .int .i64 x] w fun e w' => e = .returned (.bool true) ∧ ∃ B' ρ', ChAt w' c ((k, x) :: I) B' ρ' (m + 1) ∧ Fr (fun b => ρ b ≠ none) w w' ∧ ∀ b, ρ' b ≠ none → ρ b ≠ none ∨ w.heap.size ≤ b := by
  have HA := hid (has_any w c I B ρ m h k x hk hx)
  rw [show decide (x ∈ ids I k) = false by rw [hn]; rfl] at HA
  obtain ⟨c0, c1⟩ := cells2 h.croot
  have HN := hid hn
  have HE : Hid ((if ids I k = [] then Value.pointer none else .pointer (some ⟨B (.list k), 0, none⟩)) = .pointer none) := hid (if_pos hn)
  have H := hid (⟨h, hk, hx⟩ : _ ∧ keyOk k ∧ keyOk x)
  clear h hk hx hn c1
  go_enter Try.func10, Try.ntmps10
  go_wp2_with (first | (go_at_call 21; refine HA.out.mono ?_; rintro e w' ⟨rfl, rfl⟩) | (refine wpList_look (k := 3) (e := 44) rfl (.tmp 20) (.tmp 21) 41 rfl Try.underlying3 Try.underlying41 (zero_list _) rfl H.out.1.cmap k rfl H.out.2.1 (.pointer none) HE.out ?_) | (refine wpList_mmake (k := 3) rfl 45 rfl ?_; intro w1 m1 f1 z1; have M1 := hid (⟨m1, f1, z1⟩ : _ ∧ _ ∧ _); have q1 := (cells2 (hold' (o := .cells #[.pointer none, .pointer none, .map (some w.heap.size)] 48) (f1.keep H.out.1.croot (fun e => e)))).1; clear m1 f1 z1) | (refine wpList_mstore (k := 3) (e := 44) rfl (.tmp 31) (.tmp 32) (.tmp 33) 41 rfl Try.underlying3 Try.underlying41 rfl (H.out.1.cmap.frame (M1.out.2.1.alloc _) (fun e => e)) (by unfold maxLen; omega) k rfl H.out.2.1 (.pointer (some ⟨w1.heap.size, 0, none⟩)) rfl ?_; intro w3 m3 f3 z3; have hne : w1.heap.size ≠ B .rmap := (fun e => by have := H.out.1.cmap.lt; have := M1.out.2.2; omega); have hl3 : w3.heap[w1.heap.size]? = _ := f3.keep (heap1 w1 _) hne; have q3 := cells3 (hold' (o := .cells #[.int .i64 x, .pointer none, .pointer none] 50) hl3); have z3f := freeAll (hold' (o := .cells #[.int .i64 x, .pointer none, .pointer none] 50) hl3); have M3 := hid (⟨m3, f3, z3, hl3⟩ : _ ∧ _ ∧ _ ∧ _); have hw4 : ∀ v1 v2, MapAt (((w3.alloc (.cells #[.int .i64 x, .pointer none, .pointer none] 50)).setCell ⟨w1.heap.size, 1, none⟩ v1).setCell ⟨w1.heap.size, 0, none⟩ v2) Try.prog 3 w.heap.size 0 (fun _ => .pointer none) ∧ (((w3.alloc (.cells #[.int .i64 x, .pointer none, .pointer none] 50)).setCell ⟨w1.heap.size, 1, none⟩ v1).setCell ⟨w1.heap.size, 0, none⟩ v2).heap[c]? = some (.cells #[.map (some (B .rmap)), .int .i64 (I.length : Int)] 43 (0, 0)) := (fun v1 v2 => ⟨(((M1.out.1.frame ((Fr.refl No w1).alloc _) id).frame f3 (fun e => by have := H.out.1.cmap.lt; omega)).frame ((Fr.refl No w3).alloc _) id).frame (((Fr.refl (fun j => j = w1.heap.size) _).setCell (p := ⟨w1.heap.size, 1, none⟩) v1 (fun _ => rfl)).setCell (p := ⟨w1.heap.size, 0, none⟩) v2 (fun _ => rfl)) (fun e => by have := M1.out.2.2; omega), (((Fr.refl (fun j => j = w1.heap.size) _).setCell (p := ⟨w1.heap.size, 1, none⟩) v1 (fun _ => rfl)).setCell (p := ⟨w1.heap.size, 0, none⟩) v2 (fun _ => rfl)).keep (hold' (f3.keep (hold' (M1.out.2.1.keep H.out.1.croot id)) (ne_rmap H.out.1))) (fun e => by have := lt_of_block H.out.1.croot; have := M1.out.2.2; omega)⟩); have HW := hid hw4; clear hw4; have q30 := (cells3 hl3).1; obtain ⟨q31, q32, q33⟩ := q3; clear m3 f3 z3 hne hl3) | (refine wpList_mentry (k := 3) (e := 46) rfl (.tmp 61) (.tmp 62) 45 rfl Try.underlying3 Try.underlying45 zero_link rfl (HW.out _ _).1 (by unfold maxLen; omega) x rfl H.out.2.2 (.pointer (some ⟨w3.heap.size, 0, none⟩)) ?_; intro v0 st w5 e5; obtain ⟨w6, r6, m6, f6, z6⟩ := e5; have hc6 := f6.keep (HW.out _ _).2 (fun e => by have := lt_of_block H.out.1.croot; omega); have q6 := (cells2 hc6).2; have z6f := freeAll hc6; have M6 := hid (⟨m6, f6, z6, hc6⟩ : _ ∧ _ ∧ _ ∧ _); have R6 := hid r6; clear m6 f6 z6 hc6 r6) | (refine wpList_mentryStore rfl (.tmp 61) (.tmp 68) (.tmp 64) 45 rfl _ _ _ rfl rfl rfl R6.out ?_))
  go_ret
  obtain ⟨m1, f1, z1⟩ := M1.out
  obtain ⟨m3, f3, z3, hl3⟩ := M3.out
  obtain ⟨m6, f6, z6, hc6⟩ := M6.out
  obtain ⟨h, hk, hx⟩ := H.out
  have hn := HN.out
  obtain ⟨a, hf⟩ := first_done h hn f1 z1 m3 f3 z3 hl3 m6 f6 z6 hc6
  refine ⟨rfl, _, _, a.done h (by rw [hn]; simp), hf.mono (fun b hb e => ?_), fun b hb => ?_⟩
  · rcases e with rfl | rfl
    · rw [h.rho .rmap trivial]; simp
    · rw [← h.root, h.rho .root trivial]; simp
  · by_cases h0 : ρ b = none
    · right
      unfold newR at hb
      have hfr := a.fresh
      have hnw := a.new hn
      split at hb
      · omega
      · split at hb
        · omega
        · split at hb
          · omega
          · exact absurd h0 hb
    · exact .inl h0
end Go.Proofs.Ytdoapfgcjmkfhaa
