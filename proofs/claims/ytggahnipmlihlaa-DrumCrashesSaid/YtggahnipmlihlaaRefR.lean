/- The drum and the reference's drum are alike: the plain law. -/
import Derived.Test.YtggahnipmlihlaaRefQ
namespace Go.Proofs.Ytggahnipmlihlaa
open Go.RowKit Go.Lig

structure Sim (D : Dr) (R : RDr) : Prop where
  len : R.S.length = D.n
  olen : R.old.length = D.n
  now : ∀ i, i < D.n → R.S[i]? = some (secL D.now i)
  good : ∀ i, i < D.n → R.old[i]? = some (secL D.good i)
  wait : R.wait = D.wait.map fun x => (x.i, (List.range 64).map x.p)
  lt : ∀ x ∈ D.wait, x.i < D.n
  dead : D.dead = R.dead
  left : D.dead = false → D.fuse = R.left

theorem padL_pad (l : List UInt8) (h : l.length ≤ 64) : (List.range 64).map (pad l) = padL l := by
  apply List.ext_getElem?
  intro j
  simp only [padL, pad, List.getElem?_map, List.getElem?_append, List.getElem?_replicate]
  by_cases hj : j < 64
  · rw [List.getElem?_range hj]
    by_cases hl : j < l.length
    · rw [if_pos hl]
      simp [pad, hl]
    · rw [if_neg hl, if_pos (by omega)]
      simp [pad, List.getElem?_eq_none (Nat.le_of_not_lt hl)]
  · rw [List.getElem?_eq_none (by simp; omega), if_neg (by omega), if_neg (by omega)]
    rfl
theorem secL_lay (f : Nat → UInt8) (i : Nat) (p : Nat → UInt8) (j : Nat) : secL (lay f i p) j = if j = i then (List.range 64).map p else secL f j := by
  split
  · rename_i h
    subst h
    apply List.map_congr_left
    intro k hk
    have hk' := List.mem_range.1 hk
    simp only [lay]
    rw [if_pos (by omega)]
    congr 1
    omega
  · rename_i h
    apply List.map_congr_left
    intro k hk
    have hk' := List.mem_range.1 hk
    simp only [lay]
    rw [if_neg (by omega)]
theorem secL_zero (i : Nat) : secL (fun _ => 0) i = padL [] := by simp [secL, padL, List.map_const']
theorem set_lay {f : Nat → UInt8} {n i : Nat} {l : List (List UInt8)} (hl : l.length = n) (h : ∀ j, j < n → l[j]? = some (secL f j)) (p : Nat → UInt8) (x : List UInt8) (hx : x = (List.range 64).map p) :
    ∀ j, j < n → (l.set i x)[j]? = some (secL (lay f i p) j) := by
  intro j hj
  rw [secL_lay, List.getElem?_set, hx]
  by_cases e : i = j
  · subst e
    rw [if_pos rfl, if_pos (by omega), if_pos rfl]
  · rw [if_neg e, if_neg (fun e' => e e'.symm), h j hj]
theorem Sim.new (n : Int) (hn : n ≤ 200) : Sim (Dr.new (clampN n)) (RDr.new n.toNat) := by
  have hc : clampN n = n.toNat := by unfold clampN; omega
  rw [hc]
  refine ⟨by simp [RDr.new, Dr.new], by simp [RDr.new, Dr.new], fun i hi => ?_, fun i hi => ?_, rfl, fun x hx => by simp [Dr.new] at hx, rfl, fun _ => rfl⟩
  · have hi' : i < n.toNat := hi
    simp only [RDr.new, Dr.new]
    rw [List.getElem?_replicate, if_pos hi', secL_zero]
  · have hi' : i < n.toNat := hi
    simp only [RDr.new, Dr.new]
    rw [List.getElem?_replicate, if_pos hi', secL_zero]
theorem Sim.alive {D : Dr} {R : RDr} (h : Sim D R) : D.alive = !R.tick.dead := by
  simp only [Dr.alive, RDr.tick]
  cases hd : D.dead
  · have h1 := h.left hd
    have h2 := h.dead
    rw [hd] at h2
    rw [h1, ← h2]
    simp
  · have h2 := h.dead
    rw [hd] at h2
    rw [← h2]
    simp
theorem Sim.tick {D : Dr} {R : RDr} (h : Sim D R) (hlo : -1 ≤ D.fuse) : Sim D.tick R.tick := by
  cases hd : D.dead
  · have h1 := h.left hd
    have h2 := h.dead
    rw [hd] at h2
    have e1 : D.tick = { D with dead := D.fuse == 0, fuse := max (D.fuse - 1) (-1) } := by simp [Dr.tick, hd]
    rw [e1]
    refine ⟨h.len, h.olen, h.now, h.good, h.wait, h.lt, ?_, fun he => ?_⟩
    · simp only [RDr.tick, ← h2, h1, Bool.false_or]
    · have h0 : D.fuse ≠ 0 := by simpa using he
      simp only [RDr.tick, ← h1]
      split <;> omega
  · have h2 := h.dead
    rw [hd] at h2
    have e1 : D.tick = D := by simp [Dr.tick, hd]
    rw [e1]
    refine ⟨h.len, h.olen, h.now, h.good, h.wait, h.lt, ?_, fun he => by rw [hd] at he; cases he⟩
    simp only [RDr.tick, ← h2, hd, Bool.true_or]
theorem Sim.put {D : Dr} {R : RDr} (h : Sim D R) (i : Nat) (hi : i < D.n) (l : List UInt8) (hl : l.length ≤ 64) : Sim (D.put i l) (R.put i l) := by
  refine ⟨by simp [RDr.put, Dr.put, h.len], h.olen, set_lay h.len h.now (pad l) (padL l) (padL_pad l hl).symm, h.good, ?_, ?_, h.dead, h.left⟩
  · simp [RDr.put, Dr.put, h.wait, padL_pad l hl]
  · intro x hx
    rcases List.mem_append.1 hx with hx | hx
    · exact h.lt x hx
    · rw [List.mem_singleton.1 hx]; exact hi
theorem Sim.write {D : Dr} {R : RDr} (h : Sim D R) (hlo : -1 ≤ D.fuse) (i : Int) (l : List UInt8) : (D.doWrite i l).1 = (R.doWrite i l).1 ∧ Sim (D.doWrite i l).2 (R.doWrite i l).2 := by
  have ha := h.alive
  have ht := h.tick hlo
  have hn : D.tick.n = D.n := (Dr.tick_now D).2.2
  unfold Dr.doWrite RDr.doWrite
  cases hd : R.tick.dead
  · rw [hd] at ha
    simp only [ha, Bool.not_false, if_true, Bool.false_eq_true, if_false, h.len]
    split
    · exact ⟨rfl, ht⟩
    · exact ⟨rfl, ht.put i.toNat (by rw [hn]; omega) l (by omega)⟩
  · rw [hd] at ha
    simp only [ha, Bool.not_true, Bool.false_eq_true, if_false, if_true]
    exact ⟨by trivial, ht⟩
theorem Sim.sync0 {D : Dr} {R : RDr} (h : Sim D R) : Sim D.sync R.sync := ⟨h.len, h.len, h.now, h.now, rfl, fun x hx => by simp [Dr.sync] at hx, h.dead, h.left⟩
theorem Sim.sync {D : Dr} {R : RDr} (h : Sim D R) (hlo : -1 ≤ D.fuse) : D.doSync.1 = R.doSync.1 ∧ Sim D.doSync.2 R.doSync.2 := by
  have ha := h.alive
  have ht := h.tick hlo
  unfold Dr.doSync RDr.doSync
  cases hd : R.tick.dead
  · rw [hd] at ha
    simp only [ha, Bool.not_false, if_true, Bool.false_eq_true, if_false]
    exact ⟨by trivial, ht.sync0⟩
  · rw [hd] at ha
    simp only [ha, Bool.not_true, Bool.false_eq_true, if_false, if_true]
    exact ⟨by trivial, ht⟩
theorem Sim.fuse {D : Dr} {R : RDr} (h : Sim D R) (n : Int) : Sim (D.setFuse n) (R.setFuse n) := ⟨h.len, h.olen, h.now, h.good, h.wait, h.lt, h.dead, fun _ => rfl⟩
theorem Sim.crash2 {D : Dr} {R : RDr} (h : Sim D R) (keep : List Bool) : ∀ k, ∀ j, j < D.n → (R.crashTo keep k)[j]? = some (secL (crashTo D.good D.wait keep k) j)
  | 0 => h.good
  | k + 1 => by
    have ih := h.crash2 keep k
    by_cases hk : keep[k]? = some true
    · cases hx : D.wait[k]? with
      | none =>
        have hr : R.wait[k]? = none := by rw [h.wait, List.getElem?_map, hx]; rfl
        simp only [RDr.crashTo, Go.Proofs.Ytggahnipmlihlaa.crashTo, hr, hx]
        exact ih
      | some x =>
        have hr : R.wait[k]? = some (x.i, (List.range 64).map x.p) := by rw [h.wait, List.getElem?_map, hx]; rfl
        rw [rcrashTo_yes hr hk, crashTo_yes hx hk]
        exact set_lay ((rcrashTo_len R keep k).trans h.olen) ih x.p _ rfl
    · rw [rcrashTo_no hk, crashTo_no hk]
      exact ih
theorem crashTo_more (g : Nat → UInt8) (ws : List Wr) (keep : List Bool) : ∀ k, min ws.length keep.length ≤ k → crashTo g ws keep k = crashTo g ws keep (min ws.length keep.length)
  | 0, h => by rw [Nat.le_zero.1 h]
  | k + 1, h => by
    by_cases e : min ws.length keep.length = k + 1
    · rw [e]
    · have ih := crashTo_more g ws keep k (by omega)
      rw [← ih]
      simp only [crashTo]
      split
      · rename_i h1 h2
        have := (List.getElem?_eq_some_iff.1 h1).1
        have := (List.getElem?_eq_some_iff.1 h2).1
        omega
      · rfl
theorem Sim.crash {D : Dr} {R : RDr} (h : Sim D R) (keep : List Bool) : Sim (D.crash keep) (R.crash keep) := by
  have hw : R.wait.length = D.wait.length := by rw [h.wait, List.length_map]
  have hc : crashTo D.good D.wait keep D.wait.length = crashTo D.good D.wait keep (min R.wait.length keep.length) := by
    rw [hw]
    exact crashTo_more _ _ _ _ (Nat.min_le_left _ _)
  have hl := (rcrashTo_len R keep (min R.wait.length keep.length)).trans h.olen
  refine ⟨hl, hl, fun i hi => ?_, fun i hi => ?_, rfl, fun x hx => by simp [Dr.crash] at hx, rfl, fun _ => rfl⟩
  · simp only [Dr.crash, RDr.crash, hc]
    exact h.crash2 keep _ i hi
  · simp only [Dr.crash, RDr.crash, hc]
    exact h.crash2 keep _ i hi
end Go.Proofs.Ytggahnipmlihlaa
