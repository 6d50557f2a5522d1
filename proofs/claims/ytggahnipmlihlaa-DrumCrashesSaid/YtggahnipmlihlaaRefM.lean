/- The reference's drum as plain data, how it lies in memory, and its short methods. -/
import Derived.Test.YtggahnipmlihlaaDrumL2
import Derived.Laws.IdiomStrings
namespace Go.Proofs.Ytggahnipmlihlaa
open Go.RowKit Go.Lig

structure RDr where
  old : List (List UInt8)
  S : List (List UInt8)
  wait : List (Nat × List UInt8)
  left : Int
  dead : Bool
def rcell (x : Nat × List UInt8) : List Value := [.int .i64 (x.1 : Int), strv x.2]
theorem strv_one (l : List (List UInt8)) : ∀ u ∈ l.map strv, u.oneCell' = true := by
  intro u hu
  simp only [List.mem_map] at hu
  obtain ⟨_, _, rfl⟩ := hu
  rfl
theorem rcell_one (l : List (Nat × List UInt8)) : ∀ u ∈ l.flatMap rcell, u.oneCell' = true := by
  intro u hu
  obtain ⟨x, _, hu⟩ := List.mem_flatMap.1 hu
  simp only [rcell, List.mem_cons, List.not_mem_nil, or_false] at hu
  rcases hu with rfl | rfl <;> rfl
/-- The reference's drum at block b, all of its blocks in T. -/
structure RefAt (w : World) (T : Nat → Prop) (b : Nat) (R : RDr) : Prop where
  left_lo : -1 ≤ R.left
  left_hi : R.left ≤ 9223372036854775807
  bound : ∀ k, T k → k < w.heap.size
  own : T b
  body : ∃ vo vs vw, w.heap[b]? = some (.cells #[vo, vs, vw, .int .i64 R.left, .bool R.dead] 42 (0, 0)) ∧
    w.ownsRow 0 9 1 vo R.old.length (R.old.map strv) ∧ w.ownsRow 0 9 1 vs R.S.length (R.S.map strv) ∧ w.ownsRow 0 61 2 vw R.wait.length (R.wait.flatMap rcell) ∧
    (∀ k, vo.ownBlock = some k → T k ∧ k ≠ b) ∧ (∀ k, vs.ownBlock = some k → T k ∧ k ≠ b ∧ vo.ownBlock ≠ some k) ∧ (∀ k, vw.ownBlock = some k → T k ∧ k ≠ b ∧ vo.ownBlock ≠ some k ∧ vs.ownBlock ≠ some k)
theorem RefAt.frame {w w' : World} {T U : Nat → Prop} {b : Nat} {R : RDr} (h : RefAt w T b R) (hf : Fr U w w') (hd : ∀ k, T k → ¬ U k) : RefAt w' T b R := by
  obtain ⟨vo, vs, vw, h0, h1, h2, h3, s1, s2, s3⟩ := h.body
  exact ⟨h.left_lo, h.left_hi, fun k hk => Nat.lt_of_lt_of_le (h.bound k hk) hf.size, h.own, vo, vs, vw, hf.keep h0 (hd _ h.own), hf.owns h1 (fun k hk => hd _ (s1 k hk).1), hf.owns h2 (fun k hk => hd _ (s2 k hk).1),
    hf.owns h3 (fun k hk => hd _ (s3 k hk).1), s1, s2, s3⟩
theorem RefAt.mono {w : World} {T U : Nat → Prop} {b : Nat} {R : RDr} (h : RefAt w T b R) (hs : ∀ k, T k → U k) (hb : ∀ k, U k → k < w.heap.size) : RefAt w U b R := by
  obtain ⟨vo, vs, vw, h0, h1, h2, h3, s1, s2, s3⟩ := h.body
  exact ⟨h.left_lo, h.left_hi, hb, hs _ h.own, vo, vs, vw, h0, h1, h2, h3, fun k hk => ⟨hs _ (s1 k hk).1, (s1 k hk).2⟩, fun k hk => ⟨hs _ (s2 k hk).1, (s2 k hk).2⟩, fun k hk => ⟨hs _ (s3 k hk).1, (s3 k hk).2⟩⟩

/-! What the methods do, as plain functions. -/
def RDr.tick (R : RDr) : RDr := { R with dead := R.dead || R.left == 0, left := if 0 < R.left then R.left - 1 else R.left }
def padL (l : List UInt8) : List UInt8 := l ++ List.replicate (64 - l.length) 0
def RDr.put (R : RDr) (i : Nat) (l : List UInt8) : RDr := { R with S := R.S.set i (padL l), wait := R.wait ++ [(i, padL l)] }
def RDr.doWrite (R : RDr) (i : Int) (l : List UInt8) : Int × RDr :=
  if R.tick.dead then (9, R.tick) else if i < 0 ∨ (R.S.length : Int) ≤ i ∨ 64 < l.length then (1, R.tick) else (0, R.tick.put i.toNat l)
def RDr.sync (R : RDr) : RDr := { R with old := R.S, wait := [] }
def RDr.doSync (R : RDr) : Int × RDr := if R.tick.dead then (9, R.tick) else (0, R.tick.sync)
def RDr.setFuse (R : RDr) (n : Int) : RDr := { R with left := max n (-1) }
def RDr.crashTo (R : RDr) (keep : List Bool) : Nat → List (List UInt8)
  | 0 => R.old
  | k + 1 => match R.wait[k]?, keep[k]? with
    | some x, some true => (R.crashTo keep k).set x.1 x.2
    | _, _ => R.crashTo keep k
def RDr.crash (R : RDr) (keep : List Bool) : RDr := { old := R.crashTo keep (min R.wait.length keep.length), S := R.crashTo keep (min R.wait.length keep.length), wait := [], left := -1, dead := false }
def RDr.new (n : Nat) : RDr := { old := List.replicate n (padL []), S := List.replicate n (padL []), wait := [], left := -1, dead := false }

theorem rwaiting_any (w : World) (T : Nat → Prop) (b : Nat) (R : RDr) (h : RefAt w T b R) : Calls Try.prog 30 #[.pointer (some ⟨b, 0, none⟩)] w fun e w' => e = .returned (.int .i64 (R.wait.length : Int)) ∧ w = w' := by
  obtain ⟨vo, vs, vw, h0, h1, h2, h3, s1, s2, s3⟩ := h.body
  obtain ⟨aw, cw, rfl⟩ := ownsRow_slice h3
  obtain ⟨c0, c1, c2, c3, c4⟩ := cells5 h0
  clear h h0 h1 h2 h3 s1 s2 s3 c0 c1 c3 c4
  go_enter Try.func30, Try.ntmps30
  go_wp2
  go_ret
  exact ⟨rfl, rfl⟩
theorem RefAt.setLeft {w : World} {T : Nat → Prop} {b : Nat} {R : RDr} (h : RefAt w T b R) (n : Int) (f1 : -1 ≤ n) (f2 : n ≤ 9223372036854775807) :
    RefAt (w.setCell ⟨b, 3, none⟩ (.int .i64 n)) T b { R with left := n } := by
  obtain ⟨vo, vs, vw, h0, h1, h2, h3, s1, s2, s3⟩ := h.body
  have hf : Fr (fun k => k = b) w (w.setCell ⟨b, 3, none⟩ (.int .i64 n)) := (Fr.refl (fun k => k = b) w).setCell (p := ⟨b, 3, none⟩) _ (fun _ => rfl)
  refine ⟨f1, f2, fun k hk => Nat.lt_of_lt_of_le (h.bound k hk) hf.size, h.own, vo, vs, vw, ?_, hf.owns h1 (fun k hk => (s1 k hk).2), hf.owns h2 (fun k hk => (s2 k hk).2.1), hf.owns h3 (fun k hk => (s3 k hk).2.1), s1, s2, s3⟩
  have := hset (k := 3) (v := .int .i64 n) h0
  simpa using this
theorem RefAt.setDead {w : World} {T : Nat → Prop} {b : Nat} {R : RDr} (h : RefAt w T b R) (x : Bool) : RefAt (w.setCell ⟨b, 4, none⟩ (.bool x)) T b { R with dead := x } := by
  obtain ⟨vo, vs, vw, h0, h1, h2, h3, s1, s2, s3⟩ := h.body
  have hf : Fr (fun k => k = b) w (w.setCell ⟨b, 4, none⟩ (.bool x)) := (Fr.refl (fun k => k = b) w).setCell (p := ⟨b, 4, none⟩) _ (fun _ => rfl)
  refine ⟨h.left_lo, h.left_hi, fun k hk => Nat.lt_of_lt_of_le (h.bound k hk) hf.size, h.own, vo, vs, vw, ?_, hf.owns h1 (fun k hk => (s1 k hk).2), hf.owns h2 (fun k hk => (s2 k hk).2.1), hf.owns h3 (fun k hk => (s3 k hk).2.1), s1, s2, s3⟩
  have := hset (k := 4) (v := .bool x) h0
  simpa using this
theorem RefAt.cells {w : World} {T : Nat → Prop} {b : Nat} {R : RDr} (h : RefAt w T b R) : w.cell? ⟨b, 3, none⟩ = some (.int .i64 R.left) ∧ w.cell? ⟨b, 4, none⟩ = some (.bool R.dead) ∧ ∀ o, w.frozen? ⟨b, o, none⟩ = false := by
  obtain ⟨vo, vs, vw, h0, -⟩ := h.body
  obtain ⟨c0, c1, c2, c3, c4⟩ := cells5 h0
  exact ⟨c3, c4, freeAll h0⟩
theorem rfuse_any (w : World) (T : Nat → Prop) (b : Nat) (R : RDr) (n : Int) (hn : n ≤ 9223372036854775807) (h : RefAt w T b R) :
    Calls Try.prog 25 #[.pointer (some ⟨b, 0, none⟩), .int .i64 n] w fun e w' => e = .returned (.tuple #[]) ∧ RefAt w' T b (R.setFuse n) ∧ Fr T w w' := by
  obtain ⟨c3, c4, hz⟩ := h.cells
  have H := hid h
  clear h c4
  go_enter Try.func25, Try.ntmps25
  go_wp2
  all_goals
    go_end0
    refine ⟨rfl, ?_, (Fr.refl _ _).setCell _ (fun _ => H.out.own)⟩
    have := H.out.setLeft (max n (-1)) (by omega) (by omega)
    simp only [RDr.setFuse]
    first | (rw [Int.max_eq_left (by omega)] at this ⊢; exact this) | (rw [Int.max_eq_right (by omega)] at this ⊢; exact this)
theorem ralive_any (w : World) (T : Nat → Prop) (b : Nat) (R : RDr) (h : RefAt w T b R) :
    Calls Try.prog 28 #[.pointer (some ⟨b, 0, none⟩)] w fun e w' => e = .returned (.bool (!R.tick.dead)) ∧ RefAt w' T b R.tick ∧ Fr T w w' := by
  obtain ⟨c3, c4, hz⟩ := h.cells
  have hlo := h.left_lo
  have hhi := h.left_hi
  have H := hid h
  clear h
  by_cases h0 : R.left = 0
  · have e0 : R.tick = { R with dead := true } := by
      obtain ⟨o, s, wt, l, d⟩ := R
      simp only at h0
      subst h0
      simp [RDr.tick]
    rw [e0]
    rw [h0] at c3
    go_enter Try.func28, Try.ntmps28
    go_wp2
    go_ret
    exact ⟨rfl, H.out.setDead true, (Fr.refl _ _).setCell _ (fun _ => H.out.own)⟩
  · by_cases h1 : 0 < R.left
    · have e0 : R.tick = { R with left := R.left - 1 } := by
        obtain ⟨o, s, wt, l, d⟩ := R
        simp only at h0 h1
        simp [RDr.tick, h0, h1]
      rw [e0]
      go_enter Try.func28, Try.ntmps28
      go_wp2
      go_ret
      exact ⟨rfl, H.out.setLeft (R.left - 1) (by omega) (by omega), (Fr.refl _ _).setCell _ (fun _ => H.out.own)⟩
    · have e0 : R.tick = R := by
        obtain ⟨o, s, wt, l, d⟩ := R
        simp only at h0 h1
        simp [RDr.tick, h0, h1]
      rw [e0]
      go_enter Try.func28, Try.ntmps28
      go_wp2
      go_ret
      exact ⟨rfl, H.out, Fr.refl _ _⟩

/-! ### padded -/
theorem pad_cells (l : List UInt8) (h : l.length ≤ 64) : (List.replicate 64 (Value.int .u8 0)).take 0 ++ (l.map u8v).take (min l.length 64 * 1) ++ (List.replicate 64 (Value.int .u8 0)).drop (0 + min l.length 64 * 1) = (padL l).map u8v := by
  rw [Nat.min_eq_left h, Nat.mul_one, List.take_zero, List.nil_append, Nat.zero_add, List.take_of_length_le (by simp), padL, List.map_append, List.drop_replicate, List.map_replicate]
  rfl
theorem padL_len (l : List UInt8) (h : l.length ≤ 64) : (padL l).length = 64 := by simp [padL]; omega
set_option maxHeartbeats 1000000 in
theorem padded_any (w : World) (pv : Value) (l : List UInt8) (hrd : Rd w pv l.length 1 (l.map u8v)) (h64 : l.length ≤ 64) :
    Calls Try.prog 26 #[pv] w fun e w' => e = .returned (strv (padL l)) ∧ Fr No w w' := by
  obtain ⟨ao, c, rfl, -⟩ := rd_len hrd
  have H := hid hrd
  clear hrd
  have hpl : Hid ((padL l).length = 64) := padL_len l h64
  have hrb : Hid (∀ w2, w2.heap[w.heap.size]? = some (.cells ((padL l).map u8v).toArray 5 (0, 0)) → Rd w2 (.slice (some ⟨w.heap.size, 0, none⟩) 64 64) 64 1 ((padL l).map u8v)) := fun w2 h => Rd.block h 64 1 64 (by simp [hpl.out]) (fun u hu => by simp only [List.mem_map] at hu; obtain ⟨_, _, rfl⟩ := hu; rfl) (Nat.le_refl _) (by simp [maxLen])
  go_enter Try.func26, Try.ntmps26
  go_wp2_with (first | (refine wpList_makeO rfl 29 5 (.const (.int .i64 64)) (.const (.int .i64 64)) rfl (.int .u8 0) 1 1 Try.underlying29 info5 64 rfl rfl (by decide) (by decide) ?_; rw [made_one _ _ rfl]; intro w1 n1; have N1 := hid n1; clear n1) | (refine wpList_copyO rfl (.tmp 5) (.tmp 6) 29 29 rfl 5 1 Try.underlying29 size5 w.heap.size 0 64 64 (.slice ao l.length c) l.length (l.map u8v) rfl rfl (H.out.frame N1.out.fr (fun _ _ e => e)) (List.replicate 64 (.int .u8 0)) 5 N1.out.at_ (by simp) ?_; rw [pad_cells l h64]; intro w2 p2; have P2 := hid p2; clear p2) | (refine wpList_strOf rfl 29 5 9 (.tmp 8) rfl Try.underlying29 Try.underlying5 Try.underlying9 (.slice (some ⟨w.heap.size, 0, none⟩) 64 64) 64 (padL l) rfl (hrb.out w2 P2.out.at_) ?_))
  have hf : Fr No w w2 := N1.out.fr.trans P2.out.fr (fun k hk e => by omega)
  go_ret
  exact ⟨rfl, hf⟩
end Go.Proofs.Ytggahnipmlihlaa
