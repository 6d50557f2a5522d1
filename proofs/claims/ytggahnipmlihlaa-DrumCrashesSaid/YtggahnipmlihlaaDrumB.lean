/- The walks of package drum, second part: the small methods. -/
import Derived.Test.YtggahnipmlihlaaDrumA
namespace Go.Proofs.Ytggahnipmlihlaa
open Go.RowKit Go.Lig

theorem lives_nil (w : World) : Calls Try.prog 27 #[.pointer none] w fun e w' => e = .returned (.bool false) ∧ w = w' := by
  go_enter Try.func27, Try.ntmps27
  go_wp2
  go_ret
  exact ⟨rfl, rfl⟩

/-- the drum with its last two cells turned. -/
theorem DrumAt.turn {w : World} {S : Nat → Prop} {b : Nat} {D : Dr} (h : DrumAt w S b D) (dead : Bool) (fuse : Int) (f1 : -1 ≤ fuse) (f2 : fuse ≤ 9223372036854775807) :
    DrumAt ((w.setCell ⟨b, 3, none⟩ (.bool dead)).setCell ⟨b, 4, none⟩ (.int .i64 fuse)) S b { D with dead, fuse } := by
  obtain ⟨bg, bn, vw, h0, h1, h2, h3, s1, s2, s3, e1, e2, e3⟩ := h.body
  have hf : Fr (fun k => k = b) w ((w.setCell ⟨b, 3, none⟩ (.bool dead)).setCell ⟨b, 4, none⟩ (.int .i64 fuse)) := ((Fr.refl (fun k => k = b) w).setCell (p := ⟨b, 3, none⟩) _ (fun _ => rfl)).setCell (p := ⟨b, 4, none⟩) _ (fun _ => rfl)
  refine ⟨h.n_le, f1, f2, h.wait_lt, fun k hk => Nat.lt_of_lt_of_le (h.bound k hk) hf.size, h.own, bg, bn, vw, ?_, hf.keep h1 (Ne.symm e1), hf.keep h2 (Ne.symm e2), hf.owns h3 (fun k hk => (s3 k hk).2.1), s1, s2, s3, e1, e2, e3⟩
  have := hset (k := 4) (v := .int .i64 fuse) (hset (k := 3) (v := .bool dead) h0)
  simpa using this

theorem lives_dead (w : World) (S : Nat → Prop) (b : Nat) (D : Dr) (h : DrumAt w S b D) (hd : D.dead = true) :
    Calls Try.prog 27 #[.pointer (some ⟨b, 0, none⟩)] w fun e w' => e = .returned (.bool D.alive) ∧ DrumAt w' S b D.tick ∧ Fr S w w' := by
  obtain ⟨bg, bn, vw, h0, h1, h2, h3, s1, s2, s3, e1, e2, e3⟩ := h.body
  obtain ⟨c0, c1, c2, c3, c4⟩ := cells5 h0
  rw [hd] at c3
  have H := hid (⟨h, hd⟩ : DrumAt w S b D ∧ D.dead = true)
  clear h h0 h1 h2 h3 s1 s2 s3 e1 e2 e3 c0 c1 c2 hd
  go_enter Try.func27, Try.ntmps27
  go_wp2
  go_ret
  exact ⟨by simp [Dr.alive, H.out.2], by simp only [Dr.tick, H.out.2, if_true]; exact H.out.1, Fr.refl _ _⟩

theorem lives_not (w : World) (S : Nat → Prop) (b : Nat) (D : Dr) (h : DrumAt w S b D) (hd : D.dead = false) :
    Calls Try.prog 27 #[.pointer (some ⟨b, 0, none⟩)] w fun e w' => e = .returned (.bool D.alive) ∧ DrumAt w' S b D.tick ∧ Fr S w w' := by
  obtain ⟨bg, bn, vw, h0, h1, h2, h3, s1, s2, s3, e1, e2, e3⟩ := h.body
  obtain ⟨c0, c1, c2, c3, c4⟩ := cells5 h0
  have hz := freeAll h0
  rw [hd] at c3
  have f1 := h.fuse_lo
  have f2 := h.fuse_hi
  have H := hid (⟨h, hd⟩ : DrumAt w S b D ∧ D.dead = false)
  clear h h0 h1 h2 h3 s1 s2 s3 e1 e2 e3 c0 c1 c2 hd
  generalize hx : D.fuse = f at *
  have HX := hid hx
  clear hx
  go_enter Try.func27, Try.ntmps27
  go_wp2
  all_goals
    go_ret
    refine ⟨by simp [Dr.alive, H.out.2, HX.out], ?_, ((Fr.refl _ _).setCell _ (fun _ => H.out.1.own)).setCell _ (fun _ => H.out.1.own)⟩
    have := H.out.1.turn (D.fuse == 0) (max (D.fuse - 1) (-1)) (by omega) (by rw [HX.out]; omega)
    simp only [Dr.tick, H.out.2, HX.out] at this ⊢
    first | (rw [Int.max_eq_left (by omega)] at this ⊢; exact this) | (rw [Int.max_eq_right (by omega)] at this ⊢; exact this)

theorem lives_any (w : World) (S : Nat → Prop) (b : Nat) (D : Dr) (h : DrumAt w S b D) :
    Calls Try.prog 27 #[.pointer (some ⟨b, 0, none⟩)] w fun e w' => e = .returned (.bool D.alive) ∧ DrumAt w' S b D.tick ∧ Fr S w w' := by
  cases hd : D.dead
  · exact lives_not w S b D h hd
  · exact lives_dead w S b D h hd

theorem len_any (w : World) (S : Nat → Prop) (b : Nat) (D : Dr) (h : DrumAt w S b D) :
    Calls Try.prog 23 #[.pointer (some ⟨b, 0, none⟩)] w fun e w' => e = .returned (.int .i64 (D.n : Int)) ∧ w = w' := by
  obtain ⟨bg, bn, vw, h0, h1, h2, h3, s1, s2, s3, e1, e2, e3⟩ := h.body
  obtain ⟨c0, c1, c2, c3, c4⟩ := cells5 h0
  clear h h0 h1 h2 h3 s1 s2 s3 e1 e2 e3 c0 c2 c3 c4
  go_enter Try.func23, Try.ntmps23
  go_wp2
  go_ret
  exact ⟨rfl, rfl⟩
theorem len_nil (w : World) : Calls Try.prog 23 #[.pointer none] w fun e w' => e = .returned (.int .i64 0) ∧ w = w' := by
  go_enter Try.func23, Try.ntmps23
  go_wp2
  go_ret
  exact ⟨rfl, rfl⟩

theorem ownsRow_slice {w : World} {base : Nat} {e : TypeId} {size : Nat} {v : Value} {n : Nat} {xs : List Value} (h : w.ownsRow base e size v n xs) : ∃ a c, v = .slice a n c := by
  rcases h.2 with ⟨rfl, rfl⟩ | ⟨g, cap, cur, rfl, _⟩
  · exact ⟨none, 0, rfl⟩
  · exact ⟨_, _, rfl⟩

theorem waiting_any (w : World) (S : Nat → Prop) (b : Nat) (D : Dr) (h : DrumAt w S b D) :
    Calls Try.prog 18 #[.pointer (some ⟨b, 0, none⟩)] w fun e w' => e = .returned (.int .i64 (D.wait.length : Int)) ∧ w = w' := by
  obtain ⟨bg, bn, vw, h0, h1, h2, h3, s1, s2, s3, e1, e2, e3⟩ := h.body
  obtain ⟨c0, c1, c2, c3, c4⟩ := cells5 h0
  obtain ⟨a, c, rfl⟩ := ownsRow_slice h3
  clear h h0 h1 h2 h3 s1 s2 s3 e1 e2 e3 c0 c1 c3 c4
  go_enter Try.func18, Try.ntmps18
  go_wp2
  go_ret
  exact ⟨rfl, rfl⟩
theorem waiting_nil (w : World) : Calls Try.prog 18 #[.pointer none] w fun e w' => e = .returned (.int .i64 0) ∧ w = w' := by
  go_enter Try.func18, Try.ntmps18
  go_wp2
  go_ret
  exact ⟨rfl, rfl⟩

def Dr.setFuse (D : Dr) (n : Int) : Dr := { D with fuse := max n (-1) }
theorem fuse_nil (w : World) (n : Int) : Calls Try.prog 24 #[.pointer none, .int .i64 n] w fun e w' => e = .returned (.tuple #[]) ∧ w = w' := by
  go_enter Try.func24, Try.ntmps24
  go_wp2
  go_end0
  exact ⟨rfl, rfl⟩
theorem DrumAt.turn1 {w : World} {S : Nat → Prop} {b : Nat} {D : Dr} (h : DrumAt w S b D) (fuse : Int) (f1 : -1 ≤ fuse) (f2 : fuse ≤ 9223372036854775807) :
    DrumAt (w.setCell ⟨b, 4, none⟩ (.int .i64 fuse)) S b { D with fuse } := by
  obtain ⟨bg, bn, vw, h0, h1, h2, h3, s1, s2, s3, e1, e2, e3⟩ := h.body
  have hf : Fr (fun k => k = b) w (w.setCell ⟨b, 4, none⟩ (.int .i64 fuse)) := (Fr.refl (fun k => k = b) w).setCell (p := ⟨b, 4, none⟩) _ (fun _ => rfl)
  refine ⟨h.n_le, f1, f2, h.wait_lt, fun k hk => Nat.lt_of_lt_of_le (h.bound k hk) hf.size, h.own, bg, bn, vw, ?_, hf.keep h1 (Ne.symm e1), hf.keep h2 (Ne.symm e2), hf.owns h3 (fun k hk => (s3 k hk).2.1), s1, s2, s3, e1, e2, e3⟩
  have := hset (k := 4) (v := .int .i64 fuse) h0
  simpa using this
theorem fuse_any (w : World) (S : Nat → Prop) (b : Nat) (D : Dr) (n : Int) (hn : n ≤ 9223372036854775807) (h : DrumAt w S b D) :
    Calls Try.prog 24 #[.pointer (some ⟨b, 0, none⟩), .int .i64 n] w fun e w' => e = .returned (.tuple #[]) ∧ DrumAt w' S b (D.setFuse n) ∧ Fr S w w' := by
  obtain ⟨bg, bn, vw, h0, h1, h2, h3, s1, s2, s3, e1, e2, e3⟩ := h.body
  obtain ⟨c0, c1, c2, c3, c4⟩ := cells5 h0
  have hz := freeAll h0
  have H := hid h
  clear h h0 h1 h2 h3 s1 s2 s3 e1 e2 e3 c0 c1 c2 c3
  go_enter Try.func24, Try.ntmps24
  go_wp2
  all_goals
    go_end0
    refine ⟨rfl, ?_, (Fr.refl _ _).setCell _ (fun _ => H.out.own)⟩
    have := H.out.turn1 (max n (-1)) (by omega) (by omega)
    simp only [Dr.setFuse]
    first | (rw [Int.max_eq_left (by omega)] at this ⊢; exact this) | (rw [Int.max_eq_right (by omega)] at this ⊢; exact this)
end Go.Proofs.Ytggahnipmlihlaa
