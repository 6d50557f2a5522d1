/- The walks of package drum, fifth part: Crash. -/
import Derived.Test.YtggahnipmlihlaaDrumD
namespace Go.Proofs.Ytggahnipmlihlaa
open Go.RowKit Go.Lig

/-- what lasts, behind the first k of the writes that wait. -/
def crashTo (g : Nat → UInt8) (ws : List Wr) (keep : List Bool) : Nat → Nat → UInt8
  | 0 => g
  | k + 1 => match ws[k]?, keep[k]? with
    | some x, some true => lay (crashTo g ws keep k) x.i x.p
    | _, _ => crashTo g ws keep k
def Dr.crash (D : Dr) (keep : List Bool) : Dr :=
  { n := D.n, good := crashTo D.good D.wait keep D.wait.length, now := crashTo D.good D.wait keep D.wait.length, wait := [], dead := false, fuse := -1 }

theorem wcell_length (x : Wr) : (wcell x).length = 65 := by simp [wcell, bs_length]
theorem wcells_get : ∀ (l : List Wr) (k : Nat) (x : Wr), l[k]? = some x → ∀ j v, (wcell x)[j]? = some v → (wcells l)[65 * k + j]? = some v
  | [], _, _, h, _, _, _ => by simp at h
  | y :: l, 0, x, h, j, v, hj => by
    obtain rfl : y = x := by simpa using h
    have hlt := (List.getElem?_eq_some_iff.1 hj).1
    simp only [wcells, List.flatMap_cons, Nat.mul_zero, Nat.zero_add]
    rw [List.getElem?_append_left hlt]
    exact hj
  | y :: l, k + 1, x, h, j, v, hj => by
    have := wcells_get l k x (by simpa using h) j v hj
    simp only [wcells, List.flatMap_cons]
    rw [List.getElem?_append_right (by rw [wcell_length]; omega), wcell_length, show 65 * (k + 1) + j - 65 = 65 * k + j by omega]
    exact this
theorem clampN_of (n : Nat) (h : n ≤ 200) : clampN (n : Int) = n := by unfold clampN; omega

theorem crash_nil (w : World) (kv : Value) : Calls Try.prog 17 #[.pointer none, kv] w fun e w' => e = .returned (.pointer none) ∧ w = w' := by
  go_enter Try.func17, Try.ntmps17
  go_wp2
  go_ret
  exact ⟨rfl, rfl⟩

/-- a drum without writes that wait, as it lies. -/
theorem DrumAt.body0 {w : World} {S : Nat → Prop} {b n : Nat} {g m : Nat → UInt8} {dd : Bool} {f : Int} (h : DrumAt w S b { n, good := g, now := m, wait := [], dead := dd, fuse := f }) : ∃ bg bn vw,
    w.heap[b]? = some (.cells #[.slice (some ⟨bg, 0, none⟩) n n, .slice (some ⟨bn, 0, none⟩) n n, vw, .bool dd, .int .i64 f] 55 (0, 0)) ∧
    w.heap[bg]? = some (.cells (bs g (64 * n)).toArray 57 (0, 0)) ∧ w.heap[bn]? = some (.cells (bs m (64 * n)).toArray 57 (0, 0)) ∧ S bg ∧ S bn ∧ b ≠ bg ∧ b ≠ bn ∧ bg ≠ bn := by
  obtain ⟨bg, bn, vw, h0, h1, h2, h3, s1, s2, s3, e1, e2, e3⟩ := h.body
  exact ⟨bg, bn, vw, h0, h1, h2, s1, s2, e1, e2, e3⟩
/-- good is turned. -/
theorem DrumAt.setGood {w w' : World} {S : Nat → Prop} {b bg : Nat} {D : Dr} {x1 x2 x3 x4 : Value} (h : DrumAt w S b D) (h0 : w.heap[b]? = some (.cells #[.slice (some ⟨bg, 0, none⟩) D.n D.n, x1, x2, x3, x4] 55 (0, 0)))
    (g : Nat → UInt8) (hp : Put bg (bs g (64 * D.n)).toArray 57 w w') : DrumAt w' S b { D with good := g } := by
  obtain ⟨bg', bn, vw, k0, h1, h2, h3, s1, s2, s3, e1, e2, e3⟩ := h.body
  rw [h0] at k0
  have hq : bg' = bg := by simp at k0; omega
  subst hq
  simp only [Option.some.injEq, Obj.cells.injEq, Array.mk.injEq, List.cons.injEq, true_and, and_true] at k0
  obtain ⟨rfl, rfl, rfl, rfl⟩ := k0
  exact ⟨h.n_le, h.fuse_lo, h.fuse_hi, h.wait_lt, fun k hk => by rw [hp.size]; exact h.bound k hk, h.own, bg', bn, _, hp.keep h0 e1, hp.at_, hp.keep h2 (Ne.symm e3), hp.fr.owns h3 (fun k hk => (s3 k hk).2.2.1), s1, s2, s3, e1, e2, e3⟩
theorem DrumAt.setNow {w w' : World} {S : Nat → Prop} {b bn : Nat} {D : Dr} {x0 x2 x3 x4 : Value} (h : DrumAt w S b D) (h0 : w.heap[b]? = some (.cells #[x0, .slice (some ⟨bn, 0, none⟩) D.n D.n, x2, x3, x4] 55 (0, 0)))
    (g : Nat → UInt8) (hp : Put bn (bs g (64 * D.n)).toArray 57 w w') : DrumAt w' S b { D with now := g } := by
  obtain ⟨bg, bn', vw, k0, h1, h2, h3, s1, s2, s3, e1, e2, e3⟩ := h.body
  rw [h0] at k0
  have hq : bn' = bn := by simp at k0; omega
  subst hq
  simp only [Option.some.injEq, Obj.cells.injEq, Array.mk.injEq, List.cons.injEq, true_and, and_true] at k0
  obtain ⟨rfl, rfl, rfl, rfl⟩ := k0
  exact ⟨h.n_le, h.fuse_lo, h.fuse_hi, h.wait_lt, fun k hk => by rw [hp.size]; exact h.bound k hk, h.own, bg, bn', _, hp.keep h0 e2, hp.keep h1 e3, hp.at_, hp.fr.owns h3 (fun k hk => (s3 k hk).2.2.2), s1, s2, s3, e1, e2, e3⟩
end Go.Proofs.Ytggahnipmlihlaa
