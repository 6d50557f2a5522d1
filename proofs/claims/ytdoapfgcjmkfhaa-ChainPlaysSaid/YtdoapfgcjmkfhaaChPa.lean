/- ChainPlays: the acts of a script, as they are handed in; both lists side by side. -/
import Derived.Test.YtdoapfgcjmkfhaaChR2
namespace Go.Proofs.Ytdoapfgcjmkfhaa
open Go.RowKit Go.Lig Go.ChangeShapes Go.WideShapes Go.ChangeAt Go.Deep

structure ActR where
  kind : Int
  k : Int
  x : Int
instance : Inhabited ActR := ⟨⟨0, 0, 0⟩⟩
def acell (a : ActR) : List Value := [.int .i64 a.kind, .int .i64 a.k, .int .i64 a.x]
theorem acell_one (a : ActR) : ∀ u ∈ acell a, u.oneCell' = true := by
  intro u hu
  simp only [acell, List.mem_cons, List.not_mem_nil, or_false] at hu
  rcases hu with rfl | rfl | rfl <;> rfl
structure Acts (W : World) (v : Value) (l : List ActR) : Prop where
  at_ : Rd W v l.length 3 (l.flatMap acell)
  each : ∀ a ∈ l, keyOk a.k ∧ keyOk a.x
/-- an act: where it lies, in every later world -/
theorem Acts.at1 {W : World} {v : Value} {l : List ActR} (h : Acts W v l) {k : Nat} {a : ActR} (hk : l[k]? = some a) :
    ∃ b o c, v = .slice (some ⟨b, o, none⟩) l.length c ∧ b < W.heap.size ∧ ∀ w', Fr No W w' → w'.cell? ⟨b, o + k * 3, none⟩ = some (.int .i64 a.kind) ∧ w'.cell? ⟨b, o + k * 3 + 1, none⟩ = some (.int .i64 a.k) ∧ w'.cell? ⟨b, o + k * 3 + 2, none⟩ = some (.int .i64 a.x) := by
  have g : ∀ j, j < 3 → (l.flatMap acell)[k * 3 + j]? = (acell a)[j]? := fun j hj => flat_get (f := acell) (m := 3) (fun _ => rfl) l k a hk j hj
  obtain ⟨b, o, c, hv, h0⟩ := h.at_.at1 (k := k * 3 + 0) (u := .int .i64 a.kind) (by rw [g 0 (by decide)]; rfl)
  obtain ⟨b1, o1, c1, hv1, h1⟩ := h.at_.at1 (k := k * 3 + 1) (u := .int .i64 a.k) (by rw [g 1 (by decide)]; rfl)
  obtain ⟨b2, o2, c2, hv2, h2⟩ := h.at_.at1 (k := k * 3 + 2) (u := .int .i64 a.x) (by rw [g 2 (by decide)]; rfl)
  rw [hv] at hv1 hv2
  simp only [Value.slice.injEq, Option.some.injEq, Addr.mk.injEq, and_true, true_and] at hv1 hv2
  obtain ⟨⟨rfl, rfl⟩, rfl⟩ := hv1
  obtain ⟨⟨rfl, rfl⟩, -⟩ := hv2
  have hb : b < W.heap.size := World.block_lt_of_cell? W _ (h0 W (Fr.refl _ _))
  exact ⟨b, o, c, hv, hb, fun w' hf => ⟨h0 w' hf, by simpa [Nat.add_assoc] using h1 w' hf, by simpa [Nat.add_assoc] using h2 w' hf⟩⟩
section
variable {H : Type} {enc : TypeId × Value → H} {W : World}
theorem rd_acts {v : Value} {d : DataW H} {p : List MemPlace} (hv : v.cells.toList = [v]) (h : DataW.Trod enc Try.prog W 0 (fun _ => true) true 30 v d p) : ∃ l : List ActR, Acts W v l := by
  obtain ⟨fuel, h⟩ := h
  rw [hv] at h
  rcases open_slice Try.underlying30 h with ⟨e, _⟩ | ⟨a, len, cap, m, n, D, Pl, e, _, hlc, hm, hmm, _, hx⟩
  · obtain rfl : v = .slice none 0 0 := by simpa using e
    exact ⟨[], Rd.nil W 3, by simp⟩
  · obtain rfl : v = .slice (some a) len cap := by simpa using e
    simp only [if_true] at hmm
    subst hmm
    have ce : Try.prog.cellsOf 36 = 3 := by kernel_rfl
    have c3 : Try.prog.cellsOf 3 = 1 := by kernel_rfl
    have each : ∀ i, i < m → ∃ q : ActR, (∀ j u, (acell q)[j]? = some u → W.cell? (a.add (i * 3 + j)) = some u) ∧ keyOk q.k ∧ keyOk q.x := by
      intro i hi
      obtain ⟨cs', h1, h2⟩ := hx i hi
      rw [ce] at h1
      obtain ⟨_, hlen, hcell⟩ := World.cells?_some h1
      obtain ⟨xs, k, hk, hxy, _, hxl, hf⟩ := DataW.trod_struct Try.underlying36 h2
      match xs, hxl, cs', hlen with
      | [y0, y1, y2], _, [v0, v1, v2], _ =>
        have g0 := hf 0 _ rfl
        have g1 := hf 1 _ rfl
        have g2 := hf 2 _ rfl
        simp [c3] at g0 g1 g2
        obtain ⟨m0, e0, -, -⟩ := DataW.trod_int Try.underlying3 g0
        obtain ⟨m1, e1, -, hw1⟩ := DataW.trod_int Try.underlying3 g1
        obtain ⟨m2, e2, -, hw2⟩ := DataW.trod_int Try.underlying3 g2
        refine ⟨⟨m0, m1, m2⟩, fun j u hj => ?_, hw1, hw2⟩
        have hjl : j < 3 := (List.getElem?_eq_some_iff.1 hj).1
        have := hcell j hjl
        rw [add_add] at this
        rw [this]
        obtain rfl : v0 = .int .i64 m0 := by simpa using e0
        obtain rfl : v1 = .int .i64 m1 := by simpa using e1
        obtain rfl : v2 = .int .i64 m2 := by simpa using e2
        exact hj
    obtain ⟨g, hg⟩ := choose_lt each
    refine ⟨(List.range len).map g, ⟨some a, m, by simp, flat_len (f := acell) (m := 3) (fun _ => rfl) _, fun h => (by cases h), fun ad had j u hu => ?_, fun u hu => ?_, by simpa using hlc, hm⟩, fun q hq => ?_⟩
    · obtain rfl := Option.some.inj had
      have hj : j < len * 3 := by
        have := (List.getElem?_eq_some_iff.1 hu).1
        rw [flat_len (m := 3) (fun _ => rfl)] at this
        simpa using this
      have hd : j = (j / 3) * 3 + j % 3 := by omega
      rw [hd] at hu ⊢
      rw [flat_get (m := 3) (fun _ => rfl) _ (j / 3) (g (j / 3)) (by rw [List.getElem?_map, List.getElem?_range (by omega)]; rfl) (j % 3) (by omega)] at hu
      exact (hg (j / 3) (by omega)).1 _ _ hu
    · obtain ⟨q, hq, hu⟩ := List.mem_flatMap.1 hu
      exact acell_one q u hu
    · simp only [List.mem_map, List.mem_range] at hq
      obtain ⟨i, hi, rfl⟩ := hq
      exact (hg i (by omega)).2
end

/-- the code's lists at c, the reference's at b: the same -/
structure PL (W w : World) (S T : Nat → Prop) (c b : Nat) (I : List (Int × Int)) (m : Nat) : Prop where
  cw : CW W w S c I m
  rl : RL w T b I
  new : ∀ k, T k → W.heap.size ≤ k
  dis : ∀ k, S k → ¬ T k
theorem PL.nextNo {W w w' : World} {S T : Nat → Prop} {c b : Nat} {I : List (Int × Int)} {m : Nat} (h : PL W w S T c b I m) (hf : Fr No w w') : PL W w' S T c b I m := ⟨h.cw.nextNo hf, h.rl.frame hf (fun _ _ e => e), h.new, h.dis⟩
theorem PL.nodup {W w : World} {S T : Nat → Prop} {c b : Nat} {I : List (Int × Int)} {m : Nat} (h : PL W w S T c b I m) : I.Nodup := by
  obtain ⟨B, ρ, h1, _⟩ := h.cw.at_.ex
  exact h1.nodup
/-- the code's, then the reference's -/
theorem PL.both {W w w1 w2 : World} {S S1 T T2 : Nat → Prop} {c b : Nat} {I I' : List (Int × Int)} {m m' : Nat} (h : PL W w S T c b I m) (h1 : CW W w1 S1 c I' m') (f1 : Fr S w w1) (n1 : ∀ q, S1 q → S q ∨ w.heap.size ≤ q)
    (h2 : RL w2 T2 b I') (f2 : Fr T w1 w2) (n2 : ∀ q, T2 q → T q ∨ w1.heap.size ≤ q) : PL W w2 S1 T2 c b I' m' := by
  have d1 : ∀ k, S1 k → ¬ T k := fun k hk e => by
    rcases n1 k hk with h0 | h0
    · exact h.dis k h0 e
    · have := h.rl.bound k e; omega
  refine ⟨h1.next f2 d1 h.new, h2, fun k hk => ?_, fun k hk e => ?_⟩
  · rcases n2 k hk with h0 | h0
    · exact h.new k h0
    · have := h1.fr.size; omega
  · rcases n2 k e with h0 | h0
    · exact d1 k hk h0
    · have := h1.at_.bound k hk; omega
/-- what the reference's lists are behind a step of the code's -/
theorem PL.mid {W w w1 : World} {S T : Nat → Prop} {c b : Nat} {I : List (Int × Int)} {m : Nat} (h : PL W w S T c b I m) (f1 : Fr S w w1) : RL w1 T b I := h.rl.frame f1 (fun k hk e => h.dis k e hk)
end Go.Proofs.Ytdoapfgcjmkfhaa
