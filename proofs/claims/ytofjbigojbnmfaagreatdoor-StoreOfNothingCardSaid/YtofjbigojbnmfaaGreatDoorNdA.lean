/- A node as it is handed in. -/
import Derived.Test.YtofjbigojbnmfaaGreatDoorWid
import Derived.Test.YtofjbigojbnmfaaGreatDoorLawF
import Derived.Lib.SmallJoins
namespace Go.Proofs.YtofjbigojbnmfaaGreatDoor
open Go.RowKit Go.Lig Go.ChangeShapes Go.WideShapes Go.ChangeAt Go.Deep

structure PropR where
  key : ByteArray
  kind : Int
  b : Bool
  n : Int
  f : Nat
  t : ByteArray
instance : Inhabited PropR := ⟨⟨⟨#[]⟩, 0, false, 0, 0, ⟨#[]⟩⟩⟩
instance : Inhabited { s : ByteArray // s.size ≤ maxLen } := ⟨⟨⟨#[]⟩, Nat.zero_le _⟩⟩
def pcell (q : PropR) : List Value := [.string q.key, .int .i64 q.kind, .bool q.b, .int .i64 q.n, .float .f64 q.f, .string q.t]
structure PropOk (q : PropR) : Prop where
  key : q.key.size ≤ maxLen
  kind : (Lit.int .i64 q.kind).wf = true
  n : (Lit.int .i64 q.n).wf = true
  f : (Lit.float .f64 q.f).wf = true
  t : q.t.size ≤ maxLen
/-- the node sl, sp is of the labels L and the properties Q -/
structure NodeOf (w : World) (sl sp : Value) (L : List ByteArray) (Q : List PropR) : Prop where
  l : Rd w sl L.length 1 (L.map Value.string)
  p : Rd w sp Q.length 6 (Q.flatMap pcell)
  ok : ∀ q ∈ Q, PropOk q
  ls : ∀ s ∈ L, s.size ≤ maxLen
theorem flat_get {α β : Type} {f : α → List β} {m : Nat} (hf : ∀ x, (f x).length = m) (l : List α) (k : Nat) (x : α) (hx : l[k]? = some x) (j : Nat) (hj : j < m) : (l.flatMap f)[k * m + j]? = (f x)[j]? := by
  induction l generalizing k with
  | nil => simp at hx
  | cons y l ih =>
    rw [List.flatMap_cons]
    cases k with
    | zero =>
      obtain rfl : y = x := by simpa using hx
      rw [Nat.zero_mul, Nat.zero_add, List.getElem?_append_left (by rw [hf]; exact hj)]
    | succ k =>
      have : (k + 1) * m + j = (f y).length + (k * m + j) := by rw [hf, Nat.succ_mul]; omega
      rw [this, List.getElem?_append_right (by omega), Nat.add_sub_cancel_left]
      exact ih k (by simpa using hx)
theorem flat_len {α β : Type} {f : α → List β} {m : Nat} (hf : ∀ x, (f x).length = m) (l : List α) : (l.flatMap f).length = l.length * m := by
  induction l with
  | nil => simp
  | cons y l ih => rw [List.flatMap_cons, List.length_append, hf, ih, List.length_cons, Nat.succ_mul]; omega
theorem pcell_one (q : PropR) : ∀ u ∈ pcell q, u.oneCell' = true := by
  intro u hu
  simp only [pcell, List.mem_cons, List.not_mem_nil, or_false] at hu
  rcases hu with rfl | rfl | rfl | rfl | rfl | rfl <;> rfl
theorem NodeOf.rd {w : World} {sl sp : Value} {L : List ByteArray} {Q : List PropR} (h : NodeOf w sl sp L Q) : NodeRd w sl sp L.length Q.length (L.map Value.string) (Q.flatMap pcell) :=
  ⟨h.l, h.p, fun k hk => ⟨L[k], by simp [hk]⟩, fun k hk => ⟨Q[k].key, Q[k].t, by
    have := flat_get (f := pcell) (m := 6) (fun _ => rfl) Q k Q[k] (by simp [hk]) 0 (by decide)
    simpa [pcell] using this, flat_get (f := pcell) (m := 6) (fun _ => rfl) Q k Q[k] (by simp [hk]) 5 (by decide)⟩⟩
theorem NodeOf.frame {w w' : World} {sl sp : Value} {L : List ByteArray} {Q : List PropR} (h : NodeOf w sl sp L Q) (hf : Fr No w w') : NodeOf w' sl sp L Q :=
  ⟨h.l.frame hf (fun _ _ e => e), h.p.frame hf (fun _ _ e => e), h.ok, h.ls⟩
section
variable {H : Type} {enc : TypeId × Value → H} {W : World}
theorem cells_of_trod {t e : TypeId} (ht : Tryz.prog.underlying t = some (.slice e)) {n : Nat} {v : Value} {y : DataW H × List MemPlace} (h : DataW.trod enc Tryz.prog W 0 (fun _ => true) true n t [v] = some y) : v.cells.toList = [v] := by
  rcases open_slice ht h with ⟨e, _⟩ | ⟨a, len, cap, m, n, D, Pl, e, _⟩
  · obtain rfl : v = .slice none 0 0 := by simpa using e
    rfl
  · obtain rfl : v = .slice (some a) len cap := by simpa using e
    rfl
theorem trod_float {k : FloatKind} {t : TypeId} {fuel : Nat} {cs : List Value} {x : DataW H × List MemPlace} (ht : Tryz.prog.underlying t = some (.float k)) (h : DataW.trod enc Tryz.prog W 0 (fun _ => true) true fuel t cs = some x) : ∃ b, cs = [.float k b] ∧ (Lit.float k b).wf = true := by
  cases fuel with
  | zero => simp [DataW.trod] at h
  | succ n =>
    unfold DataW.trod at h
    rw [ht] at h
    split at h <;> simp_all
theorem rd_strings {v : Value} {d : DataW H} {p : List MemPlace} (hv : v.cells.toList = [v]) (h : DataW.Trod enc Tryz.prog W 0 (fun _ => true) true 29 v d p) : ∃ l : List ByteArray, Rd W v l.length 1 (l.map Value.string) ∧ ∀ s ∈ l, s.size ≤ maxLen := by
  obtain ⟨l, hl⟩ := rd_slice1 (W := W) (fun x : { s : ByteArray // s.size ≤ maxLen } => Value.string x.1) (α := { s : ByteArray // s.size ≤ maxLen }) (hf := fun _ => rfl) Tryz.underlying29 (by kernel_rfl) (fun n v y h => by
    obtain ⟨s, e, -, hs⟩ := DataW.trod_string Tryz.underlying9 h
    exact ⟨⟨s, hs⟩, by simpa using e⟩) hv h
  refine ⟨l.map (·.1), by simpa using hl, fun s hs => ?_⟩
  obtain ⟨x, -, rfl⟩ := List.mem_map.1 hs
  exact x.2
set_option maxRecDepth 100000 in
theorem rd_props {v : Value} {d : DataW H} {p : List MemPlace} (hv : v.cells.toList = [v]) (h : DataW.Trod enc Tryz.prog W 0 (fun _ => true) true 30 v d p) : ∃ l : List PropR, Rd W v l.length 6 (l.flatMap pcell) ∧ ∀ q ∈ l, PropOk q := by
  obtain ⟨fuel, h⟩ := h
  rw [hv] at h
  rcases open_slice Tryz.underlying30 h with ⟨e, _⟩ | ⟨a, len, cap, m, n, D, Pl, e, _, hlc, hm, hmm, _, hx⟩
  · obtain rfl : v = .slice none 0 0 := by simpa using e
    exact ⟨[], Rd.nil W 6, by simp⟩
  · obtain rfl : v = .slice (some a) len cap := by simpa using e
    simp only [if_true] at hmm
    subst hmm
    have ce : Tryz.prog.cellsOf 84 = 6 := by kernel_rfl
    have cv : Tryz.prog.cellsOf 61 = 5 := by kernel_rfl
    have c1 : Tryz.prog.cellsOf 3 = 1 := by kernel_rfl
    have c2 : Tryz.prog.cellsOf 4 = 1 := by kernel_rfl
    have c3 : Tryz.prog.cellsOf 39 = 1 := by kernel_rfl
    have c4 : Tryz.prog.cellsOf 9 = 1 := by kernel_rfl
    have each : ∀ i, i < m → ∃ q : PropR, (∀ j u, (pcell q)[j]? = some u → W.cell? (a.add (i * 6 + j)) = some u) ∧ PropOk q := by
      intro i hi
      obtain ⟨cs', h1, h2⟩ := hx i hi
      rw [ce] at h1
      obtain ⟨_, hlen, hcell⟩ := World.cells?_some h1
      obtain ⟨xs, k, hk, hxy, _, hxl, hf⟩ := DataW.trod_struct Tryz.underlying84 h2
      match xs, hxl, cs', hlen with
      | [y0, y1], _, [v0, v1, v2, v3, v4, v5], _ =>
        have g0 := hf 0 _ rfl
        have g1 := hf 1 _ rfl
        simp [c4, cv] at g0 g1
        obtain ⟨s0, e0, -, z0⟩ := DataW.trod_string Tryz.underlying9 g0
        obtain ⟨xs', k', hk', hxy', _, hxl', hf'⟩ := DataW.trod_struct Tryz.underlying61 g1
        match xs', hxl' with
        | [x0, x1, x2, x3, x4], _ =>
          have f0 := hf' 0 _ rfl
          have f1 := hf' 1 _ rfl
          have f2 := hf' 2 _ rfl
          have f3 := hf' 3 _ rfl
          have f4 := hf' 4 _ rfl
          simp [c1, c2, c3, c4] at f0 f1 f2 f3 f4
          obtain ⟨m0, e1, -, w1⟩ := DataW.trod_int Tryz.underlying3 f0
          obtain ⟨b1, e2, -⟩ := DataW.trod_bool Tryz.underlying4 f1
          obtain ⟨m2, e3, -, w3⟩ := DataW.trod_int Tryz.underlying3 f2
          obtain ⟨m3, e4, w4⟩ := trod_float Tryz.underlying39 f3
          obtain ⟨s4, e5, -, z4⟩ := DataW.trod_string Tryz.underlying9 f4
          refine ⟨⟨s0, m0, b1, m2, m3, s4⟩, fun j u hj => ?_, ⟨z0, w1, w3, w4, z4⟩⟩
          have hjl : j < 6 := (List.getElem?_eq_some_iff.1 hj).1
          have := hcell j hjl
          rw [add_add] at this
          rw [this]
          obtain rfl : v0 = .string s0 := by simpa using e0
          obtain rfl : v1 = .int .i64 m0 := by simpa using e1
          obtain rfl : v2 = .bool b1 := by simpa using e2
          obtain rfl : v3 = .int .i64 m2 := by simpa using e3
          obtain rfl : v4 = .float .f64 m3 := by simpa using e4
          obtain rfl : v5 = .string s4 := by simpa using e5
          exact hj
    obtain ⟨g, hg⟩ := choose_lt each
    have hl1 : ∀ q ∈ (List.range len).map g, PropOk q := fun q hq => by
      simp only [List.mem_map, List.mem_range] at hq
      obtain ⟨i, hi, rfl⟩ := hq
      exact (hg i (by omega)).2
    refine ⟨(List.range len).map g, ⟨some a, m, by simp, flat_len (f := pcell) (m := 6) (fun _ => rfl) _, fun h => (by cases h), fun ad had j u hu => ?_, fun u hu => ?_, by simpa using hlc, hm⟩, hl1⟩
    · obtain rfl := Option.some.inj had
      have hj : j < len * 6 := by
        have := (List.getElem?_eq_some_iff.1 hu).1
        rw [flat_len (m := 6) (fun _ => rfl)] at this
        simpa using this
      have hd : j = (j / 6) * 6 + j % 6 := by omega
      rw [hd] at hu ⊢
      rw [flat_get (m := 6) (fun _ => rfl) _ (j / 6) (g (j / 6)) (by rw [List.getElem?_map, List.getElem?_range (by omega)]; rfl) (j % 6) (by omega)] at hu
      exact (hg (j / 6) (by omega)).1 _ _ hu
    · obtain ⟨q, hq, hu⟩ := List.mem_flatMap.1 hu
      exact pcell_one q u hu
set_option maxRecDepth 100000 in
theorem rd_node {base : Nat} {v : Value} {d : DataW H} {p : List MemPlace} (hv : Value.okWide Tryz.prog W .any base 32 v) (h : DataW.Trod enc Tryz.prog W 0 (fun _ => true) true 32 v d p) : ∃ sl sp L Q, v = .agg #[sl, sp] ∧ NodeOf W sl sp L Q := by
  obtain ⟨v0, v1, y0, y1, n, rfl, -, -, h0, h1⟩ := Go.Joins.open_agg2 Tryz.underlying32 (by kernel_rfl) (by kernel_rfl) hv h
  obtain ⟨L, hL, hs⟩ := rd_strings (enc := enc) (cells_of_trod Tryz.underlying29 h0) (d := y0.1) (p := y0.2) ⟨n, by rw [cells_of_trod Tryz.underlying29 h0]; exact h0⟩
  obtain ⟨Q, hQ, hq⟩ := rd_props (enc := enc) (cells_of_trod Tryz.underlying30 h1) (d := y1.1) (p := y1.2) ⟨n, by rw [cells_of_trod Tryz.underlying30 h1]; exact h1⟩
  exact ⟨v0, v1, L, Q, rfl, hL, hQ, hq, hs⟩
end
end Go.Proofs.YtofjbigojbnmfaaGreatDoor
