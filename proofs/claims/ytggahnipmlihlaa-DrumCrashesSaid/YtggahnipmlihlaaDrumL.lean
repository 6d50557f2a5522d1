/- The acts of a script, as they are handed in. -/
import Derived.Test.YtggahnipmlihlaaDrumJ
namespace Go.Proofs.Ytggahnipmlihlaa
open Go.RowKit Go.Lig Go.ChangeShapes Go.WideShapes Go.ChangeAt Go.Deep

/-- The worlds that come behind w, and touch nothing of it. -/
def Frr (w : World) : Type := { u : World // Fr No w u }
def Frr.val {w : World} (u : Frr w) : World := Subtype.val u
instance {w : World} : Nonempty (Frr w) := ⟨⟨w, Fr.refl _ _⟩⟩
def FrC (w : World) : World → Prop := fun w' => ∃ u : Frr w, w' = u.val
attribute [go_sem] FrC
theorem FrC.mk {w w' : World} (h : Fr No w w') : FrC w w' := ⟨⟨w', h⟩, rfl⟩
theorem FrC.fr {w w' : World} (h : FrC w w') : Fr No w w' := by
  obtain ⟨u, rfl⟩ := h
  exact u.2
theorem FrC.refl (w : World) : FrC w w := FrC.mk (Fr.refl _ _)
theorem FrC.sub {w w1 : World} (h : Fr No w w1) (u : World) (hu : FrC w1 u) : FrC w u := FrC.mk (h.thenNo hu.fr)

theorem wpList_strOf {P : Program} {ops : Array Oper} {rest : List Oper} {o : Oper} {a : Act} {w : World} {Q : Exit → Act → World → Prop} (hgd : o.guard = none) (src e dst : TypeId) (x : Operand) (ho : o.op = .convert src dst x)
    (hs : P.underlying src = some (.slice e)) (he : P.underlying e = some (.int .u8)) (hd : P.underlying dst = some .string) (v : Value) (n : Nat) (l : List UInt8) (hx : a.eval x = v) (hr : Rd w v n 1 (l.map u8v))
    (h : wpList P ops Q rest (a.put o.dst (strv l)) w) : wpList P ops Q (o :: rest) a w :=
  wpList_run hgd (v := strv l) (w' := w) (by simp [execOp, ho, hx, run_strOf hs he hd hr, Result.andThen]) h

structure ActR where
  kind : Int
  i : Int
  pv : Value
  p : List UInt8
  kv : Value
  keep : List Bool
instance : Inhabited ActR := ⟨⟨0, 0, .bool false, [], .bool false, []⟩⟩
def acell (a : ActR) : List Value := [.int .i64 a.kind, .int .i64 a.i, a.pv, a.kv]
structure ActOk (W : World) (a : ActR) : Prop where
  p : Rd W a.pv a.p.length 1 (a.p.map u8v)
  keep : Rd W a.kv a.keep.length 1 (a.keep.map Value.bool)
  i_le : a.i ≤ 9223372036854775807
theorem ActOk.frame {W W' : World} {a : ActR} (h : ActOk W a) (hf : Fr No W W') : ActOk W' a := ⟨h.p.frame hf (fun _ _ e => e), h.keep.frame hf (fun _ _ e => e), h.i_le⟩
theorem acell_one {W : World} {a : ActR} (h : ActOk W a) : ∀ u ∈ acell a, u.oneCell' = true := by
  obtain ⟨_, _, h1, _⟩ := h.p
  obtain ⟨_, _, h2, _⟩ := h.keep
  intro u hu
  simp only [acell, List.mem_cons, List.not_mem_nil, or_false] at hu
  rcases hu with rfl | rfl | rfl | rfl
  · rfl
  · rfl
  · rw [h1]; rfl
  · rw [h2]; rfl
structure Acts (W : World) (v : Value) (l : List ActR) : Prop where
  at_ : Rd W v l.length 4 (l.flatMap acell)
  each : ∀ a ∈ l, ActOk W a
theorem Acts.frame {W W' : World} {v : Value} {l : List ActR} (h : Acts W v l) (hf : Fr No W W') : Acts W' v l := ⟨h.at_.frame hf (fun _ _ e => e), fun a ha => (h.each a ha).frame hf⟩
theorem flat_get {α β : Type} {f : α → List β} {m : Nat} (hf : ∀ x, (f x).length = m) (l : List α) (k : Nat) (x : α) (hx : l[k]? = some x) (j : Nat) (hj : j < m) : (l.flatMap f)[k * m + j]? = (f x)[j]? := by
  induction l generalizing k with
  | nil => simp at hx
  | cons y l ih =>
    rw [List.flatMap_cons]
    cases k with
    | zero =>
      obtain rfl : y = x := by simpa using hx
      rw [Nat.zero_mul, Nat.zero_add, List.getElem?_append_left (by rw [hf]; exact hj)]
    | succ k =>
      have : (k + 1) * m + j = (f y).length + (k * m + j) := by rw [hf, Nat.succ_mul]; omega
      rw [this, List.getElem?_append_right (by omega), Nat.add_sub_cancel_left]
      exact ih k (by simpa using hx)
theorem flat_len {α β : Type} {f : α → List β} {m : Nat} (hf : ∀ x, (f x).length = m) (l : List α) : (l.flatMap f).length = l.length * m := by
  induction l with
  | nil => simp
  | cons y l ih => rw [List.flatMap_cons, List.length_append, hf, ih, List.length_cons, Nat.succ_mul]; omega
/-- an act: where it lies, in every later world -/
theorem Acts.at1 {W : World} {v : Value} {l : List ActR} (h : Acts W v l) {k : Nat} {a : ActR} (hk : l[k]? = some a) :
    ∃ b o c, v = .slice (some ⟨b, o, none⟩) l.length c ∧ l.length ≤ c ∧ c ≤ maxLen ∧ ActOk W a ∧ ∀ w', Fr No W w' → w'.cell? ⟨b, o + k * 4, none⟩ = some (.int .i64 a.kind) ∧ w'.cell? ⟨b, o + k * 4 + 1, none⟩ = some (.int .i64 a.i) ∧ w'.cell? ⟨b, o + k * 4 + 2, none⟩ = some a.pv ∧ w'.cell? ⟨b, o + k * 4 + 3, none⟩ = some a.kv := by
  have hm : a ∈ l := List.mem_of_getElem? hk
  have g : ∀ j, j < 4 → (l.flatMap acell)[k * 4 + j]? = (acell a)[j]? := fun j hj => flat_get (f := acell) (m := 4) (fun _ => rfl) l k a hk j hj
  obtain ⟨b, o, c, hv, h0⟩ := h.at_.at1 (k := k * 4 + 0) (u := .int .i64 a.kind) (by rw [g 0 (by decide)]; rfl)
  obtain ⟨b1, o1, c1, hv1, h1⟩ := h.at_.at1 (k := k * 4 + 1) (u := .int .i64 a.i) (by rw [g 1 (by decide)]; rfl)
  obtain ⟨b2, o2, c2, hv2, h2⟩ := h.at_.at1 (k := k * 4 + 2) (u := a.pv) (by rw [g 2 (by decide)]; rfl)
  obtain ⟨b3, o3, c3, hv3, h3⟩ := h.at_.at1 (k := k * 4 + 3) (u := a.kv) (by rw [g 3 (by decide)]; rfl)
  rw [hv] at hv1 hv2 hv3
  simp only [Value.slice.injEq, Option.some.injEq, Addr.mk.injEq, and_true, true_and] at hv1 hv2 hv3
  obtain ⟨⟨rfl, rfl⟩, rfl⟩ := hv1
  obtain ⟨⟨rfl, rfl⟩, -⟩ := hv2
  obtain ⟨⟨rfl, rfl⟩, -⟩ := hv3
  obtain ⟨ao, c', hc, _, _, _, _, hnc, hcm⟩ := h.at_
  rw [hv] at hc
  simp only [Value.slice.injEq] at hc
  obtain ⟨_, _, rfl⟩ := hc
  exact ⟨b, o, c, hv, hnc, hcm, h.each a hm, fun w' hf => ⟨h0 w' hf, by simpa [Nat.add_assoc] using h1 w' hf, by simpa [Nat.add_assoc] using h2 w' hf, by simpa [Nat.add_assoc] using h3 w' hf⟩⟩

section
variable {H : Type} {enc : TypeId × Value → H} {W : World}
theorem cells_of_trod {t e : TypeId} (ht : Try.prog.underlying t = some (.slice e)) {n : Nat} {v : Value} {y : DataW H × List MemPlace} (h : DataW.trod enc Try.prog W 0 (fun _ => true) true n t [v] = some y) : v.cells.toList = [v] := by
  rcases open_slice ht h with ⟨e, _⟩ | ⟨a, len, cap, m, n, D, Pl, e, _⟩
  · obtain rfl : v = .slice none 0 0 := by simpa using e
    rfl
  · obtain rfl : v = .slice (some a) len cap := by simpa using e
    rfl
theorem rd_acts {v : Value} {d : DataW H} {p : List MemPlace} (hv : v.cells.toList = [v]) (h : DataW.Trod enc Try.prog W 0 (fun _ => true) true 22 v d p) : ∃ l : List ActR, Acts W v l := by
  obtain ⟨fuel, h⟩ := h
  rw [hv] at h
  rcases open_slice Try.underlying22 h with ⟨e, _⟩ | ⟨a, len, cap, m, n, D, Pl, e, _, hlc, hm, hmm, _, hx⟩
  · obtain rfl : v = .slice none 0 0 := by simpa using e
    exact ⟨[], Rd.nil W 4, by simp⟩
  · obtain rfl : v = .slice (some a) len cap := by simpa using e
    simp only [if_true] at hmm
    subst hmm
    have ce : Try.prog.cellsOf 31 = 4 := by kernel_rfl
    have c3 : Try.prog.cellsOf 3 = 1 := by kernel_rfl
    have c29 : Try.prog.cellsOf 29 = 1 := by kernel_rfl
    have c23 : Try.prog.cellsOf 23 = 1 := by kernel_rfl
    have each : ∀ i, i < m → ∃ q : ActR, (∀ j u, (acell q)[j]? = some u → W.cell? (a.add (i * 4 + j)) = some u) ∧ ActOk W q := by
      intro i hi
      obtain ⟨cs', h1, h2⟩ := hx i hi
      rw [ce] at h1
      obtain ⟨_, hlen, hcell⟩ := World.cells?_some h1
      obtain ⟨xs, k, hk, hxy, _, hxl, hf⟩ := DataW.trod_struct Try.underlying31 h2
      match xs, hxl, cs', hlen with
      | [y0, y1, y2, y3], _, [v0, v1, v2, v3], _ =>
        have g0 := hf 0 _ rfl
        have g1 := hf 1 _ rfl
        have g2 := hf 2 _ rfl
        have g3 := hf 3 _ rfl
        simp [c3, c29, c23] at g0 g1 g2 g3
        obtain ⟨m0, e0, -, -⟩ := DataW.trod_int Try.underlying3 g0
        obtain ⟨m1, e1, -, hw1⟩ := DataW.trod_int Try.underlying3 g1
        obtain ⟨p, hp⟩ := rd_bytes (enc := enc) (cells_of_trod Try.underlying29 g2) (d := y2.1) (p := y2.2) ⟨k, by rw [cells_of_trod Try.underlying29 g2]; exact g2⟩
        obtain ⟨keep, hkeep⟩ := rd_bools (enc := enc) (cells_of_trod Try.underlying23 g3) (d := y3.1) (p := y3.2) ⟨k, by rw [cells_of_trod Try.underlying23 g3]; exact g3⟩
        refine ⟨⟨m0, m1, v2, p, v3, keep⟩, fun j u hj => ?_, hp, hkeep, (bounds_i64 hw1).2⟩
        have hjl : j < 4 := (List.getElem?_eq_some_iff.1 hj).1
        have := hcell j hjl
        rw [add_add] at this
        rw [this]
        obtain rfl : v0 = .int .i64 m0 := by simpa using e0
        obtain rfl : v1 = .int .i64 m1 := by simpa using e1
        exact hj
    obtain ⟨g, hg⟩ := choose_lt each
    have hl1 : ∀ q ∈ (List.range len).map g, ActOk W q := fun q hq => by
      simp only [List.mem_map, List.mem_range] at hq
      obtain ⟨i, hi, rfl⟩ := hq
      exact (hg i (by omega)).2
    refine ⟨(List.range len).map g, ⟨some a, m, by simp, flat_len (f := acell) (m := 4) (fun _ => rfl) _, fun h => (by cases h), fun ad had j u hu => ?_, fun u hu => ?_, by simpa using hlc, hm⟩, hl1⟩
    · obtain rfl := Option.some.inj had
      have hj : j < len * 4 := by
        have := (List.getElem?_eq_some_iff.1 hu).1
        rw [flat_len (m := 4) (fun _ => rfl)] at this
        simpa using this
      have hd : j = (j / 4) * 4 + j % 4 := by omega
      rw [hd] at hu ⊢
      rw [flat_get (m := 4) (fun _ => rfl) _ (j / 4) (g (j / 4)) (by rw [List.getElem?_map, List.getElem?_range (by omega)]; rfl) (j % 4) (by omega)] at hu
      exact (hg (j / 4) (by omega)).1 _ _ hu
    · obtain ⟨q, hq, hu⟩ := List.mem_flatMap.1 hu
      exact acell_one (hl1 q hq) u hu
end

set_option maxRecDepth 100000 in
set_option maxHeartbeats 2000000 in
theorem long_any (W : World) (lv : Value) (l : List ActR) (hl : Acts W lv l) : Calls Try.prog 10 #[lv] W fun e w' => (∃ b, e = .returned (.bool b)) ∧ Fr No W w' := by
  obtain ⟨ao, c, rfl, -⟩ := rd_len hl.at_
  have HL := hid hl
  clear hl
  go_enter Try.func10, Try.ntmps10
  go_wp2_with fail
  go_loopw [3, 4] (fun vn vk wr => ∃ (k : Nat) (s : Int), k ≤ l.length ∧ vn = .int .i64 s ∧ vk = .int .i64 (k : Int) ∧ Hid (Fr No W wr)) (fun _ v _ => l.length - (intOf v).toNat)
  case atStart => exact ⟨0, 0, Nat.zero_le _, rfl, rfl, Fr.refl _ _⟩
  case round =>
    obtain ⟨k, s, hkl, rfl, rfl, hf⟩ := hrel
    by_cases hlt : k < l.length
    · by_cases h60 : k < 60
      · obtain ⟨a, ha⟩ : ∃ a, l[k]? = some a := ⟨_, List.getElem?_eq_getElem hlt⟩
        obtain ⟨lb, lo, c', hlv, hlc, hcm, hok, hat⟩ := HL.out.at1 ha
        obtain ⟨rfl, rfl⟩ : ao = some ⟨lb, lo, none⟩ ∧ c = c' := by simpa using hlv
        obtain ⟨hc0, hc1, hc2, hc3⟩ := hat wr hf.out
        obtain ⟨ap, cp, hpv, hpl⟩ := rd_len hok.p
        obtain ⟨ak, ck, hkv, hkl'⟩ := rd_len hok.keep
        rw [hpv] at hc2
        rw [hkv] at hc3
        clear hc0 hc1 hlv hok hat hpv hkv
        go_wp2_with fail
        go_quiet (fail)
        go_wp2_with fail
        · go_ret
          exact ⟨⟨_, rfl⟩, hf.out.drewN _⟩
        · go_roundw
          case rel => exact ⟨k + 1, _, by omega, rfl, by go_num, hf.out.drewN _⟩
          case measure => simp [intOf]; omega
      · go_wp2_with fail
        go_ret
        exact ⟨⟨_, rfl⟩, hf.out⟩
    · go_wp2_with fail
      go_ret
      exact ⟨⟨_, rfl⟩, hf.out⟩
end Go.Proofs.Ytggahnipmlihlaa
