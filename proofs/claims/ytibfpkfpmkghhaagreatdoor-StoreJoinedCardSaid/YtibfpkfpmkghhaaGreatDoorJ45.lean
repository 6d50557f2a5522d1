/- A part of the proof: contracts of functions of the program, for the row's text. -/
import Derived.SizedLaws
import Derived.LaidMore
import Derived.Lay
import Derived.Stop.Joined
import Derived.Test.YtibfpkfpmkghhaaGreatDoorJ01
import Derived.Test.YtibfpkfpmkghhaaGreatDoorJ02
import Derived.Test.YtibfpkfpmkghhaaGreatDoorJ08
import Derived.Test.YtibfpkfpmkghhaaGreatDoorRows
import Derived.Lib.OthersKept
import Derived.Lib.TrimU
import Derived.Deep.LoopGhost
import Derived.Test.YtibfpkfpmkghhaaGreatDoorJ31
namespace Go.Lig
open Go.RowKit Go.ChangeShapes Go.WideShapes Go.ChangeAt Go.Deep

theorem law_liftedU {C : Checked} {os : Os} {n : FuncId} {fn : Func} {s : ChangeSpec} {conds : List PathCond} {H : Type} {enc : TypeId × Value → H} {tb : TypeId} {laid : List (String × DataW Unit)} (own : ownKnob C.prog.godebug = none) (started : os.Started) (noInit : C.prog.inits.idxOf? n = none) (hfn : C.prog.funcs[n]? = some fn)
    (witness : ∃ (w : World) (tape : Tape) (i : Input), w.os = os ∧ (w.forCall tape i).Shaped C.prog ∧ i.vars = [] ∧ Input.okWide C.prog (w.forCall tape i) .any w.heap.size n i ∧
      ((s.pre enc C.prog fn conds false (w.forCall tape i).memory i.args ∧ laidMetH C.prog laid (w.forCall tape i).memory) ∧ sizedMet enc C.prog fn (OpenSpec.ofChange s) false (w.forCall tape i).memory i.args) ∧ Assume.holds {} C.prog (lone (Frame.enter C.prog n i.args .normal) [] (w.forCall tape i)))
    (hl : laidOutB C.prog = true) (hv : s.vars = []) (htb : C.prog.underlying tb = some .bool) (hr : fn.resultTypes = #[tb])
    (hts : ∀ t ∈ fn.params.toList, C.prog.readableRec t = true ∧ t < C.prog.types.size) (hspec : ∀ xs : List (DataW H), xs.length = fn.params.size → s.fn H xs = { results := [.lit (.bool true)], args := xs })
    (contract : ∀ (W : World) (base : Nat) (args : Array Value) (ds gs : List (DataW H)) (p : List MemPlace), (∀ (j : Nat) t v, fn.params[j]? = some t → args[j]? = some v → Value.okWide C.prog W .any base t v) →
      DataW.TrodAll enc C.prog W 0 (fun _ => true) true fn.params.toList args.toList ds p →
      (DataW.weightsEach C.prog (fn.params.toList ++ s.plain.varTypes C.prog) (ds ++ gs)).all (· ≤ reachBytes) = true →
      Calls C.prog n args W fun e W' => e = .returned (.bool true) ∧ Below W.heap.size W W') :
    ReturnsInHanded {} C os n .any (fun w args => (s.pre enc C.prog fn conds false w args ∧ laidMetH C.prog laid w) ∧ sizedMet enc C.prog fn (OpenSpec.ofChange s) false w args) (s.post enc C.prog fn false true false false) := by
  refine returnsInHanded_of_change_and (C := C) (X := fun w _ => laidMetH C.prog laid w) (fun _ _ _ hh h => h.of_heap hh) own started noInit hfn witness ?_
  intro W base args ds gs before hval hW _ hsz _ _
  obtain ⟨p, q, hA, _⟩ := id hW
  exact (contract W base args ds gs p hval hA hsz).mono fun e W' ⟨he, hb⟩ => ⟨_, he, law_post hl hv htb hr hts hspec hW hb⟩
/-! ### Sizes -/
section
variable {H : Type} {P : Program}
/-- none of its sizes is out of reach -/
def RchD (P : Program) (t : TypeId) (d : DataW H) : Prop := ∀ n ∈ d.weights P t, n ≤ reachBytes
theorem mem_weightsAll {e : TypeId} {n : Nat} {d : DataW H} : ∀ {l : List (DataW H)}, d ∈ l → n ∈ d.weights P e → n ∈ DataW.weightsAll P e l
  | d0 :: l, hd, hn => by
    simp only [DataW.weightsAll, List.mem_append]
    rcases List.mem_cons.1 hd with rfl | h
    · exact .inl hn
    · exact .inr (mem_weightsAll h hn)
theorem RchD.elem {t e : TypeId} (ht : P.underlying t = some (.slice e)) {elems spare : List (DataW H)} (h : RchD P t (.slice elems spare)) {d : DataW H} (hd : d ∈ elems) : RchD P e d := fun n hn =>
  h n (by simp only [DataW.weights, ht, List.mem_cons, List.mem_append]; exact .inr (.inl (mem_weightsAll hd hn)))
theorem RchD.len {t e : TypeId} (ht : P.underlying t = some (.slice e)) (hb : 1 ≤ P.bytesOf e) {elems spare : List (DataW H)} (h : RchD P t (.slice elems spare)) : elems.length ≤ reachBytes := by
  have := h ((elems.length + spare.length) * P.bytesOf e) (by simp [DataW.weights, ht])
  have h2 := Nat.le_mul_of_pos_right (elems.length + spare.length) hb
  omega
theorem RchD.part {t : TypeId} {fs : Array Field} (ht : P.underlying t = some (.struct fs)) {parts : List (DataW H)} (h : RchD P t (.agg parts)) {i : Nat} {f : Field} {d : DataW H} (hf : fs[i]? = some f) (hd : parts[i]? = some d) : RchD P f.type d := fun n hn =>
  h n (by
    simp only [DataW.weights, ht]
    exact DataW.weights_mem_each (j := i) (t := f.type) (d := d) (by simpa using congrArg (Option.map Field.type) hf) hd n hn)
theorem RchD.string {t : TypeId} {s : ByteArray} (h : RchD (H := H) P t (.lit (.string s.data.toList))) : s.size ≤ reachBytes := by
  have := h s.data.toList.length (by simp [DataW.weights])
  simpa using this
theorem reach_of {ts us : List TypeId} {ds gs : List (DataW H)} (h : (DataW.weightsEach P (ts ++ us) (ds ++ gs)).all (· ≤ reachBytes) = true) {j : Nat} {t : TypeId} {d : DataW H} (ht : ts[j]? = some t) (hd : ds[j]? = some d) : RchD P t d := fun n hn => by
  have h1 := (List.getElem?_eq_some_iff.1 ht).1
  have h2 := (List.getElem?_eq_some_iff.1 hd).1
  have := List.all_eq_true.1 h n (DataW.weights_mem_each (j := j) (t := t) (d := d) (by rw [List.getElem?_append_left h1]; exact ht) (by rw [List.getElem?_append_left h2]; exact hd) n hn)
  simpa using this
end
section
variable {H : Type} {enc : TypeId × Value → H} {P : Program} {W : World}
theorem trodf {k : FloatKind} {t : TypeId} {fuel : Nat} {cs : List Value} {x : DataW H × List MemPlace} (ht : P.underlying t = some (.float k)) (h : DataW.trod enc P W 0 (fun _ => true) true fuel t cs = some x) : ∃ b, cs = [.float k b] ∧ (Lit.float k b).wf = true := by
  cases fuel with
  | zero => simp [DataW.trod] at h
  | succ n =>
    unfold DataW.trod at h
    rw [ht] at h
    split at h <;> simp_all
/-- A slice of elements of m cells, each of which is some f x. -/
theorem rd_rowU {α : Type} [Inhabited α] (f : α → List Value) {m : Nat} (hm0 : 0 < m) (hf : ∀ x, (f x).length = m) (h1 : ∀ x, ∀ u ∈ f x, u.oneCell' = true) (ok : α → Prop) {t e : TypeId} (ht : P.underlying t = some (.slice e)) (hc : P.cellsOf e = m) (hb : 1 ≤ P.bytesOf e)
    (hel : ∀ (n : Nat) (cs : List Value) (y : DataW H × List MemPlace), DataW.trod enc P W 0 (fun _ => true) true n e cs = some y → cs.length = m → RchD P e y.1 → ∃ x, cs = f x ∧ ok x)
    {n : Nat} {v : Value} {y : DataW H × List MemPlace} (h : DataW.trod enc P W 0 (fun _ => true) true n t [v] = some y) (hr : RchD P t y.1) :
    ∃ l : List α, Rd W v l.length m (l.flatMap f) ∧ (∀ x ∈ l, ok x) ∧ l.length ≤ reachBytes := by
  rcases open_slice ht h with ⟨e0, _⟩ | ⟨a, len, cap, mm, n', D, Pl, e0, _, hlc, hm, hmm, hy, hx⟩
  · obtain rfl : v = .slice none 0 0 := by simpa using e0
    exact ⟨[], Rd.nil W m, by simp, Nat.zero_le _⟩
  · obtain rfl : v = .slice (some a) len cap := by simpa using e0
    simp only [if_true] at hmm
    subst hmm
    subst hy
    have hlen : len ≤ reachBytes := by simpa using hr.len ht hb
    have each : ∀ i, i < len → ∃ q : α, (∀ j u, (f q)[j]? = some u → W.cell? (a.add (i * m + j)) = some u) ∧ ok q := by
      intro i hi
      obtain ⟨cs', k1, k2⟩ := hx i (by omega)
      rw [hc] at k1
      obtain ⟨_, hl, hcell⟩ := World.cells?_some k1
      obtain ⟨q, rfl, hq⟩ := hel n' cs' _ k2 hl (hr.elem ht (by simp only [List.mem_map, List.mem_range]; exact ⟨i, hi, rfl⟩))
      refine ⟨q, fun j u hj => ?_, hq⟩
      have hjl : j < m := by have := (List.getElem?_eq_some_iff.1 hj).1; rw [hf] at this; exact this
      have := hcell j hjl
      rw [add_add] at this
      rw [this]
      exact hj
    obtain ⟨g, hg⟩ := choose_lt each
    have hl1 : ∀ q ∈ (List.range len).map g, ok q := fun q hq => by
      simp only [List.mem_map, List.mem_range] at hq
      obtain ⟨i, hi, rfl⟩ := hq
      exact (hg i hi).2
    refine ⟨(List.range len).map g, ⟨some a, mm, by simp, flat_len (f := f) (m := m) hf _, fun h => (by cases h), fun ad had j u hu => ?_, fun u hu => ?_, by simpa using hlc, hm⟩, hl1, by simpa using hlen⟩
    · obtain rfl := Option.some.inj had
      have hj : j < len * m := by
        have := (List.getElem?_eq_some_iff.1 hu).1
        rw [flat_len (f := f) (m := m) hf] at this
        simpa using this
      have hd : j = (j / m) * m + j % m := by rw [Nat.mul_comm]; exact (Nat.div_add_mod j m).symm
      have hq : j / m < len := Nat.div_lt_of_lt_mul (by rw [Nat.mul_comm]; exact hj)
      have hr' : j % m < m := Nat.mod_lt _ hm0
      rw [hd] at hu ⊢
      rw [flat_get (f := f) (m := m) hf _ (j / m) (g (j / m)) (by rw [List.getElem?_map, List.getElem?_range hq]; rfl) (j % m) hr'] at hu
      exact (hg (j / m) hq).1 _ _ hu
    · obtain ⟨q, hq, hu⟩ := List.mem_flatMap.1 hu
      exact h1 q u hu
end
end Go.Lig

namespace Go.Lig
open Go.RowKit
/-- an act's cells -/
structure ActV where
  kind : Int
  t : Int
  id : Int
  n : NodeV
  e : EdgeV
instance : Inhabited ActV := ⟨⟨0, 0, 0, default, default⟩⟩
/-- an act -/
structure ActD where
  kind : Int
  t : Int
  id : Int
  n : NodeD
  e : EdgeV
instance : Inhabited ActD := ⟨⟨0, 0, 0, default, default⟩⟩
def actcell (a : ActV) : List Value := [.int .i64 a.kind, .int .i64 a.t, .int .i64 a.id, .slice a.n.l.a a.n.l.n a.n.l.c, .slice a.n.p.a a.n.p.n a.n.p.c, .int .i64 a.e.from_, .int .i64 a.e.to_, .string a.e.type, .float .f64 a.e.w]
theorem actcell_one (a : ActV) : ∀ u ∈ actcell a, u.oneCell' = true := fun u hu => by
  simp only [actcell, List.mem_cons, List.not_mem_nil, or_false] at hu
  rcases hu with rfl | rfl | rfl | rfl | rfl | rfl | rfl | rfl | rfl <;> rfl
/-- no string, no slice is longer than memory reaches -/
structure NodeLow (d : NodeD) : Prop where
  l : d.L.length ≤ Go.reachBytes
  p : d.Q.length ≤ Go.reachBytes
  ls : ∀ s ∈ d.L, s.size ≤ Go.reachBytes
  ps : ∀ q ∈ d.Q, q.key.size ≤ Go.reachBytes ∧ q.v.t.size ≤ Go.reachBytes
structure EdgeLow (v : EdgeV) : Prop where
  from_ : (Lit.int .i64 v.from_).wf = true
  to_ : (Lit.int .i64 v.to_).wf = true
  type : v.type.size ≤ Go.reachBytes
  w : (Lit.float .f64 v.w).wf = true
/-- an act, where it lies -/
structure ActIn (w : World) (a : ActV) (d : ActD) : Prop where
  kind : a.kind = d.kind
  t : a.t = d.t
  id : a.id = d.id
  e : a.e = d.e
  n : NodeOf w (.slice a.n.l.a a.n.l.n a.n.l.c) (.slice a.n.p.a a.n.p.n a.n.p.c) d.n
  low : NodeLow d.n
  elow : EdgeLow d.e
  kt : (Lit.int .i64 d.kind).wf = true ∧ (Lit.int .i64 d.t).wf = true ∧ (Lit.int .i64 d.id).wf = true
theorem ActIn.frame {w w' : World} {a : ActV} {d : ActD} (h : ActIn w a d) (hf : Fr No w w') : ActIn w' a d := ⟨h.kind, h.t, h.id, h.e, h.n.frame hf, h.low, h.elow, h.kt⟩
/-- acts -/
structure ActsAt (w : World) (v : Value) (l : List ActD) : Prop where
  ex : ∃ R : List ActV, R.length = l.length ∧ Rd w v l.length 9 (R.flatMap actcell) ∧ ∀ (j : Nat) (a : ActV) (d : ActD), R[j]? = some a → l[j]? = some d → ActIn w a d
  low : l.length ≤ Go.reachBytes
theorem ActsAt.frame {w w' : World} {v : Value} {l : List ActD} (h : ActsAt w v l) (hf : Fr No w w') : ActsAt w' v l := by
  obtain ⟨R, h1, h2, h3⟩ := h.ex
  exact ⟨⟨R, h1, h2.frame hf (fun _ _ e => e), fun j a d e1 e2 => (h3 j a d e1 e2).frame hf⟩, h.low⟩
end Go.Lig
namespace Go.Proofs.YtibfpkfpmkghhaaGreatDoor
open Go.RowKit Go.Lig Go.ChangeShapes Go.WideShapes Go.ChangeAt Go.Deep
section
variable {H : Type} {enc : TypeId × Value → H} {W : World}
theorem u_strings {n : Nat} {v : Value} {y : DataW H × List MemPlace} (h : DataW.trod enc Tryz.prog W 0 (fun _ => true) true n 28 [v] = some y) (hr : RchD Tryz.prog 28 y.1) :
    ∃ l : List ByteArray, Rd W v l.length 1 (l.map Value.string) ∧ (∀ s ∈ l, s.size ≤ Go.reachBytes) ∧ l.length ≤ Go.reachBytes := by
  obtain ⟨l, h1, h2, h3⟩ := rd_rowU (α := ByteArray) (fun s => [Value.string s]) (m := 1) (by decide) (fun _ => rfl) (fun x u hu => by
    obtain rfl : u = .string x := by simpa using hu
    rfl) (fun s => s.size ≤ Go.reachBytes) Tryz.underlying28 (by kernel_rfl) (by decide +kernel) (fun n cs y h hl hr => by
    obtain ⟨s, rfl, e, -⟩ := DataW.trod_string Tryz.underlying9 h
    subst e
    exact ⟨s, rfl, hr.string⟩) h hr
  have e : ∀ l : List ByteArray, l.flatMap (fun s => [Value.string s]) = l.map Value.string := fun l => by
    induction l with
    | nil => rfl
    | cons s l ih => rw [List.flatMap_cons, List.map_cons, ih]; rfl
  exact ⟨l, by rw [← e]; exact h1, h2, h3⟩
set_option maxRecDepth 100000 in
theorem u_props {n : Nat} {v : Value} {y : DataW H × List MemPlace} (h : DataW.trod enc Tryz.prog W 0 (fun _ => true) true n 29 [v] = some y) (hr : RchD Tryz.prog 29 y.1) :
    ∃ l : List PropV, Rd W v l.length 6 (l.flatMap pcell) ∧ (∀ q ∈ l, PropOk q ∧ (q.key.size ≤ Go.reachBytes ∧ q.v.t.size ≤ Go.reachBytes)) ∧ l.length ≤ Go.reachBytes := by
  have cv : Tryz.prog.cellsOf 60 = 5 := by kernel_rfl
  have c1 : Tryz.prog.cellsOf 3 = 1 := by kernel_rfl
  have c2 : Tryz.prog.cellsOf 4 = 1 := by kernel_rfl
  have c3 : Tryz.prog.cellsOf 40 = 1 := by kernel_rfl
  have c4 : Tryz.prog.cellsOf 9 = 1 := by kernel_rfl
  refine rd_rowU (α := PropV) pcell (m := 6) (by decide) (fun _ => rfl) (fun x u hu => ?_) (fun q => PropOk q ∧ (q.key.size ≤ Go.reachBytes ∧ q.v.t.size ≤ Go.reachBytes)) Tryz.underlying29 (by kernel_rfl) (by decide +kernel) (fun n cs y h hlen hr => ?_) h hr
  · simp only [pcell, List.mem_cons, List.not_mem_nil, or_false] at hu
    rcases hu with rfl | rfl | rfl | rfl | rfl | rfl <;> rfl
  · obtain ⟨xs, k, hk, hxy, _, hxl, hf⟩ := DataW.trod_struct Tryz.underlying145 h
    match xs, hxl, cs, hlen with
    | [y0, y1], _, [v0, v1, v2, v3, v4, v5], _ =>
      subst hxy
      have g0 := hf 0 _ rfl
      have g1 := hf 1 _ rfl
      simp [c4, cv] at g0 g1
      have r0 := hr.part Tryz.underlying145 (i := 0) (d := y0.1) rfl rfl
      have r1 := hr.part Tryz.underlying145 (i := 1) (d := y1.1) rfl rfl
      obtain ⟨s0, e0, x0, z0⟩ := DataW.trod_string Tryz.underlying9 g0
      subst x0
      obtain ⟨xs', k', hk', hxy', _, hxl', hf'⟩ := DataW.trod_struct Tryz.underlying60 g1
      subst hxy'
      match xs', hxl' with
      | [x0, x1, x2, x3, x4], _ =>
        have f0 := hf' 0 _ rfl
        have f1 := hf' 1 _ rfl
        have f2 := hf' 2 _ rfl
        have f3 := hf' 3 _ rfl
        have f4 := hf' 4 _ rfl
        simp [c1, c2, c3, c4] at f0 f1 f2 f3 f4
        have r4 := r1.part Tryz.underlying60 (i := 4) (d := x4.1) rfl rfl
        obtain ⟨m0, e1, -, w1⟩ := DataW.trod_int Tryz.underlying3 f0
        obtain ⟨b1, e2, -⟩ := DataW.trod_bool Tryz.underlying4 f1
        obtain ⟨m2, e3, -, w3⟩ := DataW.trod_int Tryz.underlying3 f2
        obtain ⟨m3, e4, w4⟩ := trodf Tryz.underlying40 f3
        obtain ⟨s4, e5, x4', z4⟩ := DataW.trod_string Tryz.underlying9 f4
        subst x4'
        obtain rfl : v0 = .string s0 := by simpa using e0
        obtain rfl : v1 = .int .i64 m0 := by simpa using e1
        obtain rfl : v2 = .bool b1 := by simpa using e2
        obtain rfl : v3 = .int .i64 m2 := by simpa using e3
        obtain rfl : v4 = .float .f64 m3 := by simpa using e4
        obtain rfl : v5 = .string s4 := by simpa using e5
        exact ⟨⟨s0, ⟨m0, b1, m2, m3, s4⟩⟩, rfl, ⟨z0, ⟨w1, w3, w4, z4⟩⟩, r0.string, r4.string⟩
end
end Go.Proofs.YtibfpkfpmkghhaaGreatDoor

namespace Go.Lig
open Go.RowKit
/-- a byte that may stand in a text -/
def okByte (b : UInt8) : Bool := decide (32 ≤ b.toNat) && decide (b.toNat ≤ 126)
def textOk (s : ByteArray) : Bool := s.data.toList.all okByte
def isTextB (s : ByteArray) : Bool := decide (s.size ≤ 12) && textOk s
theorem decodeN_low (n b0 b1 b2 b3 : Nat) (h : b0 < 128) : Lib.decodeN n b0 b1 b2 b3 = (b0, 1) := by unfold Lib.decodeN; rw [if_pos h]
theorem decodeN_high (n b0 b1 b2 b3 : Nat) (h : ¬ b0 < 128) : 128 ≤ (Lib.decodeN n b0 b1 b2 b3).1 := by
  unfold Lib.decodeN
  rw [if_neg h]
  repeat' split
  all_goals (simp only; omega)
theorem get_bang (s : ByteArray) (i : Nat) (h : i < s.size) : s.get! i = s.data.toList[i]'(by simpa using h) := by
  obtain ⟨⟨l⟩⟩ := s
  simp only [ByteArray.get!] at *
  have h2 : i < l.length := h
  simp [h2]
/-- what stands at a place -/
theorem rune_ok (s : ByteArray) (pos : Nat) (h : pos < s.size) (hb : okByte (s.data.toList[pos]'(by simpa using h)) = true) : (Utf8.decode s pos).2 = 1 ∧ 32 ≤ (Utf8.decode s pos).1 ∧ (Utf8.decode s pos).1 ≤ 126 := by
  rw [Lib.decode_at, get_bang s pos h]
  unfold okByte at hb
  simp only [Bool.and_eq_true, decide_eq_true_eq] at hb
  rw [decodeN_low _ _ _ _ _ (by omega)]
  exact ⟨rfl, hb.1, hb.2⟩
theorem rune_bad (s : ByteArray) (pos : Nat) (h : pos < s.size) (hb : okByte (s.data.toList[pos]'(by simpa using h)) = false) : (Utf8.decode s pos).1 < 32 ∨ 126 < (Utf8.decode s pos).1 := by
  rw [Lib.decode_at, get_bang s pos h]
  unfold okByte at hb
  simp only [Bool.and_eq_false_iff, decide_eq_false_iff_not] at hb
  by_cases h1 : (s.data.toList[pos]'(by simpa using h)).toNat < 128
  · rw [decodeN_low _ _ _ _ _ h1]
    simp only
    omega
  · have := decodeN_high (s.size - pos) _ (s.get! (pos + 1)).toNat (s.get! (pos + 2)).toNat (s.get! (pos + 3)).toNat h1
    omega
end Go.Lig
namespace Go.Proofs.YtibfpkfpmkghhaaGreatDoor
open Go.RowKit Go.Lig

theorem istext1_any (w : World) (r : Int) : Calls Tryz.prog 231 #[.int .i32 r] w fun e w' => e = .returned (.bool (decide (r < 32) || decide (126 < r))) ∧ w = w' := by
  by_cases h : r < 32
  · rw [decide_eq_true h, Bool.true_or]
    go_enter Tryz.func231, Tryz.ntmps231
    go_wp2
    go_ret
    exact ⟨rfl, rfl⟩
  · rw [decide_eq_false h, Bool.false_or]
    go_enter Tryz.func231, Tryz.ntmps231
    go_wp2
    go_ret
    exact ⟨rfl, rfl⟩
set_option maxRecDepth 100000 in
set_option maxHeartbeats 1000000 in
theorem indexbad_any (w : World) (s : ByteArray) : Calls Tryz.prog 268 #[.string s, .func (.func 231) #[] #[], .bool true] w fun e w' => ∃ i : Int, e = .returned (.int .i64 i) ∧ decide (i < 0) = textOk s ∧ Fr No w w' := by
  have HB : Hid (∀ k, k < s.size → (∃ h : k < s.data.toList.length, okByte s.data.toList[k] = false) → textOk s = false) := hid (fun k _ ⟨h, hb⟩ => by
    unfold textOk
    rw [List.all_eq_false]
    exact ⟨_, List.getElem_mem h, by rw [hb]; simp⟩)
  have HE : Hid ((∀ k, (h : k < s.data.toList.length) → okByte s.data.toList[k] = true) → textOk s = true) := hid (fun hb => by
    unfold textOk
    rw [List.all_eq_true]
    intro x hx
    obtain ⟨k, hk, rfl⟩ := List.getElem_of_mem hx
    exact hb k hk)
  generalize textOk s = tb at *
  go_enter Tryz.func268, Tryz.ntmps268
  go_wp2
  go_loopg [] s.size (fun g wx => ∃ pos : Nat, wx.heap[w.heap.size]? = some (.stringIter s pos) ∧ Below w.heap.size w wx ∧ pos ≤ s.size ∧ Hid (∀ k, k < pos → (h : k < s.data.toList.length) → okByte s.data.toList[k] = true) ∧ s.size ≤ pos + g)
  case atStart => exact ⟨0, World.iter_heap w s 0, (Below.refl _ w).alloc (Nat.le_refl _) _, Nat.zero_le _, fun k hk => absurd hk (Nat.not_lt_zero _), by omega⟩
  case round =>
    obtain ⟨pos, hit, hbw, hps, hok, hfu⟩ := hrel
    have hsz : w.heap.size < wr.heap.size := (Array.getElem?_eq_some_iff.1 hit).1
    have hlen : s.data.toList.length = s.size := by simp
    by_cases hp : pos < s.size
    · obtain ⟨g, rfl⟩ : ∃ g, gk = g + 1 := ⟨gk - 1, by omega⟩
      have hnx : ∀ ty, (Instr.next (.pointer (some ⟨w.heap.size, 0, none⟩)) true ty).run Tryz.prog wr = _ := fun ty => Lib.run_next_any_at wr w.heap.size s pos ty hit hp
      have hro := rune_ok s pos hp
      have hrb := rune_bad s pos hp
      obtain ⟨R, hR⟩ : ∃ R, (Utf8.decode s pos).1 = R := ⟨_, rfl⟩
      obtain ⟨K, hK⟩ : ∃ K, (Utf8.decode s pos).2 = K := ⟨_, rfl⟩
      rw [hR, hK] at hnx hro
      rw [hR] at hrb
      have hit2 := Lib.iterAt_heap wr w.heap.size s pos (pos + K) hit
      have hbw2 := Lib.below_iterAt hbw (k := w.heap.size) (Nat.le_refl _) s (pos + K)
      generalize wr.iterAt w.heap.size s (pos + K) = W at *
      have HW := hid (⟨hit2, hbw2⟩ : _ ∧ _)
      have HL := hid hlen
      cases hb : okByte (s.data.toList[pos]'(by omega)) with
      | true =>
        obtain ⟨rfl, h1, h2⟩ := hro hb
        have HBk := hid (⟨by omega, hb⟩ : ∃ h : pos < s.data.toList.length, okByte s.data.toList[pos] = true)
        have hc : (decide ((R : Int) < 32) || decide (126 < (R : Int))) = false := by
          rw [decide_eq_false (by omega), decide_eq_false (by omega)]; rfl
        have HC := hid (istext1_any W (R : Int))
        rw [hc] at HC
        clear hro hrb hb hc hlen hbw hit hit2 hbw2 hR hK h1 h2
        go_wp2_with (go_at_call 231; refine HC.out.mono ?_; rintro e W' ⟨rfl, rfl⟩)
        go_roundg g
        case measure => omega
        case rel => exact ⟨pos + 1, HW.out.1, HW.out.2, by omega, fun k hk h => by
          rcases Nat.lt_succ_iff_lt_or_eq.1 hk with h1 | rfl
          · exact hok.out k h1 h
          · exact HBk.out.2, by omega⟩
      | false =>
        have hbad := hrb hb
        have HBk := hid (HB.out pos hp ⟨by omega, hb⟩)
        have hc : (decide ((R : Int) < 32) || decide (126 < (R : Int))) = true := by
          rcases hbad with h | h
          · rw [decide_eq_true (by omega)]; rfl
          · rw [decide_eq_true (show (126 : Int) < (R : Int) by omega), Bool.or_true]
        have HC := hid (istext1_any W (R : Int))
        rw [hc] at HC
        clear hro hrb hb hc hlen hbw hit hit2 hbw2 hR hK hbad
        go_wp2_with (go_at_call 231; refine HC.out.mono ?_; rintro e W' ⟨rfl, rfl⟩)
        go_ret
        exact ⟨(pos : Int), rfl, by rw [HBk.out]; exact decide_eq_false (by omega), Fr.of_below HW.out.2⟩
    · have hnx : ∀ ty, (Instr.next (.pointer (some ⟨w.heap.size, 0, none⟩)) true ty).run Tryz.prog wr = _ := fun ty => Lib.run_next_end_at wr w.heap.size s pos ty hit hp
      have HE2 := hid (HE.out (fun k h => hok.out k (by omega) h))
      have HB2 := hid hbw
      clear hbw hit hlen
      go_wp2
      go_ret
      exact ⟨-1, rfl, by rw [HE2.out]; rfl, Fr.of_below HB2.out⟩
theorem indexfunc_any (w : World) (s : ByteArray) : Calls Tryz.prog 232 #[.string s, .func (.func 231) #[] #[]] w fun e w' => ∃ i : Int, e = .returned (.int .i64 i) ∧ decide (i < 0) = textOk s ∧ Fr No w w' := by
  have HI := hid (indexbad_any w s)
  go_enter Tryz.func232, Tryz.ntmps232
  go_wp2_with (go_at_call 268; refine HI.out.mono ?_; rintro e w1 ⟨i, rfl, h1, f1⟩; have F1 := hid (⟨h1, f1⟩ : _ ∧ _); clear h1 f1)
  go_ret
  exact ⟨i, rfl, F1.out.1, F1.out.2⟩
theorem istext_any (w : World) (s : ByteArray) : Calls Tryz.prog 180 #[.string s] w fun e w' => e = .returned (.bool (isTextB s)) ∧ Fr No w w' := by
  have HI := hid (indexfunc_any w s)
  have HE : Hid (isTextB s = (decide (s.size ≤ 12) && textOk s)) := hid rfl
  rw [HE.out]
  generalize textOk s = tb at *
  by_cases h : s.size ≤ 12
  · have h2 : (s.size : Int) ≤ 12 := by omega
    rw [decide_eq_true h, Bool.true_and]
    clear h
    go_enter Tryz.func180, Tryz.ntmps180
    go_wp2_with (go_at_call 232; refine HI.out.mono ?_; rintro e w1 ⟨i, rfl, h1, f1⟩; have F1 := hid (⟨h1, f1⟩ : _ ∧ _); clear h1 f1)
    go_ret
    exact ⟨by rw [← F1.out.1]; rfl, F1.out.2⟩
  · have h2 : ¬ (s.size : Int) ≤ 12 := by omega
    rw [decide_eq_false h, Bool.false_and]
    clear h
    go_enter Tryz.func180, Tryz.ntmps180
    go_wp2
    go_ret
    exact ⟨rfl, Fr.refl _ _⟩
end Go.Proofs.YtibfpkfpmkghhaaGreatDoor

namespace Go.Lig
open Go.RowKit
/-- an operation that may be loud, by its run -/
theorem sched_loudrun {P : Program} {ops : Array Oper} {Q : Exit → Act → World → Prop} {S : World → Prop} {last i : Nat} {a : Act} {w w' : World} {o : Oper} {rest : List (Bool × Nat × Oper)} (hgd : Region.wanted o (yielded ops a.tmps) = true) {v : Value} (hrun : (execOp a.eval o).run P w = .ok (.value v) w') (hS : S w')
    (h : wpSched P ops Q S last rest (a.put o.dst v) w') : wpSched P ops Q S last ((true, i, o) :: rest) a w := by
  refine sched_loud ?_
  unfold wpList
  rw [if_pos hgd]
  refine .inl ?_
  unfold Oper.wp
  rw [hrun]
  unfold Oper.upon
  exact sched_on (ops := ops) hS h
end Go.Lig
namespace Go.Proofs.YtibfpkfpmkghhaaGreatDoor
open Go.RowKit Go.Lig

/-- a value without what its kind does not name -/
def namedV (v : ValR) : ValR := ⟨v.kind, if v.kind = 1 then v.b else false, if v.kind = 2 then v.n else 0, if v.kind = 3 then normF v.f else 0, if v.kind = 4 then v.t else ⟨#[]⟩⟩
set_option maxRecDepth 100000 in
set_option maxHeartbeats 1000000 in
theorem named_other (w : World) (vk : Int) (vb : Bool) (vn : Int) (vf : Nat) (vt : ByteArray) (h1 : ¬ vk = 1) (h2 : ¬ vk = 2) (h3 : ¬ vk = 3) (h4 : ¬ vk = 4) :
    Calls Tryz.prog 178 #[.agg #[.int .i64 vk, .bool vb, .int .i64 vn, .float .f64 vf, .string vt]] w fun e w' => e = .returned (.agg #[.int .i64 vk, .bool false, .int .i64 0, .float .f64 0, .string ⟨#[]⟩]) ∧ Fr No w w' := by
  go_enter Tryz.func178, Tryz.ntmps178
  go_wp2_with fail
  obtain ⟨e1, e2, e3⟩ := heap3 w (.cells #[.int .i64 vk, .bool vb, .int .i64 vn, .float .f64 vf, .string vt] 60) (.cells #[.int .i64 vk, .bool false, .int .i64 0, .float .f64 0, .string ⟨#[]⟩] 60) (.cells #[.int .i64 vk, .bool false, .int .i64 0, .float .f64 0, .string ⟨#[]⟩] 60)
  obtain ⟨r0, r1, r2, r3, r4⟩ := cells5 e2
  refine bodyPost_ret (v := .agg #[.int .i64 vk, .bool false, .int .i64 0, .float .f64 0, .string ⟨#[]⟩]) ?_ rfl ⟨rfl, (((Fr.refl No w).alloc _).alloc _).alloc _⟩
  simp [results, Tryz.f178, go_sem, r0, r1, r2, r3, r4]
set_option maxRecDepth 100000 in
set_option maxHeartbeats 1000000 in
theorem named_bool (w : World) (vb : Bool) (vn : Int) (vf : Nat) (vt : ByteArray) :
    Calls Tryz.prog 178 #[.agg #[.int .i64 1, .bool vb, .int .i64 vn, .float .f64 vf, .string vt]] w fun e w' => e = .returned (.agg #[.int .i64 1, .bool vb, .int .i64 0, .float .f64 0, .string ⟨#[]⟩]) ∧ Fr No w w' := by
  go_enter Tryz.func178, Tryz.ntmps178
  go_wp2_with fail
  obtain ⟨e1, e2, e3⟩ := heap3 w (.cells #[.int .i64 1, .bool vb, .int .i64 vn, .float .f64 vf, .string vt] 60) (.cells #[.int .i64 1, .bool vb, .int .i64 0, .float .f64 0, .string ⟨#[]⟩] 60) (.cells #[.int .i64 1, .bool vb, .int .i64 0, .float .f64 0, .string ⟨#[]⟩] 60)
  obtain ⟨r0, r1, r2, r3, r4⟩ := cells5 e2
  refine bodyPost_ret (v := .agg #[.int .i64 1, .bool vb, .int .i64 0, .float .f64 0, .string ⟨#[]⟩]) ?_ rfl ⟨rfl, (((Fr.refl No w).alloc _).alloc _).alloc _⟩
  simp [results, Tryz.f178, go_sem, r0, r1, r2, r3, r4]
set_option maxRecDepth 100000 in
set_option maxHeartbeats 1000000 in
theorem named_int (w : World) (vb : Bool) (vn : Int) (vf : Nat) (vt : ByteArray) :
    Calls Tryz.prog 178 #[.agg #[.int .i64 2, .bool vb, .int .i64 vn, .float .f64 vf, .string vt]] w fun e w' => e = .returned (.agg #[.int .i64 2, .bool false, .int .i64 vn, .float .f64 0, .string ⟨#[]⟩]) ∧ Fr No w w' := by
  go_enter Tryz.func178, Tryz.ntmps178
  go_wp2_with fail
  obtain ⟨e1, e2, e3⟩ := heap3 w (.cells #[.int .i64 2, .bool vb, .int .i64 vn, .float .f64 vf, .string vt] 60) (.cells #[.int .i64 2, .bool false, .int .i64 vn, .float .f64 0, .string ⟨#[]⟩] 60) (.cells #[.int .i64 2, .bool false, .int .i64 vn, .float .f64 0, .string ⟨#[]⟩] 60)
  obtain ⟨r0, r1, r2, r3, r4⟩ := cells5 e2
  refine bodyPost_ret (v := .agg #[.int .i64 2, .bool false, .int .i64 vn, .float .f64 0, .string ⟨#[]⟩]) ?_ rfl ⟨rfl, (((Fr.refl No w).alloc _).alloc _).alloc _⟩
  simp [results, Tryz.f178, go_sem, r0, r1, r2, r3, r4]
set_option maxRecDepth 100000 in
set_option maxHeartbeats 1000000 in
theorem named_real (w : World) (vb : Bool) (vn : Int) (vf : Nat) (vt : ByteArray) :
    Calls Tryz.prog 178 #[.agg #[.int .i64 3, .bool vb, .int .i64 vn, .float .f64 vf, .string vt]] w fun e w' => e = .returned (.agg #[.int .i64 3, .bool false, .int .i64 0, .float .f64 (normF vf), .string ⟨#[]⟩]) ∧ Fr No w w' := by
  go_enter Tryz.func178, Tryz.ntmps178
  go_wp2_with (go_at_call 230; refine (norm_any _ _).mono ?_; rintro e w1 ⟨rfl, rfl⟩)
  obtain ⟨e1, e2, e3⟩ := heap3 w (.cells #[.int .i64 3, .bool vb, .int .i64 vn, .float .f64 vf, .string vt] 60) (.cells #[.int .i64 3, .bool false, .int .i64 0, .float .f64 (normF vf), .string ⟨#[]⟩] 60) (.cells #[.int .i64 3, .bool false, .int .i64 0, .float .f64 (normF vf), .string ⟨#[]⟩] 60)
  obtain ⟨r0, r1, r2, r3, r4⟩ := cells5 e2
  refine bodyPost_ret (v := .agg #[.int .i64 3, .bool false, .int .i64 0, .float .f64 (normF vf), .string ⟨#[]⟩]) ?_ rfl ⟨rfl, (((Fr.refl No w).alloc _).alloc _).alloc _⟩
  simp [results, Tryz.f178, go_sem, r0, r1, r2, r3, r4]
set_option maxRecDepth 100000 in
set_option maxHeartbeats 1000000 in
theorem named_text (w : World) (vb : Bool) (vn : Int) (vf : Nat) (vt : ByteArray) :
    Calls Tryz.prog 178 #[.agg #[.int .i64 4, .bool vb, .int .i64 vn, .float .f64 vf, .string vt]] w fun e w' => e = .returned (.agg #[.int .i64 4, .bool false, .int .i64 0, .float .f64 0, .string vt]) ∧ Fr No w w' := by
  go_enter Tryz.func178, Tryz.ntmps178
  go_wp2_with fail
  obtain ⟨e1, e2, e3⟩ := heap3 w (.cells #[.int .i64 4, .bool vb, .int .i64 vn, .float .f64 vf, .string vt] 60) (.cells #[.int .i64 4, .bool false, .int .i64 0, .float .f64 0, .string vt] 60) (.cells #[.int .i64 4, .bool false, .int .i64 0, .float .f64 0, .string vt] 60)
  obtain ⟨r0, r1, r2, r3, r4⟩ := cells5 e2
  refine bodyPost_ret (v := .agg #[.int .i64 4, .bool false, .int .i64 0, .float .f64 0, .string vt]) ?_ rfl ⟨rfl, (((Fr.refl No w).alloc _).alloc _).alloc _⟩
  simp [results, Tryz.f178, go_sem, r0, r1, r2, r3, r4]
theorem named_any (w : World) (v : ValR) : Calls Tryz.prog 178 #[valV v] w fun e w' => e = .returned (valV (namedV v)) ∧ Fr No w w' := by
  obtain ⟨vk, vb, vn, vf, vt⟩ := v
  unfold namedV valV
  dsimp only
  by_cases h1 : vk = 1
  · subst h1; exact named_bool w vb vn vf vt
  by_cases h2 : vk = 2
  · subst h2; exact named_int w vb vn vf vt
  by_cases h3 : vk = 3
  · subst h3; exact named_real w vb vn vf vt
  by_cases h4 : vk = 4
  · subst h4; exact named_text w vb vn vf vt
  rw [if_neg h1, if_neg h2, if_neg h3, if_neg h4]
  exact named_other w vk vb vn vf vt h1 h2 h3 h4
end Go.Proofs.YtibfpkfpmkghhaaGreatDoor

namespace Go.Proofs.YtibfpkfpmkghhaaGreatDoor
open Go.RowKit Go.Lig

def sameN (v : ValR) : Bool := ((namedV v).b == v.b) && decide ((namedV v).n = v.n) && decide ((namedV v).t = v.t) && decide ((namedV v).f = v.f)
/-- may a value be? -/
def valIsB (v : ValR) : Bool := sameN v && (decide (0 ≤ v.kind) && (decide (v.kind ≤ 4) && isTextB v.t))
set_option maxRecDepth 100000 in
set_option maxHeartbeats 4000000 in
theorem is_any (w : World) (v : ValR) : Calls Tryz.prog 89 #[valV v] w fun e w' => e = .returned (.bool (valIsB v)) ∧ Fr No w w' := by
  have HN := hid (fun W => named_any W v)
  have HT := hid (fun W => istext_any W v.t)
  have HV0 : Hid (valIsB v = (((namedV v).b == v.b) && decide ((namedV v).n = v.n) && decide ((namedV v).t = v.t) && decide ((namedV v).f = v.f) && (decide (0 ≤ v.kind) && (decide (v.kind ≤ 4) && isTextB v.t)))) := hid rfl
  generalize namedV v = u at *
  generalize valIsB v = r at *
  obtain ⟨vk, vb, vn, vf, vt⟩ := v
  obtain ⟨kk, bb, nn, ff, tt⟩ := u
  dsimp only [valV] at HN HT HV0 ⊢
  generalize isTextB vt = it at *
  have k1 := heap1 w (.cells #[.int .i64 vk, .bool vb, .int .i64 vn, .float .f64 vf, .string vt] 60)
  have hf : Fr No w (w.alloc (.cells #[.int .i64 vk, .bool vb, .int .i64 vn, .float .f64 vf, .string vt] 60)) := (Fr.refl No w).alloc _
  have HF := hid (⟨hf, k1⟩ : _ ∧ _)
  clear hf k1
  cases hb : (bb == vb) with
  | false =>
    have HV : Hid (r = false) := hid (by rw [HV0.out, hb]; rfl)
    clear HV0
    go_enter Tryz.func89, Tryz.ntmps89
    go_wp2_with (go_at_call 178; refine (HN.out _).mono ?_; rintro e w2 ⟨rfl, f2⟩; have F2 := hid (⟨f2, f2.keep HF.out.2 (fun e => e)⟩ : _ ∧ _); clear f2)
    obtain ⟨c0, c1, c2, c3, c4⟩ := cells5 (((Fr.refl No w2).alloc (.cells #[.int .i64 kk, .bool bb, .int .i64 nn, .float .f64 ff, .string tt] 60)).keep F2.out.2 (fun e => e))
    obtain ⟨d0, d1, d2, d3, d4⟩ := cells5 (heap1 w2 (.cells #[.int .i64 kk, .bool bb, .int .i64 nn, .float .f64 ff, .string tt] 60))
    have F3 := hid ((HF.out.1.thenNo F2.out.1).alloc (.cells #[.int .i64 kk, .bool bb, .int .i64 nn, .float .f64 ff, .string tt] 60))
    generalize w2.alloc (.cells #[.int .i64 kk, .bool bb, .int .i64 nn, .float .f64 ff, .string tt] 60) = w3 at *
    generalize w2.heap.size = b3 at *
    refine wp_region_sched (by kernel_rfl) 29 [22, 25] [0, 1, 2, 3, 4, 5, 6, 7, 8, 9, 10, 11, 12, 13, 14, 15, 16, 17, 18, 19, 20, 21, 23, 24, 22, 25, 26, 27, 28] (AgC [w.heap.size, b3] w3.drew) (by kernel_rfl) (AgC.refl _ _) ?_
    simp only [List.map_cons, List.map_nil, List.contains_cons, List.contains_nil, nth_zero, nth_succ, Nat.reduceBEq, Bool.false_or, Bool.or_false, Bool.or_true, Bool.true_or]
    repeat (refine sched_quiet (fun K hK => ?_); go_simp; refine hK _ ?_; clear hK K)
    refine sched_skip (by first | rfl | go_simp) (AgC.refl _ _) ?_
    refine sched_skip (by first | rfl | go_simp) (AgC.refl _ _) ?_
    repeat (refine sched_quiet (fun K hK => ?_); go_simp; refine hK _ ?_; clear hK K)
    refine sched_nil ?_
    go_wp2_with fail
    go_ret
    rw [HV.out]
    exact ⟨rfl, F3.out.drew⟩
  | true =>
    rw [hb] at HV0
    by_cases hn : nn = vn
    · have hnn : ((nn : Int) == vn) = true := by rw [beq_iff_eq]; exact hn
      by_cases ht : tt = vt
      · have htt : (tt.toList == vt.toList) = true := by rw [strq]; exact decide_eq_true ht
        by_cases hff : ff = vf
        · have hf2 : (((ff : Nat) : Int) == ((vf : Nat) : Int)) = true := by rw [beq_iff_eq]; omega
          have HV1 : Hid (r = (decide (0 ≤ vk) && (decide (vk ≤ 4) && it))) := hid (by rw [HV0.out, decide_eq_true hn, decide_eq_true ht, decide_eq_true hff]; rfl)
          clear HV0 hn ht hff
          by_cases h0 : 0 ≤ vk
          · by_cases h4 : vk ≤ 4
            · have HV : Hid (r = it) := hid (by rw [HV1.out, decide_eq_true h0, decide_eq_true h4]; rfl)
              go_enter Tryz.func89, Tryz.ntmps89
              go_wp2_with (go_at_call 178; refine (HN.out _).mono ?_; rintro e w2 ⟨rfl, f2⟩; have F2 := hid (⟨f2, f2.keep HF.out.2 (fun e => e)⟩ : _ ∧ _); clear f2)
              obtain ⟨c0, c1, c2, c3, c4⟩ := cells5 (((Fr.refl No w2).alloc (.cells #[.int .i64 kk, .bool bb, .int .i64 nn, .float .f64 ff, .string tt] 60)).keep F2.out.2 (fun e => e))
              obtain ⟨d0, d1, d2, d3, d4⟩ := cells5 (heap1 w2 (.cells #[.int .i64 kk, .bool bb, .int .i64 nn, .float .f64 ff, .string tt] 60))
              have F3 := hid ((HF.out.1.thenNo F2.out.1).alloc (.cells #[.int .i64 kk, .bool bb, .int .i64 nn, .float .f64 ff, .string tt] 60))
              generalize w2.alloc (.cells #[.int .i64 kk, .bool bb, .int .i64 nn, .float .f64 ff, .string tt] 60) = w3 at *
              generalize w2.heap.size = b3 at *
              refine wp_region_sched (by kernel_rfl) 29 [22, 25] [0, 1, 2, 3, 4, 5, 6, 7, 8, 9, 10, 11, 12, 13, 14, 15, 16, 17, 18, 19, 20, 21, 23, 24, 22, 25, 26, 27, 28] (AgC [w.heap.size, b3] w3.drew) (by kernel_rfl) (AgC.refl _ _) ?_
              simp only [List.map_cons, List.map_nil, List.contains_cons, List.contains_nil, nth_zero, nth_succ, Nat.reduceBEq, Bool.false_or, Bool.or_false, Bool.or_true, Bool.true_or]
              repeat (refine sched_quiet (fun K hK => ?_); go_simp; refine hK _ ?_; clear hK K)
              refine sched_loudrun (by first | rfl | go_simp) (v := .int .u64 (ff : Int)) (w' := w3.drew) (by have hb := bits_run w3.drew ff; go_simp) (AgC.refl _ _) ?_
              refine sched_loudrun (by first | rfl | go_simp) (v := .int .u64 (vf : Int)) (w' := w3.drew) (by have hb := bits_run w3.drew vf; go_simp) (AgC.refl _ _) ?_
              repeat (refine sched_quiet (fun K hK => ?_); go_simp; refine hK _ ?_; clear hK K)
              refine sched_nil ?_
              go_wp2_with (go_at_call 180; refine (HT.out _).mono ?_; rintro e w9 ⟨rfl, f9⟩; have F9 := hid (F3.out.drew.thenNo f9); clear f9)
              go_ret
              rw [HV.out]
              exact ⟨rfl, F9.out⟩
            · have HV : Hid (r = false) := hid (by rw [HV1.out, decide_eq_false h4, Bool.false_and, Bool.and_false])
              go_enter Tryz.func89, Tryz.ntmps89
              go_wp2_with (go_at_call 178; refine (HN.out _).mono ?_; rintro e w2 ⟨rfl, f2⟩; have F2 := hid (⟨f2, f2.keep HF.out.2 (fun e => e)⟩ : _ ∧ _); clear f2)
              obtain ⟨c0, c1, c2, c3, c4⟩ := cells5 (((Fr.refl No w2).alloc (.cells #[.int .i64 kk, .bool bb, .int .i64 nn, .float .f64 ff, .string tt] 60)).keep F2.out.2 (fun e => e))
              obtain ⟨d0, d1, d2, d3, d4⟩ := cells5 (heap1 w2 (.cells #[.int .i64 kk, .bool bb, .int .i64 nn, .float .f64 ff, .string tt] 60))
              have F3 := hid ((HF.out.1.thenNo F2.out.1).alloc (.cells #[.int .i64 kk, .bool bb, .int .i64 nn, .float .f64 ff, .string tt] 60))
              generalize w2.alloc (.cells #[.int .i64 kk, .bool bb, .int .i64 nn, .float .f64 ff, .string tt] 60) = w3 at *
              generalize w2.heap.size = b3 at *
              refine wp_region_sched (by kernel_rfl) 29 [22, 25] [0, 1, 2, 3, 4, 5, 6, 7, 8, 9, 10, 11, 12, 13, 14, 15, 16, 17, 18, 19, 20, 21, 23, 24, 22, 25, 26, 27, 28] (AgC [w.heap.size, b3] w3.drew) (by kernel_rfl) (AgC.refl _ _) ?_
              simp only [List.map_cons, List.map_nil, List.contains_cons, List.contains_nil, nth_zero, nth_succ, Nat.reduceBEq, Bool.false_or, Bool.or_false, Bool.or_true, Bool.true_or]
              repeat (refine sched_quiet (fun K hK => ?_); go_simp; refine hK _ ?_; clear hK K)
              refine sched_loudrun (by first | rfl | go_simp) (v := .int .u64 (ff : Int)) (w' := w3.drew) (by have hb := bits_run w3.drew ff; go_simp) (AgC.refl _ _) ?_
              refine sched_loudrun (by first | rfl | go_simp) (v := .int .u64 (vf : Int)) (w' := w3.drew) (by have hb := bits_run w3.drew vf; go_simp) (AgC.refl _ _) ?_
              repeat (refine sched_quiet (fun K hK => ?_); go_simp; refine hK _ ?_; clear hK K)
              refine sched_nil ?_
              go_wp2_with fail
              go_ret
              rw [HV.out]
              exact ⟨rfl, F3.out.drew⟩
          · have HV : Hid (r = false) := hid (by rw [HV1.out, decide_eq_false h0, Bool.false_and])
            go_enter Tryz.func89, Tryz.ntmps89
            go_wp2_with (go_at_call 178; refine (HN.out _).mono ?_; rintro e w2 ⟨rfl, f2⟩; have F2 := hid (⟨f2, f2.keep HF.out.2 (fun e => e)⟩ : _ ∧ _); clear f2)
            obtain ⟨c0, c1, c2, c3, c4⟩ := cells5 (((Fr.refl No w2).alloc (.cells #[.int .i64 kk, .bool bb, .int .i64 nn, .float .f64 ff, .string tt] 60)).keep F2.out.2 (fun e => e))
            obtain ⟨d0, d1, d2, d3, d4⟩ := cells5 (heap1 w2 (.cells #[.int .i64 kk, .bool bb, .int .i64 nn, .float .f64 ff, .string tt] 60))
            have F3 := hid ((HF.out.1.thenNo F2.out.1).alloc (.cells #[.int .i64 kk, .bool bb, .int .i64 nn, .float .f64 ff, .string tt] 60))
            generalize w2.alloc (.cells #[.int .i64 kk, .bool bb, .int .i64 nn, .float .f64 ff, .string tt] 60) = w3 at *
            generalize w2.heap.size = b3 at *
            refine wp_region_sched (by kernel_rfl) 29 [22, 25] [0, 1, 2, 3, 4, 5, 6, 7, 8, 9, 10, 11, 12, 13, 14, 15, 16, 17, 18, 19, 20, 21, 23, 24, 22, 25, 26, 27, 28] (AgC [w.heap.size, b3] w3.drew) (by kernel_rfl) (AgC.refl _ _) ?_
            simp only [List.map_cons, List.map_nil, List.contains_cons, List.contains_nil, nth_zero, nth_succ, Nat.reduceBEq, Bool.false_or, Bool.or_false, Bool.or_true, Bool.true_or]
            repeat (refine sched_quiet (fun K hK => ?_); go_simp; refine hK _ ?_; clear hK K)
            refine sched_loudrun (by first | rfl | go_simp) (v := .int .u64 (ff : Int)) (w' := w3.drew) (by have hb := bits_run w3.drew ff; go_simp) (AgC.refl _ _) ?_
            refine sched_loudrun (by first | rfl | go_simp) (v := .int .u64 (vf : Int)) (w' := w3.drew) (by have hb := bits_run w3.drew vf; go_simp) (AgC.refl _ _) ?_
            repeat (refine sched_quiet (fun K hK => ?_); go_simp; refine hK _ ?_; clear hK K)
            refine sched_nil ?_
            go_wp2_with fail
            go_ret
            rw [HV.out]
            exact ⟨rfl, F3.out.drew⟩
        · have hf2 : (((ff : Nat) : Int) == ((vf : Nat) : Int)) = false := by rw [beq_eq_false_iff_ne]; omega
          have HV : Hid (r = false) := hid (by rw [HV0.out, decide_eq_false hff, Bool.and_false]; rfl)
          clear HV0 hn ht hff
          go_enter Tryz.func89, Tryz.ntmps89
          go_wp2_with (go_at_call 178; refine (HN.out _).mono ?_; rintro e w2 ⟨rfl, f2⟩; have F2 := hid (⟨f2, f2.keep HF.out.2 (fun e => e)⟩ : _ ∧ _); clear f2)
          obtain ⟨c0, c1, c2, c3, c4⟩ := cells5 (((Fr.refl No w2).alloc (.cells #[.int .i64 kk, .bool bb, .int .i64 nn, .float .f64 ff, .string tt] 60)).keep F2.out.2 (fun e => e))
          obtain ⟨d0, d1, d2, d3, d4⟩ := cells5 (heap1 w2 (.cells #[.int .i64 kk, .bool bb, .int .i64 nn, .float .f64 ff, .string tt] 60))
          have F3 := hid ((HF.out.1.thenNo F2.out.1).alloc (.cells #[.int .i64 kk, .bool bb, .int .i64 nn, .float .f64 ff, .string tt] 60))
          generalize w2.alloc (.cells #[.int .i64 kk, .bool bb, .int .i64 nn, .float .f64 ff, .string tt] 60) = w3 at *
          generalize w2.heap.size = b3 at *
          refine wp_region_sched (by kernel_rfl) 29 [22, 25] [0, 1, 2, 3, 4, 5, 6, 7, 8, 9, 10, 11, 12, 13, 14, 15, 16, 17, 18, 19, 20, 21, 23, 24, 22, 25, 26, 27, 28] (AgC [w.heap.size, b3] w3.drew) (by kernel_rfl) (AgC.refl _ _) ?_
          simp only [List.map_cons, List.map_nil, List.contains_cons, List.contains_nil, nth_zero, nth_succ, Nat.reduceBEq, Bool.false_or, Bool.or_false, Bool.or_true, Bool.true_or]
          repeat (refine sched_quiet (fun K hK => ?_); go_simp; refine hK _ ?_; clear hK K)
          refine sched_loudrun (by first | rfl | go_simp) (v := .int .u64 (ff : Int)) (w' := w3.drew) (by have hb := bits_run w3.drew ff; go_simp) (AgC.refl _ _) ?_
          refine sched_loudrun (by first | rfl | go_simp) (v := .int .u64 (vf : Int)) (w' := w3.drew) (by have hb := bits_run w3.drew vf; go_simp) (AgC.refl _ _) ?_
          repeat (refine sched_quiet (fun K hK => ?_); go_simp; refine hK _ ?_; clear hK K)
          refine sched_nil ?_
          go_wp2_with fail
          go_ret
          rw [HV.out]
          exact ⟨rfl, F3.out.drew⟩
      · have htt : (tt.toList == vt.toList) = false := by rw [strq]; exact decide_eq_false ht
        have HV : Hid (r = false) := hid (by rw [HV0.out, decide_eq_false ht, Bool.and_false]; rfl)
        clear HV0 ht hn
        go_enter Tryz.func89, Tryz.ntmps89
        go_wp2_with (go_at_call 178; refine (HN.out _).mono ?_; rintro e w2 ⟨rfl, f2⟩; have F2 := hid (⟨f2, f2.keep HF.out.2 (fun e => e)⟩ : _ ∧ _); clear f2)
        obtain ⟨c0, c1, c2, c3, c4⟩ := cells5 (((Fr.refl No w2).alloc (.cells #[.int .i64 kk, .bool bb, .int .i64 nn, .float .f64 ff, .string tt] 60)).keep F2.out.2 (fun e => e))
        obtain ⟨d0, d1, d2, d3, d4⟩ := cells5 (heap1 w2 (.cells #[.int .i64 kk, .bool bb, .int .i64 nn, .float .f64 ff, .string tt] 60))
        have F3 := hid ((HF.out.1.thenNo F2.out.1).alloc (.cells #[.int .i64 kk, .bool bb, .int .i64 nn, .float .f64 ff, .string tt] 60))
        generalize w2.alloc (.cells #[.int .i64 kk, .bool bb, .int .i64 nn, .float .f64 ff, .string tt] 60) = w3 at *
        generalize w2.heap.size = b3 at *
        refine wp_region_sched (by kernel_rfl) 29 [22, 25] [0, 1, 2, 3, 4, 5, 6, 7, 8, 9, 10, 11, 12, 13, 14, 15, 16, 17, 18, 19, 20, 21, 23, 24, 22, 25, 26, 27, 28] (AgC [w.heap.size, b3] w3.drew) (by kernel_rfl) (AgC.refl _ _) ?_
        simp only [List.map_cons, List.map_nil, List.contains_cons, List.contains_nil, nth_zero, nth_succ, Nat.reduceBEq, Bool.false_or, Bool.or_false, Bool.or_true, Bool.true_or]
        repeat (refine sched_quiet (fun K hK => ?_); go_simp; refine hK _ ?_; clear hK K)
        refine sched_skip (by first | rfl | go_simp) (AgC.refl _ _) ?_
        refine sched_skip (by first | rfl | go_simp) (AgC.refl _ _) ?_
        repeat (refine sched_quiet (fun K hK => ?_); go_simp; refine hK _ ?_; clear hK K)
        refine sched_nil ?_
        go_wp2_with fail
        go_ret
        rw [HV.out]
        exact ⟨rfl, F3.out.drew⟩
    · have hnn : ((nn : Int) == vn) = false := by rw [beq_eq_false_iff_ne]; exact hn
      have HV : Hid (r = false) := hid (by rw [HV0.out, decide_eq_false hn]; rfl)
      clear HV0 hn
      go_enter Tryz.func89, Tryz.ntmps89
      go_wp2_with (go_at_call 178; refine (HN.out _).mono ?_; rintro e w2 ⟨rfl, f2⟩; have F2 := hid (⟨f2, f2.keep HF.out.2 (fun e => e)⟩ : _ ∧ _); clear f2)
      obtain ⟨c0, c1, c2, c3, c4⟩ := cells5 (((Fr.refl No w2).alloc (.cells #[.int .i64 kk, .bool bb, .int .i64 nn, .float .f64 ff, .string tt] 60)).keep F2.out.2 (fun e => e))
      obtain ⟨d0, d1, d2, d3, d4⟩ := cells5 (heap1 w2 (.cells #[.int .i64 kk, .bool bb, .int .i64 nn, .float .f64 ff, .string tt] 60))
      have F3 := hid ((HF.out.1.thenNo F2.out.1).alloc (.cells #[.int .i64 kk, .bool bb, .int .i64 nn, .float .f64 ff, .string tt] 60))
      generalize w2.alloc (.cells #[.int .i64 kk, .bool bb, .int .i64 nn, .float .f64 ff, .string tt] 60) = w3 at *
      generalize w2.heap.size = b3 at *
      refine wp_region_sched (by kernel_rfl) 29 [22, 25] [0, 1, 2, 3, 4, 5, 6, 7, 8, 9, 10, 11, 12, 13, 14, 15, 16, 17, 18, 19, 20, 21, 23, 24, 22, 25, 26, 27, 28] (AgC [w.heap.size, b3] w3.drew) (by kernel_rfl) (AgC.refl _ _) ?_
      simp only [List.map_cons, List.map_nil, List.contains_cons, List.contains_nil, nth_zero, nth_succ, Nat.reduceBEq, Bool.false_or, Bool.or_false, Bool.or_true, Bool.true_or]
      repeat (refine sched_quiet (fun K hK => ?_); go_simp; refine hK _ ?_; clear hK K)
      refine sched_skip (by first | rfl | go_simp) (AgC.refl _ _) ?_
      refine sched_skip (by first | rfl | go_simp) (AgC.refl _ _) ?_
      repeat (refine sched_quiet (fun K hK => ?_); go_simp; refine hK _ ?_; clear hK K)
      refine sched_nil ?_
      go_wp2_with fail
      go_ret
      rw [HV.out]
      exact ⟨rfl, F3.out.drew⟩
end Go.Proofs.YtibfpkfpmkghhaaGreatDoor
