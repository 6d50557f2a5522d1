/- A part of the proof: contracts of functions of the program, for the row's text. -/
import Derived.Test.YtfaapjcgmjjheaaGreatDoorK26
import Derived.Test.YtfaapjcgmjjheaaGreatDoorK28
import Derived.Test.YtfaapjcgmjjheaaGreatDoorK22
import Derived.Test.YtfaapjcgmjjheaaGreatDoorK15
import Derived.Test.YtfaapjcgmjjheaaGreatDoorK21
import Derived.Test.YtfaapjcgmjjheaaGreatDoorK03
import Derived.Test.YtfaapjcgmjjheaaGreatDoorK25
namespace Go.Proofs.YtfaapjcgmjjheaaGreatDoor
open Go.RowKit Go.Lig

/-- data, and what bounds them -/
abbrev PF := PSt × Nat
def finF (M : PSt) (k F : Nat) : Nat := F + (M.Y[k]?.getD []).length + 2 * costV (M.N[k]?.getD [])
theorem finds_go {M : PSt} {k F : Nat} (h1 : k < M.Y.length) (h2 : k < M.N.length) (h3 : finF M k F < 999990) : FindsTo M (findsM M k) F (finF M k F) k := by
  have e1 : M.Y[k]? = some M.Y[k] := List.getElem?_eq_getElem h1
  have e2 : M.N[k]? = some M.N[k] := List.getElem?_eq_getElem h2
  unfold finF at h3 ⊢
  rw [e1, e2] at h3 ⊢
  exact finds_any (k := k) _ e1 _ e2 F h3
/-- puts -/
def exPut (p : PF) (t : Int) (k : Nat) (d : NodeD) (g : Bool) : PF := (findsM (putM p.1 t k d g) k, finF (putM p.1 t k d g) k (p.2 + 1))
def okPut (p : PF) (t : Int) (k : Nat) (d : NodeD) (g : Bool) : Bool := decide (k < p.1.N.length) && decide (k < p.1.Y.length) && decide (finF (putM p.1 t k d g) k (p.2 + 1) < 999990)
theorem okPut_iff {p : PF} {t : Int} {k : Nat} {d : NodeD} {g : Bool} (h : okPut p t k d g = true) : k < p.1.N.length ∧ p.2 + 1 < 999990 ∧ FindsTo (putM p.1 t k d g) (exPut p t k d g).1 (p.2 + 1) (exPut p t k d g).2 k := by
  unfold okPut at h
  simp only [Bool.and_eq_true, decide_eq_true_eq] at h
  obtain ⟨⟨h1, h2⟩, h3⟩ := h
  exact ⟨h1, by unfold finF at h3; omega, finds_go (by simpa [putM] using h2) (by simpa [putM] using h1) h3⟩
/-- touches -/
def exTouch1 (t : Int) (p : PF) (id : Int) : PF := match readN p.1 t id with
  | none => p
  | some d => exPut p t (id - 1).toNat d false
def exTouch (t : Int) (p : PF) (l : List Int) : PF := l.foldl (exTouch1 t) p
def okTouch (t : Int) : PF → List Int → Bool
  | _, [] => true
  | p, id :: l => (match readN p.1 t id with
    | none => true
    | some d => okPut p t (id - 1).toNat d false) && okTouch t (exTouch1 t p id) l
theorem readN_pos {M : PSt} {t id : Int} {d : NodeD} (h : readN M t id = some d) : 1 ≤ id ∧ id ≤ (M.N.length : Int) := by
  unfold readN at h
  split at h
  · assumption
  · cases h
theorem touch_of {t : Int} : ∀ (l : List Int) (p : PF), okTouch t p l = true → TouchTo t (exTouch t p l).1 (exTouch t p l).2 p.1 p.2 l
  | [], p, _ => TouchTo.nil
  | id :: l, p, h => by
    unfold okTouch at h
    rw [Bool.and_eq_true] at h
    have ih := touch_of l (exTouch1 t p id) h.2
    show TouchTo t (exTouch t (exTouch1 t p id) l).1 _ p.1 p.2 (id :: l)
    cases hr : readN p.1 t id with
    | none =>
      have e : exTouch1 t p id = p := by unfold exTouch1; rw [hr]
      rw [e] at ih ⊢
      refine TouchTo.skip hr ?_
      have : exTouch t p (id :: l) = exTouch t p l := by unfold exTouch; rw [List.foldl_cons, e]
      rw [this]
      exact ih
    | some d =>
      have h1 := h.1
      rw [hr] at h1
      have e : exTouch1 t p id = exPut p t (id - 1).toNat d false := by unfold exTouch1; rw [hr]
      obtain ⟨k1, k2, k3⟩ := okPut_iff h1
      have hp := readN_pos hr
      have hid : id = ((id - 1).toNat : Int) + 1 := by omega
      have ex2 : exTouch t p (id :: l) = exTouch t (exTouch1 t p id) l := by unfold exTouch; rw [List.foldl_cons]
      rw [ex2]
      generalize hk : (id - 1).toNat = k at *
      subst hid
      refine TouchTo.put k1 hr (by omega) k3 ?_
      rw [← e]
      exact ih
/-- the undoing of nodes -/
def exUndo1 (t : Int) (p : PF) (i : Nat) : PF := (findsM (undoNM p.1 t i) i, finF (undoNM p.1 t i) i p.2)
def exUndo (t : Int) : Nat → Nat → PF → PF
  | 0, _, p => p
  | n + 1, i, p => exUndo t n (i + 1) (exUndo1 t p i)
def okUndo (t : Int) : Nat → Nat → PF → Bool
  | 0, _, _ => true
  | n + 1, i, p => decide (i < p.1.Y.length) && decide (finF (undoNM p.1 t i) i p.2 < 999990) && okUndo t n (i + 1) (exUndo1 t p i)
theorem findsM_N (M : PSt) (k : Nat) : (findsM M k).N = M.N := rfl
theorem findsM_E (M : PSt) (k : Nat) : (findsM M k).E = M.E := rfl
theorem undo_of {t : Int} : ∀ (n i : Nat) (p : PF), p.1.N.length = i + n → okUndo t n i p = true → UndoTo t (exUndo t n i p).1 (exUndo t n i p).2 p.1 p.2 i ∧ (exUndo t n i p).1.N.length = p.1.N.length ∧ (exUndo t n i p).1.E = p.1.E
  | 0, i, p, hl, _ => ⟨UndoTo.done (by show p.1.N.length ≤ i; omega), rfl, rfl⟩
  | n + 1, i, p, hl, h => by
    unfold okUndo at h
    simp only [Bool.and_eq_true, decide_eq_true_eq] at h
    have hN : (exUndo1 t p i).1.N.length = p.1.N.length := by simp [exUndo1, findsM_N, undoNM]
    have hE : (exUndo1 t p i).1.E = p.1.E := by simp [exUndo1, findsM_E, undoNM]
    obtain ⟨h1, h2, h3⟩ := undo_of n (i + 1) (exUndo1 t p i) (by omega) h.2
    refine ⟨UndoTo.step (by omega) (finds_go (by simpa [undoNM] using h.1.1) (by simp [undoNM]; omega) h.1.2) h1, ?_, ?_⟩
    · show (exUndo t n (i + 1) (exUndo1 t p i)).1.N.length = _
      omega
    · show (exUndo t n (i + 1) (exUndo1 t p i)).1.E = _
      rw [h3, hE]
/-- an abort -/
def exAb0 (p : PF) (t : Int) : PF := exUndo t p.1.N.length 0 ({ p.1 with K := p.1.K.abort t }, p.2)
def exAbort (p : PF) (t : Int) : PF := (undoEs t (exAb0 p t).1 (exAb0 p t).1.E.length, (exAb0 p t).2 + 2 * (exAb0 p t).1.E.length)
def okAbort (p : PF) (t : Int) : Bool := okUndo t p.1.N.length 0 ({ p.1 with K := p.1.K.abort t }, p.2) && decide ((exAb0 p t).2 + 3000 < 1000000)
theorem okAbort_iff {p : PF} {t : Int} (h : okAbort p t = true) : UndoTo t (exAb0 p t).1 (exAb0 p t).2 { p.1 with K := p.1.K.abort t } p.2 0 ∧ (exAb0 p t).2 + 3000 < 1000000 := by
  unfold okAbort at h
  simp only [Bool.and_eq_true, decide_eq_true_eq] at h
  exact ⟨(undo_of p.1.N.length 0 ({ p.1 with K := p.1.K.abort t }, p.2) (by simp) h.1).1, h.2⟩
/-! ### The operations: what they answer, and leave -/
def opBegin (p : PF) : (Int × Int) × PF := if p.1.K.count < 4 then (((p.1.K.l.length + 1 : Nat), 0), ({ p.1 with K := p.1.K.begins }, p.2 + 1)) else ((0, 3), p)
def opCommit (p : PF) (t : Int) : Int × PF := if p.1.K.live t then (0, ({ p.1 with K := p.1.K.commit t }, p.2 + 1)) else (5, p)
def opAbort (p : PF) (t : Int) : Int × PF := if p.1.K.live t then (0, exAbort p t) else (5, p)
def rmAbort (p : PF) (t : Int) : Bool := !p.1.K.live t || okAbort p t
def opAddNode (p : PF) (t : Int) (b : Bool) (d : NodeD) : (Int × Int) × PF :=
  if p.1.K.live t then (if b then (if p.1.N.length < 24 then ((p.1.N.length + 1, 0), exPut (growN p.1, p.2) t p.1.N.length d false) else ((0, 3), p)) else ((0, 1), p)) else ((0, 5), p)
def rmAddNode (p : PF) (t : Int) (b : Bool) (d : NodeD) : Bool := !(p.1.K.live t && b && decide (p.1.N.length < 24)) || okPut (growN p.1, p.2) t p.1.N.length d false
def opSetNode (p : PF) (t id : Int) (b : Bool) (d : NodeD) : Int × PF :=
  if p.1.K.live t then (if b then (if (readN p.1 t id).isSome then (if mayB p.1 t 0 [id] then (6, exAbort p t) else (0, exPut p t (id - 1).toNat d false)) else (4, p)) else (1, p)) else (5, p)
def rmSetNode (p : PF) (t id : Int) (b : Bool) (d : NodeD) : Bool := !(p.1.K.live t && b && (readN p.1 t id).isSome) || (if mayB p.1 t 0 [id] then okAbort p t else okPut p t (id - 1).toNat d false)
def opDropNode (p : PF) (t id : Int) : Int × PF :=
  if p.1.K.live t then (if (readN p.1 t id).isSome then (if 0 < (outM p.1 t id).length + (inM p.1 t id).length then (7, p) else (if mayB p.1 t 0 [id] then (6, exAbort p t) else (0, exPut p t (id - 1).toNat NodeD.none true))) else (4, p)) else (5, p)
def rmDropNode (p : PF) (t id : Int) : Bool := !(p.1.K.live t && (readN p.1 t id).isSome && !decide (0 < (outM p.1 t id).length + (inM p.1 t id).length)) || (if mayB p.1 t 0 [id] then okAbort p t else okPut p t (id - 1).toNat NodeD.none true)
def opAddEdge (p : PF) (t : Int) (b : Bool) (v : EdgeV) : (Int × Int) × PF :=
  if p.1.K.live t then (if b then (if (readN p.1 t v.from_).isSome && (readN p.1 t v.to_).isSome then (if p.1.E.length < 32 then (if mayB p.1 t 0 [v.from_, v.to_] then ((0, 6), exAbort p t) else ((p.1.E.length + 1, 0), (tieM (growE (exTouch t p [v.from_, v.to_]).1) t p.1.E.length v false, (exTouch t p [v.from_, v.to_]).2 + 3))) else ((0, 3), p)) else ((0, 4), p)) else ((0, 1), p)) else ((0, 5), p)
def rmAddEdge (p : PF) (t : Int) (b : Bool) (v : EdgeV) : Bool := !(p.1.K.live t && b && (readN p.1 t v.from_).isSome && (readN p.1 t v.to_).isSome && decide (p.1.E.length < 32)) || (if mayB p.1 t 0 [v.from_, v.to_] then okAbort p t else okTouch t p [v.from_, v.to_] && decide ((exTouch t p [v.from_, v.to_]).2 + 1 < 1000000))
def opDropEdge (p : PF) (t id : Int) : Int × PF :=
  if p.1.K.live t then (match readE p.1 t id with
    | none => (4, p)
    | some v => if mayB p.1 t id [v.from_, v.to_] then (6, exAbort p t) else (0, exTouch t (tieM p.1 t (id - 1).toNat EdgeV.none true, p.2 + 3) [v.from_, v.to_])) else (5, p)
def rmDropEdge (p : PF) (t id : Int) : Bool := !p.1.K.live t || (match readE p.1 t id with
    | none => true
    | some v => if mayB p.1 t id [v.from_, v.to_] then okAbort p t else okTouch t (tieM p.1 t (id - 1).toNat EdgeV.none true, p.2 + 3) [v.from_, v.to_] && decide (p.2 + 1 < 1000000))
end Go.Proofs.YtfaapjcgmjjheaaGreatDoor

namespace Go.Lig
open Go.RowKit
theorem strq (a b : ByteArray) : (a.toList == b.toList) = decide (a = b) := by
  by_cases h : a = b
  · simp [h]
  · have : a.toList ≠ b.toList := fun e => h (by
      rw [ByteArray.toList_eq, ByteArray.toList_eq] at e
      exact Go.WideShapes.bytes_inj e)
    simp [h, this]
/-- where x stands first, or none -/
def idxS (l : List ByteArray) (x : ByteArray) : Option Nat := l.findIdx? (fun y => decide (x = y))
def idxZ (o : Option Nat) : Int := match o with
  | some j => j
  | none => -1
def hasS (l : List ByteArray) (x : ByteArray) : Bool := l.any (fun y => decide (x = y))
theorem idx_has (l : List ByteArray) (x : ByteArray) : decide (0 ≤ idxZ (idxS l x)) = hasS l x := by
  unfold idxS idxZ hasS
  cases h : l.findIdx? (fun y => decide (x = y)) with
  | none =>
    rw [List.findIdx?_eq_none_iff] at h
    have h2 : l.any (fun y => decide (x = y)) = false := List.any_eq_false.2 (fun y hy => by have := h y hy; simpa using this)
    rw [h2]; rfl
  | some j =>
    obtain ⟨hj, h1, -⟩ := List.findIdx?_eq_some_iff_getElem.1 h
    have h2 : l.any (fun y => decide (x = y)) = true := List.any_eq_true.2 ⟨l[j], List.getElem_mem hj, h1⟩
    rw [h2]
    simp
end Go.Lig
namespace Go.Proofs.YtfaapjcgmjjheaaGreatDoor
open Go.RowKit Go.Lig

/-- lo ≤ v ≤ hi -/
def inV (v lo hi : ValR) : Bool := decide (0 ≤ cmpV v lo) && decide (cmpV v hi ≤ 0)
def valV (v : ValR) : Value := .agg #[.int .i64 v.kind, .bool v.b, .int .i64 v.n, .float .f64 v.f, .string v.t]
set_option maxRecDepth 100000 in
set_option maxHeartbeats 2000000 in
theorem valin_any (w : World) (a b c : ValR) : Calls Tryz.prog 95 #[valV a, valV b, valV c] w fun e w' => e = .returned (.bool (inV a b c)) ∧ Fr No w w' := by
  have H1 := hid (fun W => cmp_all a b trivial trivial W)
  have H2 := hid (fun W => cmp_all a c trivial trivial W)
  have HE : Hid (inV a b c = (decide (0 ≤ cmpV a b) && decide (cmpV a c ≤ 0))) := hid rfl
  obtain ⟨ak, ab, an, af, at'⟩ := a
  obtain ⟨bk, bb, bn, bf, bt⟩ := b
  obtain ⟨ck, cb, cn, cf, ct⟩ := c
  dsimp only [valV] at H1 H2 ⊢
  generalize cmpV _ _ = x at *
  generalize cmpV _ _ = y at *
  obtain ⟨k1, k2, k3⟩ := heap3 w (.cells #[.int .i64 ak, .bool ab, .int .i64 an, .float .f64 af, .string at'] 91) (.cells #[.int .i64 bk, .bool bb, .int .i64 bn, .float .f64 bf, .string bt] 91) (.cells #[.int .i64 ck, .bool cb, .int .i64 cn, .float .f64 cf, .string ct] 91)
  have hf : Fr No w (((w.alloc (.cells #[.int .i64 ak, .bool ab, .int .i64 an, .float .f64 af, .string at'] 91)).alloc (.cells #[.int .i64 bk, .bool bb, .int .i64 bn, .float .f64 bf, .string bt] 91)).alloc (.cells #[.int .i64 ck, .bool cb, .int .i64 cn, .float .f64 cf, .string ct] 91)) := (((Fr.refl No w).alloc _).alloc _).alloc _
  rw [HE.out]
  clear HE
  by_cases hx : 0 ≤ x
  · have hx2 : decide (0 ≤ x) = true := decide_eq_true hx
    go_enter Tryz.func95, Tryz.ntmps95
    go_wp2_with fail
    generalize ((w.alloc (.cells #[.int .i64 ak, .bool ab, .int .i64 an, .float .f64 af, .string at'] 91)).alloc (.cells #[.int .i64 bk, .bool bb, .int .i64 bn, .float .f64 bf, .string bt] 91)).alloc (.cells #[.int .i64 ck, .bool cb, .int .i64 cn, .float .f64 cf, .string ct] 91) = w2 at *
    obtain ⟨c0, c1, c2, c3, c4⟩ := cells5 k1
    obtain ⟨d0, d1, d2, d3, d4⟩ := cells5 k2
    obtain ⟨e0, e1, e2, e3, e4⟩ := cells5 k3
    have HF := hid (⟨hf, k1, k2, k3⟩ : _ ∧ _ ∧ _ ∧ _)
    clear hf k1 k2 k3
    go_wp2_with (first | (go_at_call 130; (with_reducible refine (H1.out _).mono ?_); rintro e w3 ⟨rfl, f3⟩; obtain ⟨c0, c1, c2, c3, c4⟩ := cells5 (f3.keep HF.out.2.1 (fun e => e)); obtain ⟨e0, e1, e2, e3, e4⟩ := cells5 (f3.keep HF.out.2.2.2 (fun e => e)); have F3 := hid (HF.out.1.thenNo f3); clear f3) | (go_at_call 130; (with_reducible refine (H2.out _).mono ?_); rintro e w4 ⟨rfl, f4⟩; have F4 := hid (F3.out.thenNo f4); clear f4))
    go_ret
    rw [hx2, Bool.true_and]
    exact ⟨rfl, F4.out⟩
  · have hx2 : decide (0 ≤ x) = false := decide_eq_false hx
    go_enter Tryz.func95, Tryz.ntmps95
    go_wp2_with fail
    generalize ((w.alloc (.cells #[.int .i64 ak, .bool ab, .int .i64 an, .float .f64 af, .string at'] 91)).alloc (.cells #[.int .i64 bk, .bool bb, .int .i64 bn, .float .f64 bf, .string bt] 91)).alloc (.cells #[.int .i64 ck, .bool cb, .int .i64 cn, .float .f64 cf, .string ct] 91) = w2 at *
    obtain ⟨c0, c1, c2, c3, c4⟩ := cells5 k1
    obtain ⟨d0, d1, d2, d3, d4⟩ := cells5 k2
    obtain ⟨e0, e1, e2, e3, e4⟩ := cells5 k3
    have HF := hid (⟨hf, k1, k2, k3⟩ : _ ∧ _ ∧ _ ∧ _)
    clear hf k1 k2 k3
    go_wp2_with (first | (go_at_call 130; (with_reducible refine (H1.out _).mono ?_); rintro e w3 ⟨rfl, f3⟩; obtain ⟨c0, c1, c2, c3, c4⟩ := cells5 (f3.keep HF.out.2.1 (fun e => e)); obtain ⟨e0, e1, e2, e3, e4⟩ := cells5 (f3.keep HF.out.2.2.2 (fun e => e)); have F3 := hid (HF.out.1.thenNo f3); clear f3) | (go_at_call 130; (with_reducible refine (H2.out _).mono ?_); rintro e w4 ⟨rfl, f4⟩; have F4 := hid (F3.out.thenNo f4); clear f4))
    go_ret
    rw [hx2, Bool.false_and]
    exact ⟨rfl, F3.out⟩
set_option maxRecDepth 100000 in
theorem index_any (w : World) (v : Value) (l : List ByteArray) (x : ByteArray) (h : Rd w v l.length 1 (l.map Value.string)) (hn : l.length ≤ 1000000) :
    Calls Tryz.prog 131 #[v, .string x] w fun e w' => e = .returned (.int .i64 (idxZ (idxS l x))) ∧ w = w' := by
  obtain ⟨a, c, rfl, -⟩ := rd_len h
  have HN := hid hn
  have HR := hid h
  have HE : Hid (∀ i, i ≤ l.length → (∀ k y, k < i → l[k]? = some y → ¬ x = y) → ∀ y, l[i]? = some y → x = y → idxZ (idxS l x) = i) := hid (fun i hi hb y hy hxy => by
    have : idxS l x = some i := by
      unfold idxS
      rw [List.findIdx?_eq_some_iff_getElem]
      have hl := (List.getElem?_eq_some_iff.1 hy)
      refine ⟨hl.1, by simp [hl.2, hxy], fun j hj => ?_⟩
      have := hb j (l[j]'(by omega)) hj (List.getElem?_eq_getElem _)
      simp [this]
    rw [this]; rfl)
  have HX : Hid ((∀ k y, k < l.length → l[k]? = some y → ¬ x = y) → idxZ (idxS l x) = -1) := hid (fun hb => by
    have : idxS l x = none := by
      unfold idxS
      rw [List.findIdx?_eq_none_iff]
      intro y hy
      obtain ⟨k, hk, rfl⟩ := List.getElem_of_mem hy
      have := hb k _ hk (List.getElem?_eq_getElem hk)
      simp [this]
    rw [this]; rfl)
  clear h hn
  generalize idxZ (idxS l x) = z at *
  go_enter Tryz.func131, Tryz.ntmps131
  go_wp2_with fail
  generalize hLn : l.length = n at *
  have HL := hid hLn
  clear hLn
  go_loop [8] (fun vi => ∃ i : Nat, i ≤ n ∧ vi = .int .i64 (i : Int) ∧ Hid (∀ k y, k < i → l[k]? = some y → ¬ x = y)) (fun vi => n - (intOf vi).toNat)
  case atStart => exact ⟨0, Nat.zero_le _, rfl, fun k y hk => absurd hk (Nat.not_lt_zero _)⟩
  case round =>
    obtain ⟨i, hi, rfl, HB⟩ := hrel
    have hn : n ≤ 1000000 := HN.out
    by_cases hlt : i < n
    · obtain ⟨y, hy⟩ : ∃ y, l[i]? = some y := ⟨l[i]'(by have := HL.out; omega), List.getElem?_eq_getElem _⟩
      obtain ⟨b, o, c', e, hc⟩ := HR.out.at1 (k := i) (u := .string y) (by simp [hy])
      obtain ⟨rfl, -, rfl⟩ := Value.slice.inj e
      have c0 := hc w (Fr.refl _ _)
      have HY := hid hy
      clear hy hc e
      by_cases hxy : x = y
      · have hq : (x.toList == y.toList) = true := by rw [strq]; exact decide_eq_true hxy
        go_wp2_with fail
        go_ret
        have e1 := HE.out i (by omega) HB.out y HY.out hxy
        exact ⟨by rw [e1]; rfl, rfl⟩
      · have hq : (x.toList == y.toList) = false := by rw [strq]; exact decide_eq_false hxy
        go_wp2_with fail
        refine ⟨⟨i + 1, by omega, by go_num, hid (fun k z hk hz => ?_)⟩, by simp [intOf]; omega⟩
        rcases Nat.lt_succ_iff_lt_or_eq.1 hk with h | rfl
        · exact HB.out k z h hz
        · rw [HY.out] at hz; obtain rfl := Option.some.inj hz; exact hxy
    · go_wp2_with fail
      go_ret
      have e1 := HX.out (fun k y hk => HB.out k y (by omega))
      exact ⟨by rw [e1]; rfl, rfl⟩
theorem contains_any (w : World) (v : Value) (l : List ByteArray) (x : ByteArray) (h : Rd w v l.length 1 (l.map Value.string)) (hn : l.length ≤ 1000000) :
    Calls Tryz.prog 96 #[v, .string x] w fun e w' => e = .returned (.bool (hasS l x)) ∧ w = w' := by
  have HI := hid (index_any w v l x h hn)
  obtain ⟨a, c, rfl, -⟩ := rd_len h
  have HD := hid (idx_has l x)
  clear h hn
  generalize idxZ (idxS l x) = z at *
  generalize hasS l x = b at *
  go_enter Tryz.func96, Tryz.ntmps96
  go_wp2_with (go_at_call 131; refine HI.out.mono ?_; rintro e w1 ⟨rfl, rfl⟩)
  go_ret
  exact ⟨by rw [← HD.out]; rfl, rfl⟩
set_option maxRecDepth 100000 in
theorem rechas_any (w : World) (la pa : Option Addr) (lc pn pc : Nat) (l : List ByteArray) (x : ByteArray) (h : Rd w (.slice la l.length lc) l.length 1 (l.map Value.string)) (hn : l.length ≤ 1000000) :
    Calls Tryz.prog 50 #[.agg #[.slice la l.length lc, .slice pa pn pc], .string x] w fun e w' => e = .returned (.bool (hasS l x)) ∧ Fr No w w' := by
  have k1 := heap1 w (.cells #[.slice la l.length lc, .slice pa pn pc] 32)
  have hf : Fr No w (w.alloc (.cells #[.slice la l.length lc, .slice pa pn pc] 32)) := (Fr.refl No w).alloc _
  have HI := hid (contains_any _ _ l x (h.frame hf (fun _ _ e => e)) hn)
  generalize hasS l x = b at *
  generalize l.length = n at *
  clear h hn
  go_enter Tryz.func50, Tryz.ntmps50
  go_wp2_with fail
  generalize w.alloc (.cells #[.slice la n lc, .slice pa pn pc] 32) = w1 at *
  obtain ⟨c0, c1⟩ := cells2 k1
  have HF := hid hf
  clear hf k1
  go_wp2_with (go_at_call 96; refine HI.out.mono ?_; rintro e w2 ⟨rfl, rfl⟩)
  go_ret
  exact ⟨rfl, HF.out⟩
end Go.Proofs.YtfaapjcgmjjheaaGreatDoor

namespace Go.Proofs.YtfaapjcgmjjheaaGreatDoor
open Go.RowKit Go.Lig

theorem OwnR.app {w w1 w2 w3 : World} {e t : TypeId} {size : Nat} {v v' : Value} {n m : Nat} {xs ys : List Value} {cs : Array Value} (h : OwnR w w1 e size v n xs) (p2 : New cs t w1 w2) (o : w3.ownsRow 0 e size v' (n + m) (xs ++ ys)) (f : Fr (fun k => v.ownBlock = some k) w2 w3)
    (b : ∀ k, v'.ownBlock = some k → v.ownBlock = some k ∨ w2.heap.size ≤ k) : OwnR w w3 e size v' (n + m) (xs ++ ys) := by
  refine ⟨o, fun j hj => ?_, (h.fr.thenNo p2.fr).trans f (fun k hk e => by have := h.blk k e; omega)⟩
  rcases b j hj with e | e
  · exact h.blk j e
  · have := h.fr.size
    have := p2.fr.size
    omega
def rangeL (l : List EntR) (lo hi : ValR) : List EntR := l.filter (fun y => inV y.v lo hi)
theorem rangeL_snoc {l : List EntR} {i : Nat} {y : EntR} (h : l[i]? = some y) (lo hi : ValR) : rangeL (l.take (i + 1)) lo hi = rangeL (l.take i) lo hi ++ (if inV y.v lo hi then [y] else []) := by
  rw [takeSnoc h]
  unfold rangeL
  rw [List.filter_append]
  congr 1
  simp only [List.filter_cons, List.filter_nil]
theorem range_nil (w : World) (lo hi : ValR) : Calls Tryz.prog 48 #[.pointer none, valV lo, valV hi] w fun e w' => e = .returned (.slice none 0 0) ∧ Fr No w w' := by
  obtain ⟨bk, bb, bn, bf, bt⟩ := lo
  obtain ⟨ck, cb, cn, cf, ct⟩ := hi
  dsimp only [valV]
  have hf : Fr No w ((w.alloc (.cells #[.int .i64 bk, .bool bb, .int .i64 bn, .float .f64 bf, .string bt] 91)).alloc (.cells #[.int .i64 ck, .bool cb, .int .i64 cn, .float .f64 cf, .string ct] 91)) := ((Fr.refl No w).alloc _).alloc _
  have HF := hid hf
  clear hf
  go_enter Tryz.func48, Tryz.ntmps48
  go_wp2
  go_ret
  exact ⟨rfl, HF.out⟩
set_option maxRecDepth 100000 in
set_option maxHeartbeats 2000000 in
theorem range_any (w : World) (T : Nat → Prop) (x : Nat) (l : List EntR) (h : TreeAt w T x l) (hs : l.length ≤ 1000000) (lo hi : ValR) :
    Calls Tryz.prog 48 #[.pointer (some ⟨x, 0, none⟩), valV lo, valV hi] w fun e w' => ∃ v, e = .returned v ∧ OwnR w w' 94 6 v (rangeL l lo hi).length ((rangeL l lo hi).flatMap ncellE) := by
  obtain ⟨v, hx, ho, -⟩ := h.ex
  obtain ⟨a0, c0, rfl⟩ := ownsRow_slice ho
  have HS : Hid (∀ i y, l[i]? = some y → rangeL (l.take (i + 1)) lo hi = rangeL (l.take i) lo hi ++ (if inV y.v lo hi then [y] else [])) := hid (fun i y e => rangeL_snoc e lo hi)
  have HR := hid (show rangeL (l.take l.length) lo hi = rangeL l lo hi by rw [List.take_length])
  have HZ := hid (show rangeL (l.take 0) lo hi = [] from rfl)
  obtain ⟨g, hg⟩ : ∃ g : Nat → List EntR, g = fun i => rangeL (l.take i) lo hi := ⟨_, rfl⟩
  have HI := hid (fun W v => valin_any W v lo hi)
  have hgi : ∀ i, rangeL (l.take i) lo hi = g i := fun i => by rw [hg]
  simp only [hgi] at HS HR HZ
  rw [← HR.out]
  obtain ⟨bk, bb, bn, bf, bt⟩ := lo
  obtain ⟨ck, cb, cn, cf, ct⟩ := hi
  dsimp only [valV] at HI ⊢
  obtain ⟨k1, k2⟩ := heap2 w (.cells #[.int .i64 bk, .bool bb, .int .i64 bn, .float .f64 bf, .string bt] 91) (.cells #[.int .i64 ck, .bool cb, .int .i64 cn, .float .f64 cf, .string ct] 91)
  have hf : Fr No w ((w.alloc (.cells #[.int .i64 bk, .bool bb, .int .i64 bn, .float .f64 bf, .string bt] 91)).alloc (.cells #[.int .i64 ck, .bool cb, .int .i64 cn, .float .f64 cf, .string ct] 91)) := ((Fr.refl No w).alloc _).alloc _
  have x0 := cells1 (hf.keep hx (fun e => e))
  have ho1 := fd_owns ho hf
  clear h hg hgi ho hx
  go_enter Tryz.func48, Tryz.ntmps48
  go_wp2_with fail
  generalize (w.alloc (.cells #[.int .i64 bk, .bool bb, .int .i64 bn, .float .f64 bf, .string bt] 91)).alloc (.cells #[.int .i64 ck, .bool cb, .int .i64 cn, .float .f64 cf, .string ct] 91) = w1 at *
  have HF := hid (⟨hf, k1, k2, ho1⟩ : _ ∧ _ ∧ _ ∧ _)
  generalize hLn : l.length = n at *
  have HL := hid hLn
  clear hf k1 k2 ho1 hLn x0
  go_loopw [7, 17] (fun v7 vi wr => ∃ (i : Nat) (aa : Option Addr) (cc m : Nat), i ≤ n ∧ m ≤ i ∧ v7 = .slice aa m cc ∧ vi = .int .i64 (i : Int) ∧ Hid (m = (g i).length ∧ OwnR w1 wr 94 6 (.slice aa m cc) m ((g i).flatMap ncellE))) (fun _ vi _ => n - (intOf vi).toNat)
  case atStart => exact ⟨0, none, 0, 0, Nat.zero_le _, Nat.zero_le _, rfl, rfl, by rw [HZ.out]; rfl, by rw [HZ.out]; exact OwnR.nil _ _ _⟩
  case round =>
    obtain ⟨i, aa, cc, m, hi, hmi, rfl, rfl, HO⟩ := hrel
    by_cases hlt : i < n
    · obtain ⟨⟨⟨vk, vb, vn, vf, vt⟩, vi⟩, hy⟩ : ∃ y, l[i]? = some y := ⟨l[i]'(by have := HL.out; omega), List.getElem?_eq_getElem _⟩
      have ho2 := fd_owns HF.out.2.2.2 HO.out.2.fr
      obtain ⟨ga, cur, rfl, -, -⟩ := owns_at ho2 (by omega)
      obtain ⟨z0, z1, z2, z3, z4, z5⟩ := encells_of ho2 hy
      dsimp only at z0 z1 z2 z3 z4 z5
      have HG := hid (HS.out i _ hy)
      dsimp only at HG
      have hb := heap1 wr (.cells #[.int .i64 vk, .bool vb, .int .i64 vn, .float .f64 vf, .string vt, .int .i64 vi] 94)
      have hfe : Fr No wr (wr.alloc (.cells #[.int .i64 vk, .bool vb, .int .i64 vn, .float .f64 vf, .string vt, .int .i64 vi] 94)) := (Fr.refl No wr).alloc _
      have HB := hid (⟨hb, hfe⟩ : _ ∧ _)
      have HII := hid (fun W => HI.out W ⟨vk, vb, vn, vf, vt⟩)
      dsimp only at HII
      obtain ⟨y0, y1, y2, y3, y4, y5⟩ := cells6 hb
      obtain ⟨p0, p1, p2, p3, p4⟩ := cells5 ((HO.out.2.fr.thenNo hfe).keep HF.out.2.1 (fun e => e))
      obtain ⟨q0, q1, q2, q3, q4⟩ := cells5 ((HO.out.2.fr.thenNo hfe).keep HF.out.2.2.1 (fun e => e))
      clear hb hfe ho2 hy
      cases hin : inV ⟨vk, vb, vn, vf, vt⟩ ⟨bk, bb, bn, bf, bt⟩ ⟨ck, cb, cn, cf, ct⟩ with
      | false =>
        rw [hin, if_neg (by simp), List.append_nil] at HG
        rw [hin] at HII
        clear hin
        go_wp2_with (go_at_call 95; refine (HII.out _).mono ?_; rintro e w4 ⟨rfl, f4⟩; have F4 := hid f4; clear f4)
        go_roundw
        case rel => exact ⟨i + 1, aa, cc, m, by omega, by omega, rfl, by go_num, by rw [HG.out]; exact HO.out.1, by rw [HG.out]; exact HO.out.2.next (HB.out.2.thenNo F4.out)⟩
        case measure => simp [intOf]; omega
      | true =>
        rw [hin, if_pos rfl] at HG
        rw [hin] at HII
        clear hin
        go_wp2_with (first | (go_at_call 95; refine (HII.out _).mono ?_; rintro e w4 ⟨rfl, f4⟩; have F4 := hid f4; clear f4; obtain ⟨y0, y1, y2, y3, y4, y5⟩ := cells6 (F4.out.keep HB.out.1 (fun e => e))) | (refine wpList_buildSlice1 rfl 87 94 (.tmp 27) rfl _ 6 56 Tryz.underlying87 infoEntry (by decide) (by decide) (.agg #[.int .i64 vk, .bool vb, .int .i64 vn, .float .f64 vf, .string vt, .int .i64 vi]) rfl rfl ?_; intro w5 p5; have P5 := hid (show New (ncellE ⟨⟨vk, vb, vn, vf, vt⟩, vi⟩).toArray 94 w4 w5 from p5); clear p5) | (refine wpList_app rfl (.tmp 26) (.tmp 28) 87 rfl 94 _ 6 56 Tryz.underlying87 infoEntry ?_ ?_ (.slice aa m cc) m ((g i).flatMap ncellE) rfl ?_ (.slice (some ⟨w4.heap.size, 0, none⟩) 1 1) 1 (ncellE ⟨⟨vk, vb, vn, vf, vt⟩, vi⟩) rfl ?_ ?_ ?_ ?_))
        · kernel_rfl
        · decide
        · exact (fd_owns (HO.out.2.next (HB.out.2.thenNo F4.out)).row P5.out.fr)
        · exact (Rd.block P5.out.at_ 1 6 1 rfl (by simp [ncellE, Value.oneCell']) (Nat.le_refl _) (by simp [maxLen]))
        · (unfold maxLen; omega)
        · omega
        intro v6 w6 o6 f6 b6 _; obtain ⟨a6, c6, rfl⟩ := ownsRow_slice o6; have O6 := hid (OwnR.app (HO.out.2.next (HB.out.2.thenNo F4.out)) P5.out o6 f6 b6); clear o6 f6 b6
        go_wp2_with fail

        go_roundw
        case rel => exact ⟨i + 1, a6, c6, m + 1, by omega, by omega, rfl, by go_num, by rw [HG.out, List.length_append, ← HO.out.1]; rfl, by rw [HG.out, List.flatMap_append]; simpa using O6.out⟩
        case measure => simp [intOf]; omega
    · obtain rfl : i = n := by omega
      go_wp2_with fail
      go_ret
      refine ⟨.slice aa m cc, rfl, ?_⟩
      rw [HL.out, ← HO.out.1]
      exact HO.out.2.ahead HF.out.1
end Go.Proofs.YtfaapjcgmjjheaaGreatDoor
