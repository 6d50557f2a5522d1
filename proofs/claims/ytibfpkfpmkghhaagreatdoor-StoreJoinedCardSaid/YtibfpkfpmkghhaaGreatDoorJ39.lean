/- A part of the proof: contracts of functions of the program, for the row's text. -/
import Derived.Test.YtibfpkfpmkghhaaGreatDoorJ16
namespace Go.Proofs.YtibfpkfpmkghhaaGreatDoor
open Go.RowKit Go.Lig

/-- as which commit it was committed; 0: it was not -/
def txAs (x : Tx) : Int := if x.state = 1 then x.commit else 0
structure TxOk (x : Tx) : Prop where
  st : x.state = 0 ∨ x.state = 1 ∨ x.state = 2
  mark : 0 ≤ x.mark
  com : x.state = 1 → 1 ≤ x.commit
structure ClkOk (K : Ck) : Prop where
  tx : ∀ x ∈ K.l, TxOk x
  c0 : 0 ≤ K.commits
  mrk : ∀ x ∈ K.l, x.mark ≤ K.commits
  cm : ∀ x ∈ K.l, x.state = 1 → x.commit ≤ K.commits
/-- committed -/
def Ck.done (K : Ck) (b : Int) : Bool := match K.tx b with
  | some x => x.state == 1
  | none => false
theorem Ck.mem {K : Ck} {t : Int} {x : Tx} (h : K.tx t = some x) : x ∈ K.l := List.mem_of_getElem? (Ck.tx_some h).2.2.1
theorem Ck.live_iff {K : Ck} {t : Int} : K.live t = true ↔ ∃ x, K.tx t = some x ∧ x.state = 0 := by
  unfold Ck.live
  cases h : K.tx t with
  | none => simp
  | some x => simp
theorem Ck.done_iff {K : Ck} {t : Int} : K.done t = true ↔ ∃ x, K.tx t = some x ∧ x.state = 1 := by
  unfold Ck.done
  cases h : K.tx t with
  | none => simp
  | some x => simp
/-- the version of b stands before that of c -/
def Bef (K : Ck) (b c : Int) : Prop := ∃ x z, K.tx b = some x ∧ K.tx c = some z ∧ x.state = 1 ∧ ((z.state = 1 ∧ x.commit < z.commit) ∨ (z.state = 0 ∧ x.commit ≤ z.mark))
theorem Bef.ne {K : Ck} {b c : Int} (h : Bef K b c) : b ≠ c := by
  rintro rfl
  obtain ⟨x, z, h1, h2, h3, h4⟩ := h
  obtain rfl := Option.some.inj (h1.symm.trans h2)
  rcases h4 with h | h
  · omega
  · omega
structure CellOk {α : Type} (K : Ck) (L : List (Ver α)) : Prop where
  st : ∀ y ∈ L, ∃ x, K.tx y.by_ = some x ∧ (x.state = 0 ∨ x.state = 1)
  bef : L.Pairwise (fun y z => Bef K y.by_ z.by_)
section
variable {α : Type} {K : Ck} {L : List (Ver α)}
theorem CellOk.nil : CellOk K ([] : List (Ver α)) := ⟨fun _ h => (by cases h), List.Pairwise.nil⟩
theorem CellOk.sub {L' : List (Ver α)} (h : CellOk K L) (hs : L'.Sublist L) : CellOk K L' := ⟨fun y hy => h.st y (hs.subset hy), h.bef.sublist hs⟩
/-- one that is live stands last -/
theorem CellOk.liveLast (h : CellOk K L) {A B : List (Ver α)} {y : Ver α} (e : L = A ++ y :: B) (hl : K.live y.by_ = true) : B = [] := by
  cases B with
  | nil => rfl
  | cons z B =>
    have hb := h.bef
    rw [e] at hb
    have h1 := (List.pairwise_append.1 hb).2.1
    obtain ⟨x, z', h2, -, h3, -⟩ := (List.pairwise_cons.1 h1).1 z (List.mem_cons_self ..)
    obtain ⟨x', h4, h5⟩ := Ck.live_iff.1 hl
    obtain rfl := Option.some.inj (h2.symm.trans h4)
    omega
/-! ### The last that is meant -/
def lastVer (m : Int → Bool) (L : List (Ver α)) : Option (Ver α) := L.reverse.find? fun y => m y.by_
def valOf : Option (Ver α) → Option α
  | none => none
  | some y => if y.gone then none else some y.v
theorem lastOf_find (m : Int → Bool) : ∀ l : List (Ver α), lastOf m l = valOf (l.find? fun y => m y.by_)
  | [] => rfl
  | y :: l => by
    rw [lastOf, List.find?_cons]
    cases h : m y.by_ with
    | true => rfl
    | false => exact lastOf_find m l
theorem readV_ver (K : Ck) (t : Int) (L : List (Ver α)) : readV K t L = valOf (lastVer (K.sees t) L) := lastOf_find _ _
theorem lastVer_snoc (m : Int → Bool) (L : List (Ver α)) (y : Ver α) : lastVer m (L ++ [y]) = if m y.by_ then some y else lastVer m L := by
  unfold lastVer
  rw [List.reverse_append, List.reverse_singleton, List.singleton_append, List.find?_cons]
  cases m y.by_ <;> rfl
theorem lastVer_mem {m : Int → Bool} {L : List (Ver α)} {y : Ver α} (h : lastVer m L = some y) : y ∈ L ∧ m y.by_ = true :=
  ⟨List.mem_reverse.1 (List.mem_of_find?_eq_some h), by have := List.find?_some h; simpa using this⟩
theorem find_congr {β : Type} {p q : β → Bool} : ∀ {l : List β}, (∀ y ∈ l, p y = q y) → l.find? p = l.find? q
  | [], _ => rfl
  | y :: l, h => by
    rw [List.find?_cons, List.find?_cons, h y (List.mem_cons_self ..), find_congr (fun z hz => h z (List.mem_cons_of_mem _ hz))]
theorem lastVer_congr {m m' : Int → Bool} {L : List (Ver α)} (h : ∀ y ∈ L, m y.by_ = m' y.by_) : lastVer m L = lastVer m' L := by
  unfold lastVer
  refine find_congr (fun y hy => ?_)
  rw [h y (List.mem_reverse.1 hy)]
theorem lastVer_filter {m : Int → Bool} {p : Ver α → Bool} {L : List (Ver α)} (h : ∀ y ∈ L, m y.by_ = true → p y = true) : lastVer m (L.filter p) = lastVer m L := by
  unfold lastVer
  rw [← List.filter_reverse, List.find?_filter]
  refine find_congr (fun y hy => ?_)
  have := h y (List.mem_reverse.1 hy)
  cases hm : m y.by_ with
  | true => simp [this hm]
  | false => simp
theorem lastVer_none {m : Int → Bool} {L : List (Ver α)} : lastVer m L = none ↔ ∀ y ∈ L, m y.by_ = false := by
  unfold lastVer
  rw [List.find?_eq_none]
  simp
theorem lastVer_append (m : Int → Bool) (A B : List (Ver α)) : lastVer m (A ++ B) = (lastVer m B).or (lastVer m A) := by
  unfold lastVer
  rw [List.reverse_append, List.find?_append]
/-- a version that is taken away: one behind it is meant, or it is the first, and gone -/
theorem lastVer_erase {m : Int → Bool} {A B : List (Ver α)} {y : Ver α} (h : (∃ z ∈ B, m z.by_ = true) ∨ (A = [] ∧ y.gone = true)) : valOf (lastVer m (A ++ B)) = valOf (lastVer m (A ++ y :: B)) := by
  rw [lastVer_append, lastVer_append]
  have e : lastVer m (y :: B) = (lastVer m B).or (if m y.by_ then some y else none) := by
    rw [show y :: B = [y] ++ B from rfl, lastVer_append]
    congr 1
    exact lastVer_snoc m [] y
  rw [e]
  cases hb : lastVer m B with
  | some z => rfl
  | none =>
    rcases h with ⟨z, hz, hm⟩ | ⟨rfl, hg⟩
    · have := lastVer_none.1 hb z hz
      rw [hm] at this
      cases this
    · cases hm : m y.by_ with
      | true => simp [lastVer, valOf, hg]
      | false => simp [lastVer]
theorem lastVer_eraseSome {m : Int → Bool} {A B : List (Ver α)} {y : Ver α} (h : ∃ z ∈ B, m z.by_ = true) : lastVer m (A ++ B) = lastVer m (A ++ y :: B) := by
  rw [lastVer_append, lastVer_append]
  have e : lastVer m (y :: B) = (lastVer m B).or (if m y.by_ then some y else none) := by
    rw [show y :: B = [y] ++ B from rfl, lastVer_append]
    congr 1
    exact lastVer_snoc m [] y
  rw [e]
  cases hb : lastVer m B with
  | some z => rfl
  | none =>
    obtain ⟨z, hz, hm⟩ := h
    have := lastVer_none.1 hb z hz
    rw [hm] at this
    cases this
end
end Go.Proofs.YtibfpkfpmkghhaaGreatDoor

namespace Go.Proofs.YtibfpkfpmkghhaaGreatDoor
open Go.RowKit Go.Lig

theorem tx_begins (K : Ck) (b : Int) : K.begins.tx b = if b = (K.l.length : Int) + 1 then some ⟨0, K.commits, 0⟩ else K.tx b := by
  unfold Ck.tx Ck.begins
  dsimp only
  by_cases h1 : 1 ≤ b
  · rw [if_pos h1, if_pos h1]
    by_cases h2 : b = (K.l.length : Int) + 1
    · rw [if_pos h2, List.getElem?_append_right (by omega), show (b - 1).toNat - K.l.length = 0 by omega]
      rfl
    · rw [if_neg h2]
      by_cases h3 : (b - 1).toNat < K.l.length
      · rw [List.getElem?_append_left h3]
      · rw [List.getElem?_eq_none (by simp; omega), List.getElem?_eq_none (by omega)]
  · rw [if_neg h1, if_neg h1, if_neg (by omega)]
theorem tx_put {K : Ck} {t : Int} {x0 : Tx} (h : K.tx t = some x0) (x : Tx) (b : Int) : (K.put t x).tx b = if b = t then some x else K.tx b := by
  obtain ⟨t1, t2, t3, t4⟩ := Ck.tx_some h
  unfold Ck.tx Ck.put
  dsimp only
  by_cases h1 : 1 ≤ b
  · rw [if_pos h1, if_pos h1]
    by_cases h2 : b = t
    · subst h2
      rw [if_pos rfl, List.getElem?_set_self t2]
    · rw [if_neg h2, List.getElem?_set_ne (by omega)]
  · rw [if_neg h1, if_neg h1, if_neg (by omega)]
theorem tx_abort {K : Ck} {t : Int} {x : Tx} (h : K.tx t = some x) (b : Int) : (K.abort t).tx b = if b = t then some { x with state := 2 } else K.tx b := by
  unfold Ck.abort
  rw [h]
  exact tx_put h _ b
theorem tx_commit {K : Ck} {t : Int} {x : Tx} (h : K.tx t = some x) (b : Int) : (K.commit t).tx b = if b = t then some { x with state := 1, commit := K.commits + 1 } else K.tx b := by
  unfold Ck.commit
  rw [h]
  exact tx_put h _ b
theorem commits_commit {K : Ck} {t : Int} {x : Tx} (h : K.tx t = some x) : (K.commit t).commits = K.commits + 1 := by
  unfold Ck.commit
  rw [h]
theorem commits_abort (K : Ck) (t : Int) : (K.abort t).commits = K.commits := by
  unfold Ck.abort Ck.put
  split <;> rfl
theorem len_commit (K : Ck) (t : Int) : (K.commit t).l.length = K.l.length := by
  unfold Ck.commit Ck.put
  split <;> simp
theorem len_abort (K : Ck) (t : Int) : (K.abort t).l.length = K.l.length := by
  unfold Ck.abort Ck.put
  split <;> simp
theorem mem_commit {K : Ck} {t : Int} {x y : Tx} (h : K.tx t = some x) (hy : y ∈ (K.commit t).l) : y ∈ K.l ∨ y = { x with state := 1, commit := K.commits + 1 } := by
  unfold Ck.commit Ck.put at hy
  rw [h] at hy
  exact List.mem_or_eq_of_mem_set hy
theorem mem_abort {K : Ck} {t : Int} {x y : Tx} (h : K.tx t = some x) (hy : y ∈ (K.abort t).l) : y ∈ K.l ∨ y = { x with state := 2 } := by
  unfold Ck.abort Ck.put at hy
  rw [h] at hy
  exact List.mem_or_eq_of_mem_set hy
theorem ClkOk.begins {K : Ck} (h : ClkOk K) : ClkOk K.begins := by
  have hm : ∀ x, x ∈ K.begins.l → x ∈ K.l ∨ x = ⟨0, K.commits, 0⟩ := fun x hx => by
    unfold Ck.begins at hx
    simpa using hx
  refine ⟨fun x hx => ?_, h.c0, fun x hx => ?_, fun x hx => ?_⟩
  · rcases hm x hx with e | rfl
    · exact h.tx x e
    · exact ⟨.inl rfl, h.c0, fun e => by simp at e⟩
  · rcases hm x hx with e | rfl
    · exact h.mrk x e
    · exact Int.le_refl _
  · rcases hm x hx with e | rfl
    · exact h.cm x e
    · exact fun e => by simp at e
theorem ClkOk.commit {K : Ck} (h : ClkOk K) {t : Int} (hl : K.live t = true) : ClkOk (K.commit t) := by
  obtain ⟨x, hx, h0⟩ := Ck.live_iff.1 hl
  have c0 := h.c0
  have hxm := h.mrk x (Ck.mem hx)
  have hxo := h.tx x (Ck.mem hx)
  have e := commits_commit hx
  refine ⟨fun y hy => ?_, by omega, fun y hy => ?_, fun y hy => ?_⟩
  · rcases mem_commit hx hy with h1 | rfl
    · exact h.tx y h1
    · exact ⟨.inr (.inl rfl), hxo.mark, fun _ => by show 1 ≤ K.commits + 1; omega⟩
  · rcases mem_commit hx hy with h1 | rfl
    · have := h.mrk y h1; omega
    · show x.mark ≤ _; omega
  · rcases mem_commit hx hy with h1 | rfl
    · intro h2; have := h.cm y h1 h2; omega
    · intro _; show K.commits + 1 ≤ _; omega
theorem ClkOk.abort {K : Ck} (h : ClkOk K) {t : Int} (hl : K.live t = true) : ClkOk (K.abort t) := by
  obtain ⟨x, hx, h0⟩ := Ck.live_iff.1 hl
  have hxm := h.mrk x (Ck.mem hx)
  have hxo := h.tx x (Ck.mem hx)
  have e := commits_abort K t
  refine ⟨fun y hy => ?_, by have := h.c0; omega, fun y hy => ?_, fun y hy => ?_⟩
  · rcases mem_abort hx hy with h1 | rfl
    · exact h.tx y h1
    · exact ⟨.inr (.inr rfl), hxo.mark, fun e => by simp at e⟩
  · rcases mem_abort hx hy with h1 | rfl
    · have := h.mrk y h1; omega
    · show x.mark ≤ _; omega
  · rcases mem_abort hx hy with h1 | rfl
    · intro h2; have := h.cm y h1 h2; omega
    · intro h2; simp at h2
section
variable {α : Type} {K : Ck} {L : List (Ver α)}
theorem CellOk.txne (h : CellOk K L) {y : Ver α} (hy : y ∈ L) : y.by_ ≠ (K.l.length : Int) + 1 := by
  obtain ⟨x, hx, -⟩ := h.st y hy
  have := (Ck.tx_some hx).2.2.2
  omega
theorem CellOk.begins (h : CellOk K L) : CellOk K.begins L := by
  have e : ∀ y ∈ L, K.begins.tx y.by_ = K.tx y.by_ := fun y hy => by rw [tx_begins, if_neg (h.txne hy)]
  refine ⟨fun y hy => by rw [e y hy]; exact h.st y hy, ?_⟩
  have hb := h.bef
  rw [List.pairwise_iff_forall_sublist] at hb ⊢
  intro y z hs
  obtain ⟨x, x', h1, h2, h3⟩ := hb hs
  exact ⟨x, x', by rw [e y (hs.subset (by simp))]; exact h1, by rw [e z (hs.subset (by simp))]; exact h2, h3⟩
theorem CellOk.commit (h : CellOk K L) (hK : ClkOk K) {t : Int} (hl : K.live t = true) : CellOk (K.commit t) L := by
  obtain ⟨x, hx, h0⟩ := Ck.live_iff.1 hl
  refine ⟨fun y hy => ?_, ?_⟩
  · obtain ⟨z, hz, h1⟩ := h.st y hy
    rw [tx_commit hx]
    by_cases e : y.by_ = t
    · rw [if_pos e]; exact ⟨_, rfl, .inr rfl⟩
    · rw [if_neg e]; exact ⟨z, hz, h1⟩
  · refine h.bef.imp (fun {y z} hb => ?_)
    obtain ⟨a, b, h1, h2, h3, h4⟩ := hb
    have hne : y.by_ ≠ t := fun e => by
      rw [e, hx] at h1
      obtain rfl := Option.some.inj h1
      omega
    refine ⟨a, ?_⟩
    rw [tx_commit hx, tx_commit hx, if_neg hne]
    by_cases e : z.by_ = t
    · rw [if_pos e]
      exact ⟨_, h1, rfl, h3, .inl ⟨rfl, by have := hK.cm a (Ck.mem h1) h3; show a.commit < K.commits + 1; omega⟩⟩
    · rw [if_neg e]
      exact ⟨b, h1, h2, h3, h4⟩
theorem CellOk.abort (h : CellOk K L) {t : Int} (hl : K.live t = true) : CellOk (K.abort t) (undoV t L) := by
  obtain ⟨x, hx, h0⟩ := Ck.live_iff.1 hl
  have hs : (undoV t L).Sublist L := List.filter_sublist
  have hm : ∀ y ∈ undoV t L, y.by_ ≠ t := fun y hy => by
    unfold undoV at hy
    have := (List.mem_filter.1 hy).2
    simpa using this
  have e : ∀ y ∈ undoV t L, (K.abort t).tx y.by_ = K.tx y.by_ := fun y hy => by rw [tx_abort hx, if_neg (hm y hy)]
  refine ⟨fun y hy => by rw [e y hy]; exact h.st y (hs.subset hy), ?_⟩
  have hb := h.bef.sublist hs
  rw [List.pairwise_iff_forall_sublist] at hb ⊢
  intro y z hs2
  obtain ⟨a, b, h1, h2, h3⟩ := hb hs2
  exact ⟨a, b, by rw [e y (hs2.subset (by simp))]; exact h1, by rw [e z (hs2.subset (by simp))]; exact h2, h3⟩
/-- a version of a live one behind all, where it does not clash -/
theorem CellOk.snoc (h : CellOk K L) {t : Int} (hl : K.live t = true) (hne : ∀ y ∈ L, y.by_ ≠ t) (hc : clashV K t L = false) (v : α) (g : Bool) : CellOk K (L ++ [⟨t, v, g⟩]) := by
  obtain ⟨x, hx, h0⟩ := Ck.live_iff.1 hl
  refine ⟨fun y hy => ?_, ?_⟩
  · rcases List.mem_append.1 hy with hy | hy
    · exact h.st y hy
    · rw [List.mem_singleton.1 hy]; exact ⟨x, hx, .inl h0⟩
  · rw [List.pairwise_append]
    refine ⟨h.bef, by simp, fun y hy z hz => ?_⟩
    rw [List.mem_singleton.1 hz]
    -- the last
    cases hL : L.getLast? with
    | none => rw [List.getLast?_eq_none_iff.1 hL] at hy; cases hy
    | some u =>
      obtain ⟨A, rfl⟩ : ∃ A, L = A ++ [u] := by
        obtain ⟨A, hA⟩ := List.getLast?_eq_some_iff.1 hL
        exact ⟨A, hA⟩
      have hu : u ∈ A ++ [u] := by simp
      obtain ⟨xu, hxu, hsu⟩ := h.st u hu
      have hcu : K.clashes t u.by_ = false := by unfold clashV at hc; rw [hL] at hc; exact hc
      unfold Ck.clashes at hcu
      rw [hx, hxu] at hcu
      dsimp only at hcu
      have hn1 : (t == u.by_) = false := beq_eq_false_iff_ne.2 (fun e => hne u hu e.symm)
      rw [hn1] at hcu
      have h1 : xu.state = 1 ∧ xu.commit ≤ x.mark := by
        rcases hsu with e | e
        · simp [e] at hcu
        · simp [e] at hcu
          exact ⟨e, hcu⟩
      rcases List.mem_append.1 hy with hy | hy
      · obtain ⟨a, b, q1, q2, q3, q4⟩ := (List.pairwise_append.1 h.bef).2.2 y hy u (by simp)
        obtain rfl := Option.some.inj (q2.symm.trans hxu)
        refine ⟨a, x, q1, hx, q3, .inr ⟨h0, ?_⟩⟩
        rcases q4 with q4 | q4 <;> omega
      · rw [List.mem_singleton.1 hy]
        exact ⟨xu, x, hxu, hx, h1.1, .inr ⟨h0, h1.2⟩⟩
/-- a write, as it is: none of t's stands there any more, and t's stands behind -/
theorem writeV_as (h : CellOk K L) {t : Int} (hl : K.live t = true) (hc : clashV K t L = false) (v : α) (g : Bool) : writeV K t v g L = undoV t L ++ [⟨t, v, g⟩] := by
  unfold writeV
  rw [hc, if_neg (by simp)]
  cases hL : L.getLast? with
  | none =>
    obtain rfl := List.getLast?_eq_none_iff.1 hL
    rfl
  | some u =>
    obtain ⟨A, rfl⟩ := List.getLast?_eq_some_iff.1 hL
    have hA : ∀ y ∈ A, y.by_ ≠ t := fun y hy e => by
      obtain ⟨P, Q, hPQ⟩ := List.append_of_mem hy
      have := h.liveLast (A := P) (B := Q ++ [u]) (y := y) (by rw [hPQ]; simp) (by rw [e]; exact hl)
      simp at this
    have hf : undoV t A = A := List.filter_eq_self.2 (fun y hy => by simpa using hA y hy)
    have hs : undoV t (A ++ [u]) = undoV t A ++ undoV t [u] := List.filter_append ..
    dsimp only
    by_cases e : u.by_ = t
    · rw [if_pos e, List.dropLast_concat, hs, hf]
      have : undoV t [u] = [] := by unfold undoV; simp [e]
      rw [this, List.append_nil]
    · rw [if_neg e, hs, hf]
      have : undoV t [u] = [u] := by unfold undoV; simp [e]
      rw [this]
theorem clashV_undo (h : CellOk K L) {t : Int} (hl : K.live t = true) (hc : clashV K t L = false) : clashV K t (undoV t L) = false := by
  cases hL : L.getLast? with
  | none =>
    obtain rfl := List.getLast?_eq_none_iff.1 hL
    rfl
  | some u =>
    obtain ⟨A, rfl⟩ := List.getLast?_eq_some_iff.1 hL
    have hA : ∀ y ∈ A, y.by_ ≠ t := fun y hy e => by
      obtain ⟨P, Q, hPQ⟩ := List.append_of_mem hy
      have := h.liveLast (A := P) (B := Q ++ [u]) (y := y) (by rw [hPQ]; simp) (by rw [e]; exact hl)
      simp at this
    have hf : undoV t A = A := List.filter_eq_self.2 (fun y hy => by simpa using hA y hy)
    have hs : undoV t (A ++ [u]) = undoV t A ++ undoV t [u] := List.filter_append ..
    by_cases e : u.by_ = t
    · have e2 : undoV t [u] = [] := by unfold undoV; simp [e]
      rw [hs, hf, e2, List.append_nil]
      obtain ⟨x, hx, h0⟩ := Ck.live_iff.1 hl
      cases hL2 : A.getLast? with
      | none => unfold clashV; rw [hL2]
      | some z =>
        obtain ⟨A', rfl⟩ := List.getLast?_eq_some_iff.1 hL2
        obtain ⟨a, b, q1, q2, q3, q4⟩ := (List.pairwise_append.1 h.bef).2.2 z (by simp) u (by simp)
        rw [e, hx] at q2
        obtain rfl := Option.some.inj q2
        have q5 : a.commit ≤ x.mark := by rcases q4 with q4 | q4 <;> omega
        unfold clashV
        rw [hL2]
        show K.clashes t z.by_ = false
        unfold Ck.clashes
        rw [hx, q1]
        simp [q3, q5]
    · have e2 : undoV t [u] = [u] := by unfold undoV; simp [e]
      rw [hs, hf, e2]
      exact hc
theorem CellOk.undo (h : CellOk K L) (t : Int) : CellOk K (undoV t L) := h.sub List.filter_sublist
theorem undoV_ne (t : Int) (L : List (Ver α)) : ∀ y ∈ undoV t L, y.by_ ≠ t := fun y hy => by
  unfold undoV at hy
  have := (List.mem_filter.1 hy).2
  simpa using this
theorem CellOk.write (h : CellOk K L) {t : Int} (hl : K.live t = true) (hc : clashV K t L = false) (v : α) (g : Bool) : CellOk K (writeV K t v g L) := by
  rw [writeV_as h hl hc]
  exact (h.undo t).snoc hl (undoV_ne t L) (clashV_undo h hl hc) v g
end
end Go.Proofs.YtibfpkfpmkghhaaGreatDoor

namespace Go.Proofs.YtibfpkfpmkghhaaGreatDoor
open Go.RowKit Go.Lig

theorem sees_of {K : Ck} {t b : Int} {x : Tx} (hx : K.tx t = some x) {y : Tx} (hy : K.tx b = some y) : K.sees t b = (t == b || (y.state == 1 && decide (y.commit ≤ x.mark))) := by
  unfold Ck.sees
  rw [hx, hy]
theorem seesOwn {K : Ck} {t : Int} {x : Tx} (hx : K.tx t = some x) : K.sees t t = true := by rw [sees_of hx hx]; simp
/-- what a transaction sees was committed, or is its own -/
theorem sees_done {K : Ck} {t b : Int} (h : K.sees t b = true) : t = b ∨ K.done b = true := by
  unfold Ck.sees at h
  cases hx : K.tx t with
  | none => rw [hx] at h; cases h
  | some x =>
    cases hy : K.tx b with
    | none => rw [hx, hy] at h; cases h
    | some y =>
      rw [hx, hy] at h
      simp only [Bool.or_eq_true, beq_iff_eq, Bool.and_eq_true] at h
      rcases h with h | h
      · exact .inl h
      · exact .inr (Ck.done_iff.2 ⟨y, hy, h.1⟩)
theorem done_live {K : Ck} {t : Int} (h : K.live t = true) : K.done t = false := by
  obtain ⟨x, hx, h0⟩ := Ck.live_iff.1 h
  unfold Ck.done
  rw [hx]
  simp [h0]
theorem sees_live {K : Ck} {t b : Int} (h : K.live b = true) (hne : t ≠ b) : K.sees t b = false := by
  cases hs : K.sees t b with
  | false => rfl
  | true =>
    rcases sees_done hs with e | e
    · exact absurd e hne
    · rw [done_live h] at e; cases e
section
variable {α : Type} {K : Ck} {L : List (Ver α)}
/-- what one that begins now would read -/
def lastC (K : Ck) (L : List (Ver α)) : Option α := valOf (lastVer K.done L)
def hasV (t : Int) (L : List (Ver α)) : Prop := ∃ y ∈ L, y.by_ = t
/-- there is a committed version of at least this commit -/
def cmax (K : Ck) (c : Int) (L : List (Ver α)) : Prop := ∃ y ∈ L, ∃ x, K.tx y.by_ = some x ∧ x.state = 1 ∧ c ≤ x.commit
theorem readV_congr {K' : Ck} {u u' : Int} (h : ∀ y ∈ L, K.sees u y.by_ = K'.sees u' y.by_) : readV K u L = readV K' u' L := by
  rw [readV_ver, readV_ver, lastVer_congr h]
theorem own_last (h : CellOk K L) {t : Int} (hl : K.live t = true) {y : Ver α} (hy : y ∈ L) (e : y.by_ = t) : ∃ A, L = A ++ [y] ∧ ∀ z ∈ A, z.by_ ≠ t := by
  obtain ⟨A, B, rfl⟩ := List.append_of_mem hy
  obtain rfl := h.liveLast rfl (by rw [e]; exact hl)
  refine ⟨A, rfl, fun z hz e2 => ?_⟩
  have hb := (List.pairwise_append.1 h.bef).2.2 z hz y (by simp)
  exact hb.ne (by rw [e2, e])
theorem read_own (h : CellOk K L) {t : Int} (hl : K.live t = true) {y : Ver α} (hy : y ∈ L) (e : y.by_ = t) : readV K t L = valOf (some y) := by
  obtain ⟨x, hx, h0⟩ := Ck.live_iff.1 hl
  obtain ⟨A, rfl, -⟩ := own_last h hl hy e
  rw [readV_ver, lastVer_snoc, e, seesOwn hx, if_pos rfl]
theorem read_begins (h : CellOk K L) {u : Int} (hl : K.live u = true) : readV K.begins u L = readV K u L := by
  obtain ⟨x, hx, h0⟩ := Ck.live_iff.1 hl
  have hu := (Ck.tx_some hx).2.2.2
  have e1 : K.begins.tx u = some x := by rw [tx_begins, if_neg (by omega)]; exact hx
  refine readV_congr (fun y hy => ?_)
  obtain ⟨z, hz, -⟩ := h.st y hy
  have e2 : K.begins.tx y.by_ = some z := by rw [tx_begins, if_neg (h.txne hy)]; exact hz
  rw [sees_of e1 e2, sees_of hx hz]
theorem read_new (hK : ClkOk K) (h : CellOk K L) : readV K.begins ((K.l.length : Int) + 1) L = lastC K L := by
  have e1 : K.begins.tx ((K.l.length : Int) + 1) = some ⟨0, K.commits, 0⟩ := by rw [tx_begins, if_pos rfl]
  rw [readV_ver, lastC]
  refine congrArg valOf (lastVer_congr (fun y hy => ?_))
  obtain ⟨z, hz, -⟩ := h.st y hy
  have hne := h.txne hy
  have e2 : K.begins.tx y.by_ = some z := by rw [tx_begins, if_neg hne]; exact hz
  rw [sees_of e1 e2]
  have hb : ((K.l.length : Int) + 1 == y.by_) = false := beq_eq_false_iff_ne.2 (fun e => hne e.symm)
  rw [hb]
  unfold Ck.done
  rw [hz]
  by_cases h1 : z.state = 1
  · have := hK.cm z (Ck.mem hz) h1
    simp [h1, this]
  · simp [h1]
theorem lastC_begins (h : CellOk K L) : lastC K.begins L = lastC K L := by
  unfold lastC
  refine congrArg valOf (lastVer_congr (fun y hy => ?_))
  unfold Ck.done
  rw [tx_begins, if_neg (h.txne hy)]
theorem lastVer_begins (h : CellOk K L) : lastVer K.begins.done L = lastVer K.done L := by
  refine lastVer_congr (fun y hy => ?_)
  unfold Ck.done
  rw [tx_begins, if_neg (h.txne hy)]
theorem read_commit (hK : ClkOk K) (h : CellOk K L) {t u : Int} (hl : K.live t = true) (hu : K.live u = true) (hne : u ≠ t) : readV (K.commit t) u L = readV K u L := by
  obtain ⟨x, hx, h0⟩ := Ck.live_iff.1 hl
  obtain ⟨xu, hxu, hu0⟩ := Ck.live_iff.1 hu
  have e1 : (K.commit t).tx u = some xu := by rw [tx_commit hx, if_neg hne]; exact hxu
  refine readV_congr (fun y hy => ?_)
  obtain ⟨z, hz, -⟩ := h.st y hy
  by_cases e : y.by_ = t
  · have e2 : (K.commit t).tx y.by_ = some { x with state := 1, commit := K.commits + 1 } := by rw [tx_commit hx, if_pos e]
    have hm := hK.mrk xu (Ck.mem hxu)
    rw [sees_of e1 e2, sees_of hxu hz]
    rw [e, hx] at hz
    obtain rfl := Option.some.inj hz
    have : (u == y.by_) = false := beq_eq_false_iff_ne.2 (by rw [e]; exact hne)
    simp [this, h0]
    omega
  · have e2 : (K.commit t).tx y.by_ = some z := by rw [tx_commit hx, if_neg e]; exact hz
    rw [sees_of e1 e2, sees_of hxu hz]
theorem done_commit {t : Int} (hl : K.live t = true) (b : Int) : (K.commit t).done b = (b == t || K.done b) := by
  obtain ⟨x, hx, h0⟩ := Ck.live_iff.1 hl
  unfold Ck.done
  rw [tx_commit hx]
  by_cases e : b = t
  · simp [e]
  · rw [if_neg e]
    have : (b == t) = false := beq_eq_false_iff_ne.2 e
    rw [this, Bool.false_or]
theorem lastVer_commit_own (h : CellOk K L) {t : Int} (hl : K.live t = true) {y : Ver α} (hy : y ∈ L) (e : y.by_ = t) : lastVer (K.commit t).done L = some y := by
  obtain ⟨A, rfl, -⟩ := own_last h hl hy e
  rw [lastVer_snoc, done_commit hl, e]
  simp
theorem lastVer_commit_not {t : Int} (hl : K.live t = true) (hn : ¬ hasV t L) : lastVer (K.commit t).done L = lastVer K.done L := by
  refine lastVer_congr (fun y hy => ?_)
  rw [done_commit hl]
  have : (y.by_ == t) = false := beq_eq_false_iff_ne.2 (fun e => hn ⟨y, hy, e⟩)
  rw [this, Bool.false_or]
theorem read_abort (h : CellOk K L) {t u : Int} (hl : K.live t = true) (hu : K.live u = true) (hne : u ≠ t) : readV (K.abort t) u (undoV t L) = readV K u L := by
  obtain ⟨x, hx, h0⟩ := Ck.live_iff.1 hl
  obtain ⟨xu, hxu, hu0⟩ := Ck.live_iff.1 hu
  have e1 : (K.abort t).tx u = some xu := by rw [tx_abort hx, if_neg hne]; exact hxu
  have e3 : readV K u (undoV t L) = readV K u L := by
    rw [readV_ver, readV_ver]
    unfold undoV
    rw [lastVer_filter (fun y hy hs => ?_)]
    have : y.by_ ≠ t := fun e => by rw [e, sees_live hl hne] at hs; cases hs
    simpa using this
  rw [← e3]
  refine readV_congr (fun y hy => ?_)
  have hyt := undoV_ne t L y hy
  obtain ⟨z, hz, -⟩ := (h.undo t).st y hy
  have e2 : (K.abort t).tx y.by_ = some z := by rw [tx_abort hx, if_neg hyt]; exact hz
  rw [sees_of e1 e2, sees_of hxu hz]
theorem lastVer_undo {t : Int} (hl : K.live t = true) : lastVer K.done (undoV t L) = lastVer K.done L := by
  unfold undoV
  refine lastVer_filter (fun y hy hs => ?_)
  have : y.by_ ≠ t := fun e => by rw [e, done_live hl] at hs; cases hs
  simpa using this
theorem lastVer_abort {t : Int} (hl : K.live t = true) : lastVer (K.abort t).done (undoV t L) = lastVer K.done L := by
  obtain ⟨x, hx, h0⟩ := Ck.live_iff.1 hl
  rw [← lastVer_undo hl]
  refine lastVer_congr (fun y hy => ?_)
  unfold Ck.done
  rw [tx_abort hx, if_neg (undoV_ne t L y hy)]
theorem read_write_other (h : CellOk K L) {t u : Int} (hl : K.live t = true) (hc : clashV K t L = false) (v : α) (g : Bool) (hne : u ≠ t) : readV K u (writeV K t v g L) = readV K u L := by
  rw [writeV_as h hl hc, readV_ver, readV_ver, lastVer_snoc, sees_live hl hne, if_neg (by simp)]
  unfold undoV
  rw [lastVer_filter (fun y hy hs => ?_)]
  have : y.by_ ≠ t := fun e => by rw [e, sees_live hl hne] at hs; cases hs
  simpa using this
theorem read_write_self (h : CellOk K L) {t : Int} (hl : K.live t = true) (hc : clashV K t L = false) (v : α) (g : Bool) : readV K t (writeV K t v g L) = if g then none else some v := by
  obtain ⟨x, hx, h0⟩ := Ck.live_iff.1 hl
  rw [writeV_as h hl hc, readV_ver, lastVer_snoc, seesOwn hx, if_pos rfl]
  rfl
theorem lastVer_write (h : CellOk K L) {t : Int} (hl : K.live t = true) (hc : clashV K t L = false) (v : α) (g : Bool) : lastVer K.done (writeV K t v g L) = lastVer K.done L := by
  rw [writeV_as h hl hc, lastVer_snoc, done_live hl, if_neg (by simp), lastVer_undo hl]
theorem hasV_write (h : CellOk K L) {t : Int} (hl : K.live t = true) (hc : clashV K t L = false) (v : α) (g : Bool) (u : Int) : hasV u (writeV K t v g L) ↔ u = t ∨ hasV u L := by
  rw [writeV_as h hl hc]
  unfold hasV undoV
  constructor
  · rintro ⟨y, hy, rfl⟩
    rcases List.mem_append.1 hy with hy | hy
    · exact .inr ⟨y, (List.mem_filter.1 hy).1, rfl⟩
    · rw [List.mem_singleton.1 hy]; exact .inl rfl
  · rintro (rfl | ⟨y, hy, rfl⟩)
    · exact ⟨_, List.mem_append_right _ (List.mem_singleton.2 rfl), rfl⟩
    · by_cases e : y.by_ = t
      · exact ⟨_, List.mem_append_right _ (List.mem_singleton.2 rfl), e.symm⟩
      · exact ⟨y, List.mem_append_left _ (List.mem_filter.2 ⟨hy, by simpa using e⟩), rfl⟩
theorem mem_write (h : CellOk K L) {t : Int} (hl : K.live t = true) (hc : clashV K t L = false) (v : α) (g : Bool) {y : Ver α} (hy : y ∈ writeV K t v g L) : y = ⟨t, v, g⟩ ∨ (y ∈ L ∧ y.by_ ≠ t) := by
  rw [writeV_as h hl hc] at hy
  rcases List.mem_append.1 hy with hy | hy
  · exact .inr ⟨(List.mem_filter.1 hy).1, undoV_ne t L y hy⟩
  · exact .inl (List.mem_singleton.1 hy)
theorem cmax_undo {t : Int} (hl : K.live t = true) {c : Int} (h : cmax K c L) : cmax K c (undoV t L) := by
  obtain ⟨y, hy, x, hx, h1, h2⟩ := h
  obtain ⟨x', hx', h0⟩ := Ck.live_iff.1 hl
  refine ⟨y, List.mem_filter.2 ⟨hy, ?_⟩, x, hx, h1, h2⟩
  have : y.by_ ≠ t := fun e => by
    rw [e, hx'] at hx
    obtain rfl := Option.some.inj hx
    omega
  simpa using this
theorem cmax_write (hC : CellOk K L) {t : Int} (hl : K.live t = true) (hc : clashV K t L = false) (v : α) (g : Bool) {c : Int} (h : cmax K c L) : cmax K c (writeV K t v g L) := by
  rw [writeV_as hC hl hc]
  obtain ⟨y, hy, r⟩ := cmax_undo hl h
  exact ⟨y, List.mem_append_left _ hy, r⟩
theorem cmax_begins {c : Int} (h : cmax K c L) : cmax K.begins c L := by
  obtain ⟨y, hy, x, hx, h1⟩ := h
  have := (Ck.tx_some hx).2.2.2
  exact ⟨y, hy, x, by rw [tx_begins, if_neg (by omega)]; exact hx, h1⟩
theorem cmax_commit {t : Int} (hl : K.live t = true) {c : Int} (h : cmax K c L) : cmax (K.commit t) c L := by
  obtain ⟨x', hx', h0⟩ := Ck.live_iff.1 hl
  obtain ⟨y, hy, x, hx, h1, h2⟩ := h
  refine ⟨y, hy, x, ?_, h1, h2⟩
  rw [tx_commit hx', if_neg (fun e => ?_)]
  · exact hx
  · rw [e, hx'] at hx
    obtain rfl := Option.some.inj hx
    omega
theorem cmax_abort {t : Int} (hl : K.live t = true) {c : Int} (h : cmax K c L) : cmax (K.abort t) c (undoV t L) := by
  obtain ⟨x', hx', h0⟩ := Ck.live_iff.1 hl
  obtain ⟨y, hy, x, hx, h1⟩ := cmax_undo hl h
  exact ⟨y, hy, x, by rw [tx_abort hx', if_neg (undoV_ne t L y hy)]; exact hx, h1⟩
/-- t's version stands behind committed ones that t sees -/
theorem own_mark (h : CellOk K L) {t : Int} (hl : K.live t = true) (ho : hasV t L) {c : Int} (hc : cmax K c L) : ∃ x, K.tx t = some x ∧ c ≤ x.mark := by
  obtain ⟨x, hx, h0⟩ := Ck.live_iff.1 hl
  obtain ⟨y, hy, e⟩ := ho
  obtain ⟨A, rfl, hA⟩ := own_last h hl hy e
  obtain ⟨z, hz, xz, hxz, h1, h2⟩ := hc
  rcases List.mem_append.1 hz with hz | hz
  · obtain ⟨a, b, q1, q2, q3, q4⟩ := (List.pairwise_append.1 h.bef).2.2 z hz y (by simp)
    rw [e, hx] at q2
    obtain rfl := Option.some.inj q2
    obtain rfl := Option.some.inj (q1.symm.trans hxz)
    exact ⟨x, hx, by rcases q4 with q4 | q4 <;> omega⟩
  · rw [List.mem_singleton.1 hz, e, hx] at hxz
    obtain rfl := Option.some.inj hxz
    omega
/-- the last committed one, where it is not too new and t wrote nothing, is what t reads -/
theorem read_last {t : Int} {x : Tx} (hx : K.tx t = some x) (hn : ¬ hasV t L) {y : Ver α} (hy : lastVer K.done L = some y) {xy : Tx} (hxy : K.tx y.by_ = some xy) (hm : xy.commit ≤ x.mark) : lastVer (K.sees t) L = some y := by
  unfold lastVer at hy ⊢
  obtain ⟨hd, A, B, he, hA⟩ := List.find?_eq_some_iff_append.1 hy
  refine List.find?_eq_some_iff_append.2 ⟨?_, A, B, he, fun z hz => ?_⟩
  · obtain ⟨x', hx', h1⟩ := Ck.done_iff.1 (show K.done y.by_ = true by simpa using hd)
    obtain rfl := Option.some.inj (hx'.symm.trans hxy)
    show K.sees t y.by_ = true
    rw [sees_of hx hxy]
    simp [h1, hm]
  · have h1 := hA z hz
    show (!K.sees t z.by_) = true
    cases hs : K.sees t z.by_ with
    | false => rfl
    | true =>
      rcases sees_done hs with e | e
      · exact absurd ⟨z, List.mem_reverse.1 (by rw [he]; exact List.mem_append_left _ hz), e.symm⟩ hn
      · rw [e] at h1; exact absurd h1 (by simp)
end
end Go.Proofs.YtibfpkfpmkghhaaGreatDoor
