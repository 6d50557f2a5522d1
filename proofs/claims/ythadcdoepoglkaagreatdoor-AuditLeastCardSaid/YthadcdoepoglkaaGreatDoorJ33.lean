/- A part of the proof: contracts of functions of the program, for the row's text. -/
import Derived.Test.YthadcdoepoglkaaGreatDoorJ32
import Derived.Test.YthadcdoepoglkaaGreatDoorJ30
import Derived.Test.YthadcdoepoglkaaGreatDoorJ20
namespace Go.Proofs.YthadcdoepoglkaaGreatDoor
open Go.RowKit Go.Lig
theorem sees_of {K : Ck} {t b : Int} {x : Tx} (hx : K.tx t = some x) {y : Tx} (hy : K.tx b = some y) : K.sees t b = (t == b || (y.state == 1 && decide (y.commit ≤ x.mark))) := by
 unfold Ck.sees
 rw [hx, hy]
theorem seesOwn {K : Ck} {t : Int} {x : Tx} (hx : K.tx t = some x) : K.sees t t = true := by rw [sees_of hx hx]; simp
theorem sees_done {K : Ck} {t b : Int} (h : K.sees t b = true) : t = b ∨ K.done b = true := by
 unfold Ck.sees at h
 cases hx : K.tx t with
 | none => rw [hx] at h; cases h
 | some x =>
  cases hy : K.tx b with
  | none => rw [hx, hy] at h; cases h
  | some y =>
   rw [hx, hy] at h
   simp only [Bool.or_eq_true, beq_iff_eq, Bool.and_eq_true] at h
   rcases h with h | h
   ·exact .inl h
   ·exact .inr (Ck.done_iff.2 ⟨y, hy, h.1⟩)
theorem done_live {K : Ck} {t : Int} (h : K.live t = true) : K.done t = false := by
 obtain ⟨x, hx, h0⟩ := Ck.live_iff.1 h
 unfold Ck.done
 rw [hx]
 simp [h0]
theorem sees_live {K : Ck} {t b : Int} (h : K.live b = true) (hne : t ≠ b) : K.sees t b = false := by
 cases hs : K.sees t b with
 | false => rfl
 | true =>
  rcases sees_done hs with e | e
  ·exact absurd e hne
  ·rw [done_live h] at e; cases e
section
variable {α : Type} {K : Ck} {L : List (Ver α)}
def lastC (K : Ck) (L : List (Ver α)) : Option α := valOf (lastVer K.done L)
def hasV (t : Int) (L : List (Ver α)) : Prop := ∃ y ∈ L, y.by_ = t
def cmax (K : Ck) (c : Int) (L : List (Ver α)) : Prop := ∃ y ∈ L, ∃ x, K.tx y.by_ = some x ∧ x.state = 1 ∧ c ≤ x.commit
theorem readV_congr {K' : Ck} {u u' : Int} (h : ∀ y ∈ L, K.sees u y.by_ = K'.sees u' y.by_) : readV K u L = readV K' u' L := by
 rw [readV_ver, readV_ver, lastVer_congr h]
theorem own_last (h : CellOk K L) {t : Int} (hl : K.live t = true) {y : Ver α} (hy : y ∈ L) (e : y.by_ = t) : ∃ A, L = A ++ [y] ∧ ∀ z ∈ A, z.by_ ≠ t := by
 obtain ⟨A, B, rfl⟩ := List.append_of_mem hy
 obtain rfl := h.liveLast rfl (by rw [e]; exact hl)
 refine ⟨A, rfl, fun z hz e2 => ?_⟩
 have hb := (List.pairwise_append.1 h.bef).2.2 z hz y (by simp)
 exact hb.ne (by rw [e2, e])
theorem read_begins (h : CellOk K L) {u : Int} (hl : K.live u = true) : readV K.begins u L = readV K u L := by
 obtain ⟨x, hx, h0⟩ := Ck.live_iff.1 hl
 have hu := (Ck.tx_some hx).2.2.2
 have e1 : K.begins.tx u = some x := by rw [tx_begins, if_neg (by omega)]; exact hx
 refine readV_congr (fun y hy => ?_)
 obtain ⟨z, hz, -⟩ := h.st y hy
 have e2 : K.begins.tx y.by_ = some z := by rw [tx_begins, if_neg (h.txne hy)]; exact hz
 rw [sees_of e1 e2, sees_of hx hz]
theorem read_new (hK : ClkOk K) (h : CellOk K L) : readV K.begins ((K.l.length : Int) + 1) L = lastC K L := by
 have e1 : K.begins.tx ((K.l.length : Int) + 1) = some ⟨0, K.commits, 0⟩ := by rw [tx_begins, if_pos rfl]
 rw [readV_ver, lastC]
 refine congrArg valOf (lastVer_congr (fun y hy => ?_))
 obtain ⟨z, hz, -⟩ := h.st y hy
 have hne := h.txne hy
 have e2 : K.begins.tx y.by_ = some z := by rw [tx_begins, if_neg hne]; exact hz
 rw [sees_of e1 e2]
 have hb : ((K.l.length : Int) + 1 == y.by_) = false := beq_eq_false_iff_ne.2 (fun e => hne e.symm)
 rw [hb]
 unfold Ck.done
 rw [hz]
 by_cases h1 : z.state = 1
 ·have := hK.cm z (Ck.mem hz) h1
  simp [h1, this]
 ·simp [h1]
theorem lastC_begins (h : CellOk K L) : lastC K.begins L = lastC K L := by
 unfold lastC
 refine congrArg valOf (lastVer_congr (fun y hy => ?_))
 unfold Ck.done
 rw [tx_begins, if_neg (h.txne hy)]
theorem lastVer_begins (h : CellOk K L) : lastVer K.begins.done L = lastVer K.done L := by
 refine lastVer_congr (fun y hy => ?_)
 unfold Ck.done
 rw [tx_begins, if_neg (h.txne hy)]
theorem read_abort (h : CellOk K L) {t u : Int} (hl : K.live t = true) (hu : K.live u = true) (hne : u ≠ t) : readV (K.abort t) u (undoV t L) = readV K u L := by
 obtain ⟨x, hx, h0⟩ := Ck.live_iff.1 hl
 obtain ⟨xu, hxu, hu0⟩ := Ck.live_iff.1 hu
 have e1 : (K.abort t).tx u = some xu := by rw [tx_abort hx, if_neg hne]; exact hxu
 have e3 : readV K u (undoV t L) = readV K u L := by
  rw [readV_ver, readV_ver]
  unfold undoV
  rw [lastVer_filter (fun y hy hs => ?_)]
  have : y.by_ ≠ t := fun e => by rw [e, sees_live hl hne] at hs; cases hs
  simpa using this
 rw [← e3]
 refine readV_congr (fun y hy => ?_)
 have hyt := undoV_ne t L y hy
 obtain ⟨z, hz, -⟩ := (h.undo t).st y hy
 have e2 : (K.abort t).tx y.by_ = some z := by rw [tx_abort hx, if_neg hyt]; exact hz
 rw [sees_of e1 e2, sees_of hxu hz]
theorem lastVer_undo {t : Int} (hl : K.live t = true) : lastVer K.done (undoV t L) = lastVer K.done L := by
 unfold undoV
 refine lastVer_filter (fun y hy hs => ?_)
 have : y.by_ ≠ t := fun e => by rw [e, done_live hl] at hs; cases hs
 simpa using this
theorem lastVer_abort {t : Int} (hl : K.live t = true) : lastVer (K.abort t).done (undoV t L) = lastVer K.done L := by
 obtain ⟨x, hx, h0⟩ := Ck.live_iff.1 hl
 rw [← lastVer_undo hl]
 refine lastVer_congr (fun y hy => ?_)
 unfold Ck.done
 rw [tx_abort hx, if_neg (undoV_ne t L y hy)]
theorem read_write_other (h : CellOk K L) {t u : Int} (hl : K.live t = true) (hc : clashV K t L = false) (v : α) (g : Bool) (hne : u ≠ t) : readV K u (writeV K t v g L) = readV K u L := by
 rw [writeV_as h hl hc, readV_ver, readV_ver, lastVer_snoc, sees_live hl hne, if_neg (by simp)]
 unfold undoV
 rw [lastVer_filter (fun y hy hs => ?_)]
 have : y.by_ ≠ t := fun e => by rw [e, sees_live hl hne] at hs; cases hs
 simpa using this
theorem read_write_self (h : CellOk K L) {t : Int} (hl : K.live t = true) (hc : clashV K t L = false) (v : α) (g : Bool) : readV K t (writeV K t v g L) = if g then none else some v := by
 obtain ⟨x, hx, h0⟩ := Ck.live_iff.1 hl
 rw [writeV_as h hl hc, readV_ver, lastVer_snoc, seesOwn hx, if_pos rfl]
 rfl
theorem lastVer_write (h : CellOk K L) {t : Int} (hl : K.live t = true) (hc : clashV K t L = false) (v : α) (g : Bool) : lastVer K.done (writeV K t v g L) = lastVer K.done L := by
 rw [writeV_as h hl hc, lastVer_snoc, done_live hl, if_neg (by simp), lastVer_undo hl]
theorem hasV_write (h : CellOk K L) {t : Int} (hl : K.live t = true) (hc : clashV K t L = false) (v : α) (g : Bool) (u : Int) : hasV u (writeV K t v g L) ↔ u = t ∨ hasV u L := by
 rw [writeV_as h hl hc]
 unfold hasV undoV
 constructor
 ·rintro ⟨y, hy, rfl⟩
  rcases List.mem_append.1 hy with hy | hy
  ·exact .inr ⟨y, (List.mem_filter.1 hy).1, rfl⟩
  ·rw [List.mem_singleton.1 hy]; exact .inl rfl
 ·rintro (rfl | ⟨y, hy, rfl⟩)
  ·exact ⟨_, List.mem_append_right _ (List.mem_singleton.2 rfl), rfl⟩
  ·by_cases e : y.by_ = t
   ·exact ⟨_, List.mem_append_right _ (List.mem_singleton.2 rfl), e.symm⟩
   ·exact ⟨y, List.mem_append_left _ (List.mem_filter.2 ⟨hy, by simpa using e⟩), rfl⟩
theorem mem_write (h : CellOk K L) {t : Int} (hl : K.live t = true) (hc : clashV K t L = false) (v : α) (g : Bool) {y : Ver α} (hy : y ∈ writeV K t v g L) : y = ⟨t, v, g⟩ ∨ (y ∈ L ∧ y.by_ ≠ t) := by
 rw [writeV_as h hl hc] at hy
 rcases List.mem_append.1 hy with hy | hy
 ·exact .inr ⟨(List.mem_filter.1 hy).1, undoV_ne t L y hy⟩
 ·exact .inl (List.mem_singleton.1 hy)
theorem cmax_undo {t : Int} (hl : K.live t = true) {c : Int} (h : cmax K c L) : cmax K c (undoV t L) := by
 obtain ⟨y, hy, x, hx, h1, h2⟩ := h
 obtain ⟨x', hx', h0⟩ := Ck.live_iff.1 hl
 refine ⟨y, List.mem_filter.2 ⟨hy, ?_⟩, x, hx, h1, h2⟩
 have : y.by_ ≠ t := fun e => by
  rw [e, hx'] at hx
  obtain rfl := Option.some.inj hx
  omega
 simpa using this
theorem cmax_write (hC : CellOk K L) {t : Int} (hl : K.live t = true) (hc : clashV K t L = false) (v : α) (g : Bool) {c : Int} (h : cmax K c L) : cmax K c (writeV K t v g L) := by
 rw [writeV_as hC hl hc]
 obtain ⟨y, hy, r⟩ := cmax_undo hl h
 exact ⟨y, List.mem_append_left _ hy, r⟩
theorem cmax_begins {c : Int} (h : cmax K c L) : cmax K.begins c L := by
 obtain ⟨y, hy, x, hx, h1⟩ := h
 have := (Ck.tx_some hx).2.2.2
 exact ⟨y, hy, x, by rw [tx_begins, if_neg (by omega)]; exact hx, h1⟩
theorem cmax_abort {t : Int} (hl : K.live t = true) {c : Int} (h : cmax K c L) : cmax (K.abort t) c (undoV t L) := by
 obtain ⟨x', hx', h0⟩ := Ck.live_iff.1 hl
 obtain ⟨y, hy, x, hx, h1⟩ := cmax_undo hl h
 exact ⟨y, hy, x, by rw [tx_abort hx', if_neg (undoV_ne t L y hy)]; exact hx, h1⟩
end
end Go.Proofs.YthadcdoepoglkaaGreatDoor
namespace Go.Proofs.YthadcdoepoglkaaGreatDoor
open Go.RowKit Go.Lig
theorem fst_of_lst {Kp Kf : Nat → Obj → Prop} {w0 w w' : World} {T0 : Nat → Prop} {s m b2 b3 b6 F : Nat} {id : Int} {X : List (ByteArray × List EntR)} (h : LSt Kp w0 T0 m w X F) (hf : Fr No w w') (k2 : Kp b2 (.cells #[.pointer (some ⟨s, 0, none⟩)] 25 (0, 0))) (k3 : Kp b3 (.cells #[.int .i64 id] 3 (0, 0)))
  (h6 : w'.heap[b6]? = some (.cells #[.slice none 0 0] 163 (0, 0))) (hb6 : w.heap.size ≤ b6) (hKf : ∀ b o, Kf b o → w'.heap[b]? = some o ∧ w.heap.size ≤ b ∧ b ≠ b6) : FSt Kf w0 T0 s m b2 b3 b6 id w' X F [] := by
 obtain ⟨T, h1, h2, h3, h4, h5⟩ := h.ex
 have hn : ∀ b, w.heap.size ≤ b → ¬ T b := fun b hb e => by have := h4 b e; omega
 exact ⟨T, .slice none 0 0, h1.frame hf (fun _ _ e => e), h2.thenNo hf, h3, fun b hb => Nat.lt_of_lt_of_le (h4 b hb) hf.size, hf.keep (h5 _ _ k2).1 (fun e => e), hf.keep (h5 _ _ k3).1 (fun e => e), h6, World.ownsRow_nil _ _ _ _, (fun b e => by cases e), (h5 _ _ k2).2, (h5 _ _ k3).2, hn b6 hb6, fun b o hk => ⟨(hKf b o hk).1, hn b (hKf b o hk).2.1, (hKf b o hk).2.2, fun e => by cases e⟩⟩
theorem ixto_st {w w' : World} {ρ : Nat → Option Pt} {s : Nat} {A : Ad} {M : PSt} {F F' : Nat} (h : StAt w ρ s A M F) (hF : F ≤ F') {T : Nat → Prop} {X : List (ByteArray × List EntR)} (h1 : IxAt w' T A.m X F') (h2 : Fr (At ρ .index) w w') (h3 : Grown w (At ρ .index) T) (h4 : ∀ b, T b → b < w'.heap.size) :
  StAt w' (turn ρ .index T) s A { M with X := X } F' ∧ Gone (Go.Lig.Own ρ) w (Go.Lig.Own (turn ρ .index T)) w' := by
 have t : Trn w w' ρ .index T := ⟨h2, h3, h4⟩
 refine ⟨h.upd (M' := { M with X := X }) (A' := A) (F' := F') t (by simp) h1 (fun p hp R hr => ?_), gone_turn t⟩
 have hr2 := hr.mono (fun _ e => e) hF
 cases p with
 | index => exact absurd rfl hp
 | root => exact hr2
 | clock => exact hr2
 | nrow => exact hr2
 | erow => exact hr2
 | edrow => exact hr2
 | enrow => exact hr2
 | out => exact hr2
 | inn => exact hr2
 | imm => exact hr2
 | node i => exact hr2
 | edge i => exact hr2
theorem FSt.st {Kp : Nat → Obj → Prop} {w w' : World} {ρ : Nat → Option Pt} {s b2 b3 b6 : Nat} {A : Ad} {M : PSt} {F F' : Nat} {id : Int} {X : List (ByteArray × List EntR)} {es : List IxR} (h : StAt w ρ s A M F) (hF : F ≤ F') (hs : FSt Kp w (At ρ .index) s A.m b2 b3 b6 id w' X F' es) :
  ∃ ρ', StAt w' ρ' s A { M with X := X } F' ∧ Gone (Go.Lig.Own ρ) w (Go.Lig.Own ρ') w' := by
 obtain ⟨T, row, h1, h2, h3, h4, -⟩ := hs.ex
 exact ⟨_, ixto_st h hF h1 h2 h3 h4⟩
def runV (id : Int) (p : List (ByteArray × List EntR) × List IxR) (vs : List (Ver NodeD)) : List (ByteArray × List EntR) × List IxR := vs.foldl (fun p y => if y.gone then p else runE id p (labsOf y.v ++ propsOf y.v)) p
def costV (vs : List (Ver NodeD)) : Nat := (vs.map fun y => y.v.L.length + y.v.Q.length).sum
theorem runV_snoc (id : Int) (p : List (ByteArray × List EntR) × List IxR) (vs : List (Ver NodeD)) (y : Ver NodeD) : runV id p (vs ++ [y]) = if y.gone then runV id p vs else runE id (runV id p vs) (labsOf y.v ++ propsOf y.v) := by
 unfold runV
 rw [List.foldl_append]
 rfl
theorem costV_snoc (vs : List (Ver NodeD)) (y : Ver NodeD) : costV (vs ++ [y]) = costV vs + (y.v.L.length + y.v.Q.length) := by
 simp [costV]
theorem costV_take (vs : List (Ver NodeD)) (i : Nat) : costV (vs.take i) ≤ costV vs := by
 have h : costV (vs.take i ++ vs.drop i) = costV (vs.take i) + costV (vs.drop i) := by unfold costV; rw [List.map_append, List.sum_append]
 rw [List.take_append_drop] at h
 omega
theorem runV_len (id : Int) : ∀ (vs : List (Ver NodeD)) (p : List (ByteArray × List EntR) × List IxR), (runV id p vs).2.length ≤ p.2.length + costV vs
 | [], p => Nat.le_refl _
 | y :: vs, p => by
  have hc : costV (y :: vs) = (y.v.L.length + y.v.Q.length) + costV vs := by simp [costV]
  have h1 := runV_len id vs (if y.gone then p else runE id p (labsOf y.v ++ propsOf y.v))
  have h2 : (if y.gone then p else runE id p (labsOf y.v ++ propsOf y.v)).2.length ≤ p.2.length + (y.v.L.length + y.v.Q.length) := by
   split
   ·omega
   ·have := runE_len id (labsOf y.v ++ propsOf y.v) p
    simp only [List.length_append, labsOf, propsOf, List.length_map] at this
    exact this
  show (runV id (if y.gone then p else runE id p (labsOf y.v ++ propsOf y.v)) vs).2.length ≤ _
  omega
theorem celrow_frame {w w' : World} {T S : Nat → Prop} {x g : Nat} {L : List (Ver NodeV)} (hc : CellAt w T x L) (h : CelRow w x g L) (hf : Fr S w w') (hd : ∀ k, T k → ¬ S k) : CelRow w' x g L := by
 obtain ⟨v, g1, g2, g3⟩ := hc.ex
 obtain ⟨a, n, h1, h2, h3, h4⟩ := h.ex
 have e : v = .slice a L.length n := by
  rw [g1] at h1
  simpa using h1
 refine ⟨a, n, hf.keep h1 (hd x hc.root), hf.owns h2 (fun k hk => hd k (g3 k (by rw [e]; exact hk)).1), h3, h4⟩
theorem id_wf {k : Nat} (h : k < 1000) : (Lit.int .i64 ((k : Int) + 1)).wf = true := by
 simp [Lit.wf, IntKind.min, IntKind.max, IntKind.signed, IntKind.bits]
 omega
end Go.Proofs.YthadcdoepoglkaaGreatDoor
namespace Go.Lig
open Go.RowKit
theorem at_turn_free {ι : Type} {ρ : Nat → Option ι} {p q : ι} {T : Nat → Prop} (hq : q ≠ p) (hT : ∀ b, T b → At ρ p b ∨ ρ b = none) : At (turn ρ p T) q = At ρ q := by
 classical
 funext b
 unfold At turn
 refine propext ?_
 by_cases h1 : T b
 ·rw [if_pos h1]
  constructor
  ·intro e; exact absurd (Option.some.inj e).symm hq
  ·intro e
   rcases hT b h1 with h2 | h2
   ·rw [show ρ b = some p from h2] at e
    exact absurd (Option.some.inj e).symm hq
   ·rw [h2] at e; cases e
 ·rw [if_neg h1]
  by_cases h2 : ρ b = some p
  ·rw [if_pos h2]
   constructor
   ·intro e; cases e
   ·intro e; rw [h2] at e; exact absurd (Option.some.inj e).symm hq
  ·rw [if_neg h2]
theorem own_turn_free {ι : Type} {ρ : Nat → Option ι} {p : ι} {J : Nat → Prop} {b : Nat} (h : Own (turn ρ p (fun b => At ρ p b ∨ J b)) b) : Own ρ b ∨ J b := by
 classical
 unfold Own turn at h
 by_cases h1 : At ρ p b ∨ J b
 ·rcases h1 with h1 | h1
  ·exact .inl (at_own b h1)
  ·exact .inr h1
 ·rw [if_neg h1] at h
  by_cases h2 : ρ b = some p
  ·rw [if_pos h2] at h; exact absurd rfl h
  ·rw [if_neg h2] at h; exact .inl h
end Go.Lig
namespace Go.Proofs.YthadcdoepoglkaaGreatDoor
open Go.RowKit Go.Lig
theorem StAt.addFree {w : World} {ρ : Nat → Option Pt} {s : Nat} {A : Ad} {M : PSt} {F : Nat} (h : StAt w ρ s A M F) {J : Nat → Prop} (hJ : ∀ b, J b → ρ b = none ∧ b < w.heap.size) : StAt w (turn ρ .imm (fun b => At ρ .imm b ∨ J b)) s A M F := by
 refine ⟨fun b hb => ?_, fun q => ?_⟩
 ·rcases own_turn_free hb with h1 | h1
  ·exact h.bound b h1
  ·exact (hJ b h1).2
 ·rw [at_turn_same]
  by_cases hq : q = .imm
  ·subst hq; trivial
  ·rw [at_turn_free hq (fun b hb => hb.imp (fun e => e) (fun e => (hJ b e).1))]
   exact (h.at_ q).mono (fun _ e => .inl e) (Nat.le_refl _)
def OkI (y : IxR) : Prop := y.key.size ≤ maxLen ∧ ValOk y.x.v ∧ (Lit.int .i64 y.x.id).wf = true
theorem runE_ok {id : Int} (hid : (Lit.int .i64 id).wf = true) : ∀ (l : List (ByteArray × ValR)) (p : List (ByteArray × List EntR) × List IxR), (∀ y ∈ l, y.1.size ≤ maxLen ∧ ValOk y.2) → (∀ y ∈ p.2, OkI y) → ∀ y ∈ (runE id p l).2, OkI y
 | [], _, _, hp => hp
 | x :: l, p, hl, hp => by
  have h1 : ∀ y ∈ (stepE id p x).2, OkI y := by
   unfold stepE
   simp only []
   split
   ·exact hp
   ·intro y hy
    rcases List.mem_append.1 hy with h2 | h2
    ·exact hp y h2
    ·rw [List.mem_singleton.1 h2]
     have := hl x (List.mem_cons_self ..)
     exact ⟨this.1, this.2, hid⟩
  exact runE_ok hid l (stepE id p x) (fun y hy => hl y (List.mem_cons_of_mem _ hy)) h1
theorem runV_ok {id : Int} (hid : (Lit.int .i64 id).wf = true) : ∀ (vs : List (Ver NodeD)) (p : List (ByteArray × List EntR) × List IxR), (∀ y ∈ vs, (∀ s ∈ y.v.L, s.size ≤ maxLen) ∧ ∀ q ∈ y.v.Q, PropOk q) → (∀ y ∈ p.2, OkI y) → ∀ y ∈ (runV id p vs).2, OkI y
 | [], _, _, hp => hp
 | x :: vs, p, hl, hp => by
  have h1 : ∀ y ∈ (if x.gone then p else runE id p (labsOf x.v ++ propsOf x.v)).2, OkI y := by
   split
   ·exact hp
   ·refine runE_ok hid _ p (fun y hy => ?_) hp
    have hx := hl x (List.mem_cons_self ..)
    rcases List.mem_append.1 hy with h2 | h2
    ·obtain ⟨s, hs, rfl⟩ := List.mem_map.1 h2
     exact ⟨Nat.zero_le _, labV_ok (hx.1 s hs)⟩
    ·obtain ⟨q, hq, rfl⟩ := List.mem_map.1 h2
     exact ⟨(hx.2 q hq).key, (hx.2 q hq).v⟩
  exact runV_ok hid vs _ (fun y hy => hl y (List.mem_cons_of_mem _ hy)) h1
end Go.Proofs.YthadcdoepoglkaaGreatDoor
