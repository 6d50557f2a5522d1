/- A part of the proof: contracts of functions of the program, for the row's text. -/
import Derived.Test.YthadcdoepoglkaaGreatDoorRows
import Derived.Test.YthadcdoepoglkaaGreatDoorJ07
import Derived.Test.YthadcdoepoglkaaGreatDoorJ14
import Derived.Test.YthadcdoepoglkaaGreatDoorJ15
import Derived.Test.YthadcdoepoglkaaGreatDoorJ04
namespace Go.Proofs.YthadcdoepoglkaaGreatDoor
open Go.RowKit Go.Lig
theorem eql_nils {P : Program} (w : World) (t e : TypeId) (ht : P.underlying t = some (.slice e)) : (binOp .eql t (.slice none 0 0) (.slice none 0 0)).run P w = .ok (.bool true) w := by
 have h : ∀ d : Nat, (Op.equalIn (d + 1) t (.slice none 0 0) (.slice none 0 0)).run P w = .ok true w := fun d => by
  simp [Op.equalIn, run_underlying ht]
 simp only [binOp]
 simp [Op.equal, Op.maxDepth, h 9999]
theorem eql_nilf {P : Program} (w : World) (t e : TypeId) (ht : P.underlying t = some (.slice e)) (a : Addr) (n c : Nat) : (binOp .eql t (.slice (some a) n c) (.slice none 0 0)).run P w = .ok (.bool false) w := by
 have h : ∀ d : Nat, (Op.equalIn (d + 1) t (.slice (some a) n c) (.slice none 0 0)).run P w = .ok false w := fun d => by
  simp [Op.equalIn, run_underlying ht]
 simp only [binOp]
 simp [Op.equal, Op.maxDepth, h 9999]
theorem rd_none {w : World} {n m c size : Nat} {xs : List Value} (h : Rd w (.slice none n c) m size xs) : n = 0 ∧ m = 0 ∧ c = 0 ∧ xs = [] := by
 obtain ⟨ao, c', e, hl, h0, _⟩ := h
 simp only [Value.slice.injEq] at e
 obtain ⟨rfl, rfl, rfl⟩ := e
 obtain ⟨rfl, rfl⟩ := h0 rfl
 exact ⟨rfl, rfl, rfl, List.eq_nil_of_length_eq_zero (by simpa using hl)⟩
structure OwnR (w w' : World) (e : TypeId) (size : Nat) (v : Value) (n : Nat) (xs : List Value) : Prop where
 row : w'.ownsRow 0 e size v n xs
 blk : ∀ j, v.ownBlock = some j → w.heap.size ≤ j
 fr : Fr No w w'
theorem OwnR.nil (w : World) (e : TypeId) (size : Nat) : OwnR w w e size (.slice none 0 0) 0 [] := ⟨World.ownsRow_nil _ _ _ _, fun _ e => (by cases e), Fr.refl _ _⟩
theorem OwnR.next {w w1 w2 : World} {e : TypeId} {size : Nat} {v : Value} {n : Nat} {xs : List Value} (h : OwnR w w1 e size v n xs) (hf : Fr No w1 w2) : OwnR w w2 e size v n xs := ⟨fd_owns h.row hf, h.blk, h.fr.thenNo hf⟩
theorem slBlock_own {w : World} {b : Nat} {e : TypeId} {size : Nat} {v : Value} {n : Nat} {xs : List Value} (h : w.ownsRow b e size v n xs) : slBlock v = v.ownBlock := by
 rcases h.2 with ⟨rfl, -⟩ | ⟨g, c, cur, rfl, -⟩ <;> rfl
theorem _root_.Go.Lig.Fr.fresh' {w w1 w2 : World} {S : Nat → Prop} (h : Fr No w w1) (h' : Fr S w1 w2) (hS : ∀ k, S k → w.heap.size ≤ k) : Fr No w w2 := h.trans h' (fun k hk e => by have := hS k e; omega)
theorem infoclones : (Tryz.prog.info? 9).map (fun i => (i.zero, i.size, i.bytes)) = some (some (.string ⟨#[]⟩), 1, 16) := by kernel_rfl
set_option maxRecDepth 100000 in
theorem clones_any (w : World) (v : Value) (n : Nat) (xs : List Value) (h : Rd w v n 1 xs) (hn : n ≤ 1000000) :
  Calls Tryz.prog 185 #[v] w fun e w' => ∃ v', e = .returned v' ∧ OwnR w w' 9 1 v' n xs := by
 obtain ⟨ao, c, rfl, -⟩ := rd_len h
 cases ao with
 | none =>
  obtain ⟨rfl, -, rfl, rfl⟩ := rd_none h
  have hq := eql_nils w 31 _ Tryz.underlying31
  clear h hn
  go_enter Tryz.func185, Tryz.ntmps185
  go_wp2
  go_ret
  exact ⟨_, rfl, OwnR.nil _ _ _⟩
 | some ad =>
  have hq := eql_nilf w 31 _ Tryz.underlying31 ad n c
  have HH := hid h
  have HN := hid hn
  clear h hn
  go_enter Tryz.func185, Tryz.ntmps185
  go_wp2_with (first | (refine wpList_buildSlice0 rfl 31 9 rfl _ 1 16 Tryz.underlying31 infoclones ?_; intro w1 p1; have P1 := hid p1; clear p1) | (refine wpList_app rfl (.tmp 5) (.tmp 6) 31 rfl 9 _ 1 16 Tryz.underlying31 infoclones rfl (by decide) (.slice (some ⟨w.heap.size, 0, none⟩) 0 0) 0 [] rfl P1.out.own0 (.slice (some ad) n c) n xs rfl (HH.out.frame P1.out.fr (fun _ _ e => e)) (by have := HN.out; unfold maxLen; omega) (by have := HN.out; omega) ?_; intro v2 w2 o2 f2 b2 _; have H2 := hid (⟨o2, f2, b2⟩ : _ ∧ _ ∧ _); clear o2 f2 b2))
  go_ret
  obtain ⟨o2, f2, b2⟩ := H2.out
  refine ⟨_, rfl, by simpa using o2, fun j hj => ?_, P1.out.fr.fresh' f2 (fun k e => ?_)⟩
  ·rcases b2 j hj with e | e
   ·have : w.heap.size = j := Option.some.inj e
    omega
   ·have := P1.out.fr.size; omega
  ·have : w.heap.size = k := Option.some.inj e
   omega
theorem infoclonep : (Tryz.prog.info? 98).map (fun i => (i.zero, i.size, i.bytes)) = some (some (.agg #[.string ⟨#[]⟩, .int .i64 0, .bool false, .int .i64 0, .float .f64 0, .string ⟨#[]⟩]), 6, 64) := by kernel_rfl
set_option maxRecDepth 100000 in
theorem clonep_any (w : World) (v : Value) (n : Nat) (xs : List Value) (h : Rd w v n 6 xs) (hn : n ≤ 1000000) :
  Calls Tryz.prog 186 #[v] w fun e w' => ∃ v', e = .returned v' ∧ OwnR w w' 98 6 v' n xs := by
 obtain ⟨ao, c, rfl, -⟩ := rd_len h
 cases ao with
 | none =>
  obtain ⟨rfl, -, rfl, rfl⟩ := rd_none h
  have hq := eql_nils w 32 _ Tryz.underlying32
  clear h hn
  go_enter Tryz.func186, Tryz.ntmps186
  go_wp2
  go_ret
  exact ⟨_, rfl, OwnR.nil _ _ _⟩
 | some ad =>
  have hq := eql_nilf w 32 _ Tryz.underlying32 ad n c
  have HH := hid h
  have HN := hid hn
  clear h hn
  go_enter Tryz.func186, Tryz.ntmps186
  go_wp2_with (first | (refine wpList_buildSlice0 rfl 32 98 rfl _ 6 64 Tryz.underlying32 infoclonep ?_; intro w1 p1; have P1 := hid p1; clear p1) | (refine wpList_app rfl (.tmp 5) (.tmp 6) 32 rfl 98 _ 6 64 Tryz.underlying32 infoclonep rfl (by decide) (.slice (some ⟨w.heap.size, 0, none⟩) 0 0) 0 [] rfl P1.out.own0 (.slice (some ad) n c) n xs rfl (HH.out.frame P1.out.fr (fun _ _ e => e)) (by have := HN.out; unfold maxLen; omega) (by have := HN.out; omega) ?_; intro v2 w2 o2 f2 b2 _; have H2 := hid (⟨o2, f2, b2⟩ : _ ∧ _ ∧ _); clear o2 f2 b2))
  go_ret
  obtain ⟨o2, f2, b2⟩ := H2.out
  refine ⟨_, rfl, by simpa using o2, fun j hj => ?_, P1.out.fr.fresh' f2 (fun k e => ?_)⟩
  ·rcases b2 j hj with e | e
   ·have : w.heap.size = j := Option.some.inj e
    omega
   ·have := P1.out.fr.size; omega
  ·have : w.heap.size = k := Option.some.inj e
   omega
theorem built_n (la pa : Option Addr) (ln lc pn pc : Nat) : Tryz.prog.built 34 [(0, .slice la ln lc), (1, .slice pa pn pc)] = some #[.slice la ln lc, .slice pa pn pc] := by kernel_rfl
structure OwnN (w w' : World) (la : Option Addr) (ln lc : Nat) (pa : Option Addr) (pn pc : Nat) (d : NodeD) : Prop where
 l : OwnR w w' 9 1 (.slice la ln lc) d.L.length (d.L.map Value.string)
 p : OwnR w w' 98 6 (.slice pa pn pc) d.Q.length (d.Q.flatMap pcell)
theorem strs_one (L : List ByteArray) : ∀ u ∈ L.map Value.string, u.oneCell' = true := fun u hu => by
 obtain ⟨x, _, rfl⟩ := List.mem_map.1 hu
 rfl
theorem pcells_one (Q : List PropV) : ∀ u ∈ Q.flatMap pcell, u.oneCell' = true := fun u hu => by
 obtain ⟨x, _, hx⟩ := List.mem_flatMap.1 hu
 simp only [pcell, List.mem_cons, List.not_mem_nil, or_false] at hx
 rcases hx with rfl | rfl | rfl | rfl | rfl | rfl <;> rfl
set_option maxRecDepth 100000 in
set_option maxHeartbeats 2000000 in
theorem copied_any (w : World) (la pa : Option Addr) (ln lc pn pc : Nat) (d : NodeD) (h : NodeOf w (.slice la ln lc) (.slice pa pn pc) d) (hl : d.L.length ≤ 1000000) (hp : d.Q.length ≤ 1000000) :
  Calls Tryz.prog 117 #[.agg #[.slice la ln lc, .slice pa pn pc]] w fun e w' => ∃ la' ln' lc' pa' pn' pc', e = .returned (.agg #[.slice la' ln' lc', .slice pa' pn' pc']) ∧ OwnN w w' la' ln' lc' pa' pn' pc' d := by
 obtain ⟨k1, k2⟩ := heap2 w (.cells #[.slice la ln lc, .slice pa pn pc] 34) (.cells #[.slice none 0 0, .slice none 0 0] 34)
 have hf : Fr No w ((w.alloc (.cells #[.slice la ln lc, .slice pa pn pc] 34)).alloc (.cells #[.slice none 0 0, .slice none 0 0] 34)) := ((Fr.refl No w).alloc _).alloc _
 have HH := hid (⟨h, hl, hp⟩ : _ ∧ _ ∧ _)
 clear h hl hp
 go_enter Tryz.func117, Tryz.ntmps117
 go_wp2_with fail
 generalize (w.alloc (.cells #[.slice la ln lc, .slice pa pn pc] 34)).alloc (.cells #[.slice none 0 0, .slice none 0 0] 34) = w2 at *
 obtain ⟨c0, c1⟩ := cells2 k1
 have HF := hid (⟨hf, k1, k2⟩ : _ ∧ _ ∧ _)
 have HZ := hid (⟨lt_of_block k1, lt_of_block k2⟩ : _ ∧ _)
 have hne : w.heap.size ≠ w.heap.size + 1 := by omega
 generalize hb1 : w.heap.size + 1 = b1 at *
 clear hf k1 k2
 refine wp_region_sched (by kernel_rfl) 7 [2, 5, 7] [0, 1, 3, 4, 2, 5, 6, 7] (AgC [w.heap.size] w2.drew) (by kernel_rfl) (AgC.refl _ _) ?_
 simp only [List.map_cons, List.map_nil, List.contains_cons, List.contains_nil, nth_zero, nth_succ, Nat.reduceBEq, Bool.or_false, Bool.or_true]
 repeat (refine sched_quiet (fun K hK => ?_); go_simp; refine hK _ ?_; clear hK K)
 refine sched_call (by first | rfl | go_simp) 185 #[.slice la ln lc] (by first | kernel_rfl | go_simp) (clones_any _ _ _ _ (HH.out.1.l.frame HF.out.1.drew (fun _ _ e => e)) HH.out.2.1) ?_
 rintro e w3 ⟨v3, rfl, o3⟩
 have a3 : AgC [w.heap.size] w2.drew w3 := (AgC.refl _ _).fr o3.fr (fun j hj => by rw [List.mem_singleton.1 hj]; exact ⟨HZ.out.1, fun e => e⟩)
 refine ⟨_, rfl, a3, ?_⟩
 obtain ⟨la', lc', rfl⟩ := ownsRow_slice o3.row
 have O3 := hid o3
 clear o3
 repeat (refine sched_quiet (fun K hK => ?_); go_simp; refine hK _ ?_; clear hK K)
 refine sched_call (by first | rfl | go_simp) 186 #[.slice pa pn pc] (by first | kernel_rfl | go_simp) (clonep_any _ _ _ _ ((HH.out.1.p.frame HF.out.1.drew (fun _ _ e => e)).frame O3.out.fr (fun _ _ e => e)) HH.out.2.2) ?_
 rintro e w4 ⟨v4, rfl, o4⟩
 refine ⟨_, rfl, a3.fr o4.fr (fun j hj => by rw [List.mem_singleton.1 hj]; exact ⟨HZ.out.1, fun e => e⟩), ?_⟩
 obtain ⟨pa', pc', rfl⟩ := ownsRow_slice o4.row
 have O4 := hid o4
 clear o4 a3
 generalize hd1 : d.L.length = n1 at *
 generalize hd2 : d.Q.length = n2 at *
 have HD := hid (⟨hd1, hd2⟩ : _ ∧ _)
 clear hd1 hd2
 repeat (first | (refine sched_build rfl 34 [(0, .tmp 5), (1, .tmp 8)] rfl [(0, .slice la' n1 lc'), (1, .slice pa' n2 pc')] rfl _ (built_n ..) ?_) | (refine sched_quiet (fun K hK => ?_); go_simp; refine hK _ ?_; clear hK K))
 have hk2 := O4.out.fr.keep (O3.out.fr.keep (w := w2.drew) HF.out.2.2 id) id
 refine sched_loud (wpList_storeO rfl 34 (.tmp 2) (.tmp 9) rfl b1 0 rfl [.slice none 0 0, .slice none 0 0] 34 [.slice la' n1 lc', .slice pa' n2 pc'] rfl (by kernel_rfl) hk2 (by simp) (by simp [Value.oneCell']) ?_)
 intro w5 p5
 have P5 := hid (show Put b1 #[.slice la' n1 lc', .slice pa' n2 pc'] 34 w4 w5 from p5)
 clear p5 hk2
 refine sched_last ?_
 refine sched_nil ?_
 obtain ⟨r0, r1⟩ := cells2 P5.out.at_
 go_wp2_with fail
 have hb2 : w2.drew.heap.size = w2.heap.size := rfl
 have hq : ∀ k, k = b1 → w.heap.size ≤ k := fun k e => by subst e; omega
 have hn1 : ∀ {sz : Nat} {e : TypeId} {v : Value} {n : Nat} {xs : List Value} {u u' : World}, OwnR u u' e sz v n xs → w2.heap.size ≤ u.heap.size → ∀ k, v.ownBlock = some k → ¬ k = b1 := fun o hu k hk e => by have := o.blk k hk; have := HZ.out; omega
 have f3 : Fr No w w3 := (HF.out.1.drew).thenNo O3.out.fr
 have f5 : Fr No w w5 := (f3.thenNo O4.out.fr).fresh' P5.out.fr hq
 refine bodyPost_ret (v := .agg #[.slice la' n1 lc', .slice pa' n2 pc']) ?_ rfl ⟨la', n1, lc', pa', n2, pc', rfl, ?_, ?_⟩
 ·simp [results, Tryz.f117, go_sem, r0, r1]
 ·rw [HD.out.1]
  exact ⟨P5.out.fr.owns (O4.out.fr.owns O3.out.row (fun _ _ e => e)) (hn1 O3.out (by rw [hb2]; exact Nat.le_refl _)), fun j hj => Nat.le_trans HF.out.1.size (by have := O3.out.blk j hj; rw [hb2] at this; exact this), f5⟩
 ·rw [HD.out.2]
  exact ⟨P5.out.fr.owns O4.out.row (hn1 O4.out (by have := O3.out.fr.size; rw [hb2] at this; exact this)), fun j hj => Nat.le_trans f3.size (O4.out.blk j hj), f5⟩
theorem OwnN.nodeIn {w w' : World} {la pa : Option Addr} {ln lc pn pc : Nat} {d : NodeD} (h : OwnN w w' la ln lc pa pn pc d) (ok : ∀ q ∈ d.Q, PropOk q) (ls : ∀ s ∈ d.L, s.size ≤ maxLen) (few : d.L.length ≤ 1000000 ∧ d.Q.length ≤ 1000000) : NodeIn w' (fun b => w.heap.size ≤ b ∧ b < w'.heap.size) (.slice la ln lc) (.slice pa pn pc) d :=
 ⟨⟨Rd.of_owns h.l.row (strs_one _), fun _ k hk => by rw [slBlock_own h.l.row] at hk; exact ⟨h.l.blk k hk, (h.l.row.lt k hk).2⟩⟩, ⟨Rd.of_owns h.p.row (pcells_one _), fun _ k hk => by rw [slBlock_own h.p.row] at hk; exact ⟨h.p.blk k hk, (h.p.row.lt k hk).2⟩⟩, ok, ls, few⟩
end Go.Proofs.YthadcdoepoglkaaGreatDoor
namespace Go.Proofs.YthadcdoepoglkaaGreatDoor
open Go.RowKit Go.Lig
section
variable {α β : Type}
def readV (K : Ck) (t : Int) (L : List (Ver α)) : Option α := lastOf (K.sees t) L.reverse
def clashV (K : Ck) (t : Int) (L : List (Ver α)) : Bool := match L.getLast? with
 | some y => K.clashes t y.by_
 | none => false
def writeV (K : Ck) (t : Int) (v : α) (g : Bool) (L : List (Ver α)) : List (Ver α) := if clashV K t L then L else
 match L.getLast? with
 | some y => if y.by_ = t then L.dropLast ++ [⟨t, v, g⟩] else L ++ [⟨t, v, g⟩]
 | none => L ++ [⟨t, v, g⟩]
def undoV (t : Int) (L : List (Ver α)) : List (Ver α) := L.filter (fun z => !(z.by_ == t))
theorem writeV_len (K : Ck) (t : Int) (v : α) (g : Bool) (L : List (Ver α)) : (writeV K t v g L).length ≤ L.length + 1 := by
 unfold writeV
 split
 ·omega
 ·split
  ·split
   ·simp <;> omega
   ·simp
  ·simp
theorem undoV_len (t : Int) (L : List (Ver α)) : (undoV t L).length ≤ L.length := List.length_filter_le _ _
end
section
variable {w : World} {I : Nat → Prop}
theorem VersIn.nil (w : World) (I : Nat → Prop) : VersIn w I [] [] := ⟨rfl, fun j h d e _ => by simp at e⟩
theorem VersIn.cons_inv {h : Ver NodeV} {H : List (Ver NodeV)} {d : Ver NodeD} {L : List (Ver NodeD)} (v : VersIn w I (h :: H) (d :: L)) : VerIn w I h d ∧ VersIn w I H L :=
 ⟨v.at_ 0 h d rfl rfl, by simpa using v.len, fun j h' d' e1 e2 => v.at_ (j + 1) h' d' (by simpa using e1) (by simpa using e2)⟩
theorem VersIn.cons {h : Ver NodeV} {H : List (Ver NodeV)} {d : Ver NodeD} {L : List (Ver NodeD)} (v : VerIn w I h d) (vs : VersIn w I H L) : VersIn w I (h :: H) (d :: L) :=
 ⟨by simp [vs.len], fun j h' d' e1 e2 => by
  cases j with
  | zero =>
   obtain rfl : h = h' := by simpa using e1
   obtain rfl : d = d' := by simpa using e2
   exact v
  | succ j => exact vs.at_ j h' d' (by simpa using e1) (by simpa using e2)⟩
theorem VersIn.append {H : List (Ver NodeV)} {L : List (Ver NodeD)} {H' : List (Ver NodeV)} {L' : List (Ver NodeD)} (v : VersIn w I H L) (v' : VersIn w I H' L') : VersIn w I (H ++ H') (L ++ L') := by
 refine ⟨by simp [v.len, v'.len], fun j h d e1 e2 => ?_⟩
 by_cases hj : j < H.length
 ·rw [List.getElem?_append_left hj] at e1
  rw [List.getElem?_append_left (by rw [← v.len]; exact hj)] at e2
  exact v.at_ j h d e1 e2
 ·rw [List.getElem?_append_right (by omega)] at e1
  rw [List.getElem?_append_right (by rw [← v.len]; omega), ← v.len] at e2
  exact v'.at_ _ h d e1 e2
theorem VersIn.reverse {H : List (Ver NodeV)} {L : List (Ver NodeD)} (v : VersIn w I H L) : VersIn w I H.reverse L.reverse := by
 induction H generalizing L with
 | nil =>
  obtain rfl : L = [] := List.length_eq_zero_iff.1 v.len.symm
  exact VersIn.nil w I
 | cons h H ih =>
  cases L with
  | nil => have := v.len; simp at this
  | cons d L =>
   obtain ⟨v1, v2⟩ := v.cons_inv
   rw [List.reverse_cons, List.reverse_cons]
   exact (ih v2).append (VersIn.cons v1 (VersIn.nil w I))
theorem VersIn.filter {H : List (Ver NodeV)} {L : List (Ver NodeD)} (v : VersIn w I H L) (p : Int → Bool) : VersIn w I (H.filter fun z => p z.by_) (L.filter fun z => p z.by_) := by
 induction H generalizing L with
 | nil =>
  obtain rfl : L = [] := List.length_eq_zero_iff.1 v.len.symm
  exact VersIn.nil w I
 | cons h H ih =>
  cases L with
  | nil => have := v.len; simp at this
  | cons d L =>
   obtain ⟨v1, v2⟩ := v.cons_inv
   rw [List.filter_cons, List.filter_cons, v1.by_]
   cases p d.by_ with
   | true => exact VersIn.cons v1 (ih v2)
   | false => exact ih v2
theorem VersIn.dropLast {H : List (Ver NodeV)} {L : List (Ver NodeD)} (v : VersIn w I H L) : VersIn w I H.dropLast L.dropLast := by
 refine ⟨by simp [v.len], fun j h d e1 e2 => ?_⟩
 rw [List.getElem?_dropLast] at e1 e2
 split at e1
 ·split at e2
  ·exact v.at_ j h d e1 e2
  ·cases e2
 ·cases e1
theorem VersIn.last {H : List (Ver NodeV)} {L : List (Ver NodeD)} (v : VersIn w I H L) : (H.getLast? = none ∧ L.getLast? = none) ∨ ∃ h d, H.getLast? = some h ∧ L.getLast? = some d ∧ VerIn w I h d := by
 rw [List.getLast?_eq_getElem?, List.getLast?_eq_getElem?]
 by_cases hl : H.length = 0
 ·have hl2 : L.length = 0 := by rw [← v.len]; exact hl
  exact .inl ⟨List.getElem?_eq_none (by omega), List.getElem?_eq_none (by omega)⟩
 ·have h1 : H.length - 1 < H.length := by omega
  have h2 : L.length - 1 < L.length := by have := v.len; omega
  refine .inr ⟨_, _, List.getElem?_eq_getElem h1, List.getElem?_eq_getElem h2, v.at_ (H.length - 1) _ _ (List.getElem?_eq_getElem h1) ?_⟩
  rw [v.len]
  exact List.getElem?_eq_getElem h2
structure OptIn (w : World) (I : Nat → Prop) (r : Option NodeV) (d : Option NodeD) : Prop where
 is : r.isSome = d.isSome
 v : ∀ h n, r = some h → d = some n → NodeIn w I (.slice h.l.a h.l.n h.l.c) (.slice h.p.a h.p.n h.p.c) n
theorem OptIn.none (w : World) (I : Nat → Prop) : OptIn w I .none .none := ⟨rfl, fun _ _ e => (by cases e)⟩
theorem lastOf_two (m : Int → Bool) : ∀ (H : List (Ver NodeV)) (L : List (Ver NodeD)), VersIn w I H L → OptIn w I (lastOf m H) (lastOf m L) := by
 intro H
 induction H with
 | nil =>
  intro L v
  obtain rfl : L = [] := List.length_eq_zero_iff.1 v.len.symm
  exact OptIn.none w I
 | cons h H ih =>
  intro L v
  cases L with
  | nil => have := v.len; simp at this
  | cons d L =>
   obtain ⟨v1, v2⟩ := v.cons_inv
   simp only [lastOf, v1.by_, v1.gone]
   cases m d.by_ with
   | false => simpa using ih L v2
   | true =>
    cases d.gone with
    | true => simpa using OptIn.none w I
    | false => exact ⟨rfl, fun h' n e1 e2 => by
      obtain rfl : h.v = h' := by simpa using e1
      obtain rfl : d.v = n := by simpa using e2
      exact v1.v⟩
theorem readV_two {H : List (Ver NodeV)} {L : List (Ver NodeD)} (v : VersIn w I H L) (K : Ck) (t : Int) : OptIn w I (readL K t H) (readV K t L) := lastOf_two _ _ _ v.reverse
theorem clashV_two {H : List (Ver NodeV)} {L : List (Ver NodeD)} (v : VersIn w I H L) (K : Ck) (t : Int) : clashL K t H = clashV K t L := by
 unfold clashL clashV
 rcases v.last with ⟨e1, e2⟩ | ⟨h, d, e1, e2, vv⟩
 ·rw [e1, e2]
 ·rw [e1, e2]
  simp only [vv.by_]
theorem writeV_two {H : List (Ver NodeV)} {L : List (Ver NodeD)} (v : VersIn w I H L) (K : Ck) (t : Int) (h : NodeV) (d : NodeD) (g : Bool) (hd : NodeIn w I (.slice h.l.a h.l.n h.l.c) (.slice h.p.a h.p.n h.p.c) d) : VersIn w I (writeL K t h g H) (writeV K t d g L) := by
 have one : VersIn w I [⟨t, h, g⟩] [⟨t, d, g⟩] := VersIn.cons ⟨rfl, rfl, hd⟩ (VersIn.nil w I)
 unfold writeL writeV
 rw [clashV_two v]
 cases clashV K t L with
 | true => simpa using v
 | false =>
  simp only [Bool.false_eq_true, if_false]
  rcases v.last with ⟨e1, e2⟩ | ⟨y, z, e1, e2, vv⟩
  ·rw [e1, e2]
   exact v.append one
  ·rw [e1, e2]
   simp only [vv.by_]
   split
   ·exact v.dropLast.append one
   ·exact v.append one
theorem undoV_two {H : List (Ver NodeV)} {L : List (Ver NodeD)} (v : VersIn w I H L) (t : Int) : VersIn w I (undoL t H) (undoV t L) := v.filter (fun b => !(b == t))
end
section
variable {w : World} {T I : Nat → Prop} {x : Nat} {L : List (Ver NodeD)}
theorem NCell.bound (h : NCell w T I x L) : ∀ k, T k → k < w.heap.size := by
 obtain ⟨H, h1, _⟩ := h.ex
 exact h1.bound
theorem NCell.read (h : NCell w T I x L) (c gk : Nat) (K : Ck) (hk : ClkRow w c gk K) (hks : K.l.length ≤ 1000000) (t : Int) :
  ∃ r, OptIn w I r (readV K t L) ∧ ∀ u, Fr No w u → Calls Tryz.prog 113 #[.pointer (some ⟨x, 0, none⟩), .pointer (some ⟨c, 0, none⟩), .int .i64 t] u fun e w' => e = .returned (.tuple #[optN r, .bool r.isSome]) ∧ Fr No u w' := by
 obtain ⟨H, h1, h2⟩ := h.ex
 obtain ⟨g, hr, -⟩ := h1.row
 exact ⟨_, readV_two h2 K t, fun u hu => read_any u x g c gk K H (hr.frame hu) h1.small (hk.frame hu) hks t⟩
theorem NCell.check (h : NCell w T I x L) (c gk : Nat) (K : Ck) (hk : ClkRow w c gk K) (hks : K.l.length ≤ 1000000) (t : Int) :
  Calls Tryz.prog 115 #[.pointer (some ⟨x, 0, none⟩), .pointer (some ⟨c, 0, none⟩), .int .i64 t] w fun e w' => e = .returned (errI (clashV K t L)) ∧ Fr No w w' := by
 obtain ⟨H, h1, h2⟩ := h.ex
 obtain ⟨g, hr, -⟩ := h1.row
 rw [← clashV_two h2]
 exact check_any w x g c gk K H hr h1.small hk hks t
theorem NCell.write (h : NCell w T I x L) (c gk : Nat) (K : Ck) (hk : ClkRow w c gk K) (hks : K.l.length ≤ 1000000) (hL : L.length < 1000000) (t : Int) (v : NodeV) (d : NodeD) (gone : Bool) (hi : ∀ k, I k → ¬ T k)
  (hd : NodeIn w I (.slice v.l.a v.l.n v.l.c) (.slice v.p.a v.p.n v.p.c) d) :
  Calls Tryz.prog 116 #[.pointer (some ⟨x, 0, none⟩), .pointer (some ⟨c, 0, none⟩), .int .i64 t, .agg #[.slice v.l.a v.l.n v.l.c, .slice v.p.a v.p.n v.p.c], .bool gone] w fun e w' => e = .returned (errI (clashV K t L)) ∧ ∃ T', NCell w' T' I x (writeV K t d gone L) ∧ Fr T w w' ∧ Grown w T T' := by
 obtain ⟨H, h1, h2⟩ := h.ex
 refine (write_any w T x c gk K H h1 hk hks (by rw [h2.len]; exact hL) t v gone).mono ?_
 rintro e w' ⟨rfl, T', k, f, g⟩
 exact ⟨by rw [clashV_two h2], T', ⟨_, k, (writeV_two h2 K t v d gone hd).frame f hi⟩, f, g⟩
theorem NCell.undo (h : NCell w T I x L) (t : Int) (hi : ∀ k, I k → ¬ T k) :
  Calls Tryz.prog 61 #[.pointer (some ⟨x, 0, none⟩), .int .i64 t] w fun e w' => e = .returned (.tuple #[]) ∧ NCell w' T I x (undoV t L) ∧ Fr T w w' := by
 obtain ⟨H, h1, h2⟩ := h.ex
 refine (undo_any w T x H h1 t).mono ?_
 rintro e w' ⟨rfl, k, f⟩
 exact ⟨rfl, ⟨_, k, (undoV_two h2 t).frame f hi⟩, f⟩
end
end Go.Proofs.YthadcdoepoglkaaGreatDoor
namespace Go.Proofs.YthadcdoepoglkaaGreatDoor
open Go.RowKit Go.Lig
def txAs (x : Tx) : Int := if x.state = 1 then x.commit else 0
structure TxOk (x : Tx) : Prop where
 st : x.state = 0 ∨ x.state = 1 ∨ x.state = 2
 mark : 0 ≤ x.mark
 com : x.state = 1 → 1 ≤ x.commit
structure ClkOk (K : Ck) : Prop where
 tx : ∀ x ∈ K.l, TxOk x
 c0 : 0 ≤ K.commits
 mrk : ∀ x ∈ K.l, x.mark ≤ K.commits
 cm : ∀ x ∈ K.l, x.state = 1 → x.commit ≤ K.commits
def Ck.done (K : Ck) (b : Int) : Bool := match K.tx b with
 | some x => x.state == 1
 | none => false
theorem Ck.mem {K : Ck} {t : Int} {x : Tx} (h : K.tx t = some x) : x ∈ K.l := List.mem_of_getElem? (Ck.tx_some h).2.2.1
theorem Ck.live_iff {K : Ck} {t : Int} : K.live t = true ↔ ∃ x, K.tx t = some x ∧ x.state = 0 := by
 unfold Ck.live
 cases h : K.tx t with
 | none => simp
 | some x => simp
theorem Ck.done_iff {K : Ck} {t : Int} : K.done t = true ↔ ∃ x, K.tx t = some x ∧ x.state = 1 := by
 unfold Ck.done
 cases h : K.tx t with
 | none => simp
 | some x => simp
def Bef (K : Ck) (b c : Int) : Prop := ∃ x z, K.tx b = some x ∧ K.tx c = some z ∧ x.state = 1 ∧ ((z.state = 1 ∧ x.commit < z.commit) ∨ (z.state = 0 ∧ x.commit ≤ z.mark))
theorem Bef.ne {K : Ck} {b c : Int} (h : Bef K b c) : b ≠ c := by
 rintro rfl
 obtain ⟨x, z, h1, h2, h3, h4⟩ := h
 obtain rfl := Option.some.inj (h1.symm.trans h2)
 rcases h4 with h | h
 ·omega
 ·omega
structure CellOk {α : Type} (K : Ck) (L : List (Ver α)) : Prop where
 st : ∀ y ∈ L, ∃ x, K.tx y.by_ = some x ∧ (x.state = 0 ∨ x.state = 1)
 bef : L.Pairwise (fun y z => Bef K y.by_ z.by_)
section
variable {α : Type} {K : Ck} {L : List (Ver α)}
theorem CellOk.nd (h : CellOk K L) : (L.map Ver.by_).Nodup := by
 unfold List.Nodup
 rw [List.pairwise_map]
 exact h.bef.imp (fun e => e.ne)
theorem CellOk.nil : CellOk K ([] : List (Ver α)) := ⟨fun _ h => (by cases h), List.Pairwise.nil⟩
theorem CellOk.sub {L' : List (Ver α)} (h : CellOk K L) (hs : L'.Sublist L) : CellOk K L' := ⟨fun y hy => h.st y (hs.subset hy), h.bef.sublist hs⟩
theorem CellOk.liveLast (h : CellOk K L) {A B : List (Ver α)} {y : Ver α} (e : L = A ++ y :: B) (hl : K.live y.by_ = true) : B = [] := by
 cases B with
 | nil => rfl
 | cons z B =>
  have hb := h.bef
  rw [e] at hb
  have h1 := (List.pairwise_append.1 hb).2.1
  obtain ⟨x, z', h2, -, h3, -⟩ := (List.pairwise_cons.1 h1).1 z (List.mem_cons_self ..)
  obtain ⟨x', h4, h5⟩ := Ck.live_iff.1 hl
  obtain rfl := Option.some.inj (h2.symm.trans h4)
  omega
def lastVer (m : Int → Bool) (L : List (Ver α)) : Option (Ver α) := L.reverse.find? fun y => m y.by_
def valOf : Option (Ver α) → Option α
 | none => none
 | some y => if y.gone then none else some y.v
theorem lastOf_find (m : Int → Bool) : ∀ l : List (Ver α), lastOf m l = valOf (l.find? fun y => m y.by_)
 | [] => rfl
 | y :: l => by
  rw [lastOf, List.find?_cons]
  cases h : m y.by_ with
  | true => rfl
  | false => exact lastOf_find m l
theorem readV_ver (K : Ck) (t : Int) (L : List (Ver α)) : readV K t L = valOf (lastVer (K.sees t) L) := lastOf_find _ _
theorem lastVer_snoc (m : Int → Bool) (L : List (Ver α)) (y : Ver α) : lastVer m (L ++ [y]) = if m y.by_ then some y else lastVer m L := by
 unfold lastVer
 rw [List.reverse_append, List.reverse_singleton, List.singleton_append, List.find?_cons]
 cases m y.by_ <;> rfl
theorem lastVer_mem {m : Int → Bool} {L : List (Ver α)} {y : Ver α} (h : lastVer m L = some y) : y ∈ L ∧ m y.by_ = true :=
 ⟨List.mem_reverse.1 (List.mem_of_find?_eq_some h), by have := List.find?_some h; simpa using this⟩
theorem find_congr {β : Type} {p q : β → Bool} : ∀ {l : List β}, (∀ y ∈ l, p y = q y) → l.find? p = l.find? q
 | [], _ => rfl
 | y :: l, h => by
  rw [List.find?_cons, List.find?_cons, h y (List.mem_cons_self ..), find_congr (fun z hz => h z (List.mem_cons_of_mem _ hz))]
theorem lastVer_congr {m m' : Int → Bool} {L : List (Ver α)} (h : ∀ y ∈ L, m y.by_ = m' y.by_) : lastVer m L = lastVer m' L := by
 unfold lastVer
 refine find_congr (fun y hy => ?_)
 rw [h y (List.mem_reverse.1 hy)]
theorem lastVer_filter {m : Int → Bool} {p : Ver α → Bool} {L : List (Ver α)} (h : ∀ y ∈ L, m y.by_ = true → p y = true) : lastVer m (L.filter p) = lastVer m L := by
 unfold lastVer
 rw [← List.filter_reverse, List.find?_filter]
 refine find_congr (fun y hy => ?_)
 have := h y (List.mem_reverse.1 hy)
 cases hm : m y.by_ with
 | true => simp [this hm]
 | false => simp
end
end Go.Proofs.YthadcdoepoglkaaGreatDoor
namespace Go.Proofs.YthadcdoepoglkaaGreatDoor
open Go.RowKit Go.Lig
def rtcell (x : Tx) : List Value := [.int .i64 x.mark, .int .i64 (txAs x), .bool (x.state == 0)]
structure RClkAt (w : World) (T : Nat → Prop) (c : Nat) (K : Ck) : Prop where
 ex : ∃ v, w.heap[c]? = some (.cells #[v, .int .i64 K.commits] 123 (0, 0)) ∧ w.ownsRow 0 216 3 v K.l.length (K.l.flatMap rtcell) ∧ ∀ k, v.ownBlock = some k → T k ∧ k ≠ c
 root : T c
 bound : ∀ k, T k → k < w.heap.size
 small : K.l.length ≤ 1000000 ∧ 0 ≤ K.commits ∧ K.commits ≤ 1000000
 ok : ∀ x ∈ K.l, TxOk x
theorem RClkAt.frame {w w' : World} {T U : Nat → Prop} {c : Nat} {K : Ck} (h : RClkAt w T c K) (hf : Fr U w w') (hd : ∀ k, T k → ¬ U k) : RClkAt w' T c K := by
 obtain ⟨v, h1, h2, h3⟩ := h.ex
 exact ⟨⟨v, hf.keep h1 (hd c h.root), hf.owns h2 (fun k hk => hd k (h3 k hk).1), h3⟩, h.root, fun k hk => Nat.lt_of_lt_of_le (h.bound k hk) hf.size, h.small, h.ok⟩
structure RClkRow (w : World) (c g : Nat) (K : Ck) : Prop where
 ex : ∃ a n, w.heap[c]? = some (.cells #[.slice a K.l.length n, .int .i64 K.commits] 123 (0, 0)) ∧ w.ownsRow 0 216 3 (.slice a K.l.length n) K.l.length (K.l.flatMap rtcell) ∧ (0 < K.l.length → a = some ⟨g, 0, none⟩) ∧ g ≠ c
 few : K.l.length ≤ 1000000
 ok : ∀ x ∈ K.l, TxOk x
theorem RClkAt.row {w : World} {T : Nat → Prop} {c : Nat} {K : Ck} (h : RClkAt w T c K) : ∃ g, RClkRow w c g K ∧ (0 < K.l.length → T g) := by
 obtain ⟨v, h1, h2, h3⟩ := h.ex
 obtain ⟨a, n, rfl⟩ := ownsRow_slice h2
 by_cases hl : 0 < K.l.length
 ·obtain ⟨g, cur, rfl, -, -⟩ := owns_at h2 hl
  exact ⟨g, ⟨⟨_, n, h1, h2, fun _ => rfl, (h3 g rfl).2⟩, h.small.1, h.ok⟩, fun _ => (h3 g rfl).1⟩
 ·exact ⟨c + 1, ⟨⟨a, n, h1, h2, fun e => absurd e hl, by omega⟩, h.small.1, h.ok⟩, fun e => absurd e hl⟩
theorem RClkRow.frame {w w' : World} {c g : Nat} {K : Ck} (h : RClkRow w c g K) (hf : Fr No w w') : RClkRow w' c g K := by
 obtain ⟨a, n, h1, h2, h3, h4⟩ := h.ex
 exact ⟨⟨a, n, hf.keep h1 (fun e => e), fd_owns h2 hf, h3, h4⟩, h.few, h.ok⟩
theorem RClkRow.okt {w : World} {c g : Nat} {K : Ck} (h : RClkRow w c g K) {t : Int} {x : Tx} (hx : K.tx t = some x) : TxOk x := h.ok x (List.mem_of_getElem? (Ck.tx_some hx).2.2.1)
theorem RClkRow.cell {w : World} {c g : Nat} {K : Ck} (h : RClkRow w c g K) {t : Int} {x : Tx} (hx : K.tx t = some x) :
  w.cell? ⟨g, (t - 1).toNat * 3, none⟩ = some (.int .i64 x.mark) ∧ w.cell? ⟨g, (t - 1).toNat * 3 + 1, none⟩ = some (.int .i64 (txAs x)) ∧ w.cell? ⟨g, (t - 1).toNat * 3 + 2, none⟩ = some (.bool (x.state == 0)) := by
 obtain ⟨a, n, h1, h2, h3, _⟩ := h.ex
 obtain ⟨t1, t2, t3, t4⟩ := Ck.tx_some hx
 obtain rfl := h3 (by omega)
 have g0 : ∀ j, j < 3 → (K.l.flatMap rtcell)[(t - 1).toNat * 3 + j]? = (rtcell x)[j]? := fun j hj => flat_get (f := rtcell) (m := 3) (fun _ => rfl) _ _ _ t3 j hj
 exact ⟨owns_cell h2 rfl (by rw [← Nat.add_zero ((t - 1).toNat * 3), g0 0 (by decide)]; rfl), owns_cell h2 rfl (by rw [g0 1 (by decide)]; rfl), owns_cell h2 rfl (by rw [g0 2 (by decide)]; rfl)⟩
theorem ris_any (w : World) (c g : Nat) (K : Ck) (h : RClkRow w c g K) (t : Int) :
  Calls Tryz.prog 151 #[.pointer (some ⟨c, 0, none⟩), .int .i64 t] w fun e w' => e = .returned (.bool (K.tx t).isSome) ∧ w = w' := by
 have hs := h.few
 obtain ⟨a, n, h1, -⟩ := h.ex
 obtain ⟨c0, c1⟩ := cells2 h1
 have hr : (K.tx t).isSome = (decide (1 ≤ t) && decide (t ≤ (K.l.length : Int))) := by
  cases hx : K.tx t with
  | none =>
       rcases Ck.tx_none hx with e | e
       ·rw [decide_eq_false (show ¬ 1 ≤ t by omega)]; rfl
       ·rw [decide_eq_false (show ¬ t ≤ (K.l.length : Int) by omega), Bool.and_false]; rfl
  | some x =>
        obtain ⟨t1, t2, t3, t4⟩ := Ck.tx_some hx
        rw [decide_eq_true t1, decide_eq_true t4]; rfl
 rw [hr]
 clear h h1 hr c1
 by_cases h1 : 1 ≤ t
 ·by_cases h2 : t ≤ (K.l.length : Int)
  ·rw [decide_eq_true h1, decide_eq_true h2]
   go_enter Tryz.func151, Tryz.ntmps151
   go_wp2
   go_ret
   exact ⟨rfl, rfl⟩
  ·rw [decide_eq_true h1, decide_eq_false h2]
   go_enter Tryz.func151, Tryz.ntmps151
   go_wp2
   go_ret
   exact ⟨rfl, rfl⟩
 ·rw [decide_eq_false h1]
  go_enter Tryz.func151, Tryz.ntmps151
  go_wp2
  go_ret
  exact ⟨rfl, rfl⟩
theorem RClkRow.ix {w : World} {c g : Nat} {K : Ck} (h : RClkRow w c g K) {t : Int} {x : Tx} (hx : K.tx t = some x) : ∃ (i : Nat) (n : Nat), t = (i : Int) + 1 ∧ i < K.l.length ∧ w.cell? ⟨c, 0, none⟩ = some (.slice (some ⟨g, 0, none⟩) K.l.length n) ∧
  w.cell? ⟨g, i * 3, none⟩ = some (.int .i64 x.mark) ∧ w.cell? ⟨g, i * 3 + 1, none⟩ = some (.int .i64 (txAs x)) ∧ w.cell? ⟨g, i * 3 + 2, none⟩ = some (.bool (x.state == 0)) := by
 obtain ⟨t1, t2, t3, t4⟩ := Ck.tx_some hx
 obtain ⟨c0, c1, c2⟩ := h.cell hx
 obtain ⟨a, n, h1, h2, h3, _⟩ := h.ex
 obtain rfl := h3 (by omega)
 exact ⟨(t - 1).toNat, n, by omega, t2, (cells2 h1).1, c0, c1, c2⟩
theorem rlive_any (w : World) (c g : Nat) (K : Ck) (h : RClkRow w c g K) (t : Int) :
  Calls Tryz.prog 72 #[.pointer (some ⟨c, 0, none⟩), .int .i64 t] w fun e w' => e = .returned (.bool (K.live t)) ∧ w = w' := by
 have hs := h.few
 have HA := hid (ris_any w c g K h t)
 cases hx : K.tx t with
 | none =>
  have hr : K.live t = false := by unfold Ck.live; rw [hx]
  rw [hr]
  rw [hx] at HA
  clear h hr hx
  go_enter Tryz.func72, Tryz.ntmps72
  go_wp2_with (go_at_call 151; refine HA.out.mono ?_; rintro e w' ⟨rfl, rfl⟩)
  go_ret
  exact ⟨rfl, rfl⟩
 | some x =>
  obtain ⟨i, n, rfl, hi, c0, d0, d1, d2⟩ := h.ix hx
  have hr : K.live ((i : Int) + 1) = (x.state == 0) := by unfold Ck.live; rw [hx]
  rw [hr]
  rw [hx] at HA
  clear h hr hx d0 d1
  go_enter Tryz.func72, Tryz.ntmps72
  go_wp2_with (go_at_call 151; refine HA.out.mono ?_; rintro e w' ⟨rfl, rfl⟩)
  go_ret
  exact ⟨rfl, rfl⟩
end Go.Proofs.YthadcdoepoglkaaGreatDoor
