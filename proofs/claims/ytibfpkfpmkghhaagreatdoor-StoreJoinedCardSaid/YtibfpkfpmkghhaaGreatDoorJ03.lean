/- A part of the proof: contracts of functions of the program, for the row's text. -/
import Derived.Test.YtibfpkfpmkghhaaGreatDoorRows
import Derived.Test.YtibfpkfpmkghhaaGreatDoorJ02
import Derived.Laws.BitsAllLaws
import Derived.IntWalk
import Derived.LaidEqlPtr
namespace Go.Proofs.YtibfpkfpmkghhaaGreatDoor
open Go.RowKit Go.Lig

theorem eql_nils {P : Program} (w : World) (t e : TypeId) (ht : P.underlying t = some (.slice e)) : (binOp .eql t (.slice none 0 0) (.slice none 0 0)).run P w = .ok (.bool true) w := by
  have h : ∀ d : Nat, (Op.equalIn (d + 1) t (.slice none 0 0) (.slice none 0 0)).run P w = .ok true w := fun d => by
    simp [Op.equalIn, run_underlying ht]
  simp only [binOp]
  simp [Op.equal, Op.maxDepth, h 9999]
theorem eql_nilf {P : Program} (w : World) (t e : TypeId) (ht : P.underlying t = some (.slice e)) (a : Addr) (n c : Nat) : (binOp .eql t (.slice (some a) n c) (.slice none 0 0)).run P w = .ok (.bool false) w := by
  have h : ∀ d : Nat, (Op.equalIn (d + 1) t (.slice (some a) n c) (.slice none 0 0)).run P w = .ok false w := fun d => by
    simp [Op.equalIn, run_underlying ht]
  simp only [binOp]
  simp [Op.equal, Op.maxDepth, h 9999]
theorem rd_none {w : World} {n m c size : Nat} {xs : List Value} (h : Rd w (.slice none n c) m size xs) : n = 0 ∧ m = 0 ∧ c = 0 ∧ xs = [] := by
  obtain ⟨ao, c', e, hl, h0, _⟩ := h
  simp only [Value.slice.injEq] at e
  obtain ⟨rfl, rfl, rfl⟩ := e
  obtain ⟨rfl, rfl⟩ := h0 rfl
  exact ⟨rfl, rfl, rfl, List.eq_nil_of_length_eq_zero (by simpa using hl)⟩
/-- a row of one's own, made since w -/
structure OwnR (w w' : World) (e : TypeId) (size : Nat) (v : Value) (n : Nat) (xs : List Value) : Prop where
  row : w'.ownsRow 0 e size v n xs
  blk : ∀ j, v.ownBlock = some j → w.heap.size ≤ j
  fr : Fr No w w'
theorem OwnR.nil (w : World) (e : TypeId) (size : Nat) : OwnR w w e size (.slice none 0 0) 0 [] := ⟨World.ownsRow_nil _ _ _ _, fun _ e => (by cases e), Fr.refl _ _⟩
theorem OwnR.next {w w1 w2 : World} {e : TypeId} {size : Nat} {v : Value} {n : Nat} {xs : List Value} (h : OwnR w w1 e size v n xs) (hf : Fr No w1 w2) : OwnR w w2 e size v n xs := ⟨fd_owns h.row hf, h.blk, h.fr.thenNo hf⟩
theorem OwnR.ahead {w0 w w1 : World} {e : TypeId} {size : Nat} {v : Value} {n : Nat} {xs : List Value} (h : OwnR w w1 e size v n xs) (hf : Fr No w0 w) : OwnR w0 w1 e size v n xs := ⟨h.row, fun j hj => Nat.le_trans hf.size (h.blk j hj), hf.thenNo h.fr⟩
theorem slBlock_own {w : World} {b : Nat} {e : TypeId} {size : Nat} {v : Value} {n : Nat} {xs : List Value} (h : w.ownsRow b e size v n xs) : slBlock v = v.ownBlock := by
  rcases h.2 with ⟨rfl, -⟩ | ⟨g, c, cur, rfl, -⟩ <;> rfl
theorem _root_.Go.Lig.Fr.fresh' {w w1 w2 : World} {S : Nat → Prop} (h : Fr No w w1) (h' : Fr S w1 w2) (hS : ∀ k, S k → w.heap.size ≤ k) : Fr No w w2 := h.trans h' (fun k hk e => by have := hS k e; omega)
theorem infoclones : (Tryz.prog.info? 9).map (fun i => (i.zero, i.size, i.bytes)) = some (some (.string ⟨#[]⟩), 1, 16) := by kernel_rfl
set_option maxRecDepth 100000 in
theorem clones_any (w : World) (v : Value) (n : Nat) (xs : List Value) (h : Rd w v n 1 xs) (hn : n ≤ 1000000) :
    Calls Tryz.prog 141 #[v] w fun e w' => ∃ v', e = .returned v' ∧ OwnR w w' 9 1 v' n xs := by
  obtain ⟨ao, c, rfl, -⟩ := rd_len h
  cases ao with
  | none =>
    obtain ⟨rfl, -, rfl, rfl⟩ := rd_none h
    have hq := eql_nils w 28 _ Tryz.underlying28
    clear h hn
    go_enter Tryz.func141, Tryz.ntmps141
    go_wp2
    go_ret
    exact ⟨_, rfl, OwnR.nil _ _ _⟩
  | some ad =>
    have hq := eql_nilf w 28 _ Tryz.underlying28 ad n c
    have HH := hid h
    have HN := hid hn
    clear h hn
    go_enter Tryz.func141, Tryz.ntmps141
    go_wp2_with (first | (refine wpList_buildSlice0 rfl 28 9 rfl _ 1 16 Tryz.underlying28 infoclones ?_; intro w1 p1; have P1 := hid p1; clear p1) | (refine wpList_app rfl (.tmp 5) (.tmp 6) 28 rfl 9 _ 1 16 Tryz.underlying28 infoclones rfl (by decide) (.slice (some ⟨w.heap.size, 0, none⟩) 0 0) 0 [] rfl P1.out.own0 (.slice (some ad) n c) n xs rfl (HH.out.frame P1.out.fr (fun _ _ e => e)) (by have := HN.out; unfold maxLen; omega) (by have := HN.out; omega) ?_; intro v2 w2 o2 f2 b2 _; have H2 := hid (⟨o2, f2, b2⟩ : _ ∧ _ ∧ _); clear o2 f2 b2))
    go_ret
    obtain ⟨o2, f2, b2⟩ := H2.out
    refine ⟨_, rfl, by simpa using o2, fun j hj => ?_, P1.out.fr.fresh' f2 (fun k e => ?_)⟩
    · rcases b2 j hj with e | e
      · have : w.heap.size = j := Option.some.inj e
        omega
      · have := P1.out.fr.size; omega
    · have : w.heap.size = k := Option.some.inj e
      omega
theorem infoclonep : (Tryz.prog.info? 145).map (fun i => (i.zero, i.size, i.bytes)) = some (some (.agg #[.string ⟨#[]⟩, .int .i64 0, .bool false, .int .i64 0, .float .f64 0, .string ⟨#[]⟩]), 6, 64) := by kernel_rfl
set_option maxRecDepth 100000 in
theorem clonep_any (w : World) (v : Value) (n : Nat) (xs : List Value) (h : Rd w v n 6 xs) (hn : n ≤ 1000000) :
    Calls Tryz.prog 142 #[v] w fun e w' => ∃ v', e = .returned v' ∧ OwnR w w' 145 6 v' n xs := by
  obtain ⟨ao, c, rfl, -⟩ := rd_len h
  cases ao with
  | none =>
    obtain ⟨rfl, -, rfl, rfl⟩ := rd_none h
    have hq := eql_nils w 29 _ Tryz.underlying29
    clear h hn
    go_enter Tryz.func142, Tryz.ntmps142
    go_wp2
    go_ret
    exact ⟨_, rfl, OwnR.nil _ _ _⟩
  | some ad =>
    have hq := eql_nilf w 29 _ Tryz.underlying29 ad n c
    have HH := hid h
    have HN := hid hn
    clear h hn
    go_enter Tryz.func142, Tryz.ntmps142
    go_wp2_with (first | (refine wpList_buildSlice0 rfl 29 145 rfl _ 6 64 Tryz.underlying29 infoclonep ?_; intro w1 p1; have P1 := hid p1; clear p1) | (refine wpList_app rfl (.tmp 5) (.tmp 6) 29 rfl 145 _ 6 64 Tryz.underlying29 infoclonep rfl (by decide) (.slice (some ⟨w.heap.size, 0, none⟩) 0 0) 0 [] rfl P1.out.own0 (.slice (some ad) n c) n xs rfl (HH.out.frame P1.out.fr (fun _ _ e => e)) (by have := HN.out; unfold maxLen; omega) (by have := HN.out; omega) ?_; intro v2 w2 o2 f2 b2 _; have H2 := hid (⟨o2, f2, b2⟩ : _ ∧ _ ∧ _); clear o2 f2 b2))
    go_ret
    obtain ⟨o2, f2, b2⟩ := H2.out
    refine ⟨_, rfl, by simpa using o2, fun j hj => ?_, P1.out.fr.fresh' f2 (fun k e => ?_)⟩
    · rcases b2 j hj with e | e
      · have : w.heap.size = j := Option.some.inj e
        omega
      · have := P1.out.fr.size; omega
    · have : w.heap.size = k := Option.some.inj e
      omega
theorem built_n (la pa : Option Addr) (ln lc pn pc : Nat) : Tryz.prog.built 31 [(0, .slice la ln lc), (1, .slice pa pn pc)] = some #[.slice la ln lc, .slice pa pn pc] := by kernel_rfl
/-- a node in memory of its own, made since w -/
structure OwnN (w w' : World) (la : Option Addr) (ln lc : Nat) (pa : Option Addr) (pn pc : Nat) (d : NodeD) : Prop where
  l : OwnR w w' 9 1 (.slice la ln lc) d.L.length (d.L.map Value.string)
  p : OwnR w w' 145 6 (.slice pa pn pc) d.Q.length (d.Q.flatMap pcell)
theorem strs_one (L : List ByteArray) : ∀ u ∈ L.map Value.string, u.oneCell' = true := fun u hu => by
  obtain ⟨x, _, rfl⟩ := List.mem_map.1 hu
  rfl
theorem pcells_one (Q : List PropV) : ∀ u ∈ Q.flatMap pcell, u.oneCell' = true := fun u hu => by
  obtain ⟨x, _, hx⟩ := List.mem_flatMap.1 hu
  simp only [pcell, List.mem_cons, List.not_mem_nil, or_false] at hx
  rcases hx with rfl | rfl | rfl | rfl | rfl | rfl <;> rfl
set_option maxRecDepth 100000 in
set_option maxHeartbeats 2000000 in
theorem copied_any (w : World) (la pa : Option Addr) (ln lc pn pc : Nat) (d : NodeD) (h : NodeOf w (.slice la ln lc) (.slice pa pn pc) d) (hl : d.L.length ≤ 1000000) (hp : d.Q.length ≤ 1000000) :
    Calls Tryz.prog 70 #[.agg #[.slice la ln lc, .slice pa pn pc]] w fun e w' => ∃ la' ln' lc' pa' pn' pc', e = .returned (.agg #[.slice la' ln' lc', .slice pa' pn' pc']) ∧ OwnN w w' la' ln' lc' pa' pn' pc' d := by
  obtain ⟨k1, k2⟩ := heap2 w (.cells #[.slice la ln lc, .slice pa pn pc] 31) (.cells #[.slice none 0 0, .slice none 0 0] 31)
  have hf : Fr No w ((w.alloc (.cells #[.slice la ln lc, .slice pa pn pc] 31)).alloc (.cells #[.slice none 0 0, .slice none 0 0] 31)) := ((Fr.refl No w).alloc _).alloc _
  have HH := hid (⟨h, hl, hp⟩ : _ ∧ _ ∧ _)
  clear h hl hp
  go_enter Tryz.func70, Tryz.ntmps70
  go_wp2_with fail
  generalize (w.alloc (.cells #[.slice la ln lc, .slice pa pn pc] 31)).alloc (.cells #[.slice none 0 0, .slice none 0 0] 31) = w2 at *
  obtain ⟨c0, c1⟩ := cells2 k1
  have HF := hid (⟨hf, k1, k2⟩ : _ ∧ _ ∧ _)
  have HZ := hid (⟨lt_of_block k1, lt_of_block k2⟩ : _ ∧ _)
  have hne : w.heap.size ≠ w.heap.size + 1 := by omega
  generalize hb1 : w.heap.size + 1 = b1 at *
  clear hf k1 k2
  refine wp_region_sched (by kernel_rfl) 7 [2, 5, 7] [0, 1, 3, 4, 2, 5, 6, 7] (AgC [w.heap.size] w2.drew) (by kernel_rfl) (AgC.refl _ _) ?_
  simp only [List.map_cons, List.map_nil, List.contains_cons, List.contains_nil, nth_zero, nth_succ, Nat.reduceBEq, Bool.or_false, Bool.or_true]
  repeat (refine sched_quiet (fun K hK => ?_); go_simp; refine hK _ ?_; clear hK K)
  refine sched_call (by first | rfl | go_simp) 141 #[.slice la ln lc] (by first | kernel_rfl | go_simp) (clones_any _ _ _ _ (HH.out.1.l.frame HF.out.1.drew (fun _ _ e => e)) HH.out.2.1) ?_
  rintro e w3 ⟨v3, rfl, o3⟩
  have a3 : AgC [w.heap.size] w2.drew w3 := (AgC.refl _ _).fr o3.fr (fun j hj => by rw [List.mem_singleton.1 hj]; exact ⟨HZ.out.1, fun e => e⟩)
  refine ⟨_, rfl, a3, ?_⟩
  obtain ⟨la', lc', rfl⟩ := ownsRow_slice o3.row
  have O3 := hid o3
  clear o3
  repeat (refine sched_quiet (fun K hK => ?_); go_simp; refine hK _ ?_; clear hK K)
  refine sched_call (by first | rfl | go_simp) 142 #[.slice pa pn pc] (by first | kernel_rfl | go_simp) (clonep_any _ _ _ _ ((HH.out.1.p.frame HF.out.1.drew (fun _ _ e => e)).frame O3.out.fr (fun _ _ e => e)) HH.out.2.2) ?_
  rintro e w4 ⟨v4, rfl, o4⟩
  refine ⟨_, rfl, a3.fr o4.fr (fun j hj => by rw [List.mem_singleton.1 hj]; exact ⟨HZ.out.1, fun e => e⟩), ?_⟩
  obtain ⟨pa', pc', rfl⟩ := ownsRow_slice o4.row
  have O4 := hid o4
  clear o4 a3
  generalize hd1 : d.L.length = n1 at *
  generalize hd2 : d.Q.length = n2 at *
  have HD := hid (⟨hd1, hd2⟩ : _ ∧ _)
  clear hd1 hd2
  repeat (first | (refine sched_build rfl 31 [(0, .tmp 5), (1, .tmp 8)] rfl [(0, .slice la' n1 lc'), (1, .slice pa' n2 pc')] rfl _ (built_n ..) ?_) | (refine sched_quiet (fun K hK => ?_); go_simp; refine hK _ ?_; clear hK K))
  have hk2 := O4.out.fr.keep (O3.out.fr.keep (w := w2.drew) HF.out.2.2 id) id
  refine sched_loud (wpList_storeO rfl 31 (.tmp 2) (.tmp 9) rfl b1 0 rfl [.slice none 0 0, .slice none 0 0] 31 [.slice la' n1 lc', .slice pa' n2 pc'] rfl (by kernel_rfl) hk2 (by simp) (by simp [Value.oneCell']) ?_)
  intro w5 p5
  have P5 := hid (show Put b1 #[.slice la' n1 lc', .slice pa' n2 pc'] 31 w4 w5 from p5)
  clear p5 hk2
  refine sched_last ?_
  refine sched_nil ?_
  obtain ⟨r0, r1⟩ := cells2 P5.out.at_
  go_wp2_with fail
  have hb2 : w2.drew.heap.size = w2.heap.size := rfl
  have hq : ∀ k, k = b1 → w.heap.size ≤ k := fun k e => by subst e; omega
  have hn1 : ∀ {sz : Nat} {e : TypeId} {v : Value} {n : Nat} {xs : List Value} {u u' : World}, OwnR u u' e sz v n xs → w2.heap.size ≤ u.heap.size → ∀ k, v.ownBlock = some k → ¬ k = b1 := fun o hu k hk e => by have := o.blk k hk; have := HZ.out; omega
  have f3 : Fr No w w3 := (HF.out.1.drew).thenNo O3.out.fr
  have f5 : Fr No w w5 := (f3.thenNo O4.out.fr).fresh' P5.out.fr hq
  refine bodyPost_ret (v := .agg #[.slice la' n1 lc', .slice pa' n2 pc']) ?_ rfl ⟨la', n1, lc', pa', n2, pc', rfl, ?_, ?_⟩
  · simp [results, Tryz.f70, go_sem, r0, r1]
  · rw [HD.out.1]
    exact ⟨P5.out.fr.owns (O4.out.fr.owns O3.out.row (fun _ _ e => e)) (hn1 O3.out (by rw [hb2]; exact Nat.le_refl _)), fun j hj => Nat.le_trans HF.out.1.size (by have := O3.out.blk j hj; rw [hb2] at this; exact this), f5⟩
  · rw [HD.out.2]
    exact ⟨P5.out.fr.owns O4.out.row (hn1 O4.out (by have := O3.out.fr.size; rw [hb2] at this; exact this)), fun j hj => Nat.le_trans f3.size (O4.out.blk j hj), f5⟩
/-- the copy lies in new blocks -/
theorem OwnN.nodeIn {w w' : World} {la pa : Option Addr} {ln lc pn pc : Nat} {d : NodeD} (h : OwnN w w' la ln lc pa pn pc d) (ok : ∀ q ∈ d.Q, PropOk q) (ls : ∀ s ∈ d.L, s.size ≤ maxLen) (few : d.L.length ≤ 1000000 ∧ d.Q.length ≤ 1000000) : NodeIn w' (fun b => w.heap.size ≤ b ∧ b < w'.heap.size) (.slice la ln lc) (.slice pa pn pc) d :=
  ⟨⟨Rd.of_owns h.l.row (strs_one _), fun _ k hk => by rw [slBlock_own h.l.row] at hk; exact ⟨h.l.blk k hk, (h.l.row.lt k hk).2⟩⟩, ⟨Rd.of_owns h.p.row (pcells_one _), fun _ k hk => by rw [slBlock_own h.p.row] at hk; exact ⟨h.p.blk k hk, (h.p.row.lt k hk).2⟩⟩, ok, ls, few⟩
end Go.Proofs.YtibfpkfpmkghhaaGreatDoor

namespace Go.Lig
open Go.RowKit
def cmpI (a b : Int) : Int := if a < b then -1 else if b < a then 1 else 0
def cmpS (a b : ByteArray) : Int := if Op.bytesLess a.toList b.toList then -1 else if a.toList == b.toList then 0 else 1
def boolN (b : Bool) : Int := if b then 1 else 0
end Go.Lig
namespace Go.Proofs.YtibfpkfpmkghhaaGreatDoor
open Go.RowKit Go.Lig

theorem cmpint_any (w : World) (a b : Int) : Calls Tryz.prog 233 #[.int .i64 a, .int .i64 b] w fun e w' => e = .returned (.int .i64 (cmpI a b)) ∧ w = w' := by
  unfold cmpI
  by_cases h1 : a < b
  · rw [if_pos h1]
    go_enter Tryz.func233, Tryz.ntmps233
    go_wp2
    go_ret
    exact ⟨rfl, rfl⟩
  · rw [if_neg h1]
    by_cases h2 : b < a
    · rw [if_pos h2]
      go_enter Tryz.func233, Tryz.ntmps233
      go_wp2
      go_ret
      exact ⟨rfl, rfl⟩
    · rw [if_neg h2]
      go_enter Tryz.func233, Tryz.ntmps233
      go_wp2
      go_ret
      exact ⟨rfl, rfl⟩
theorem cmpu64_any (w : World) (a b : Int) : Calls Tryz.prog 270 #[.int .u64 a, .int .u64 b] w fun e w' => e = .returned (.int .i64 (cmpI a b)) ∧ w = w' := by
  unfold cmpI
  by_cases h1 : a < b
  · rw [if_pos h1]
    go_enter Tryz.func270, Tryz.ntmps270
    go_wp2
    go_ret
    exact ⟨rfl, rfl⟩
  · rw [if_neg h1]
    by_cases h2 : b < a
    · rw [if_pos h2]
      go_enter Tryz.func270, Tryz.ntmps270
      go_wp2
      go_ret
      exact ⟨rfl, rfl⟩
    · rw [if_neg h2]
      go_enter Tryz.func270, Tryz.ntmps270
      go_wp2
      go_ret
      exact ⟨rfl, rfl⟩
theorem cmpstr_any (w : World) (a b : ByteArray) : Calls Tryz.prog 236 #[.string a, .string b] w fun e w' => e = .returned (.int .i64 (cmpS a b)) ∧ w = w' := by
  have h0 : (a.toList == a.toList) = true := by simp
  have h0' : (b.toList == b.toList) = true := by simp
  unfold cmpS
  cases h1 : Op.bytesLess a.toList b.toList with
  | true =>
    simp only [if_true]
    go_enter Tryz.func236, Tryz.ntmps236
    go_wp2
    go_ret
    exact ⟨rfl, rfl⟩
  | false =>
    cases h2 : a.toList == b.toList with
    | true =>
      simp only [if_true, if_false, Bool.false_eq_true]
      go_enter Tryz.func236, Tryz.ntmps236
      go_wp2
      go_ret
      exact ⟨rfl, rfl⟩
    | false =>
      simp only [if_false, Bool.false_eq_true]
      go_enter Tryz.func236, Tryz.ntmps236
      go_wp2
      go_ret
      exact ⟨rfl, rfl⟩
theorem vnumber_any (w : World) (b : Bool) : Calls Tryz.prog 234 #[.bool b] w fun e w' => e = .returned (.int .i64 (boolN b)) ∧ w = w' := by
  cases b with
  | true =>
    go_enter Tryz.func234, Tryz.ntmps234
    go_wp2
    go_ret
    exact ⟨rfl, rfl⟩
  | false =>
    go_enter Tryz.func234, Tryz.ntmps234
    go_wp2
    go_ret
    exact ⟨rfl, rfl⟩
theorem or2_any (w : World) (g c : Nat) (a b : Int) (h0 : w.cell? ⟨g, 0, none⟩ = some (.int .i64 a)) (h1 : w.cell? ⟨g, 1, none⟩ = some (.int .i64 b)) : Calls Tryz.prog 240 #[.slice (some ⟨g, 0, none⟩) 2 c] w fun e w' => e = .returned (.int .i64 (if a = 0 then b else a)) ∧ w = w' := by
  have H := hid (⟨h0, h1⟩ : _ ∧ _)
  clear h0 h1
  go_enter Tryz.func240, Tryz.ntmps240
  go_wp2_with fail
  go_loopw [8] (fun vi wr => ∃ i : Nat, i ≤ 2 ∧ vi = .int .i64 (i : Int) ∧ wr = w ∧ (i = 0 ∨ (i = 1 ∧ a = 0) ∨ (i = 2 ∧ a = 0 ∧ b = 0))) (fun vi _ => 2 - (intOf vi).toNat)
  case atStart => exact ⟨0, by omega, rfl, rfl, .inl rfl⟩
  case round =>
    obtain ⟨i, hi, rfl, rfl, hc⟩ := hrel
    rcases hc with rfl | ⟨rfl, ha⟩ | ⟨rfl, ha, hb⟩
    · have h0 := H.out.1
      by_cases ha : a = 0
      · subst ha
        go_wp2_with fail
        go_roundw
        case rel => exact ⟨1, by omega, by go_num, by simp, by simp⟩
        case measure => simp [intOf]
      · go_wp2_with fail
        go_ret
        exact ⟨by simp, rfl⟩
    · have h1 := H.out.2
      subst ha
      by_cases hb : b = 0
      · subst hb
        go_wp2_with fail
        go_roundw
        case rel => exact ⟨2, by omega, by go_num, by simp, by simp⟩
        case measure => simp [intOf]
      · go_wp2_with fail
        go_ret
        exact ⟨by simp, rfl⟩
    · subst ha hb
      go_wp2_with fail
      go_ret
      exact ⟨rfl, rfl⟩
/-- value.Cmp tells c, of values that are P -/
def CmpOk (P : ValR → Prop) (c : ValR → ValR → Int) : Prop := ∀ a b, P a → P b → ∀ w, Calls Tryz.prog 181 #[.agg #[.int .i64 a.kind, .bool a.b, .int .i64 a.n, .float .f64 a.f, .string a.t], .agg #[.int .i64 b.kind, .bool b.b, .int .i64 b.n, .float .f64 b.f, .string b.t]] w fun e w' => e = .returned (.int .i64 (c a b)) ∧ Fr No w w'
/-! ### Entries -/
def entV (x : EntR) : Value := .agg #[.int .i64 x.v.kind, .bool x.v.b, .int .i64 x.v.n, .float .f64 x.v.f, .string x.v.t, .int .i64 x.id]
def cmpE (c : ValR → ValR → Int) (x y : EntR) : Int := if c x.v y.v = 0 then cmpI x.id y.id else c x.v y.v
end Go.Proofs.YtibfpkfpmkghhaaGreatDoor

namespace Go.Lig
open Go.RowKit

section
variable {ι : Type}
/-- the blocks of a part -/
def At (ρ : Nat → Option ι) (p : ι) : Nat → Prop := fun b => ρ b = some p
/-- the blocks of all parts -/
def Own (ρ : Nat → Option ι) : Nat → Prop := fun b => ρ b ≠ none
/-- part p has the blocks T now -/
noncomputable def turn (ρ : Nat → Option ι) (p : ι) (T : Nat → Prop) : Nat → Option ι := fun b => by
  classical exact if T b then some p else if ρ b = some p then none else ρ b
theorem at_turn_same (ρ : Nat → Option ι) (p : ι) (T : Nat → Prop) : At (turn ρ p T) p = T := by
  classical
  funext b
  unfold At turn
  by_cases h1 : T b
  · simp [h1]
  · by_cases h2 : ρ b = some p
    · simp [h1, h2]
    · simp [h1, h2]
/-- T: blocks that were p's, or that are new -/
def Grown (w : World) (T T' : Nat → Prop) : Prop := ∀ b, T' b → T b ∨ w.heap.size ≤ b
theorem at_turn_other {w : World} {ρ : Nat → Option ι} {p q : ι} {T : Nat → Prop} (hq : q ≠ p) (hT : Grown w (At ρ p) T) (hb : ∀ b, ρ b ≠ none → b < w.heap.size) : At (turn ρ p T) q = At ρ q := by
  classical
  funext b
  unfold At turn
  refine propext ?_
  by_cases h1 : T b
  · rw [if_pos h1]
    constructor
    · intro e; exact absurd (Option.some.inj e).symm hq
    · intro e
      rcases hT b h1 with h2 | h2
      · rw [show ρ b = some p from h2] at e
        exact absurd (Option.some.inj e).symm hq
      · have := hb b (by rw [e]; simp)
        omega
  · rw [if_neg h1]
    by_cases h2 : ρ b = some p
    · rw [if_pos h2]
      constructor
      · intro e; cases e
      · intro e; rw [h2] at e; exact absurd (Option.some.inj e).symm hq
    · rw [if_neg h2]
theorem own_turn {w : World} {ρ : Nat → Option ι} {p : ι} {T : Nat → Prop} (hT : Grown w (At ρ p) T) : Grown w (Own ρ) (Own (turn ρ p T)) := by
  classical
  intro b hb
  unfold Own turn at hb
  by_cases h1 : T b
  · rcases hT b h1 with h2 | h2
    · exact .inl (by unfold Own; rw [show ρ b = some p from h2]; simp)
    · exact .inr h2
  · rw [if_neg h1] at hb
    by_cases h2 : ρ b = some p
    · rw [if_pos h2] at hb; exact absurd rfl hb
    · rw [if_neg h2] at hb; exact .inl hb
theorem bound_turn {w w' : World} {ρ : Nat → Option ι} {p : ι} {T : Nat → Prop} (hb : ∀ b, ρ b ≠ none → b < w.heap.size) (hz : w.heap.size ≤ w'.heap.size) (hT : ∀ b, T b → b < w'.heap.size) : ∀ b, turn ρ p T b ≠ none → b < w'.heap.size := by
  classical
  intro b h
  unfold turn at h
  by_cases h1 : T b
  · exact hT b h1
  · rw [if_neg h1] at h
    by_cases h2 : ρ b = some p
    · rw [if_pos h2] at h; exact absurd rfl h
    · rw [if_neg h2] at h; exact Nat.lt_of_lt_of_le (hb b h) hz
theorem at_apart {ρ : Nat → Option ι} {p q : ι} (h : q ≠ p) : ∀ b, At ρ q b → ¬ At ρ p b := fun b h1 h2 => h (Option.some.inj ((show ρ b = some q from h1).symm.trans h2))
theorem at_own {ρ : Nat → Option ι} {p : ι} : ∀ b, At ρ p b → Own ρ b := fun b h => by unfold Own; rw [show ρ b = some p from h]; simp
theorem Grown.refl (w : World) (T : Nat → Prop) : Grown w T T := fun _ h => .inl h
theorem Grown.trans {w w' : World} {T T' T'' : Nat → Prop} (h : Grown w T T') (h' : Grown w' T' T'') (hz : w.heap.size ≤ w'.heap.size) : Grown w T T'' := fun b hb => by
  rcases h' b hb with h1 | h1
  · exact h b h1
  · exact .inr (by omega)
end
end Go.Lig

namespace Go.Proofs.YtibfpkfpmkghhaaGreatDoor
open Go.RowKit Go.Lig

structure Tx where
  state : Int
  mark : Int
  commit : Int
  deriving DecidableEq
def tcell (x : Tx) : List Value := [.int .i64 x.state, .int .i64 x.mark, .int .i64 x.commit]
structure Ck where
  l : List Tx
  commits : Int
/-- transaction t -/
def Ck.tx (K : Ck) (t : Int) : Option Tx := if 1 ≤ t then K.l[(t - 1).toNat]? else none
def Ck.live (K : Ck) (t : Int) : Bool := match K.tx t with
  | some x => x.state == 0
  | none => false
def Ck.count (K : Ck) : Nat := (K.l.filter fun x => x.state == 0).length
def Ck.sees (K : Ck) (t b : Int) : Bool := match K.tx t, K.tx b with
  | some x, some y => t == b || (y.state == 1 && decide (y.commit ≤ x.mark))
  | _, _ => false
def Ck.clashes (K : Ck) (t b : Int) : Bool := match K.tx t, K.tx b with
  | some x, some y => !(t == b) && (y.state == 0 || (y.state == 1 && decide (x.mark < y.commit)))
  | _, _ => false
def Ck.settled (K : Ck) (b : Int) : Bool := match K.tx b with
  | some y => y.state == 1 && K.l.all fun x => !(x.state == 0 && decide (x.mark < y.commit))
  | none => false
def Ck.begins (K : Ck) : Ck := { K with l := K.l ++ [⟨0, K.commits, 0⟩] }
def Ck.put (K : Ck) (t : Int) (x : Tx) : Ck := { K with l := K.l.set (t - 1).toNat x }
def Ck.commit (K : Ck) (t : Int) : Ck := match K.tx t with
  | some x => { (K.put t { x with state := 1, commit := K.commits + 1 }) with commits := K.commits + 1 }
  | none => K
def Ck.abort (K : Ck) (t : Int) : Ck := match K.tx t with
  | some x => K.put t { x with state := 2 }
  | none => K
/-- the clock at c; T its blocks -/
structure ClockAt (w : World) (T : Nat → Prop) (c : Nat) (K : Ck) : Prop where
  ex : ∃ v, w.heap[c]? = some (.cells #[v, .int .i64 K.commits] 141 (0, 0)) ∧ w.ownsRow 0 143 3 v K.l.length (K.l.flatMap tcell) ∧ ∀ k, v.ownBlock = some k → T k ∧ k ≠ c
  root : T c
  bound : ∀ k, T k → k < w.heap.size
  small : K.l.length ≤ 1000000 ∧ 0 ≤ K.commits ∧ K.commits ≤ 1000000
theorem ClockAt.frame {w w' : World} {T U : Nat → Prop} {c : Nat} {K : Ck} (h : ClockAt w T c K) (hf : Fr U w w') (hd : ∀ k, T k → ¬ U k) : ClockAt w' T c K := by
  obtain ⟨v, h1, h2, h3⟩ := h.ex
  exact ⟨⟨v, hf.keep h1 (hd c h.root), hf.owns h2 (fun k hk => hd k (h3 k hk).1), h3⟩, h.root, fun k hk => Nat.lt_of_lt_of_le (h.bound k hk) hf.size, h.small⟩
theorem Ck.tx_some {K : Ck} {t : Int} {x : Tx} (h : K.tx t = some x) : 1 ≤ t ∧ (t - 1).toNat < K.l.length ∧ K.l[(t - 1).toNat]? = some x ∧ t ≤ (K.l.length : Int) := by
  unfold Ck.tx at h
  split at h
  · rename_i h1
    have := (List.getElem?_eq_some_iff.1 h).1
    exact ⟨h1, this, h, by omega⟩
  · cases h
theorem Ck.tx_none {K : Ck} {t : Int} (h : K.tx t = none) : t < 1 ∨ (K.l.length : Int) < t := by
  unfold Ck.tx at h
  split at h
  · have := List.getElem?_eq_none_iff.1 h
    omega
  · omega
end Go.Proofs.YtibfpkfpmkghhaaGreatDoor

namespace Go.Proofs.YtibfpkfpmkghhaaGreatDoor
open Go.RowKit Go.Lig

/-- where transaction t lies -/
def atV (g : Nat) (K : Ck) (t : Int) : Value := match K.tx t with
  | some _ => .pointer (some ⟨g, (t - 1).toNat * 3, none⟩)
  | none => .pointer none
/-- the clock's row: g its block, if it has any -/
structure ClkRow (w : World) (c g : Nat) (K : Ck) : Prop where
  ex : ∃ a n, w.heap[c]? = some (.cells #[.slice a K.l.length n, .int .i64 K.commits] 141 (0, 0)) ∧ w.ownsRow 0 143 3 (.slice a K.l.length n) K.l.length (K.l.flatMap tcell) ∧ (0 < K.l.length → a = some ⟨g, 0, none⟩) ∧ g ≠ c
theorem ClockAt.row {w : World} {T : Nat → Prop} {c : Nat} {K : Ck} (h : ClockAt w T c K) : ∃ g, ClkRow w c g K ∧ (0 < K.l.length → T g) := by
  obtain ⟨v, h1, h2, h3⟩ := h.ex
  obtain ⟨a, n, rfl⟩ := ownsRow_slice h2
  by_cases hl : 0 < K.l.length
  · obtain ⟨g, cur, rfl, -, -⟩ := owns_at h2 hl
    exact ⟨g, ⟨_, n, h1, h2, fun _ => rfl, (h3 g rfl).2⟩, fun _ => (h3 g rfl).1⟩
  · exact ⟨c + 1, ⟨a, n, h1, h2, fun e => absurd e hl, by omega⟩, fun e => absurd e hl⟩
theorem ClkRow.cell {w : World} {c g : Nat} {K : Ck} (h : ClkRow w c g K) {t : Int} {x : Tx} (hx : K.tx t = some x) :
    w.cell? ⟨g, (t - 1).toNat * 3, none⟩ = some (.int .i64 x.state) ∧ w.cell? ⟨g, (t - 1).toNat * 3 + 1, none⟩ = some (.int .i64 x.mark) ∧ w.cell? ⟨g, (t - 1).toNat * 3 + 2, none⟩ = some (.int .i64 x.commit) := by
  obtain ⟨a, n, h1, h2, h3, _⟩ := h.ex
  obtain ⟨t1, t2, t3, t4⟩ := Ck.tx_some hx
  obtain rfl := h3 (by omega)
  have g0 : ∀ j, j < 3 → (K.l.flatMap tcell)[(t - 1).toNat * 3 + j]? = (tcell x)[j]? := fun j hj => flat_get (f := tcell) (m := 3) (fun _ => rfl) _ _ _ t3 j hj
  exact ⟨owns_cell h2 rfl (by rw [← Nat.add_zero ((t - 1).toNat * 3), g0 0 (by decide)]; rfl), owns_cell h2 rfl (by rw [g0 1 (by decide)]; rfl), owns_cell h2 rfl (by rw [g0 2 (by decide)]; rfl)⟩
theorem clkat_any (w : World) (c g : Nat) (K : Ck) (h : ClkRow w c g K) (hs : K.l.length ≤ 1000000) (t : Int) :
    Calls Tryz.prog 109 #[.pointer (some ⟨c, 0, none⟩), .int .i64 t] w fun e w' => e = .returned (atV g K t) ∧ w = w' := by
  obtain ⟨a, n, h1, h2, h3, _⟩ := h.ex
  obtain ⟨c0, c1⟩ := cells2 h1
  cases hx : K.tx t with
  | none =>
    have hr : atV g K t = .pointer none := by unfold atV; rw [hx]
    rw [hr]
    have hn := Ck.tx_none hx
    clear h h1 h2 h3 c1 hr hx
    by_cases h1 : t < 1
    · clear hn
      go_enter Tryz.func109, Tryz.ntmps109
      go_wp2
      go_ret
      exact ⟨rfl, rfl⟩
    · have h2 : (K.l.length : Int) < t := by omega
      clear hn
      go_enter Tryz.func109, Tryz.ntmps109
      go_wp2
      go_ret
      exact ⟨rfl, rfl⟩
  | some x =>
    have hr : atV g K t = .pointer (some ⟨g, (t - 1).toNat * 3, none⟩) := by unfold atV; rw [hx]
    rw [hr]
    obtain ⟨t1, t2, t3, t4⟩ := Ck.tx_some hx
    obtain rfl := h3 (by omega)
    obtain ⟨i, hi⟩ : ∃ i : Nat, t = (i : Int) + 1 := ⟨(t - 1).toNat, by omega⟩
    subst hi
    have hit : ((i : Int) + 1 - 1).toNat = i := by omega
    rw [hit] at t2 ⊢
    have n1 : ¬ (i : Int) + 1 < 1 := by omega
    have n2 : ¬ (K.l.length : Int) < (i : Int) + 1 := by omega
    have hil : i < K.l.length := t2
    clear h h1 h2 h3 c1 hr hx t1 t2 t3 t4 hit
    go_enter Tryz.func109, Tryz.ntmps109
    go_wp2
    go_ret
    exact ⟨rfl, rfl⟩
end Go.Proofs.YtibfpkfpmkghhaaGreatDoor

namespace Go.Proofs.YtibfpkfpmkghhaaGreatDoor
open Go.RowKit Go.Lig

theorem atV_some {g : Nat} {K : Ck} {t : Int} {x : Tx} (h : K.tx t = some x) : atV g K t = .pointer (some ⟨g, (t - 1).toNat * 3, none⟩) := by unfold atV; rw [h]
theorem atV_none {g : Nat} {K : Ck} {t : Int} (h : K.tx t = none) : atV g K t = .pointer none := by unfold atV; rw [h]
theorem live_any (w : World) (c g : Nat) (K : Ck) (h : ClkRow w c g K) (hs : K.l.length ≤ 1000000) (t : Int) :
    Calls Tryz.prog 104 #[.pointer (some ⟨c, 0, none⟩), .int .i64 t] w fun e w' => e = .returned (.bool (K.live t)) ∧ w = w' := by
  have HA := hid (clkat_any w c g K h hs t)
  cases hx : K.tx t with
  | none =>
    have hr : K.live t = false := by unfold Ck.live; rw [hx]
    rw [hr]
    rw [atV_none hx] at HA
    clear h hr hx
    go_enter Tryz.func104, Tryz.ntmps104
    go_wp2_with (go_at_call 109; refine HA.out.mono ?_; rintro e w' ⟨rfl, rfl⟩)
    go_ret
    exact ⟨rfl, rfl⟩
  | some x =>
    obtain ⟨c0, c1, c2⟩ := h.cell hx
    rw [atV_some hx] at HA
    generalize (t - 1).toNat * 3 = o at *
    by_cases hz : x.state = 0
    · have hr : K.live t = true := by unfold Ck.live; rw [hx]; simp [hz]
      have n1 : ((x.state : Int) == 0) = true := by rw [beq_iff_eq]; exact hz
      rw [hr]
      clear h hr hx hz c1 c2
      go_enter Tryz.func104, Tryz.ntmps104
      go_wp2_with (go_at_call 109; refine HA.out.mono ?_; rintro e w' ⟨rfl, rfl⟩)
      go_ret
      exact ⟨rfl, rfl⟩
    · have hr : K.live t = false := by unfold Ck.live; rw [hx]; simp [hz]
      have n1 : ((x.state : Int) == 0) = false := by rw [beq_eq_false_iff_ne]; exact hz
      rw [hr]
      clear h hr hx hz c1 c2
      go_enter Tryz.func104, Tryz.ntmps104
      go_wp2_with (go_at_call 109; refine HA.out.mono ?_; rintro e w' ⟨rfl, rfl⟩)
      go_ret
      exact ⟨rfl, rfl⟩
end Go.Proofs.YtibfpkfpmkghhaaGreatDoor

namespace Go.Proofs.YtibfpkfpmkghhaaGreatDoor
open Go.RowKit Go.Lig

theorem off_ne {K : Ck} {t b : Int} {x y : Tx} (hx : K.tx t = some x) (hy : K.tx b = some y) (h : t ≠ b) : (t - 1).toNat * 3 ≠ (b - 1).toNat * 3 := by
  have h1 := (Ck.tx_some hx).1
  have h2 := (Ck.tx_some hy).1
  omega
set_option maxHeartbeats 1000000 in
theorem sees_none (w : World) (c g : Nat) (K : Ck) (h : ClkRow w c g K) (hs : K.l.length ≤ 1000000) (t b : Int) (hn : K.tx t = none ∨ K.tx b = none) :
    Calls Tryz.prog 113 #[.pointer (some ⟨c, 0, none⟩), .int .i64 t, .int .i64 b] w fun e w' => e = .returned (.bool false) ∧ Fr No w w' := by
  have HX := hid (clkat_any w c g K h hs t)
  have HY := hid (clkat_any w c g K h hs b)
  cases hx : K.tx t with
  | none =>
    rw [atV_none hx] at HX
    cases hy : K.tx b with
    | none =>
        rw [atV_none hy] at HY
        clear h hx hy hn
        go_enter Tryz.func113, Tryz.ntmps113
        go_wp2_with fail
        refine (HX.out).mono ?_
        rintro e w' ⟨rfl, rfl⟩
        go_wp2_with fail
        refine (HY.out).mono ?_
        rintro e w' ⟨rfl, rfl⟩
        go_wp2_with fail
        refine wp_region_sched (by kernel_rfl) 30 [] [0, 1, 2, 3, 4, 5, 6, 7, 8, 9, 10, 11, 12, 13, 14, 15, 16, 17, 18, 19, 20, 21, 22, 23, 24, 25, 26, 27, 28, 29] (AgC [g] w.drew) (by kernel_rfl) (AgC.refl _ _) ?_
        simp only [List.map_cons, List.map_nil, List.contains_nil, nth_zero, nth_succ]
        repeat (refine sched_quiet (fun K hK => ?_); go_simp; refine hK _ ?_; clear hK K)
        refine sched_nil ?_
        go_wp2_with fail
        go_ret
        exact ⟨rfl, (Fr.refl No w).drew⟩
    | some y =>
        rw [atV_some hy] at HY
        generalize (b - 1).toNat * 3 = o2 at *
        clear h hx hy hn
        go_enter Tryz.func113, Tryz.ntmps113
        go_wp2_with fail
        refine (HX.out).mono ?_
        rintro e w' ⟨rfl, rfl⟩
        go_wp2_with fail
        refine (HY.out).mono ?_
        rintro e w' ⟨rfl, rfl⟩
        go_wp2_with fail
        refine wp_region_sched (by kernel_rfl) 30 [] [0, 1, 2, 3, 4, 5, 6, 7, 8, 9, 10, 11, 12, 13, 14, 15, 16, 17, 18, 19, 20, 21, 22, 23, 24, 25, 26, 27, 28, 29] (AgC [g] w.drew) (by kernel_rfl) (AgC.refl _ _) ?_
        simp only [List.map_cons, List.map_nil, List.contains_nil, nth_zero, nth_succ]
        repeat (refine sched_quiet (fun K hK => ?_); go_simp; refine hK _ ?_; clear hK K)
        refine sched_nil ?_
        go_wp2_with fail
        go_ret
        exact ⟨rfl, (Fr.refl No w).drew⟩
  | some x =>
    rw [atV_some hx] at HX
    cases hy : K.tx b with
    | none =>
        rw [atV_none hy] at HY
        generalize (t - 1).toNat * 3 = o1 at *
        clear h hx hy hn
        go_enter Tryz.func113, Tryz.ntmps113
        go_wp2_with fail
        refine (HX.out).mono ?_
        rintro e w' ⟨rfl, rfl⟩
        go_wp2_with fail
        refine (HY.out).mono ?_
        rintro e w' ⟨rfl, rfl⟩
        go_wp2_with fail
        refine wp_region_sched (by kernel_rfl) 30 [] [0, 1, 2, 3, 4, 5, 6, 7, 8, 9, 10, 11, 12, 13, 14, 15, 16, 17, 18, 19, 20, 21, 22, 23, 24, 25, 26, 27, 28, 29] (AgC [g] w.drew) (by kernel_rfl) (AgC.refl _ _) ?_
        simp only [List.map_cons, List.map_nil, List.contains_nil, nth_zero, nth_succ]
        repeat (refine sched_quiet (fun K hK => ?_); go_simp; refine hK _ ?_; clear hK K)
        refine sched_nil ?_
        go_wp2_with fail
        go_ret
        exact ⟨rfl, (Fr.refl No w).drew⟩
    | some y => rw [hx, hy] at hn; rcases hn with h0 | h0 <;> cases h0
theorem infoTx : ∃ j, Tryz.prog.info? 143 = some j ∧ j.size = 3 := by
  have h : (Tryz.prog.info? 143).map (·.size) = some 3 := by kernel_rfl
  obtain ⟨j, h1, h2⟩ := Option.map_eq_some_iff.1 h
  exact ⟨j, h1, h2⟩
theorem eql_same (w0 : World) (g o : Nat) : ∀ a : Agr [g] w0, (binOp .eql 149 (.pointer (some ⟨g, o, none⟩)) (.pointer (some ⟨g, o, none⟩))).run Tryz.prog a.val = .ok (.bool true) a.val := fun a => by
  obtain ⟨j, hj, _⟩ := infoTx
  exact run_eql_ptr_same a.val _ Tryz.underlying149 hj
theorem eql_other (w0 : World) (g o1 o2 : Nat) (hne : o1 ≠ o2) {cur : Array Value} {ty : TypeId} (hg : w0.heap[g]? = some (.cells cur ty (0, 0))) : ∀ a : Agr [g] w0, (binOp .eql 149 (.pointer (some ⟨g, o1, none⟩)) (.pointer (some ⟨g, o2, none⟩))).run Tryz.prog a.val = .ok (.bool false) a.val := fun a => by
  obtain ⟨j, hj, hs⟩ := infoTx
  have hb := heap_agr a hg (by simp)
  exact run_eql_ptr_other a.val Tryz.underlying149 hj (by omega) (fun e => hne (by injection e)) hb hb
set_option maxHeartbeats 1000000 in
theorem sees_self (w : World) (c g : Nat) (K : Ck) (h : ClkRow w c g K) (hs : K.l.length ≤ 1000000) (t : Int) (x : Tx) (hx : K.tx t = some x) :
    Calls Tryz.prog 113 #[.pointer (some ⟨c, 0, none⟩), .int .i64 t, .int .i64 t] w fun e w' => e = .returned (.bool true) ∧ Fr No w w' := by
  have HX := hid (clkat_any w c g K h hs t)
  have HY := hid (clkat_any w c g K h hs t)
  rw [atV_some hx] at HX HY
  generalize (t - 1).toNat * 3 = o1 at *
  have hq := eql_same w.drew g o1
  clear h hx
  go_enter Tryz.func113, Tryz.ntmps113
  go_wp2_with fail
  refine (HX.out).mono ?_
  rintro e w' ⟨rfl, rfl⟩
  go_wp2_with fail
  refine (HY.out).mono ?_
  rintro e w' ⟨rfl, rfl⟩
  go_wp2_with fail
  refine wp_region_sched (by kernel_rfl) 30 [] [0, 1, 2, 3, 4, 5, 6, 7, 8, 9, 10, 11, 12, 13, 14, 15, 16, 17, 18, 19, 20, 21, 22, 23, 24, 25, 26, 27, 28, 29] (AgC [g] w.drew) (by kernel_rfl) (AgC.refl _ _) ?_
  simp only [List.map_cons, List.map_nil, List.contains_nil, nth_zero, nth_succ]
  repeat (refine sched_quiet (fun K hK => ?_); go_simp; refine hK _ ?_; clear hK K)
  refine sched_nil ?_
  go_wp2_with fail
  go_ret
  exact ⟨rfl, (Fr.refl No w).drew⟩
end Go.Proofs.YtibfpkfpmkghhaaGreatDoor
