/- ChainMiddle: the walk. -/
import Derived.Test.YtdoapfgcjmkfhaaChG
namespace Go.Proofs.Ytdoapfgcjmkfhaa
open Go.RowKit Go.Lig

/-- lists of the law's own, and a slice of ints of its own beside them -/
structure LW (W w : World) (S : Nat → Prop) (c : Nat) (I : List (Int × Int)) (m : Nat) (v : Value) (l : List Int) : Prop where
  cw : CW W w S c I m
  own : OwnI W w v l
  apart : ∀ j, v.ownBlock = some j → ¬ S j
theorem LW.step {W w w' : World} {S S' : Nat → Prop} {c : Nat} {I I' : List (Int × Int)} {m m' : Nat} {v : Value} {l : List Int} (h : LW W w S c I m v l) (h' : CW W w' S' c I' m') (hf : Fr S w w') (hs : ∀ q, S' q → S q ∨ w.heap.size ≤ q) : LW W w' S' c I' m' v l := by
  refine ⟨h', ⟨hf.owns h.own.row h.apart, h.own.blk, h'.fr⟩, fun j hj e => ?_⟩
  rcases hs j e with e | e
  · exact h.apart j hj e
  · have := (h.own.row.lt j hj).2
    omega
theorem LW.nextNo {W w w' : World} {S : Nat → Prop} {c : Nat} {I : List (Int × Int)} {m : Nat} {v : Value} {l : List Int} (h : LW W w S c I m v l) (hf : Fr No w w') : LW W w' S c I m v l := ⟨h.cw.nextNo hf, h.own.next hf, h.apart⟩
/-- append([]int{x}, v...) -/
theorem LW.cons {W w w2 w3 : World} {S : Nat → Prop} {c : Nat} {I : List (Int × Int)} {m : Nat} {v v' : Value} {l : List Int} {x : Int} {cs : Array Value} {t : TypeId} (h : LW W w S c I m v l) (p2 : New cs t w w2)
    (o : w3.ownsRow 0 3 1 v' (1 + l.length) ([iv x] ++ l.map iv)) (f : Fr (fun k => k = w.heap.size) w2 w3) (b : ∀ k, v'.ownBlock = some k → k = w.heap.size ∨ w2.heap.size ≤ k) : LW W w3 S c I m v' (x :: l) := by
  have hz := h.cw.fr.size
  have hz2 := p2.fr.size
  have hlt : ∀ j, v'.ownBlock = some j → w.heap.size ≤ j := fun j hj => by
    rcases b j hj with e | e <;> omega
  have hcw := (h.cw.nextNo p2.fr).next f (fun k hk e => by have := h.cw.at_.bound k hk; omega) (fun k e => by omega)
  exact ⟨hcw, ⟨by have e : (x :: l).length = 1 + l.length := by simp [Nat.add_comm]
                  rw [e]
                  exact o, fun j hj => Nat.le_trans hz (hlt j hj), hcw.fr⟩, fun j hj e => by have := h.cw.at_.bound j e; have := hlt j hj; omega⟩
/-- append(v, x) -/
theorem LW.snoc {W w w2 w3 : World} {S : Nat → Prop} {c : Nat} {I : List (Int × Int)} {m : Nat} {v v' : Value} {l : List Int} {x : Int} {cs : Array Value} {t : TypeId} (h : LW W w S c I m v l) (p2 : New cs t w w2)
    (o : w3.ownsRow 0 3 1 v' (l.length + 1) (l.map iv ++ [iv x])) (f : Fr (fun k => v.ownBlock = some k) w2 w3) (b : ∀ k, v'.ownBlock = some k → v.ownBlock = some k ∨ w2.heap.size ≤ k) : LW W w3 S c I m v' (l ++ [x]) := by
  have hz2 := p2.fr.size
  have hcw := (h.cw.nextNo p2.fr).next f (fun k hk e => h.apart k e hk) (fun k e => h.own.blk k e)
  exact ⟨hcw, h.own.app p2 o f b, fun j hj e => by
    rcases b j hj with h1 | h1
    · exact h.apart j h1 e
    · have := h.cw.at_.bound j e
      omega⟩
theorem new_own1 {w w2 : World} {x : Int} (p : New #[iv x] 3 w w2) : w2.ownsRow 0 3 1 (.slice (some ⟨w.heap.size, 0, none⟩) 1 1) 1 [iv x] :=
  ⟨rfl, .inr ⟨w.heap.size, 1, #[iv x], rfl, Nat.zero_le _, p.at_, Nat.le_refl _, by simp [maxLen], rfl, rfl⟩⟩
theorem new_rd1 {w w2 : World} {x : Int} (p : New #[iv x] 3 w w2) : Rd w2 (.slice (some ⟨w.heap.size, 0, none⟩) 1 1) 1 1 ([x].map iv) := Rd.of_owns (new_own1 p) (iv_one [x])

/-- the first n, the last of them first, in list 3; without k -/
def midI : Nat → List (Int × Int)
  | 0 => []
  | n + 1 => (3, (n : Int)) :: midI n
def wantM (k : Nat) : Nat → List Int
  | 0 => []
  | n + 1 => if n = k then wantM k n else (n : Int) :: wantM k n
theorem mid_mem (n : Nat) (x : Int) : (3, x) ∈ midI n ↔ 0 ≤ x ∧ x < (n : Int) := by
  induction n with
  | zero => simp only [midI, List.not_mem_nil, false_iff]; omega
  | succ n ih =>
    simp only [midI, List.mem_cons, Prod.mk.injEq, true_and, ih]
    omega
theorem mid_add (n : Nat) : addI (midI n) 3 (n : Int) = midI (n + 1) ∧ decide ((3, (n : Int)) ∉ midI n) = true := by
  have h : ¬ (3, (n : Int)) ∈ midI n := by rw [mid_mem]; omega
  exact ⟨by unfold addI; rw [if_neg h]; rfl, decide_eq_true h⟩
theorem mid_ids (k n : Nat) : ids (cutI (midI n) 3 (k : Int)) 3 = wantM k n := by
  induction n with
  | zero => rfl
  | succ n ih =>
    unfold cutI at ih ⊢
    by_cases e : n = k
    · subst e
      simp only [midI, List.filter_cons, wantM, if_true]
      simpa using ih
    · have h1 : ¬ ((n : Int) = (k : Int)) := by omega
      have h2 : (!(((3 : Int), (n : Int)) == (3, (k : Int)))) = true := by simp [h1]
      simp only [midI, List.filter_cons, wantM, if_neg e, h2, if_true]
      rw [ids_cons_same, ih]
theorem mid_cut (n k : Nat) (h : k < n) : decide ((3, (k : Int)) ∈ midI n) = true ∧ decide ((3, (k : Int)) ∈ cutI (midI n) 3 k) = false ∧ decide ((3, (k : Int)) ∉ cutI (cutI (midI n) 3 k) 3 k) = true ∧ cutI (cutI (midI n) 3 k) 3 k = cutI (midI n) 3 k ∧
    ids (addI (cutI (midI n) 3 k) 3 (k : Int)) 3 = (k : Int) :: wantM k n := by
  have h1 : ¬ (3, (k : Int)) ∈ cutI (midI n) 3 k := by unfold cutI; simp
  have h2 : cutI (cutI (midI n) 3 k) 3 k = cutI (midI n) 3 k := by unfold cutI; rw [List.filter_filter]; congr 1; funext p; exact Bool.and_self _
  refine ⟨decide_eq_true ((mid_mem n k).2 (by omega)), decide_eq_false h1, ?_, h2, ?_⟩
  · rw [h2]; exact decide_eq_true h1
  · unfold addI
    rw [if_neg h1, ids_cons_same, mid_ids]
theorem wantM_len (k n : Nat) : (wantM k n).length ≤ n := by
  induction n with
  | zero => simp [wantM]
  | succ n ih =>
    simp only [wantM]
    split
    · omega
    · simp only [List.length_cons]; omega
theorem key_small (n : Nat) (h : n ≤ 1000000) : keyOk (n : Int) := by
  have e : (Lit.int .i64 (n : Int)).wf = (decide (IntKind.i64.min ≤ (n : Int)) && decide ((n : Int) ≤ IntKind.i64.max)) := rfl
  have e1 : IntKind.i64.min = -9223372036854775808 := rfl
  have e2 : IntKind.i64.max = 9223372036854775807 := rfl
  unfold keyOk
  rw [e, Bool.and_eq_true, e1, e2]
  exact ⟨decide_eq_true (by omega), decide_eq_true (by omega)⟩
theorem OwnI.past {w w1 w2 w3 : World} {v : Value} {l : List Int} {cs : Array Value} {t : TypeId} (h : OwnI w w1 v l) (p : New cs t w1 w2) (f : Fr (fun k => k = w1.heap.size) w2 w3) : OwnI w w3 v l := by
  have h2 := h.next p.fr
  refine ⟨f.owns h2.row (fun j hj e => by have := (h.row.lt j hj).2; omega), h.blk, h2.fr.trans f (fun k hk e => by have := h.fr.size; omega)⟩
set_option maxRecDepth 100000 in
set_option maxHeartbeats 1000000 in
theorem middle_in (W : World) (n k : Nat) (h1 : 1 ≤ n) (h2 : n ≤ 50) (h3 : k < n) :
    Calls Try.prog 3 #[.int .i64 (n : Int), .int .i64 (k : Int)] W fun e w' => e = .returned (.bool true) ∧ Fr No W w' := by
  have t1 : ¬ (n : Int) < 1 := by omega
  have t2 : ¬ (50 : Int) < (n : Int) := by omega
  have t3 : ¬ (k : Int) < 0 := by omega
  have t4 : ¬ (n : Int) ≤ (k : Int) := by omega
  go_enter Try.func3, Try.ntmps3
  go_wp2_with fail
  refine (new_cw (Fr.refl No _)).mono ?_
  rintro e w1 ⟨c, S1, rfl, c1, f1, n1⟩
  have H1 := hid c1
  clear c1 f1 n1 t1 t2 t3 t4
  go_wp2_with fail
  go_loopw [6, 7] (fun vo vi wr => ∃ (i : Nat) (ao : Option Addr) (co : Nat), i ≤ n ∧ vo = .slice ao (wantM k i).length co ∧ vi = .int .i64 (i : Int) ∧ Hid (∃ S, LW W wr S c (midI i) i (.slice ao (wantM k i).length co) (wantM k i))) (fun _ vi _ => n - (intOf vi).toNat)
  case atStart => exact ⟨0, none, 0, Nat.zero_le _, rfl, rfl, S1, H1.out, ⟨World.ownsRow_nil _ _ _ _, fun _ e => (by cases e), H1.out.fr⟩, fun _ e => (by cases e)⟩
  case round =>
    obtain ⟨i, ao, co, hi, rfl, rfl, hR⟩ := hrel
    obtain ⟨S, hL⟩ := hR.out
    have HL := hid hL
    clear hR hL
    by_cases hlt : i < n
    · go_wp2_with fail
      refine (add_cw HL.out.cw 3 (i : Int) rfl (key_small i (by omega)) (by omega) true (mid_add i).2).mono ?_
      rintro e w2 ⟨S2, rfl, h2, f2, n2⟩
      have H2 := hid (HL.out.step ((mid_add i).1 ▸ h2) f2 n2)
      clear h2 f2 n2
      have hwl := wantM_len k i
      by_cases hik : i = k
      · have hw := hid (show wantM k (i + 1) = wantM k i by simp only [wantM, if_pos hik])
        subst hik
        go_wp2_with fail
        go_roundw
        case rel => exact ⟨i + 1, ao, co, by omega, by rw [hw.out], by go_num, S2, by rw [hw.out]; exact H2.out⟩
        case measure => simp [intOf]; omega
      · have hw := hid (show wantM k (i + 1) = (i : Int) :: wantM k i by simp only [wantM, if_neg hik])
        have hne : (((i : Nat) : Int) != ((k : Nat) : Int)) = true := by rw [bne_iff_ne]; omega
        clear hik
        go_wp2_with (first | (refine wpList_buildSlice1 rfl 24 3 (.tmp 38) rfl _ 1 8 Try.underlying24 infoInt (by decide) (by decide) (.int .i64 (i : Int)) rfl rfl ?_; intro w3 p3; have P3 := hid p3; clear p3) | (refine wpList_app rfl (.tmp 39) (.tmp 40) 24 rfl 3 (.int .i64 0) 1 8 Try.underlying24 infoInt rfl (by decide) (.slice (some ⟨w2.heap.size, 0, none⟩) 1 1) 1 [iv i] rfl (new_own1 P3.out) (.slice ao (wantM k i).length co) (wantM k i).length ((wantM k i).map iv) rfl ((H2.out.own.next P3.out.fr).rd) (by unfold maxLen; omega) (by omega) ?_; rintro v4 w4 o4 f4 b4 -; obtain ⟨ao4, co4, rfl⟩ := ownsRow_slice o4; have H4 := hid (H2.out.cons (x := (i : Int)) P3.out o4 (f4.mono (fun q _ e => (Option.some.inj e).symm)) (fun q hq => (b4 q hq).imp (fun e => (Option.some.inj e).symm) id)); clear o4 f4 b4))
        go_roundw
        case rel => exact ⟨i + 1, ao4, co4, by omega, by rw [hw.out]; simp [Nat.add_comm], by go_num, S2, by rw [hw.out]; simpa [Nat.add_comm] using H4.out⟩
        case measure => simp [intOf]; omega
    · obtain rfl : i = n := by omega
      clear hlt hi
      have HC := hid (mid_cut i k h3)
      have HM := hid (mid_ids k i)
      have hwl := wantM_len k i
      go_wp2_with fail
      refine (cut_cw HL.out.cw 3 (k : Int) rfl (key_small k (by omega)) (by omega) true HC.out.1).mono ?_
      rintro e w2 ⟨rfl, h2, f2⟩
      have H2 := hid (HL.out.step h2 f2 (fun _ h => .inl h))
      clear h2 f2
      go_wp2_with fail
      refine (cut_cw H2.out.cw 3 (k : Int) rfl (key_small k (by omega)) (by omega) false HC.out.2.1).mono ?_
      rintro e w3 ⟨rfl, h3', f3⟩
      have H3 := hid (H2.out.step h3' f3 (fun _ h => .inl h))
      clear h3' f3
      go_wp2_with fail
      refine (walk_cw H3.out.cw 3 rfl (by omega)).mono ?_
      rintro e w4 ⟨v4, rfl, o4⟩
      have H4 := hid o4
      clear o4
      go_wp2_with fail
      refine (same_cw (lb := wantM k i) H4.out.rd (H3.out.own.next H4.out.fr).rd true (decide_eq_true (by rw [HC.out.2.2.2.1, HM.out]))).mono ?_
      rintro e w5 ⟨rfl, f5⟩
      have H5 := hid (H3.out.nextNo (H4.out.fr.thenNo f5))
      clear f5
      go_wp2_with fail
      refine (back_cw H5.out.cw 3 rfl (by omega)).mono ?_
      rintro e w6 ⟨v6, rfl, o6⟩
      have H6 := hid o6
      clear o6
      go_wp2_with fail
      refine (turned_any _ _ (wantM k i) (H5.out.own.next H6.out.fr).rd (by omega)).mono ?_
      rintro e w7 ⟨v7, rfl, o7⟩
      have H7 := hid o7
      clear o7
      go_wp2_with fail
      refine (same_cw (H6.out.next H7.out.fr).rd H7.out.rd true (decide_eq_true (by rw [HC.out.2.2.2.1, HM.out]))).mono ?_
      rintro e w8 ⟨rfl, f8⟩
      have H8 := hid (H5.out.nextNo ((H6.out.fr.thenNo H7.out.fr).thenNo f8))
      clear f8
      go_wp2_with fail
      refine (add_cw H8.out.cw 3 (k : Int) rfl (key_small k (by omega)) (by omega) true HC.out.2.2.1).mono ?_
      rintro e w9 ⟨S9, rfl, h9, f9, n9⟩
      have H9 := hid (H8.out.step h9 f9 n9)
      clear h9 f9 n9
      go_wp2_with fail
      refine (walk_cw H9.out.cw 3 rfl (by omega)).mono ?_
      rintro e w10 ⟨v10, rfl, o10⟩
      have H10 := hid o10
      clear o10
      go_wp2_with (first | (refine wpList_buildSlice1 rfl 24 3 (.tmp 72) rfl _ 1 8 Try.underlying24 infoInt (by decide) (by decide) (.int .i64 (k : Int)) rfl rfl ?_; intro w11 p11; have P11 := hid p11; clear p11) | (refine wpList_app rfl (.tmp 73) (.tmp 74) 24 rfl 3 (.int .i64 0) 1 8 Try.underlying24 infoInt rfl (by decide) (.slice (some ⟨w10.heap.size, 0, none⟩) 1 1) 1 [iv k] rfl (new_own1 P11.out) (.slice ao (wantM k i).length co) (wantM k i).length ((wantM k i).map iv) rfl ((H9.out.own.next (H10.out.fr.thenNo P11.out.fr)).rd) (by unfold maxLen; omega) (by omega) ?_; rintro v12 w12 o12 f12 b12 -; have H12 := hid ((H9.out.nextNo H10.out.fr).cons (x := (k : Int)) P11.out o12 (f12.mono (fun q _ e => (Option.some.inj e).symm)) (fun q hq => (b12 q hq).imp (fun e => (Option.some.inj e).symm) id)); have H10b := hid (H10.out.past P11.out (f12.mono (fun q _ e => (Option.some.inj e).symm))); clear o12 f12 b12))
      refine (same_cw (lb := (k : Int) :: wantM k i) H10b.out.rd H12.out.own.rd true (decide_eq_true (by rw [HC.out.2.2.2.1]; exact HC.out.2.2.2.2))).mono ?_
      rintro e w13 ⟨rfl, f13⟩
      have H13 := hid (H12.out.nextNo f13)
      clear f13
      go_wp2_with fail
      refine (known_any _).mono ?_
      rintro e w14 ⟨rfl, f14⟩
      have H14 := hid (H13.out.cw.fr.thenNo f14)
      clear f14
      go_wp2_with fail
      go_ret
      exact ⟨rfl, H14.out⟩
end Go.Proofs.Ytdoapfgcjmkfhaa
