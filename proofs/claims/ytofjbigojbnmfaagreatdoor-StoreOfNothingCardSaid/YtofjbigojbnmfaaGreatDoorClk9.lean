/- The clock: Commit, Abort. -/
import Derived.Test.YtofjbigojbnmfaaGreatDoorClk7
namespace Go.Lig
open Go.RowKit
theorem owns_setN {w w' : World} {base : Nat} {e : TypeId} {size g c n : Nat} {xs : List Value} (h : w.ownsRow base e size (.slice (some ⟨g, 0, none⟩) n c) n xs) {cur : Array Value} (hg : w.heap[g]? = some (.cells cur e (0, 0))) {k : Nat} {v : Value}
    (p : Put g (cur.setIfInBounds k v) e w w') : w'.ownsRow base e size (.slice (some ⟨g, 0, none⟩) n c) n (xs.set k v) := by
  obtain ⟨hl, ⟨e', _⟩ | ⟨g', cap, cur', e', hb, hg', hnc, hcm, hcs, ht⟩⟩ := h
  · cases e'
  · simp only [Value.slice.injEq, Option.some.injEq, Addr.mk.injEq, and_true, true_and] at e'
    obtain ⟨rfl, rfl⟩ := e'
    rw [hg] at hg'
    obtain rfl : cur = cur' := by simpa using hg'
    refine ⟨by simpa using hl, .inr ⟨g, c, _, rfl, hb, p.at_, hnc, hcm, by simpa using hcs, ?_⟩⟩
    rw [Array.toList_setIfInBounds, List.take_set, ht]
theorem flat_set {α : Type} {f : α → List Value} {m : Nat} (hf : ∀ x, (f x).length = m) (l : List α) (k : Nat) (x x' : α) (hx : l[k]? = some x) (j : Nat) (hj : j < m) (v : Value) (hx' : f x' = (f x).set j v) : (l.flatMap f).set (k * m + j) v = (l.set k x').flatMap f := by
  induction l generalizing k with
  | nil => simp at hx
  | cons y l ih =>
    cases k with
    | zero =>
      obtain rfl : y = x := by simpa using hx
      rw [List.set_cons_zero, List.flatMap_cons, List.flatMap_cons, hx', Nat.zero_mul, Nat.zero_add, List.set_append_left _ _ (by rw [hf]; exact hj)]
    | succ k =>
      have e : (k + 1) * m + j = (f y).length + (k * m + j) := by rw [hf, Nat.succ_mul]; omega
      rw [List.set_cons_succ, List.flatMap_cons, List.flatMap_cons, e, List.set_append_right _ _ (by omega), Nat.add_sub_cancel_left, ih k (by simpa using hx)]
end Go.Lig
namespace Go.Proofs.YtofjbigojbnmfaaGreatDoor
open Go.RowKit Go.Lig
theorem Ck.live_some {K : Ck} {t : Int} (h : K.live t = true) : ∃ x, K.tx t = some x ∧ x.state = 0 := by
  unfold Ck.live at h
  cases hx : K.tx t with
  | none => rw [hx] at h; cases h
  | some x => rw [hx] at h; exact ⟨x, rfl, by simpa using h⟩
theorem abort_no (w : World) (T : Nat → Prop) (c : Nat) (K : Ck) (h : ClockAt w T c K) (t : Int) (hn : K.live t = false) :
    Calls Tryz.prog 38 #[.pointer (some ⟨c, 0, none⟩), .int .i64 t] w fun e w' => e = .returned (.int .i64 5) ∧ w = w' := by
  obtain ⟨g, hr, -⟩ := h.row
  have HL := hid (live_any w c g K hr h.small.1 t)
  rw [hn] at HL
  clear h hr hn
  go_enter Tryz.func38, Tryz.ntmps38
  go_wp2_with (go_at_call 89; refine HL.out.mono ?_; rintro e w1 ⟨rfl, rfl⟩)
  go_ret
  exact ⟨rfl, rfl⟩
theorem commit_no (w : World) (T : Nat → Prop) (c : Nat) (K : Ck) (h : ClockAt w T c K) (t : Int) (hn : K.live t = false) :
    Calls Tryz.prog 37 #[.pointer (some ⟨c, 0, none⟩), .int .i64 t] w fun e w' => e = .returned (.int .i64 5) ∧ w = w' := by
  obtain ⟨g, hr, -⟩ := h.row
  have HL := hid (live_any w c g K hr h.small.1 t)
  rw [hn] at HL
  clear h hr hn
  go_enter Tryz.func37, Tryz.ntmps37
  go_wp2_with (go_at_call 89; refine HL.out.mono ?_; rintro e w1 ⟨rfl, rfl⟩)
  go_ret
  exact ⟨rfl, rfl⟩
set_option maxHeartbeats 1000000 in
theorem abort_ok (w : World) (T : Nat → Prop) (c : Nat) (K : Ck) (h : ClockAt w T c K) (t : Int) (hn : K.live t = true) :
    Calls Tryz.prog 38 #[.pointer (some ⟨c, 0, none⟩), .int .i64 t] w fun e w' => e = .returned (.int .i64 0) ∧ ClockAt w' T c (K.abort t) ∧ Fr T w w' := by
  obtain ⟨g, hr, hgT⟩ := h.row
  obtain ⟨x, hx, hx0⟩ := Ck.live_some hn
  have HL := hid (live_any w c g K hr h.small.1 t)
  have HA := hid (clkat_any w c g K hr h.small.1 t)
  rw [hn] at HL
  rw [atV_some hx] at HA
  obtain ⟨a, n, h1, h2, h3, h4⟩ := id hr.ex
  obtain ⟨t1, t2, t3, t4⟩ := Ck.tx_some hx
  obtain rfl := h3 (by omega)
  obtain ⟨g', cur, e', hb, hg, hnc, hcs, ht⟩ := owns_at h2 (by omega)
  obtain rfl : g = g' := by simpa using e'
  have hko : (t - 1).toNat * 3 < cur.size := by rw [hcs]; omega
  have hset := flat_set (f := tcell) (m := 3) (fun _ => rfl) K.l (t - 1).toNat x { x with state := 2 } t3 0 (by decide) (.int .i64 2) rfl
  rw [Nat.add_zero] at hset
  have HH := hid (⟨h, h1, h2, hgT (by omega), h4, hset, hg, hko⟩ : _ ∧ _ ∧ _ ∧ _ ∧ _ ∧ _ ∧ _ ∧ _)
  have HK : Hid (K.abort t = { K with l := K.l.set (t - 1).toNat { x with state := 2 } }) := hid (by unfold Ck.abort Ck.put; rw [hx])
  generalize hoo : (t - 1).toNat * 3 = o at *
  clear h hr hn hx hx0 h1 h2 h3 h4 hgT t1 t2 t3 t4 hb hg hnc hcs ht hko hset e'
  go_enter Tryz.func38, Tryz.ntmps38
  go_wp2_with (first | (go_at_call 89; refine HL.out.mono ?_; rintro e w1 ⟨rfl, rfl⟩) | (go_at_call 94; refine HA.out.mono ?_; rintro e w1 ⟨rfl, rfl⟩) | (refine wpList_store1 rfl 3 (.tmp 13) (.const (.int .i64 2)) rfl g o rfl cur 130 (.int .i64 2) rfl (by kernel_rfl) HH.out.2.2.2.2.2.2.1 HH.out.2.2.2.2.2.2.2 rfl ?_; intro w2 p2; have P2 := hid p2; clear p2))
  go_ret
  obtain ⟨h, h1, h2, hgT, h4, hset, hg, hko⟩ := HH.out
  refine ⟨rfl, ?_, P2.out.fr.mono (fun k _ e => by subst e; exact hgT)⟩
  rw [HK.out]
  refine ⟨⟨_, P2.out.keep h1 (fun e => h4 e.symm), ?_, fun k hk => ?_⟩, h.root, fun k hk => Nat.lt_of_lt_of_le (h.bound k hk) P2.out.fr.size, by simpa using h.small⟩
  · have := owns_setN h2 hg P2.out
    rw [hset] at this
    simpa using this
  · obtain rfl : g = k := Option.some.inj hk
    exact ⟨hgT, h4⟩
end Go.Proofs.YtofjbigojbnmfaaGreatDoor
