/- Walk and Back. -/
import Derived.Test.YtdoapfgcjmkfhaaChC
namespace Go.Proofs.Ytdoapfgcjmkfhaa
open Go.RowKit Go.Lig

theorem infoInt : (Try.prog.info? 3).map (fun i => (i.zero, i.size, i.bytes)) = some (some (.int .i64 0), 1, 8) := by kernel_rfl
def iv (x : Int) : Value := .int .i64 x
theorem iv_one (l : List Int) : ∀ u ∈ l.map iv, u.oneCell' = true := by
  intro u hu
  obtain ⟨x, _, rfl⟩ := List.mem_map.1 hu
  rfl
/-- v is a slice of ints of its own, made since w -/
structure OwnI (w w' : World) (v : Value) (l : List Int) : Prop where
  row : w'.ownsRow 0 3 1 v l.length (l.map iv)
  blk : ∀ j, v.ownBlock = some j → w.heap.size ≤ j
  fr : Fr No w w'
theorem OwnI.nil (w : World) : OwnI w w (.slice none 0 0) [] := ⟨World.ownsRow_nil _ _ _ _, fun _ e => (by cases e), Fr.refl _ _⟩
theorem OwnI.rd {w w' : World} {v : Value} {l : List Int} (h : OwnI w w' v l) : Rd w' v l.length 1 (l.map iv) := Rd.of_owns h.row (iv_one l)
theorem OwnI.next {w w1 w2 : World} {v : Value} {l : List Int} (h : OwnI w w1 v l) (hf : Fr No w1 w2) : OwnI w w2 v l := ⟨fd_owns h.row hf, h.blk, h.fr.thenNo hf⟩
theorem OwnI.ahead {w0 w w1 : World} {v : Value} {l : List Int} (h : OwnI w w1 v l) (hf : Fr No w0 w) : OwnI w0 w1 v l := ⟨h.row, fun j hj => Nat.le_trans hf.size (h.blk j hj), hf.thenNo h.fr⟩
theorem OwnI.app {w w1 w2 w3 : World} {v v' : Value} {l : List Int} {x : Int} {cs : Array Value} {t : TypeId} (h : OwnI w w1 v l) (p2 : New cs t w1 w2) (o : w3.ownsRow 0 3 1 v' (l.length + 1) (l.map iv ++ [iv x])) (f : Fr (fun k => v.ownBlock = some k) w2 w3)
    (b : ∀ k, v'.ownBlock = some k → v.ownBlock = some k ∨ w2.heap.size ≤ k) : OwnI w w3 v' (l ++ [x]) := by
  refine ⟨by simpa using o, fun j hj => ?_, (h.fr.thenNo p2.fr).trans f (fun k hk e => by have := h.blk k e; omega)⟩
  rcases b j hj with e | e
  · exact h.blk j e
  · have := h.fr.size
    have := p2.fr.size
    omega
def slLen : Value → Nat
  | .slice _ n _ => n
  | _ => 0
theorem nxt_get : ∀ (l : List Int) (i : Nat) (y : Int), l.Nodup → l[i]? = some y → nxt l y = l[i + 1]?
  | [], i, y, _, h => by simp at h
  | z :: l, 0, y, hn, h => by
    obtain rfl : z = y := by simpa using h
    simp [nxt, List.head?_eq_getElem?]
  | z :: l, i + 1, y, hn, h => by
    have h' : l[i]? = some y := by simpa using h
    have hn' := List.nodup_cons.1 hn
    have : z ≠ y := fun e => hn'.1 (e ▸ List.mem_of_getElem? h')
    simp only [nxt, if_neg this]
    rw [nxt_get l i y hn'.2 h']
    simp
theorem take_snoc {l : List Int} {i : Nat} {y : Int} (h : l[i]? = some y) : l.take (i + 1) = l.take i ++ [y] := by
  rw [List.take_add_one, h]
  rfl
theorem listPtr_none {I : List (Int × Int)} {B : Role → Nat} {k : Int} (h : ids I k = []) : listPtr I B k = .pointer none := if_pos h
theorem listPtr_some {I : List (Int × Int)} {B : Role → Nat} {k : Int} (h : ids I k ≠ []) : listPtr I B k = .pointer (some ⟨B (.list k), 0, none⟩) := if_neg h
set_option maxHeartbeats 1000000 in
theorem walk_any (w : World) (c : Nat) (I : List (Int × Int)) (B : Role → Nat) (ρ : Nat → Option Role) (m : Nat) (h : ChAt w c I B ρ m) (k : Int) (hk : keyOk k) (hlen : I.length ≤ 1000000) :
    Calls Try.prog 13 #[.pointer (some ⟨c, 0, none⟩), .int .i64 k] w fun e w' => ∃ v, e = .returned v ∧ OwnI w w' v (ids I k) := by
  have HA := hid (at_any w c I B ρ m h k hk)
  by_cases hn : ids I k = []
  · rw [listPtr_none hn] at HA
    have HN := hid hn
    clear h hn
    go_enter Try.func13, Try.ntmps13
    go_wp2_with (go_at_call 22; refine HA.out.mono ?_; rintro e w' ⟨rfl, rfl⟩)
    go_ret
    refine ⟨_, rfl, ?_⟩
    rw [HN.out]
    exact OwnI.nil w
  · rw [listPtr_some hn] at HA
    have hL := h.clist k hn
    obtain ⟨c0, c1, c2⟩ := cells3 hL
    have hll : (ids I k).length ≤ 1000000 := by
      refine Nat.le_trans ?_ hlen
      unfold ids
      rw [List.length_map]
      exact List.length_filter_le _ _
    obtain ⟨L, hL'⟩ : ∃ L, L = ids I k := ⟨_, rfl⟩
    have hlL : L.length ≤ 1000000 := by rw [hL']; simpa using hll
    have hst : ptrO B k (ids I k).head? = ptrO B k L[0]? := by rw [hL', List.head?_eq_getElem?]
    rw [hst] at c0
    have hlink : ∀ i y, L[i]? = some y → w.heap[B (.link k y)]? = some (.cells #[.int .i64 y, ptrO B k (prv (ids I k) y), ptrO B k L[i + 1]?] 50 (0, 0)) := fun i y hy => by
      have hm : y ∈ ids I k := by have := List.mem_of_getElem? hy; rw [hL'] at this; simpa using this
      have := h.clink k y hm
      have e : nxt (ids I k) y = L[i + 1]? := by rw [hL']; exact nxt_get (ids I k) i y (ids_nodup h.nodup k) (hL' ▸ hy)
      rw [e] at this
      exact this
    have H := hid (⟨hlink, hL'⟩ : _ ∧ _)
    clear h hn hL hll c2 c1 hlink hL' hst
    go_enter Try.func13, Try.ntmps13
    go_wp2_with (go_at_call 22; refine HA.out.mono ?_; rintro e w' ⟨rfl, rfl⟩)
    go_loopw [6, 7] (fun vo vx wr => ∃ (i : Nat) (ao : Option Addr) (co : Nat), i ≤ L.length ∧ vo = .slice ao i co ∧ vx = ptrO B k L[i]? ∧ Hid (OwnI w wr (.slice ao i co) (L.take i))) (fun vo _ _ => L.length - slLen vo)
    case atStart => exact ⟨0, none, 0, Nat.zero_le _, rfl, rfl, OwnI.nil w⟩
    case round =>
      obtain ⟨i, ao, co, hi, rfl, rfl, ho⟩ := hrel
      by_cases hlt : i < L.length
      · obtain ⟨y, hy⟩ : ∃ y, L[i]? = some y := ⟨_, List.getElem?_eq_getElem hlt⟩
        rw [hy, show ptrO B k (some y) = .pointer (some ⟨B (.link k y), 0, none⟩) from rfl]
        have hlk := H.out.1 i y hy
        obtain ⟨x0, x1, x2⟩ := cells3 (ho.out.fr.keep hlk (fun e => e))
        have HL := hid hlk
        have HY := hid hy
        clear hy hlk x1 x2
        go_wp2_with (first | (refine wpList_buildSlice1 rfl 24 3 (.tmp 27) rfl _ 1 8 Try.underlying24 infoInt (by decide) (by decide) (.int .i64 y) rfl rfl ?_; intro w2 p2; have P2 := hid p2; clear p2) | (refine wpList_app rfl (.tmp 23) (.tmp 28) 24 rfl 3 (.int .i64 0) 1 8 Try.underlying24 infoInt rfl (by decide) (.slice ao i co) i ((L.take i).map iv) rfl (by have := fd_owns ho.out.row P2.out.fr; rwa [List.length_take, Nat.min_eq_left hi] at this) (.slice (some ⟨wr.heap.size, 0, none⟩) 1 1) 1 [iv y] rfl (Rd.block (cs := [iv y]) P2.out.at_ 1 1 1 rfl (by simp [iv, Value.oneCell']) (Nat.le_refl _) (by simp [maxLen])) (by unfold maxLen; omega) (by omega) ?_; rintro v3 w3 o3 f3 b3 -; have hx3 := (cells3 ((((ho.out.fr.thenNo P2.out.fr).trans f3 (fun k hk e => by have := ho.out.blk k e; omega)).keep HL.out (fun e => e)))).2.2; obtain ⟨ao3, co3, rfl⟩ := ownsRow_slice o3; have H3 := hid (ho.out.app (x := y) P2.out (by rw [List.length_take, Nat.min_eq_left hi]; exact o3) f3 b3); clear o3 f3 b3))
        go_roundw
        case rel => exact ⟨i + 1, ao3, co3, by omega, rfl, rfl, by rw [take_snoc HY.out]; exact H3.out⟩
        case measure => simp [slLen]; omega
      · obtain rfl : i = L.length := by omega
        rw [List.getElem?_eq_none (Nat.le_refl _), show ptrO B k none = .pointer none from rfl]
        have HO := hid (show OwnI w wr (.slice ao L.length co) L by have := ho.out; rwa [List.take_length] at this)
        clear ho hlt
        go_wp2
        go_ret
        exact ⟨_, rfl, H.out.2 ▸ HO.out⟩
set_option maxHeartbeats 1000000 in
theorem back_any (w : World) (c : Nat) (I : List (Int × Int)) (B : Role → Nat) (ρ : Nat → Option Role) (m : Nat) (h : ChAt w c I B ρ m) (k : Int) (hk : keyOk k) (hlen : I.length ≤ 1000000) :
    Calls Try.prog 14 #[.pointer (some ⟨c, 0, none⟩), .int .i64 k] w fun e w' => ∃ v, e = .returned v ∧ OwnI w w' v ((ids I k).reverse) := by
  have HA := hid (at_any w c I B ρ m h k hk)
  by_cases hn : ids I k = []
  · rw [listPtr_none hn] at HA
    have HN := hid hn
    clear h hn
    go_enter Try.func14, Try.ntmps14
    go_wp2_with (go_at_call 22; refine HA.out.mono ?_; rintro e w' ⟨rfl, rfl⟩)
    go_ret
    refine ⟨_, rfl, ?_⟩
    rw [HN.out]
    exact OwnI.nil w
  · rw [listPtr_some hn] at HA
    have hL := h.clist k hn
    obtain ⟨c0, c1, c2⟩ := cells3 hL
    have hll : (ids I k).length ≤ 1000000 := by
      refine Nat.le_trans ?_ hlen
      unfold ids
      rw [List.length_map]
      exact List.length_filter_le _ _
    obtain ⟨L, hL'⟩ : ∃ L, L = (ids I k).reverse := ⟨_, rfl⟩
    have hlL : L.length ≤ 1000000 := by rw [hL']; simpa using hll
    have hst : ptrO B k (ids I k).getLast? = ptrO B k L[0]? := by rw [hL', ← List.head?_eq_getElem?, List.head?_reverse]
    rw [hst] at c1
    have hlink : ∀ i y, L[i]? = some y → w.heap[B (.link k y)]? = some (.cells #[.int .i64 y, ptrO B k L[i + 1]?, ptrO B k (nxt (ids I k) y)] 50 (0, 0)) := fun i y hy => by
      have hm : y ∈ ids I k := by have := List.mem_of_getElem? hy; rw [hL'] at this; simpa using this
      have := h.clink k y hm
      have e : prv (ids I k) y = L[i + 1]? := by rw [hL']; exact nxt_get (ids I k).reverse i y (List.pairwise_reverse.2 ((ids_nodup h.nodup k).imp Ne.symm)) (hL' ▸ hy)
      rw [e] at this
      exact this
    have H := hid (⟨hlink, hL'⟩ : _ ∧ _)
    clear h hn hL hll c2 c0 hlink hL' hst
    go_enter Try.func14, Try.ntmps14
    go_wp2_with (go_at_call 22; refine HA.out.mono ?_; rintro e w' ⟨rfl, rfl⟩)
    go_loopw [6, 7] (fun vo vx wr => ∃ (i : Nat) (ao : Option Addr) (co : Nat), i ≤ L.length ∧ vo = .slice ao i co ∧ vx = ptrO B k L[i]? ∧ Hid (OwnI w wr (.slice ao i co) (L.take i))) (fun vo _ _ => L.length - slLen vo)
    case atStart => exact ⟨0, none, 0, Nat.zero_le _, rfl, rfl, OwnI.nil w⟩
    case round =>
      obtain ⟨i, ao, co, hi, rfl, rfl, ho⟩ := hrel
      by_cases hlt : i < L.length
      · obtain ⟨y, hy⟩ : ∃ y, L[i]? = some y := ⟨_, List.getElem?_eq_getElem hlt⟩
        rw [hy, show ptrO B k (some y) = .pointer (some ⟨B (.link k y), 0, none⟩) from rfl]
        have hlk := H.out.1 i y hy
        obtain ⟨x0, x1, x2⟩ := cells3 (ho.out.fr.keep hlk (fun e => e))
        have HL := hid hlk
        have HY := hid hy
        clear hy hlk x1 x2
        go_wp2_with (first | (refine wpList_buildSlice1 rfl 24 3 (.tmp 27) rfl _ 1 8 Try.underlying24 infoInt (by decide) (by decide) (.int .i64 y) rfl rfl ?_; intro w2 p2; have P2 := hid p2; clear p2) | (refine wpList_app rfl (.tmp 23) (.tmp 28) 24 rfl 3 (.int .i64 0) 1 8 Try.underlying24 infoInt rfl (by decide) (.slice ao i co) i ((L.take i).map iv) rfl (by have := fd_owns ho.out.row P2.out.fr; rwa [List.length_take, Nat.min_eq_left hi] at this) (.slice (some ⟨wr.heap.size, 0, none⟩) 1 1) 1 [iv y] rfl (Rd.block (cs := [iv y]) P2.out.at_ 1 1 1 rfl (by simp [iv, Value.oneCell']) (Nat.le_refl _) (by simp [maxLen])) (by unfold maxLen; omega) (by omega) ?_; rintro v3 w3 o3 f3 b3 -; have hx3 := (cells3 ((((ho.out.fr.thenNo P2.out.fr).trans f3 (fun k hk e => by have := ho.out.blk k e; omega)).keep HL.out (fun e => e)))).2.1; obtain ⟨ao3, co3, rfl⟩ := ownsRow_slice o3; have H3 := hid (ho.out.app (x := y) P2.out (by rw [List.length_take, Nat.min_eq_left hi]; exact o3) f3 b3); clear o3 f3 b3))
        go_roundw
        case rel => exact ⟨i + 1, ao3, co3, by omega, rfl, rfl, by rw [take_snoc HY.out]; exact H3.out⟩
        case measure => simp [slLen]; omega
      · obtain rfl : i = L.length := by omega
        rw [List.getElem?_eq_none (Nat.le_refl _), show ptrO B k none = .pointer none from rfl]
        have HO := hid (show OwnI w wr (.slice ao L.length co) L by have := ho.out; rwa [List.take_length] at this)
        clear ho hlt
        go_wp2
        go_ret
        exact ⟨_, rfl, H.out.2 ▸ HO.out⟩
theorem walk_nil (w : World) (k : Int) : Calls Try.prog 13 #[.pointer none, .int .i64 k] w fun e w' => e = .returned (.slice none 0 0) ∧ w = w' := by
  go_enter Try.func13, Try.ntmps13
  go_wp2_with (go_at_call 22; refine (at_nil _ _).mono ?_; rintro e w' ⟨rfl, rfl⟩)
  go_ret
  exact ⟨rfl, rfl⟩
theorem back_nil (w : World) (k : Int) : Calls Try.prog 14 #[.pointer none, .int .i64 k] w fun e w' => e = .returned (.slice none 0 0) ∧ w = w' := by
  go_enter Try.func14, Try.ntmps14
  go_wp2_with (go_at_call 22; refine (at_nil _ _).mono ?_; rintro e w' ⟨rfl, rfl⟩)
  go_ret
  exact ⟨rfl, rfl⟩
end Go.Proofs.Ytdoapfgcjmkfhaa
