/- A part of the proof: contracts of functions of the program, for the row's text. -/
import Derived.Test.YthadcdoepoglkaaGreatDoorJ11
namespace Go.Proofs.YthadcdoepoglkaaGreatDoor
open Go.RowKit Go.Lig
theorem ChAt.neq {w : World} {c : Nat} {I : List (Int × Int)} {B : Role → Nat} {ρ : Nat → Option Role} {m : Nat} (h : ChAt w c I B ρ m) {r r' : Role} (hr : Live I r) (hr' : Live I r') (e : r ≠ r') : B r ≠ B r' := by
 intro e'
 have h1 := h.rho r hr
 rw [e', h.rho r' hr'] at h1
 exact e (Option.some.inj h1).symm
theorem info_link : (Tryz.prog.info? 237).map (·.size) = some 1 := by kernel_rfl
theorem more_done {w w2 w3 w6 : World} {c : Nat} {I : List (Int × Int)} {B : Role → Nat} {ρ : Nat → Option Role} {m : Nat} {k x y : Int} (h : ChAt w c I B ρ m) (hy : (ids I k).head? = some y) (hn : ids I k ≠ [])
  (p2 : Put (B (.link k y)) #[.int .i64 y, .pointer (some ⟨w.heap.size, 0, none⟩), ptrO B k (nxt (ids I k) y)] 241 (w.alloc (.cells #[.int .i64 x, .pointer none, .pointer (some ⟨B (.link k y), 0, none⟩)] 241)) w2)
  (p3 : Put (B (.list k)) #[.pointer (some ⟨w.heap.size, 0, none⟩), ptrO B k (ids I k).getLast?, .map (some (B (.lmap k)))] 239 w2 w3)
  (m6 : MapAt w6 Tryz.prog 3 (B (.lmap k)) (m + 1) (upd (fun x => if x ∈ ids I k then .pointer (some ⟨B (.link k x), 0, none⟩) else .pointer none) x (.pointer (some ⟨w.heap.size, 0, none⟩))))
  (f6 : Fr (fun j => j = B (.lmap k)) w3 w6) (z6 : w6.heap.size = w3.heap.size)
  (hc6 : w6.heap[c]? = some (.cells #[.map (some (B .rmap)), .int .i64 (I.length : Int)] 188 (0, 0))) :
  Added w (w6.setCell ⟨c, 1, none⟩ (.int .i64 ((I.length : Int) + 1))) c I B ρ m k x (B (.list k)) (B (.lmap k)) w.heap.size ∧
   Fr (fun b => ρ b ≠ none) w (w6.setCell ⟨c, 1, none⟩ (.int .i64 ((I.length : Int) + 1))) := by
 have hyl : y ∈ ids I k := List.mem_of_head? hy
 have hc := lt_of_block h.croot
 have hlt : ∀ r, Live I r → B r < w.heap.size := fun r hr => h.bound _ (by rw [h.rho r hr]; simp)
 have hne : ∀ r r', Live I r → Live I r' → r ≠ r' → B r ≠ B r' := fun r r' hr hr' e => h.neq hr hr' e
 have hcr : ∀ r, Live I r → r ≠ .root → B r ≠ c := fun r hr e => by have := hne r .root hr trivial e; rwa [h.root] at this
 have hln : Live I (.list k) := hn
 have hmn : Live I (.lmap k) := hn
 have hkn : Live I (.link k y) := hyl
 have hs2 : w2.heap.size = w.heap.size + 1 := by rw [p2.size]; simp
 have hs3 : w3.heap.size = w.heap.size + 1 := by rw [p3.size, hs2]
 have g2 : Fr (fun b => b = B (.link k y)) w w2 := ((Fr.refl _ w).alloc _).thenS p2.fr
 have g3 := (g2.mono (S' := fun b => b = B (.link k y) ∨ b = B (.list k)) (fun _ _ e => .inl e)).trans p3.fr (fun _ _ e => .inr e)
 have g6 := (g3.mono (S' := fun b => b = B (.link k y) ∨ b = B (.list k) ∨ b = B (.lmap k)) (fun _ _ e => e.elim .inl (fun e => .inr (.inl e)))).trans f6 (fun _ _ e => .inr (.inr e))
 have g7 : Fr (fun b => b = B (.link k y) ∨ b = B (.list k) ∨ b = B (.lmap k) ∨ b = c) w (w6.setCell ⟨c, 1, none⟩ (.int .i64 ((I.length : Int) + 1))) := (g6.mono (S' := fun b => b = B (.link k y) ∨ b = B (.list k) ∨ b = B (.lmap k) ∨ b = c) (fun _ _ e => e.elim .inl (fun e => e.elim (fun e => .inr (.inl e)) (fun e => .inr (.inr (.inl e)))))).setCell _ (fun _ => .inr (.inr (.inr rfl)))
 have f7 : Fr (fun j => j = c) w6 (w6.setCell ⟨c, 1, none⟩ (.int .i64 ((I.length : Int) + 1))) := (Fr.refl _ w6).setCell _ (fun _ => rfl)
 have hout : ∀ r, Live I r → r ≠ .root → r ≠ .list k → r ≠ .lmap k → r ≠ .link k y → ¬ (B r = B (.link k y) ∨ B r = B (.list k) ∨ B r = B (.lmap k) ∨ B r = c) := fun r hr h1 h2 h3 h4 => by
  rintro (e | e | e | e)
  ·exact hne r _ hr hkn h4 e
  ·exact hne r _ hr hln h2 e
  ·exact hne r _ hr hmn h3 e
  ·exact hcr r hr h1 e
 refine ⟨⟨fun _ => ⟨rfl, rfl⟩, fun e => absurd e hn, by have := hlt _ hln; have := hlt _ hmn; omega, by have := hlt _ hln; have := hlt _ hmn; simp [World.setCell]; omega, ?_, ?_, ?_, ?_, ?_, ?_, ?_, ?_, ?_⟩, g7.mono (fun b _ e => ?_)⟩
 ·simpa using hset (k := 1) (v := .int .i64 ((I.length : Int) + 1)) hc6
 ·have e1 := (h.cmap.frame g7 (hout .rmap trivial (by simp) (by simp) (by simp) (by simp))).more (m := m + 1) (by omega)
  have ef : (fun j => if j = k then Value.pointer (some ⟨B (.list k), 0, none⟩) else if ids I j = [] then .pointer none else .pointer (some ⟨B (.list j), 0, none⟩)) = (fun j => if ids I j = [] then .pointer none else .pointer (some ⟨B (.list j), 0, none⟩)) := by
   funext j
   by_cases e : j = k
   ·subst e; simp [hn]
   ·simp [e]
  rw [ef]
  exact e1
 ·rw [f7.block _ (by have := hlt _ hln; omega) (hcr _ hln (by simp)), f6.keep p3.at_ (hne _ _ hln hmn (by simp)), if_neg hn]
 ·exact m6.frame f7 (hcr _ hmn (by simp)) 
 ·rw [f7.block _ (by omega) (by show w.heap.size ≠ c; omega), f6.keep (p3.keep (p2.keep (heap1 w _) (by have := hlt _ hkn; omega)) (by have := hlt _ hln; omega)) (by have := hlt _ hmn; omega), hy]
  rfl
 ·intro z hz
  have hzl : Live I (.link k z) := hz
  by_cases e : z = y
  ·subst e
   rw [f7.block _ (by have := hlt _ hzl; omega) (hcr _ hzl (by simp)), f6.keep (p3.keep p2.at_ (hne _ _ hzl hln (by simp))) (hne _ _ hzl hmn (by simp)), if_pos hy]
  ·have hyz : ¬ (ids I k).head? = some z := by rw [hy]; simpa using Ne.symm e
   rw [g7.block _ (hlt _ hzl) (hout _ hzl (by simp) (by simp) (by simp) (by simp [e])), if_neg hyz]
   exact h.clink k z hz
 ·intro j hj hn'
  exact g7.block _ (hlt (.list j) hn') (hout (.list j) hn' (by simp) (by simp [hj]) (by simp) (by simp))
 ·intro j f hj hn' hm'
  exact (hm'.frame g7 (hout (.lmap j) hn' (by simp) (by simp) (by simp [hj]) (by simp))).more (by omega)
 ·intro j z hj hz
  exact g7.block _ (hlt (.link j z) hz) (hout (.link j z) hz (by simp) (by simp) (by simp) (by simp [hj]))
 ·rcases e with rfl | rfl | rfl | rfl
  ·rw [h.rho _ hkn]; simp
  ·rw [h.rho _ hln]; simp
  ·rw [h.rho _ hmn]; simp
  ·rw [← h.root, h.rho .root trivial]; simp
set_option maxRecDepth 100000 in
set_option maxHeartbeats 1000000 in
theorem add_more (w : World) (c : Nat) (I : List (Int × Int)) (B : Role → Nat) (ρ : Nat → Option Role) (m : Nat) (h : ChAt w c I B ρ m) (k x y : Int) (hk : keyOk k) (hx : keyOk x) (hy : (ids I k).head? = some y) (hnx : x ∉ ids I k) (hm : m ≤ 1000000) (hl : I.length ≤ 1000000) :
  Calls Tryz.prog 109 #[.pointer (some ⟨c, 0, none⟩), .int .i64 k, .int .i64 x] w fun e w' => e = .returned (.bool true) ∧ ∃ B' ρ', ChAt w' c ((k, x) :: I) B' ρ' (m + 1) ∧ Fr (fun b => ρ b ≠ none) w w' ∧ ∀ b, ρ' b ≠ none → ρ b ≠ none ∨ w.heap.size ≤ b := by
 have hn : ids I k ≠ [] := by intro e; rw [e] at hy; cases hy
 have hyl : y ∈ ids I k := List.mem_of_head? hy
 have HA := hid (has_any w c I B ρ m h k x hk hx)
 rw [show decide (x ∈ ids I k) = false from decide_eq_false hnx] at HA
 obtain ⟨c0, c1⟩ := cells2 h.croot
 have HE : Hid ((if ids I k = [] then Value.pointer none else .pointer (some ⟨B (.list k), 0, none⟩)) = .pointer (some ⟨B (.list k), 0, none⟩)) := hid (if_neg hn)
 have hbl := h.clist k hn
 rw [hy, show ptrO B k (some y) = .pointer (some ⟨B (.link k y), 0, none⟩) from rfl] at hbl
 have HB := hid hbl
 obtain ⟨q0, -, -⟩ := cells3 hbl
 obtain ⟨q1, -, -⟩ := cells3 (hold' (o := .cells #[.int .i64 x, .pointer none, .pointer (some ⟨B (.link k y), 0, none⟩)] 241) hbl)
 have HK := hid (h.clink k y hyl)
 have H := hid (⟨h, hk, hx, hy, hn, hyl, hnx⟩ : _ ∧ keyOk k ∧ keyOk x ∧ _ ∧ _ ∧ _ ∧ _)
 clear h hk hx hn c1 hy hyl hnx hbl
 go_enter Tryz.func109, Tryz.ntmps109
 go_wp2_with (first | (go_at_call 179; refine HA.out.mono ?_; rintro e w' ⟨rfl, rfl⟩) | (refine wpList_look (k := 3) (e := 235) rfl (.tmp 20) (.tmp 21) 186 rfl Tryz.underlying3 Tryz.underlying186 (zero_list _) rfl H.out.1.cmap k rfl H.out.2.1 (.pointer (some ⟨B (.list k), 0, none⟩)) HE.out ?_) | (refine wpList_store1 rfl 237 (.tmp 52) (.tmp 50) rfl (B (.link k y)) 1 rfl #[.int .i64 y, ptrO B k (prv (ids I k) y), ptrO B k (nxt (ids I k) y)] 241 (.pointer (some ⟨w.heap.size, 0, none⟩)) rfl info_link (hold' HK.out) (by simp) rfl ?_; intro w2 p2; have hl2 := p2.keep (hold' HB.out) (H.out.1.neq (r := .list k) (r' := .link k y) H.out.2.2.2.2.1 H.out.2.2.2.2.2.1 (by simp)); have q2 := (cells3 hl2).2.2; have P2 := hid p2; have HB2 := hid hl2; clear p2 hl2) | (refine wpList_store1 rfl 237 (.tmp 66) (.tmp 63) rfl (B (.list k)) 0 rfl #[.pointer (some ⟨B (.link k y), 0, none⟩), ptrO B k (ids I k).getLast?, .map (some (B (.lmap k)))] 239 (.pointer (some ⟨w.heap.size, 0, none⟩)) rfl info_link HB2.out (by simp) rfl ?_; intro w3 p3; have P3 := hid p3; clear p3) | (refine wpList_mentry (k := 3) (e := 237) rfl (.tmp 61) (.tmp 62) 236 rfl Tryz.underlying3 Tryz.underlying236 zero_link rfl (((H.out.1.clmap k H.out.2.2.2.2.1).frame (((Fr.refl _ w).alloc _).thenS P2.out.fr) (H.out.1.neq (r := .lmap k) (r' := .link k y) H.out.2.2.2.2.1 H.out.2.2.2.2.2.1 (by simp))).frame P3.out.fr (H.out.1.neq (r := .lmap k) (r' := .list k) H.out.2.2.2.2.1 H.out.2.2.2.2.1 (by simp))) (by unfold maxLen; omega) x rfl H.out.2.2.1 (.pointer (some ⟨w.heap.size, 0, none⟩)) ?_; intro v0 st w5 e5; obtain ⟨w6, r6, m6, f6, z6⟩ := e5; have hc6 := f6.keep (P3.out.keep (P2.out.keep (hold' H.out.1.croot) (by have := H.out.1.neq (r := .root) (r' := .link k y) trivial H.out.2.2.2.2.2.1 (by simp); rwa [H.out.1.root] at this)) (by have := H.out.1.neq (r := .root) (r' := .list k) trivial H.out.2.2.2.2.1 (by simp); rwa [H.out.1.root] at this)) (by have := H.out.1.neq (r := .root) (r' := .lmap k) trivial H.out.2.2.2.2.1 (by simp); rwa [H.out.1.root] at this); have q6 := (cells2 hc6).2; have z6f := freeAll hc6; have M6 := hid (⟨m6, f6, z6, hc6⟩ : _ ∧ _ ∧ _ ∧ _); have R6 := hid r6; clear m6 f6 z6 hc6 r6) | (refine wpList_mentryStore rfl (.tmp 61) (.tmp 68) (.tmp 64) 236 rfl _ _ _ rfl rfl rfl R6.out ?_))
 go_ret
 obtain ⟨m6, f6, z6, hc6⟩ := M6.out
 obtain ⟨h, hk, hx, hy, hn, hyl, hnx⟩ := H.out
 obtain ⟨a, hf⟩ := more_done h hy hn P2.out P3.out m6 f6 z6 hc6
 refine ⟨rfl, _, _, a.done h hnx, hf, fun b hb => ?_⟩
 by_cases h0 : ρ b = none
 ·right
  unfold newR at hb
  split at hb
  ·rename_i e; rw [e, h.rho (.list k) hn] at h0; cases h0
  ·split at hb
   ·rename_i e; rw [e, h.rho (.lmap k) hn] at h0; cases h0
   ·split at hb
    ·omega
    ·exact absurd h0 hb
 ·exact .inl h0
def addI (I : List (Int × Int)) (k x : Int) : List (Int × Int) := if (k, x) ∈ I then I else (k, x) :: I
theorem add_any (w : World) (c : Nat) (I : List (Int × Int)) (B : Role → Nat) (ρ : Nat → Option Role) (m : Nat) (h : ChAt w c I B ρ m) (k x : Int) (hk : keyOk k) (hx : keyOk x) (hm : m ≤ 1000000) (hl : I.length ≤ 1000000) :
  Calls Tryz.prog 109 #[.pointer (some ⟨c, 0, none⟩), .int .i64 k, .int .i64 x] w fun e w' => e = .returned (.bool (decide ((k, x) ∉ I))) ∧ ∃ B' ρ', ChAt w' c (addI I k x) B' ρ' (m + 1) ∧ Fr (fun b => ρ b ≠ none) w w' ∧ ∀ b, ρ' b ≠ none → ρ b ≠ none ∨ w.heap.size ≤ b := by
 by_cases hin : (k, x) ∈ I
 ·refine (add_there w c I B ρ m h k x hk hx ((mem_ids I k x).2 hin)).mono ?_
  rintro e w' ⟨rfl, rfl⟩
  refine ⟨by rw [decide_eq_false (not_not_intro hin)], B, ρ, ?_, Fr.refl _ _, fun b hb => .inl hb⟩
  rw [addI, if_pos hin]
  exact ⟨h.nodup, h.root, h.rho, h.bound, h.croot, h.cmap.more (by omega), h.clist, fun k hk => (h.clmap k hk).more (by omega), h.clink⟩
 ·rw [show decide ((k, x) ∉ I) = true from decide_eq_true hin, addI, if_neg hin]
  have hnx : x ∉ ids I k := fun e => hin ((mem_ids I k x).1 e)
  cases hids : (ids I k).head? with
  | none => exact add_first w c I B ρ m h k x hk hx (List.head?_eq_none_iff.1 hids) hm hl
  | some y => exact add_more w c I B ρ m h k x y hk hx hids hnx hm hl
end Go.Proofs.YthadcdoepoglkaaGreatDoor
namespace Go.Proofs.YthadcdoepoglkaaGreatDoor
open Go.RowKit Go.Lig
theorem nxt_at (l1 l2 : List Int) (x : Int) (h : x ∉ l1) : nxt (l1 ++ x :: l2) x = l2.head? := by
 induction l1 with
 | nil => simp [nxt]
 | cons z l ih =>
  have h1 : ¬ z = x := fun e => h (by simp [e])
  simp only [List.cons_append, nxt, if_neg h1]
  exact ih (fun e => h (by simp [e]))
theorem prv_at (l1 l2 : List Int) (x : Int) (h : x ∉ l2) : prv (l1 ++ x :: l2) x = l1.getLast? := by
 unfold prv
 rw [List.reverse_append, List.reverse_cons, List.append_assoc, List.singleton_append, nxt_at _ _ _ (by simpa using h), List.head?_reverse]
theorem nxt_cut (l2 : List Int) (x y : Int) (hxy : y ≠ x) (h2 : x ∉ l2) : ∀ l1 : List Int, x ∉ l1 → nxt (l1 ++ l2) y = if nxt (l1 ++ x :: l2) y = some x then l2.head? else nxt (l1 ++ x :: l2) y
 | [], _ => by
  have e : nxt (x :: l2) y = nxt l2 y := by simp [nxt, Ne.symm hxy]
  rw [List.nil_append, List.nil_append, e, if_neg (fun e => h2 (nxt_mem _ _ _ e))]
 | [z], h => by
  by_cases e : z = y
  ·simp [nxt, e]
  ·have e2 : nxt (x :: l2) y = nxt l2 y := by simp [nxt, Ne.symm hxy]
   simp only [List.cons_append, List.nil_append, nxt, if_neg e, if_neg (Ne.symm hxy)]
   rw [if_neg (fun e => h2 (nxt_mem _ _ _ e))]
 | z :: z2 :: l, h => by
  have hz2 : z2 ≠ x := fun e => h (by simp [e])
  by_cases e : z = y
  ·simp [nxt, e, hz2]
  ·have ih := nxt_cut l2 x y hxy h2 (z2 :: l) (fun e => h (List.mem_cons_of_mem _ e))
   simp only [List.cons_append, nxt, if_neg e] at ih ⊢
   exact ih
theorem prv_cut (l1 l2 : List Int) (x y : Int) (hxy : y ≠ x) (h1 : x ∉ l1) (h2 : x ∉ l2) : prv (l1 ++ l2) y = if prv (l1 ++ x :: l2) y = some x then l1.getLast? else prv (l1 ++ x :: l2) y := by
 have := nxt_cut l1.reverse x y hxy (by simpa using h1) l2.reverse (by simpa using h2)
 unfold prv
 rw [List.reverse_append, List.reverse_append, List.reverse_cons, List.append_assoc, List.singleton_append, this, List.head?_reverse]
theorem nxt_iff (l2 : List Int) (x y : Int) (h2 : x ∉ l2) : ∀ l1 : List Int, (l1 ++ x :: l2).Nodup → (nxt (l1 ++ x :: l2) y = some x ↔ l1.getLast? = some y)
 | [], _ => by
  simp only [List.nil_append, List.getLast?_nil]
  constructor
  ·intro e
   by_cases h : x = y
   ·subst h
    rw [nxt_cons_same] at e
    exact absurd (List.mem_of_head? e) h2
   ·rw [nxt_cons_other _ _ _ h] at e
    exact absurd (nxt_mem _ _ _ e) h2
  ·intro e; cases e
 | [z], hn => by
  have hzx : z ∉ x :: l2 := (List.nodup_cons.1 hn).1
  by_cases e : z = y
  ·simp [nxt, e]
  ·have ih := nxt_iff l2 x y h2 [] (List.nodup_cons.1 hn).2
   simp only [List.cons_append, List.nil_append, nxt, if_neg e, List.getLast?_nil, List.getLast?_singleton, Option.some.injEq] at ih ⊢
   constructor
   ·intro e'; exact absurd (ih.1 e') (by simp)
   ·intro e'; exact absurd e' e
 | z :: z2 :: l, hn => by
  have hn' := List.nodup_cons.1 hn
  have hz2 : z2 ≠ x := fun e => (List.nodup_cons.1 hn'.2).1 (by rw [e]; simp)
  rw [List.getLast?_cons_cons]
  by_cases e : z = y
  ·subst e
   simp only [List.cons_append, nxt, if_true, List.head?_cons, Option.some.injEq]
   constructor
   ·intro e'; exact absurd e' hz2
   ·intro e'
    have : z ∈ z2 :: l := List.mem_of_getLast? e'
    exact absurd (List.mem_append_left _ this) hn'.1
  ·have ih := nxt_iff l2 x y h2 (z2 :: l) hn'.2
   simp only [List.cons_append, nxt, if_neg e] at ih ⊢
   exact ih
theorem prv_iff (l1 l2 : List Int) (x y : Int) (h1 : x ∉ l1) (hn : (l1 ++ x :: l2).Nodup) : prv (l1 ++ x :: l2) y = some x ↔ l2.head? = some y := by
 have hn' : (l2.reverse ++ x :: l1.reverse).Nodup := by
  have h := List.pairwise_reverse.2 (hn.imp Ne.symm)
  rwa [List.reverse_append, List.reverse_cons, List.append_assoc, List.singleton_append] at h
 have := nxt_iff l1.reverse x y (by simpa using h1) l2.reverse hn'
 unfold prv
 rw [List.reverse_append, List.reverse_cons, List.append_assoc, List.singleton_append, this, List.getLast?_reverse]
def cutI (I : List (Int × Int)) (k x : Int) : List (Int × Int) := I.filter fun p => !(p == (k, x))
theorem ids_cut_other (I : List (Int × Int)) (k x j : Int) (h : j ≠ k) : ids (cutI I k x) j = ids I j := by
 unfold ids cutI
 rw [List.filter_filter]
 congr 1
 refine List.filter_congr fun p _ => ?_
 by_cases e : p.1 = j
 ·have : ¬ p = (k, x) := fun e' => h (by rw [← e, e'])
  simp [e, this]
 ·simp [e]
theorem ids_cut_same (I : List (Int × Int)) (k x : Int) : ids (cutI I k x) k = (ids I k).filter fun y => !(y == x) := by
 unfold ids cutI
 rw [List.filter_map, List.filter_filter, List.filter_filter]
 congr 1
 refine List.filter_congr fun p _ => ?_
 obtain ⟨a, b⟩ := p
 rw [Bool.eq_iff_iff]
 by_cases e : a = k <;> by_cases e2 : b = x <;> simp [e, e2]
theorem split_at {L : List Int} (hn : L.Nodup) {x : Int} (hx : x ∈ L) : ∃ l1 l2, L = l1 ++ x :: l2 ∧ x ∉ l1 ∧ x ∉ l2 ∧ (L.filter fun y => !(y == x)) = l1 ++ l2 := by
 obtain ⟨l1, l2, rfl⟩ := List.append_of_mem hx
 have h := List.nodup_append.1 hn
 have h1 : x ∉ l1 := fun e => h.2.2 x e x (by simp) rfl
 have h2 : x ∉ l2 := (List.nodup_cons.1 h.2.1).1
 refine ⟨l1, l2, rfl, h1, h2, ?_⟩
 rw [List.filter_append, List.filter_cons]
 have e1 : (l1.filter fun y => !(y == x)) = l1 := List.filter_eq_self.2 (fun y hy => by simp; intro e; exact h1 (e ▸ hy))
 have e2 : (l2.filter fun y => !(y == x)) = l2 := List.filter_eq_self.2 (fun y hy => by simp; intro e; exact h2 (e ▸ hy))
 simp [e1, e2]
theorem cut_len {I : List (Int × Int)} (hn : I.Nodup) {k x : Int} (h : (k, x) ∈ I) : (cutI I k x).length + 1 = I.length := by
 unfold cutI
 induction I with
 | nil => cases h
 | cons p I ih =>
  have hn' := List.nodup_cons.1 hn
  by_cases e : p = (k, x)
  ·subst e
   have e1 : (I.filter fun q => !(q == (k, x))) = I := List.filter_eq_self.2 (fun q hq => by
    have : q ≠ (k, x) := fun e => hn'.1 (e ▸ hq)
    simp [this])
   simp [e1]
  ·have hI : (k, x) ∈ I := by
    rcases List.mem_cons.1 h with h | h
    ·exact absurd h.symm e
    ·exact h
   have := ih hn'.2 hI
   simp only [List.filter_cons, beq_eq_false_iff_ne.2 e, Bool.not_false, if_true, List.length_cons]
   omega
structure Cutted (w w' : World) (c : Nat) (I : List (Int × Int)) (B : Role → Nat) (m : Nat) (k x : Int) (l1 l2 : List Int) : Prop where
 split : ids I k = l1 ++ x :: l2
 lt : w.heap.size ≤ w'.heap.size
 croot : w'.heap[c]? = some (.cells #[.map (some (B .rmap)), .int .i64 ((I.length : Int) - 1)] 188 (0, 0))
 cmap : MapAt w' Tryz.prog 3 (B .rmap) m (fun j => if j = k ∧ l1 ++ l2 = [] then .pointer none else if ids I j = [] then .pointer none else .pointer (some ⟨B (.list j), 0, none⟩))
 clist : l1 ++ l2 ≠ [] → w'.heap[B (.list k)]? = some (.cells #[ptrO B k (l1 ++ l2).head?, ptrO B k (l1 ++ l2).getLast?, .map (some (B (.lmap k)))] 239 (0, 0))
 clmap : MapAt w' Tryz.prog 3 (B (.lmap k)) m (upd (fun y => if y ∈ ids I k then .pointer (some ⟨B (.link k y), 0, none⟩) else .pointer none) x (.pointer none))
 cold : ∀ y, y ∈ ids I k → y ≠ x → w'.heap[B (.link k y)]? = some (.cells #[.int .i64 y, if l2.head? = some y then ptrO B k l1.getLast? else ptrO B k (prv (ids I k) y), if l1.getLast? = some y then ptrO B k l2.head? else ptrO B k (nxt (ids I k) y)] 241 (0, 0))
 keepL : ∀ j, j ≠ k → ids I j ≠ [] → w'.heap[B (.list j)]? = w.heap[B (.list j)]?
 keepM : ∀ j f, j ≠ k → ids I j ≠ [] → MapAt w Tryz.prog 3 (B (.lmap j)) m f → MapAt w' Tryz.prog 3 (B (.lmap j)) m f
 keepX : ∀ j y, j ≠ k → y ∈ ids I j → w'.heap[B (.link j y)]? = w.heap[B (.link j y)]?
theorem Cutted.done {w w' : World} {c : Nat} {I : List (Int × Int)} {B : Role → Nat} {ρ : Nat → Option Role} {m : Nat} {k x : Int} {l1 l2 : List Int} (a : Cutted w w' c I B m k x l1 l2) (h : ChAt w c I B ρ m) :
  ChAt w' c (cutI I k x) B ρ m := by
 have hnd := ids_nodup h.nodup k
 have hx : x ∈ ids I k := by rw [a.split]; simp
 have hsp : (ids I k).filter (fun y => !(y == x)) = l1 ++ l2 ∧ x ∉ l1 ∧ x ∉ l2 := by
  have hn := hnd
  rw [a.split] at hn ⊢
  have h' := List.nodup_append.1 hn
  have h1 : x ∉ l1 := fun e => h'.2.2 x e x (by simp) rfl
  have h2 : x ∉ l2 := (List.nodup_cons.1 h'.2.1).1
  have e1 : (l1.filter fun y => !(y == x)) = l1 := List.filter_eq_self.2 (fun y hy => by simp; intro e; exact h1 (e ▸ hy))
  have e2 : (l2.filter fun y => !(y == x)) = l2 := List.filter_eq_self.2 (fun y hy => by simp; intro e; exact h2 (e ▸ hy))
  refine ⟨?_, h1, h2⟩
  rw [List.filter_append, List.filter_cons]
  simp [e1, e2]
 obtain ⟨hf, hx1, hx2⟩ := hsp
 have hsame : ids (cutI I k x) k = l1 ++ l2 := by rw [ids_cut_same, hf]
 have hother : ∀ j, j ≠ k → ids (cutI I k x) j = ids I j := fun j e => ids_cut_other I k x j e
 have hin : (k, x) ∈ I := (mem_ids I k x).1 hx
 have hlen := cut_len h.nodup hin
 have hsub : ∀ j y, y ∈ ids (cutI I k x) j → y ∈ ids I j := fun j y hy => by
  by_cases e : j = k
  ·subst e
   rw [hsame] at hy
   rw [a.split]
   rcases List.mem_append.1 hy with h0 | h0
   ·exact List.mem_append_left _ h0
   ·exact List.mem_append_right _ (List.mem_cons_of_mem _ h0)
  ·rwa [hother j e] at hy
 have hne : ∀ j, ids (cutI I k x) j ≠ [] → ids I j ≠ [] := fun j hj e => by
  obtain ⟨y, l, hy⟩ := List.exists_cons_of_ne_nil hj
  have := hsub j y (by rw [hy]; simp)
  rw [e] at this
  cases this
 have hlive : ∀ r, Live (cutI I k x) r → Live I r := fun r hr => by
  cases r with
  | root => trivial
  | rmap => trivial
  | list j => exact hne j hr
  | lmap j => exact hne j hr
  | link j y => exact hsub j y hr
 refine ⟨h.nodup.filter _, h.root, fun r hr => h.rho r (hlive r hr), fun b hb => Nat.lt_of_lt_of_le (h.bound b hb) a.lt, ?_, ?_, ?_, ?_, ?_⟩
 ·rw [a.croot, show ((I.length : Int) - 1) = (((cutI I k x).length : Nat) : Int) by omega]
 ·have ef : (fun j => if ids (cutI I k x) j = [] then Value.pointer none else .pointer (some ⟨B (.list j), 0, none⟩)) = (fun j => if j = k ∧ l1 ++ l2 = [] then .pointer none else if ids I j = [] then .pointer none else .pointer (some ⟨B (.list j), 0, none⟩)) := by
   funext j
   by_cases e : j = k
   ·subst e
    rw [hsame]
    have : ¬ ids I j = [] := fun e => by rw [e] at hx; cases hx
    by_cases e2 : l1 ++ l2 = []
    ·rw [if_pos e2, if_pos ⟨rfl, e2⟩]
    ·rw [if_neg e2, if_neg (fun e => e2 e.2), if_neg this]
   ·have hne' : ¬ (j = k ∧ l1 ++ l2 = []) := fun e' => e e'.1
    rw [hother j e, if_neg hne']
  rw [ef]
  exact a.cmap
 ·intro j hj
  by_cases e : j = k
  ·subst e
   rw [hsame] at hj ⊢
   exact a.clist hj
  ·rw [hother j e] at hj ⊢
   rw [a.keepL j e hj]
   exact h.clist j hj
 ·intro j hj
  by_cases e : j = k
  ·subst e
   have ef : (fun y => if y ∈ ids (cutI I j x) j then Value.pointer (some ⟨B (.link j y), 0, none⟩) else .pointer none) = upd (fun y => if y ∈ ids I j then .pointer (some ⟨B (.link j y), 0, none⟩) else .pointer none) x (.pointer none) := by
    funext y
    unfold upd
    rw [ids_cut_same]
    by_cases e : y = x
    ·simp [e]
    ·simp [e]
   rw [ef]
   exact a.clmap
  ·rw [hother j e] at hj ⊢
   exact a.keepM j _ e hj (h.clmap j hj)
 ·intro j y hy
  have hy' := hsub j y hy
  by_cases e : j = k
  ·subst e
   rw [hsame] at hy
   have hyx : y ≠ x := fun e => by
    subst e
    rcases List.mem_append.1 hy with h0 | h0
    ·exact hx1 h0
    ·exact hx2 h0
   rw [a.cold y hy' hyx, hsame]
   have hnd' := hnd
   rw [a.split] at hnd'
   have i1 := nxt_iff l2 x y hx2 l1 hnd'
   have i2 := prv_iff l1 l2 x y hx1 hnd'
   rw [nxt_cut l2 x y hyx hx2 l1 hx1, prv_cut l1 l2 x y hyx hx1 hx2, a.split]
   by_cases e1 : l1.getLast? = some y
   ·rw [if_pos e1, if_pos (i1.2 e1)]
    by_cases e2 : l2.head? = some y
    ·rw [if_pos e2, if_pos (i2.2 e2)]
    ·rw [if_neg e2, if_neg (fun e => e2 (i2.1 e))]
   ·rw [if_neg e1, if_neg (fun e => e1 (i1.1 e))]
    by_cases e2 : l2.head? = some y
    ·rw [if_pos e2, if_pos (i2.2 e2)]
    ·rw [if_neg e2, if_neg (fun e => e2 (i2.1 e))]
  ·rw [hother j e]
   rw [a.keepX j y e hy']
   exact h.clink j y hy'
end Go.Proofs.YthadcdoepoglkaaGreatDoor
