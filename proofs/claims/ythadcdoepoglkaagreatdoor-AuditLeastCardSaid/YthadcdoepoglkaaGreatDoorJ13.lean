/- A part of the proof: contracts of functions of the program, for the row's text. -/
import Derived.Test.YthadcdoepoglkaaGreatDoorJ12
namespace Go.Proofs.YthadcdoepoglkaaGreatDoor
open Go.RowKit Go.Lig
theorem cut_not (w : World) (c : Nat) (I : List (Int × Int)) (B : Role → Nat) (ρ : Nat → Option Role) (m : Nat) (h : ChAt w c I B ρ m) (k x : Int) (hk : keyOk k) (hx : keyOk x) (hm : x ∉ ids I k) :
  Calls Tryz.prog 110 #[.pointer (some ⟨c, 0, none⟩), .int .i64 k, .int .i64 x] w fun e w' => e = .returned (.bool false) ∧ w = w' := by
 have HA := hid (has_any w c I B ρ m h k x hk hx)
 rw [decide_eq_false hm] at HA
 clear h hm
 go_enter Tryz.func110, Tryz.ntmps110
 go_wp2_with (go_at_call 179; refine HA.out.mono ?_; rintro e w' ⟨rfl, rfl⟩)
 go_ret
 exact ⟨rfl, rfl⟩
structure Unl (w w2 : World) (I : List (Int × Int)) (B : Role → Nat) (k x : Int) (l1 l2 : List Int) : Prop where
 fr : Fr (fun b => b = B (.list k) ∨ ∃ y, y ∈ ids I k ∧ b = B (.link k y)) w w2
 clist : l1 ++ l2 ≠ [] → w2.heap[B (.list k)]? = some (.cells #[ptrO B k (l1 ++ l2).head?, ptrO B k (l1 ++ l2).getLast?, .map (some (B (.lmap k)))] 239 (0, 0))
 cold : ∀ y, y ∈ ids I k → y ≠ x → w2.heap[B (.link k y)]? = some (.cells #[.int .i64 y, if l2.head? = some y then ptrO B k l1.getLast? else ptrO B k (prv (ids I k) y), if l1.getLast? = some y then ptrO B k l2.head? else ptrO B k (nxt (ids I k) y)] 241 (0, 0))
theorem last_cut (l1 l2 : List Int) (x b : Int) (hb : l2.head? = some b) : (l1 ++ x :: l2).getLast? = (l1 ++ l2).getLast? := by
 cases l2 with
 | nil => cases hb
 | cons y l => simp [List.getLast?_append, List.getLast?_cons_cons]
theorem unl_some {w w1 w2 : World} {c : Nat} {I : List (Int × Int)} {B : Role → Nat} {ρ : Nat → Option Role} {m : Nat} {k x a b : Int} {l1 l2 : List Int} (h : ChAt w c I B ρ m) (hs : ids I k = l1 ++ x :: l2) (ha : l1.getLast? = some a) (hb : l2.head? = some b)
  (p1 : Put (B (.link k a)) #[.int .i64 a, ptrO B k (prv (ids I k) a), ptrO B k l2.head?] 241 w w1)
  (p2 : Put (B (.link k b)) #[.int .i64 b, ptrO B k l1.getLast?, ptrO B k (nxt (ids I k) b)] 241 w1 w2) : Unl w w2 I B k x l1 l2 := by
 have hnd := ids_nodup h.nodup k
 have hal : a ∈ ids I k := by rw [hs]; exact List.mem_append_left _ (List.mem_of_getLast? ha)
 have hbl : b ∈ ids I k := by rw [hs]; exact List.mem_append_right _ (List.mem_cons_of_mem _ (List.mem_of_head? hb))
 have hab : a ≠ b := by
  rw [hs] at hnd
  exact (List.nodup_append.1 hnd).2.2 a (List.mem_of_getLast? ha) b (List.mem_cons_of_mem _ (List.mem_of_head? hb))
 have hn : ids I k ≠ [] := by intro e; rw [e] at hal; cases hal
 refine ⟨(p1.fr.mono (fun _ _ e => .inr ⟨a, hal, e⟩)).trans p2.fr (fun _ _ e => .inr ⟨b, hbl, e⟩), fun _ => ?_, fun y hy hyx => ?_⟩
 ·obtain ⟨y1, r1, rfl⟩ := List.exists_cons_of_ne_nil (l := l1) (by intro e; rw [e] at ha; cases ha)
  have := p2.keep (p1.keep (h.clist k hn) (h.neq (r := .list k) (r' := .link k a) hn hal (by simp))) (h.neq (r := .list k) (r' := .link k b) hn hbl (by simp))
  rw [this, hs, last_cut _ _ _ _ hb]
  rfl
 ·by_cases e1 : y = b
  ·subst e1
   rw [p2.at_, if_pos hb, if_neg (by rw [ha]; simpa using hab)]
  ·have hb' : ¬ l2.head? = some y := by rw [hb]; simpa using Ne.symm e1
   have k2 := h.neq (r := .link k y) (r' := .link k b) hy hbl (by simp [e1])
   by_cases e2 : y = a
   ·subst e2
    rw [p2.keep p1.at_ k2, if_pos ha, if_neg hb']
   ·have ha' : ¬ l1.getLast? = some y := by rw [ha]; simpa using Ne.symm e2
    rw [p2.keep (p1.keep (h.clink k y hy) (h.neq (r := .link k y) (r' := .link k a) hy hal (by simp [e2]))) k2, if_neg ha', if_neg hb']
theorem unl_head {w w1 w2 : World} {c : Nat} {I : List (Int × Int)} {B : Role → Nat} {ρ : Nat → Option Role} {m : Nat} {k x b : Int} {l1 l2 : List Int} (h : ChAt w c I B ρ m) (hs : ids I k = l1 ++ x :: l2) (ha : l1.getLast? = none) (hb : l2.head? = some b)
  (p1 : Put (B (.list k)) #[ptrO B k l2.head?, ptrO B k (ids I k).getLast?, .map (some (B (.lmap k)))] 239 w w1)
  (p2 : Put (B (.link k b)) #[.int .i64 b, ptrO B k l1.getLast?, ptrO B k (nxt (ids I k) b)] 241 w1 w2) : Unl w w2 I B k x l1 l2 := by
 have hbl : b ∈ ids I k := by rw [hs]; exact List.mem_append_right _ (List.mem_cons_of_mem _ (List.mem_of_head? hb))
 have hn : ids I k ≠ [] := by intro e; rw [e] at hbl; cases hbl
 obtain rfl : l1 = [] := by simpa using ha
 refine ⟨(p1.fr.mono (fun _ _ e => .inl e)).trans p2.fr (fun _ _ e => .inr ⟨b, hbl, e⟩), fun _ => ?_, fun y hy hyx => ?_⟩
 ·obtain ⟨y2, r2, rfl⟩ := List.exists_cons_of_ne_nil (l := l2) (by intro e; rw [e] at hb; cases hb)
  rw [p2.keep p1.at_ (h.neq (r := .list k) (r' := .link k b) hn hbl (by simp)), hs]
  simp [List.getLast?_cons_cons]
 ·by_cases e1 : y = b
  ·subst e1
   rw [p2.at_, if_pos hb, if_neg (by simp)]
  ·have hb' : ¬ l2.head? = some y := by rw [hb]; simpa using Ne.symm e1
   rw [p2.keep (p1.keep (h.clink k y hy) (h.neq (r := .link k y) (r' := .list k) hy hn (by simp))) (h.neq (r := .link k y) (r' := .link k b) hy hbl (by simp [e1])), if_neg hb', if_neg (by simp)]
theorem unl_last {w w1 w2 : World} {c : Nat} {I : List (Int × Int)} {B : Role → Nat} {ρ : Nat → Option Role} {m : Nat} {k x a : Int} {l1 l2 : List Int} (h : ChAt w c I B ρ m) (hs : ids I k = l1 ++ x :: l2) (ha : l1.getLast? = some a) (hb : l2.head? = none)
  (p1 : Put (B (.link k a)) #[.int .i64 a, ptrO B k (prv (ids I k) a), ptrO B k l2.head?] 241 w w1)
  (p2 : Put (B (.list k)) #[ptrO B k (ids I k).head?, ptrO B k l1.getLast?, .map (some (B (.lmap k)))] 239 w1 w2) : Unl w w2 I B k x l1 l2 := by
 have hal : a ∈ ids I k := by rw [hs]; exact List.mem_append_left _ (List.mem_of_getLast? ha)
 have hn : ids I k ≠ [] := by intro e; rw [e] at hal; cases hal
 obtain rfl : l2 = [] := by simpa using hb
 refine ⟨(p1.fr.mono (fun _ _ e => .inr ⟨a, hal, e⟩)).trans p2.fr (fun _ _ e => .inl e), fun _ => ?_, fun y hy hyx => ?_⟩
 ·obtain ⟨y1, r1, rfl⟩ := List.exists_cons_of_ne_nil (l := l1) (by intro e; rw [e] at ha; cases ha)
  rw [p2.at_, hs]
  simp
 ·rw [if_neg (by simp)]
  have k2 := h.neq (r := .link k y) (r' := .list k) hy hn (by simp)
  by_cases e2 : y = a
  ·subst e2
   rw [p2.keep p1.at_ k2, if_pos ha]
  ·have ha' : ¬ l1.getLast? = some y := by rw [ha]; simpa using Ne.symm e2
   rw [p2.keep (p1.keep (h.clink k y hy) (h.neq (r := .link k y) (r' := .link k a) hy hal (by simp [e2]))) k2, if_neg ha']
theorem unl_none {w w1 w2 : World} {c : Nat} {I : List (Int × Int)} {B : Role → Nat} {ρ : Nat → Option Role} {m : Nat} {k x : Int} {l1 l2 : List Int} {u1 u2 : Array Value} (h : ChAt w c I B ρ m) (hs : ids I k = l1 ++ x :: l2) (ha : l1.getLast? = none) (hb : l2.head? = none)
  (p1 : Put (B (.list k)) u1 239 w w1) (p2 : Put (B (.list k)) u2 239 w1 w2) : Unl w w2 I B k x l1 l2 := by
 obtain rfl : l2 = [] := by simpa using hb
 obtain rfl : l1 = [] := by simpa using ha
 refine ⟨(p1.fr.mono (fun _ _ e => .inl e)).trans p2.fr (fun _ _ e => .inl e), fun e => absurd rfl e, fun y hy hyx => ?_⟩
 rw [hs] at hy
 exact absurd (by simpa using hy) hyx
theorem Unl.done {w w2 w3 : World} {c : Nat} {I : List (Int × Int)} {B : Role → Nat} {ρ : Nat → Option Role} {m : Nat} {k x : Int} {l1 l2 : List Int} (u : Unl w w2 I B k x l1 l2) (h : ChAt w c I B ρ m) (hs : ids I k = l1 ++ x :: l2)
  (m3 : MapAt w3 Tryz.prog 3 (B (.lmap k)) m (upd (fun y => if y ∈ ids I k then .pointer (some ⟨B (.link k y), 0, none⟩) else .pointer none) x (.pointer none))) (f3 : Fr (fun j => j = B (.lmap k)) w2 w3)
  (w4 : World) (h4 : (l1 ++ l2 ≠ [] ∧ w4 = w3) ∨ (l1 ++ l2 = [] ∧ MapAt w4 Tryz.prog 3 (B .rmap) m (upd (fun j => if ids I j = [] then .pointer none else .pointer (some ⟨B (.list j), 0, none⟩)) k (.pointer none)) ∧ Fr (fun j => j = B .rmap) w3 w4))
  (hc4 : w4.heap[c]? = some (.cells #[.map (some (B .rmap)), .int .i64 (I.length : Int)] 188 (0, 0))) :
  ChAt (w4.setCell ⟨c, 1, none⟩ (.int .i64 ((I.length : Int) - 1))) c (cutI I k x) B ρ m ∧ Fr (fun b => ρ b ≠ none) w (w4.setCell ⟨c, 1, none⟩ (.int .i64 ((I.length : Int) - 1))) := by
 have hxm : x ∈ ids I k := by rw [hs]; simp
 have hn : ids I k ≠ [] := by intro e; rw [e] at hxm; cases hxm
 have hne : ∀ r r', Live I r → Live I r' → r ≠ r' → B r ≠ B r' := fun r r' hr hr' e => h.neq hr hr' e
 have hcr : ∀ r, Live I r → r ≠ .root → B r ≠ c := fun r hr e => by have := hne r .root hr trivial e; rwa [h.root] at this
 have hlt : ∀ r, Live I r → B r < w.heap.size := fun r hr => h.bound _ (by rw [h.rho r hr]; simp)
 have f4 : Fr (fun j => j = B .rmap) w3 w4 := by
  rcases h4 with ⟨_, rfl⟩ | ⟨_, _, f4⟩
  ·exact Fr.refl _ _
  ·exact f4
 have f5 : Fr (fun j => j = c) w4 (w4.setCell ⟨c, 1, none⟩ (.int .i64 ((I.length : Int) - 1))) := (Fr.refl _ w4).setCell _ (fun _ => rfl)
 have g : Fr (fun b => (b = B (.list k) ∨ ∃ y, y ∈ ids I k ∧ b = B (.link k y)) ∨ b = B (.lmap k) ∨ b = B .rmap ∨ b = c) w (w4.setCell ⟨c, 1, none⟩ (.int .i64 ((I.length : Int) - 1))) :=
  (((u.fr.mono (S' := fun b => (b = B (.list k) ∨ ∃ y, y ∈ ids I k ∧ b = B (.link k y)) ∨ b = B (.lmap k) ∨ b = B .rmap ∨ b = c) (fun _ _ e => .inl e)).trans f3 (fun _ _ e => .inr (.inl e))).trans f4 (fun _ _ e => .inr (.inr (.inl e)))).trans f5 (fun _ _ e => .inr (.inr (.inr e)))
 have hz2 := Nat.le_trans u.fr.size (Nat.le_trans f3.size f4.size)
 have tail : ∀ r o, Live I r → r ≠ .root → r ≠ .rmap → r ≠ .lmap k → w2.heap[B r]? = some o → (w4.setCell ⟨c, 1, none⟩ (.int .i64 ((I.length : Int) - 1))).heap[B r]? = some o := fun r o hr h1 h2 h3 he =>
  f5.keep (f4.keep (f3.keep he (hne r _ hr (show Live I (.lmap k) from hn) h3)) (hne r .rmap hr trivial h2)) (hcr r hr h1)
 have hout : ∀ r, Live I r → r ≠ .root → r ≠ .rmap → (∀ j, r = .list j → j ≠ k) → (∀ j, r = .lmap j → j ≠ k) → (∀ j y, r = .link j y → j ≠ k) → ¬ ((B r = B (.list k) ∨ ∃ y, y ∈ ids I k ∧ B r = B (.link k y)) ∨ B r = B (.lmap k) ∨ B r = B .rmap ∨ B r = c) := fun r hr h0 h1 h2 h3 h4 => by
  rintro ((e | ⟨y, hy, e⟩) | e | e | e)
  ·exact hne r _ hr (show Live I (.list k) from hn) (fun e => h2 k e rfl) e
  ·exact hne r _ hr (show Live I (.link k y) from hy) (fun e => h4 k y e rfl) e
  ·exact hne r _ hr (show Live I (.lmap k) from hn) (fun e => h3 k e rfl) e
  ·exact hne r .rmap hr trivial h1 e
  ·exact hcr r hr h0 e
 refine ⟨Cutted.done (k := k) (x := x) (l1 := l1) (l2 := l2) (w := w) ⟨hs, g.size, ?_, ?_, ?_, ?_, ?_, ?_, ?_, ?_⟩ h, g.mono (fun b _ e => ?_)⟩
 ·simpa using hset (k := 1) (v := .int .i64 ((I.length : Int) - 1)) hc4
 ·have hrc : B .rmap ≠ c := hcr .rmap trivial (by simp)
  rcases h4 with ⟨e4, rfl⟩ | ⟨e4, m4, _⟩
  ·have ef : (fun j => if j = k ∧ l1 ++ l2 = [] then Value.pointer none else if ids I j = [] then .pointer none else .pointer (some ⟨B (.list j), 0, none⟩)) = (fun j => if ids I j = [] then .pointer none else .pointer (some ⟨B (.list j), 0, none⟩)) := by
    funext j
    rw [if_neg (fun e => e4 e.2)]
   rw [ef]
   refine ((h.cmap.frame u.fr ?_).frame f3 (hne .rmap (.lmap k) trivial hn (by simp))).frame f5 hrc
   rintro (e | ⟨y, hy, e⟩)
   ·exact hne .rmap (.list k) trivial hn (by simp) e
   ·exact hne .rmap (.link k y) trivial hy (by simp) e
  ·have ef : (fun j => if j = k ∧ l1 ++ l2 = [] then Value.pointer none else if ids I j = [] then .pointer none else .pointer (some ⟨B (.list j), 0, none⟩)) = upd (fun j => if ids I j = [] then .pointer none else .pointer (some ⟨B (.list j), 0, none⟩)) k (.pointer none) := by
    funext j
    unfold upd
    by_cases e : j = k
    ·rw [if_pos ⟨e, e4⟩, if_pos e]
    ·rw [if_neg (fun e' => e e'.1), if_neg e]
   rw [ef]
   exact m4.frame f5 hrc
 ·exact fun e => tail (.list k) _ hn (by simp) (by simp) (by simp) (u.clist e)
 ·exact (m3.frame f4 (hne (.lmap k) .rmap hn trivial (by simp))).frame f5 (hcr (.lmap k) hn (by simp))
 ·exact fun y hy hyx => tail (.link k y) _ hy (by simp) (by simp) (by simp) (u.cold y hy hyx)
 ·exact fun j hj hn' => g.block _ (hlt (.list j) hn') (hout (.list j) hn' (by simp) (by simp) (fun j' e => by injection e with e; exact e ▸ hj) (fun _ e => by cases e) (fun _ _ e => by cases e))
 ·exact fun j f hj hn' hm => hm.frame g (hout (.lmap j) hn' (by simp) (by simp) (fun _ e => by cases e) (fun j' e => by injection e with e; exact e ▸ hj) (fun _ _ e => by cases e))
 ·exact fun j y hj hy => g.block _ (hlt (.link j y) hy) (hout (.link j y) hy (by simp) (by simp) (fun _ e => by cases e) (fun _ e => by cases e) (fun j' y' e => by injection e with e; exact e ▸ hj))
 ·rcases e with (rfl | ⟨y, hy, rfl⟩) | rfl | rfl | rfl
  ·rw [h.rho (.list k) hn]; simp
  ·rw [h.rho (.link k y) hy]; simp
  ·rw [h.rho (.lmap k) hn]; simp
  ·rw [h.rho .rmap trivial]; simp
  ·rw [← h.root, h.rho .root trivial]; simp
set_option maxRecDepth 100000 in
set_option maxHeartbeats 1000000 in
theorem cut_some (w : World) (c : Nat) (I : List (Int × Int)) (B : Role → Nat) (ρ : Nat → Option Role) (m : Nat) (h : ChAt w c I B ρ m) (k x : Int) (a b : Int) (l1 l2 : List Int) (hk : keyOk k) (hx : keyOk x) (hs : ids I k = l1 ++ x :: l2) (ha : l1.getLast? = some a) (hb : l2.head? = some b) (hl : I.length ≤ 1000000) :
  Calls Tryz.prog 110 #[.pointer (some ⟨c, 0, none⟩), .int .i64 k, .int .i64 x] w fun e w' => e = .returned (.bool true) ∧ ChAt w' c (cutI I k x) B ρ m ∧ Fr (fun b => ρ b ≠ none) w w' := by
 have hxm : x ∈ ids I k := by rw [hs]; simp
 have hn : ids I k ≠ [] := by intro e; rw [e] at hxm; cases hxm
 have hnd := ids_nodup h.nodup k
 have hnd' := hnd
 rw [hs] at hnd'
 have hnd' := List.nodup_append.1 hnd'
 have hx1 : x ∉ l1 := fun e => hnd'.2.2 x e x (by simp) rfl
 have hx2 : x ∉ l2 := (List.nodup_cons.1 hnd'.2.1).1
 have HA := hid (has_any w c I B ρ m h k x hk hx)
 rw [decide_eq_true hxm] at HA
 obtain ⟨c0, c1⟩ := cells2 h.croot
 have HE : Hid ((if ids I k = [] then Value.pointer none else .pointer (some ⟨B (.list k), 0, none⟩)) = .pointer (some ⟨B (.list k), 0, none⟩)) := hid (if_neg hn)
 have HE2 : Hid ((if x ∈ ids I k then Value.pointer (some ⟨B (.link k x), 0, none⟩) else .pointer none) = .pointer (some ⟨B (.link k x), 0, none⟩)) := hid (if_pos hxm)
 have hX := h.clink k x hxm
 rw [hs, prv_at _ _ _ hx2, nxt_at _ _ _ hx1, ha, hb] at hX
 have hX : w.heap[B (.link k x)]? = some (.cells #[.int .i64 x, .pointer (some ⟨B (.link k a), 0, none⟩), .pointer (some ⟨B (.link k b), 0, none⟩)] 241 (0, 0)) := hX
 obtain ⟨x0, x1, x2⟩ := cells3 hX
 have hL := h.clist k hn
 have hal : a ∈ ids I k := by rw [hs]; exact List.mem_append_left _ (List.mem_of_getLast? ha)
 have hax : a ≠ x := fun e => hx1 (e ▸ List.mem_of_getLast? ha)
 obtain ⟨a0, r0, hr0⟩ := List.exists_cons_of_ne_nil (l := l1) (by intro e; rw [e] at ha; cases ha)
 have hhd : (ids I k).head? = some a0 := by rw [hs, hr0]; rfl
 rw [hhd] at hL
 have hL : w.heap[B (.list k)]? = some (.cells #[.pointer (some ⟨B (.link k a0), 0, none⟩), ptrO B k (ids I k).getLast?, .map (some (B (.lmap k)))] 239 (0, 0)) := hL
 have hA := h.clink k a hal
 have hbl : b ∈ ids I k := by rw [hs]; exact List.mem_append_right _ (List.mem_cons_of_mem _ (List.mem_of_head? hb))
 have hbx : b ≠ x := fun e => hx2 (e ▸ List.mem_of_head? hb)
 have hB := h.clink k b hbl
 have hab : a ≠ b := hnd'.2.2 a (List.mem_of_getLast? ha) b (List.mem_cons_of_mem _ (List.mem_of_head? hb))
 obtain ⟨y0, y1, y2⟩ := cells3 hL
 have hne : ∀ r r', Live I r → Live I r' → r ≠ r' → B r ≠ B r' := fun r r' hr hr' e => h.neq hr hr' e
 have hxl := hne (.link k x) (.list k) hxm hn (by simp)
 have hcl : c ≠ B (.list k) := by have := hne .root (.list k) trivial hn (by simp); rwa [h.root] at this
 have hcm : c ≠ B (.lmap k) := by have := hne .root (.lmap k) trivial hn (by simp); rwa [h.root] at this
 have hcr : c ≠ B .rmap := ne_rmap h
 have hlm := hne (.list k) (.lmap k) hn hn (by simp)
 have hml := hne (.lmap k) (.list k) hn hn (by simp)
 have hxa := hne (.link k x) (.link k a) hxm hal (by simp [Ne.symm hax])
 have hla := hne (.list k) (.link k a) hn hal (by simp)
 have hma := hne (.lmap k) (.link k a) hn hal (by simp)
 have hca : c ≠ B (.link k a) := by have := hne .root (.link k a) trivial hal (by simp); rwa [h.root] at this
 have hlb := hne (.list k) (.link k b) hn hbl (by simp)
 have hmb := hne (.lmap k) (.link k b) hn hbl (by simp)
 have hcb : c ≠ B (.link k b) := by have := hne .root (.link k b) trivial hbl (by simp); rwa [h.root] at this
 have hxb := hne (.link k x) (.link k b) hxm hbl (by simp [Ne.symm hbx])
 have hba := hne (.link k b) (.link k a) hbl hal (by simp [Ne.symm hab])
 have H := hid (⟨h, hk, hx, hs, ha, hb, hn, hxm, hX, hL, hxl, hcl, hcm, hcr, hlm, hml, hA, hxa, hla, hma, hca, hhd, hB, hlb, hmb, hcb, hxb, hba⟩ : ChAt w c I B ρ m ∧ keyOk k ∧ keyOk x ∧ _ ∧ _ ∧ _ ∧ _ ∧ _ ∧ _ ∧ _ ∧ _ ∧ _ ∧ _ ∧ _ ∧ _ ∧ _ ∧ _ ∧ _ ∧ _ ∧ _ ∧ _ ∧ _ ∧ _ ∧ _ ∧ _ ∧ _ ∧ _ ∧ _)
 clear h hk hx hs ha hb hn hxm hX hL hxl hcl hcm hcr hlm hml hA hxa hla hma hca hhd hB hlb hmb hcb hxb hba hnd hnd' hx1 hx2 hne c1 x0 y0 y1 hal hax hr0 hbl hbx hab
 go_enter Tryz.func110, Tryz.ntmps110
 go_wp2_with (first | (go_at_call 179; refine HA.out.mono ?_; rintro e w' ⟨rfl, rfl⟩) | (refine wpList_look (k := 3) (e := 235) rfl (.tmp 17) (.tmp 18) 186 rfl Tryz.underlying3 Tryz.underlying186 (zero_list _) rfl H.out.1.cmap k rfl H.out.2.1 (.pointer (some ⟨B (.list k), 0, none⟩)) HE.out ?_) | (refine wpList_look (k := 3) (e := 237) rfl (.tmp 23) (.tmp 24) 236 rfl Tryz.underlying3 Tryz.underlying236 (zero_link _) rfl (H.out.1.clmap k H.out.2.2.2.2.2.2.1) x rfl H.out.2.2.1 (.pointer (some ⟨B (.link k x), 0, none⟩)) HE2.out ?_))
 go_still_tail 10, (by kernel_rfl)
 refine wpList_store1 rfl 237 (.tmp 40) (.tmp 38) rfl (B (.link k a)) 2 rfl #[.int .i64 a, ptrO B k (prv (ids I k) a), ptrO B k (nxt (ids I k) a)] 241 (.pointer (some ⟨B (.link k b), 0, none⟩)) rfl info_link H.out.2.2.2.2.2.2.2.2.2.2.2.2.2.2.2.2.1 (by simp) rfl ?_
 intro w1 p1
 have hX1 := p1.keep H.out.2.2.2.2.2.2.2.2.1 H.out.2.2.2.2.2.2.2.2.2.2.2.2.2.2.2.2.2.1; have hL1 := p1.keep H.out.2.2.2.2.2.2.2.2.2.1 H.out.2.2.2.2.2.2.2.2.2.2.2.2.2.2.2.2.2.2.1; have z1 := (cells3 hX1).2.2; have v1 := (cells3 hX1).2.1; have hB1 := p1.keep H.out.2.2.2.2.2.2.2.2.2.2.2.2.2.2.2.2.2.2.2.2.2.2.1 H.out.2.2.2.2.2.2.2.2.2.2.2.2.2.2.2.2.2.2.2.2.2.2.2.2.2.2.2
 have P1 := hid (⟨p1, hX1, hL1, hB1⟩ : _ ∧ _ ∧ _ ∧ _); clear p1 hX1 hL1 hB1
 go_wp2_with fail
 go_still_tail 10, (by kernel_rfl)
 refine wpList_store1 rfl 237 (.tmp 62) (.tmp 60) rfl (B (.link k b)) 1 rfl #[.int .i64 b, ptrO B k (prv (ids I k) b), ptrO B k (nxt (ids I k) b)] 241 (.pointer (some ⟨B (.link k a), 0, none⟩)) rfl info_link P1.out.2.2.2 (by simp) rfl ?_
 intro w2 p2
 have hL2 := p2.keep P1.out.2.2.1 H.out.2.2.2.2.2.2.2.2.2.2.2.2.2.2.2.2.2.2.2.2.2.2.2.1; have hc2 := p2.keep (P1.out.1.keep H.out.1.croot H.out.2.2.2.2.2.2.2.2.2.2.2.2.2.2.2.2.2.2.2.2.1) H.out.2.2.2.2.2.2.2.2.2.2.2.2.2.2.2.2.2.2.2.2.2.2.2.2.2.1; have u2 := (cells3 hL2).2.2
 have P2 := hid (⟨p2, hL2, hc2⟩ : _ ∧ _ ∧ _); clear p2 hL2 hc2
 go_wp2_with ((refine wpList_mdrop (k := 3) (e := 237) rfl (.tmp 73) (.tmp 74) 236 rfl Tryz.underlying3 Tryz.underlying236 rfl (((H.out.1.clmap k H.out.2.2.2.2.2.2.1).frame ((Fr.refl _ w).drew.thenS P1.out.1.fr) H.out.2.2.2.2.2.2.2.2.2.2.2.2.2.2.2.2.2.2.2.1).frame ((Fr.refl _ w1).drew.thenS P2.out.1.fr) H.out.2.2.2.2.2.2.2.2.2.2.2.2.2.2.2.2.2.2.2.2.2.2.2.2.1) x rfl H.out.2.2.1 ?_; intro w3 m3 f3 z3; have hL3 := f3.keep P2.out.2.1 H.out.2.2.2.2.2.2.2.2.2.2.2.2.2.2.1; have hc3 := f3.keep P2.out.2.2 H.out.2.2.2.2.2.2.2.2.2.2.2.2.1; have u3 := (cells3 hL3).1; obtain ⟨e30, e31⟩ := cells2 hc3; have zf3 := freeAll hc3; have P3 := hid (⟨m3, f3, hc3⟩ : _ ∧ _ ∧ _); clear m3 f3 z3 hL3 hc3))
 go_ret
 have h := H.out.1
 have hs := H.out.2.2.2.1
 have ha := H.out.2.2.2.2.1
 have hb := H.out.2.2.2.2.2.1
 have hhd := H.out.2.2.2.2.2.2.2.2.2.2.2.2.2.2.2.2.2.2.2.2.2.1
 have q1 : Put (B (.link k a)) #[.int .i64 a, ptrO B k (prv (ids I k) a), ptrO B k l2.head?] 241 w w1 := by rw [hb]; exact ⟨P1.out.1.at_, (Fr.refl _ w).drew.thenS P1.out.1.fr, P1.out.1.size⟩
 have q2 : Put (B (.link k b)) #[.int .i64 b, ptrO B k l1.getLast?, ptrO B k (nxt (ids I k) b)] 241 w1 w2 := by rw [ha]; exact ⟨P2.out.1.at_, (Fr.refl _ w1).drew.thenS P2.out.1.fr, P2.out.1.size⟩
 have u := unl_some h hs ha hb q1 q2
 exact ⟨rfl, u.done h hs P3.out.1 P3.out.2.1 _ (.inl ⟨(by intro e; simp only [List.append_eq_nil_iff] at e; rw [e.1] at ha; cases ha), rfl⟩) P3.out.2.2⟩
set_option maxRecDepth 100000 in
set_option maxHeartbeats 1000000 in
theorem cut_head (w : World) (c : Nat) (I : List (Int × Int)) (B : Role → Nat) (ρ : Nat → Option Role) (m : Nat) (h : ChAt w c I B ρ m) (k x : Int) (b : Int) (l1 l2 : List Int) (hk : keyOk k) (hx : keyOk x) (hs : ids I k = l1 ++ x :: l2) (ha : l1.getLast? = none) (hb : l2.head? = some b) (hl : I.length ≤ 1000000) :
  Calls Tryz.prog 110 #[.pointer (some ⟨c, 0, none⟩), .int .i64 k, .int .i64 x] w fun e w' => e = .returned (.bool true) ∧ ChAt w' c (cutI I k x) B ρ m ∧ Fr (fun b => ρ b ≠ none) w w' := by
 have hxm : x ∈ ids I k := by rw [hs]; simp
 have hn : ids I k ≠ [] := by intro e; rw [e] at hxm; cases hxm
 have hnd := ids_nodup h.nodup k
 have hnd' := hnd
 rw [hs] at hnd'
 have hnd' := List.nodup_append.1 hnd'
 have hx1 : x ∉ l1 := fun e => hnd'.2.2 x e x (by simp) rfl
 have hx2 : x ∉ l2 := (List.nodup_cons.1 hnd'.2.1).1
 have HA := hid (has_any w c I B ρ m h k x hk hx)
 rw [decide_eq_true hxm] at HA
 obtain ⟨c0, c1⟩ := cells2 h.croot
 have HE : Hid ((if ids I k = [] then Value.pointer none else .pointer (some ⟨B (.list k), 0, none⟩)) = .pointer (some ⟨B (.list k), 0, none⟩)) := hid (if_neg hn)
 have HE2 : Hid ((if x ∈ ids I k then Value.pointer (some ⟨B (.link k x), 0, none⟩) else .pointer none) = .pointer (some ⟨B (.link k x), 0, none⟩)) := hid (if_pos hxm)
 have hX := h.clink k x hxm
 rw [hs, prv_at _ _ _ hx2, nxt_at _ _ _ hx1, ha, hb] at hX
 have hX : w.heap[B (.link k x)]? = some (.cells #[.int .i64 x, .pointer none, .pointer (some ⟨B (.link k b), 0, none⟩)] 241 (0, 0)) := hX
 obtain ⟨x0, x1, x2⟩ := cells3 hX
 have hL := h.clist k hn
 have hbl : b ∈ ids I k := by rw [hs]; exact List.mem_append_right _ (List.mem_cons_of_mem _ (List.mem_of_head? hb))
 have hbx : b ≠ x := fun e => hx2 (e ▸ List.mem_of_head? hb)
 have hB := h.clink k b hbl
 obtain ⟨y0, y1, y2⟩ := cells3 hL
 have hne : ∀ r r', Live I r → Live I r' → r ≠ r' → B r ≠ B r' := fun r r' hr hr' e => h.neq hr hr' e
 have hxl := hne (.link k x) (.list k) hxm hn (by simp)
 have hcl : c ≠ B (.list k) := by have := hne .root (.list k) trivial hn (by simp); rwa [h.root] at this
 have hcm : c ≠ B (.lmap k) := by have := hne .root (.lmap k) trivial hn (by simp); rwa [h.root] at this
 have hcr : c ≠ B .rmap := ne_rmap h
 have hlm := hne (.list k) (.lmap k) hn hn (by simp)
 have hml := hne (.lmap k) (.list k) hn hn (by simp)
 have hlb := hne (.list k) (.link k b) hn hbl (by simp)
 have hmb := hne (.lmap k) (.link k b) hn hbl (by simp)
 have hcb : c ≠ B (.link k b) := by have := hne .root (.link k b) trivial hbl (by simp); rwa [h.root] at this
 have hxb := hne (.link k x) (.link k b) hxm hbl (by simp [Ne.symm hbx])
 have H := hid (⟨h, hk, hx, hs, ha, hb, hn, hxm, hX, hL, hxl, hcl, hcm, hcr, hlm, hml, hB, hlb, hmb, hcb, hxb⟩ : ChAt w c I B ρ m ∧ keyOk k ∧ keyOk x ∧ _ ∧ _ ∧ _ ∧ _ ∧ _ ∧ _ ∧ _ ∧ _ ∧ _ ∧ _ ∧ _ ∧ _ ∧ _ ∧ _ ∧ _ ∧ _ ∧ _ ∧ _)
 clear h hk hx hs ha hb hn hxm hX hL hxl hcl hcm hcr hlm hml hB hlb hmb hcb hxb hnd hnd' hx1 hx2 hne c1 x0 y0 y1 hbl hbx
 go_enter Tryz.func110, Tryz.ntmps110
 go_wp2_with (first | (go_at_call 179; refine HA.out.mono ?_; rintro e w' ⟨rfl, rfl⟩) | (refine wpList_look (k := 3) (e := 235) rfl (.tmp 17) (.tmp 18) 186 rfl Tryz.underlying3 Tryz.underlying186 (zero_list _) rfl H.out.1.cmap k rfl H.out.2.1 (.pointer (some ⟨B (.list k), 0, none⟩)) HE.out ?_) | (refine wpList_look (k := 3) (e := 237) rfl (.tmp 23) (.tmp 24) 236 rfl Tryz.underlying3 Tryz.underlying236 (zero_link _) rfl (H.out.1.clmap k H.out.2.2.2.2.2.2.1) x rfl H.out.2.2.1 (.pointer (some ⟨B (.link k x), 0, none⟩)) HE2.out ?_) | (refine wpList_store1 rfl 237 (.tmp 47) (.tmp 45) rfl (B (.list k)) 0 rfl #[ptrO B k (ids I k).head?, ptrO B k (ids I k).getLast?, .map (some (B (.lmap k)))] 239 (.pointer (some ⟨B (.link k b), 0, none⟩)) rfl info_link H.out.2.2.2.2.2.2.2.2.2.1 (by simp) rfl ?_; intro w1 p1; have hX1 := p1.keep H.out.2.2.2.2.2.2.2.2.1 H.out.2.2.2.2.2.2.2.2.2.2.1; have z1 := (cells3 hX1).2.2; have v1 := (cells3 hX1).2.1; have hL1 := p1.at_; have hB1 := p1.keep H.out.2.2.2.2.2.2.2.2.2.2.2.2.2.2.2.2.1 (Ne.symm H.out.2.2.2.2.2.2.2.2.2.2.2.2.2.2.2.2.2.1); have P1 := hid (⟨p1, hX1, hL1, hB1⟩ : _ ∧ _ ∧ _ ∧ _); clear p1 hX1 hL1 hB1))
 go_still_tail 10, (by kernel_rfl)
 refine wpList_store1 rfl 237 (.tmp 62) (.tmp 60) rfl (B (.link k b)) 1 rfl #[.int .i64 b, ptrO B k (prv (ids I k) b), ptrO B k (nxt (ids I k) b)] 241 (.pointer none) rfl info_link P1.out.2.2.2 (by simp) rfl ?_
 intro w2 p2
 have hL2 := p2.keep P1.out.2.2.1 H.out.2.2.2.2.2.2.2.2.2.2.2.2.2.2.2.2.2.1; have hc2 := p2.keep (P1.out.1.keep H.out.1.croot H.out.2.2.2.2.2.2.2.2.2.2.2.1) H.out.2.2.2.2.2.2.2.2.2.2.2.2.2.2.2.2.2.2.2.1; have u2 := (cells3 hL2).2.2
 have P2 := hid (⟨p2, hL2, hc2⟩ : _ ∧ _ ∧ _); clear p2 hL2 hc2
 go_wp2_with ((refine wpList_mdrop (k := 3) (e := 237) rfl (.tmp 73) (.tmp 74) 236 rfl Tryz.underlying3 Tryz.underlying236 rfl (((H.out.1.clmap k H.out.2.2.2.2.2.2.1).frame P1.out.1.fr H.out.2.2.2.2.2.2.2.2.2.2.2.2.2.2.2.1).frame ((Fr.refl _ w1).drew.thenS P2.out.1.fr) H.out.2.2.2.2.2.2.2.2.2.2.2.2.2.2.2.2.2.2.1) x rfl H.out.2.2.1 ?_; intro w3 m3 f3 z3; have hL3 := f3.keep P2.out.2.1 H.out.2.2.2.2.2.2.2.2.2.2.2.2.2.2.1; have hc3 := f3.keep P2.out.2.2 H.out.2.2.2.2.2.2.2.2.2.2.2.2.1; have u3 := (cells3 hL3).1; obtain ⟨e30, e31⟩ := cells2 hc3; have zf3 := freeAll hc3; have P3 := hid (⟨m3, f3, hc3⟩ : _ ∧ _ ∧ _); clear m3 f3 z3 hL3 hc3))
 go_ret
 have h := H.out.1
 have hs := H.out.2.2.2.1
 have ha := H.out.2.2.2.2.1
 have hb := H.out.2.2.2.2.2.1
 have q1 : Put (B (.list k)) #[ptrO B k l2.head?, ptrO B k (ids I k).getLast?, .map (some (B (.lmap k)))] 239 w w1 := by rw [hb]; exact P1.out.1
 have q2 : Put (B (.link k b)) #[.int .i64 b, ptrO B k l1.getLast?, ptrO B k (nxt (ids I k) b)] 241 w1 w2 := by rw [ha]; exact ⟨P2.out.1.at_, (Fr.refl _ w1).drew.thenS P2.out.1.fr, P2.out.1.size⟩
 have u := unl_head h hs ha hb q1 q2
 exact ⟨rfl, u.done h hs P3.out.1 P3.out.2.1 _ (.inl ⟨(by intro e; simp only [List.append_eq_nil_iff] at e; rw [e.2] at hb; cases hb), rfl⟩) P3.out.2.2⟩
set_option maxRecDepth 100000 in
set_option maxHeartbeats 1000000 in
theorem cut_last (w : World) (c : Nat) (I : List (Int × Int)) (B : Role → Nat) (ρ : Nat → Option Role) (m : Nat) (h : ChAt w c I B ρ m) (k x : Int) (a : Int) (l1 l2 : List Int) (hk : keyOk k) (hx : keyOk x) (hs : ids I k = l1 ++ x :: l2) (ha : l1.getLast? = some a) (hb : l2.head? = none) (hl : I.length ≤ 1000000) :
  Calls Tryz.prog 110 #[.pointer (some ⟨c, 0, none⟩), .int .i64 k, .int .i64 x] w fun e w' => e = .returned (.bool true) ∧ ChAt w' c (cutI I k x) B ρ m ∧ Fr (fun b => ρ b ≠ none) w w' := by
 have hxm : x ∈ ids I k := by rw [hs]; simp
 have hn : ids I k ≠ [] := by intro e; rw [e] at hxm; cases hxm
 have hnd := ids_nodup h.nodup k
 have hnd' := hnd
 rw [hs] at hnd'
 have hnd' := List.nodup_append.1 hnd'
 have hx1 : x ∉ l1 := fun e => hnd'.2.2 x e x (by simp) rfl
 have hx2 : x ∉ l2 := (List.nodup_cons.1 hnd'.2.1).1
 have HA := hid (has_any w c I B ρ m h k x hk hx)
 rw [decide_eq_true hxm] at HA
 obtain ⟨c0, c1⟩ := cells2 h.croot
 have HE : Hid ((if ids I k = [] then Value.pointer none else .pointer (some ⟨B (.list k), 0, none⟩)) = .pointer (some ⟨B (.list k), 0, none⟩)) := hid (if_neg hn)
 have HE2 : Hid ((if x ∈ ids I k then Value.pointer (some ⟨B (.link k x), 0, none⟩) else .pointer none) = .pointer (some ⟨B (.link k x), 0, none⟩)) := hid (if_pos hxm)
 have hX := h.clink k x hxm
 rw [hs, prv_at _ _ _ hx2, nxt_at _ _ _ hx1, ha, hb] at hX
 have hX : w.heap[B (.link k x)]? = some (.cells #[.int .i64 x, .pointer (some ⟨B (.link k a), 0, none⟩), .pointer none] 241 (0, 0)) := hX
 obtain ⟨x0, x1, x2⟩ := cells3 hX
 have hL := h.clist k hn
 have hal : a ∈ ids I k := by rw [hs]; exact List.mem_append_left _ (List.mem_of_getLast? ha)
 have hax : a ≠ x := fun e => hx1 (e ▸ List.mem_of_getLast? ha)
 obtain ⟨a0, r0, hr0⟩ := List.exists_cons_of_ne_nil (l := l1) (by intro e; rw [e] at ha; cases ha)
 have hhd : (ids I k).head? = some a0 := by rw [hs, hr0]; rfl
 rw [hhd] at hL
 have hL : w.heap[B (.list k)]? = some (.cells #[.pointer (some ⟨B (.link k a0), 0, none⟩), ptrO B k (ids I k).getLast?, .map (some (B (.lmap k)))] 239 (0, 0)) := hL
 have hA := h.clink k a hal
 obtain ⟨y0, y1, y2⟩ := cells3 hL
 have hne : ∀ r r', Live I r → Live I r' → r ≠ r' → B r ≠ B r' := fun r r' hr hr' e => h.neq hr hr' e
 have hxl := hne (.link k x) (.list k) hxm hn (by simp)
 have hcl : c ≠ B (.list k) := by have := hne .root (.list k) trivial hn (by simp); rwa [h.root] at this
 have hcm : c ≠ B (.lmap k) := by have := hne .root (.lmap k) trivial hn (by simp); rwa [h.root] at this
 have hcr : c ≠ B .rmap := ne_rmap h
 have hlm := hne (.list k) (.lmap k) hn hn (by simp)
 have hml := hne (.lmap k) (.list k) hn hn (by simp)
 have hxa := hne (.link k x) (.link k a) hxm hal (by simp [Ne.symm hax])
 have hla := hne (.list k) (.link k a) hn hal (by simp)
 have hma := hne (.lmap k) (.link k a) hn hal (by simp)
 have hca : c ≠ B (.link k a) := by have := hne .root (.link k a) trivial hal (by simp); rwa [h.root] at this
 have H := hid (⟨h, hk, hx, hs, ha, hb, hn, hxm, hX, hL, hxl, hcl, hcm, hcr, hlm, hml, hA, hxa, hla, hma, hca, hhd⟩ : ChAt w c I B ρ m ∧ keyOk k ∧ keyOk x ∧ _ ∧ _ ∧ _ ∧ _ ∧ _ ∧ _ ∧ _ ∧ _ ∧ _ ∧ _ ∧ _ ∧ _ ∧ _ ∧ _ ∧ _ ∧ _ ∧ _ ∧ _ ∧ _)
 clear h hk hx hs ha hb hn hxm hX hL hxl hcl hcm hcr hlm hml hA hxa hla hma hca hhd hnd hnd' hx1 hx2 hne c1 x0 y0 y1 hal hax hr0
 go_enter Tryz.func110, Tryz.ntmps110
 go_wp2_with (first | (go_at_call 179; refine HA.out.mono ?_; rintro e w' ⟨rfl, rfl⟩) | (refine wpList_look (k := 3) (e := 235) rfl (.tmp 17) (.tmp 18) 186 rfl Tryz.underlying3 Tryz.underlying186 (zero_list _) rfl H.out.1.cmap k rfl H.out.2.1 (.pointer (some ⟨B (.list k), 0, none⟩)) HE.out ?_) | (refine wpList_look (k := 3) (e := 237) rfl (.tmp 23) (.tmp 24) 236 rfl Tryz.underlying3 Tryz.underlying236 (zero_link _) rfl (H.out.1.clmap k H.out.2.2.2.2.2.2.1) x rfl H.out.2.2.1 (.pointer (some ⟨B (.link k x), 0, none⟩)) HE2.out ?_))
 go_still_tail 10, (by kernel_rfl)
 refine wpList_store1 rfl 237 (.tmp 40) (.tmp 38) rfl (B (.link k a)) 2 rfl #[.int .i64 a, ptrO B k (prv (ids I k) a), ptrO B k (nxt (ids I k) a)] 241 (.pointer none) rfl info_link H.out.2.2.2.2.2.2.2.2.2.2.2.2.2.2.2.2.1 (by simp) rfl ?_
 intro w1 p1
 have hX1 := p1.keep H.out.2.2.2.2.2.2.2.2.1 H.out.2.2.2.2.2.2.2.2.2.2.2.2.2.2.2.2.2.1; have hL1 := p1.keep H.out.2.2.2.2.2.2.2.2.2.1 H.out.2.2.2.2.2.2.2.2.2.2.2.2.2.2.2.2.2.2.1; have z1 := (cells3 hX1).2.2; have v1 := (cells3 hX1).2.1
 have P1 := hid (⟨p1, hX1, hL1⟩ : _ ∧ _ ∧ _); clear p1 hX1 hL1
 go_wp2_with (first | (refine wpList_store1 rfl 237 (.tmp 69) (.tmp 67) rfl (B (.list k)) 1 rfl #[.pointer (some ⟨B (.link k a0), 0, none⟩), ptrO B k (ids I k).getLast?, .map (some (B (.lmap k)))] 239 (.pointer (some ⟨B (.link k a), 0, none⟩)) rfl info_link P1.out.2.2 (by simp) rfl ?_; intro w2 p2; have hL2 := p2.at_; have hc2 := p2.keep (P1.out.1.keep H.out.1.croot H.out.2.2.2.2.2.2.2.2.2.2.2.2.2.2.2.2.2.2.2.2.1) H.out.2.2.2.2.2.2.2.2.2.2.2.1; have u2 := (cells3 hL2).2.2; have P2 := hid (⟨p2, hL2, hc2⟩ : _ ∧ _ ∧ _); clear p2 hL2 hc2) | (refine wpList_mdrop (k := 3) (e := 237) rfl (.tmp 73) (.tmp 74) 236 rfl Tryz.underlying3 Tryz.underlying236 rfl (((H.out.1.clmap k H.out.2.2.2.2.2.2.1).frame ((Fr.refl _ w).drew.thenS P1.out.1.fr) H.out.2.2.2.2.2.2.2.2.2.2.2.2.2.2.2.2.2.2.2.1).frame P2.out.1.fr H.out.2.2.2.2.2.2.2.2.2.2.2.2.2.2.2.1) x rfl H.out.2.2.1 ?_; intro w3 m3 f3 z3; have hL3 := f3.keep P2.out.2.1 H.out.2.2.2.2.2.2.2.2.2.2.2.2.2.2.1; have hc3 := f3.keep P2.out.2.2 H.out.2.2.2.2.2.2.2.2.2.2.2.2.1; have u3 := (cells3 hL3).1; obtain ⟨e30, e31⟩ := cells2 hc3; have zf3 := freeAll hc3; have P3 := hid (⟨m3, f3, hc3⟩ : _ ∧ _ ∧ _); clear m3 f3 z3 hL3 hc3))
 go_ret
 have h := H.out.1
 have hs := H.out.2.2.2.1
 have ha := H.out.2.2.2.2.1
 have hb := H.out.2.2.2.2.2.1
 have hhd := H.out.2.2.2.2.2.2.2.2.2.2.2.2.2.2.2.2.2.2.2.2.2
 have q1 : Put (B (.link k a)) #[.int .i64 a, ptrO B k (prv (ids I k) a), ptrO B k l2.head?] 241 w w1 := by rw [hb]; exact ⟨P1.out.1.at_, (Fr.refl _ w).drew.thenS P1.out.1.fr, P1.out.1.size⟩
 have q2 : Put (B (.list k)) #[ptrO B k (ids I k).head?, ptrO B k l1.getLast?, .map (some (B (.lmap k)))] 239 w1 w2 := by rw [ha, hhd]; exact P2.out.1
 have u := unl_last h hs ha hb q1 q2
 exact ⟨rfl, u.done h hs P3.out.1 P3.out.2.1 _ (.inl ⟨(by intro e; simp only [List.append_eq_nil_iff] at e; rw [e.1] at ha; cases ha), rfl⟩) P3.out.2.2⟩
set_option maxRecDepth 100000 in
set_option maxHeartbeats 1000000 in
theorem cut_none (w : World) (c : Nat) (I : List (Int × Int)) (B : Role → Nat) (ρ : Nat → Option Role) (m : Nat) (h : ChAt w c I B ρ m) (k x : Int) (l1 l2 : List Int) (hk : keyOk k) (hx : keyOk x) (hs : ids I k = l1 ++ x :: l2) (ha : l1.getLast? = none) (hb : l2.head? = none) (hl : I.length ≤ 1000000) :
  Calls Tryz.prog 110 #[.pointer (some ⟨c, 0, none⟩), .int .i64 k, .int .i64 x] w fun e w' => e = .returned (.bool true) ∧ ChAt w' c (cutI I k x) B ρ m ∧ Fr (fun b => ρ b ≠ none) w w' := by
 have hxm : x ∈ ids I k := by rw [hs]; simp
 have hn : ids I k ≠ [] := by intro e; rw [e] at hxm; cases hxm
 have hnd := ids_nodup h.nodup k
 have hnd' := hnd
 rw [hs] at hnd'
 have hnd' := List.nodup_append.1 hnd'
 have hx1 : x ∉ l1 := fun e => hnd'.2.2 x e x (by simp) rfl
 have hx2 : x ∉ l2 := (List.nodup_cons.1 hnd'.2.1).1
 have HA := hid (has_any w c I B ρ m h k x hk hx)
 rw [decide_eq_true hxm] at HA
 obtain ⟨c0, c1⟩ := cells2 h.croot
 have HE : Hid ((if ids I k = [] then Value.pointer none else .pointer (some ⟨B (.list k), 0, none⟩)) = .pointer (some ⟨B (.list k), 0, none⟩)) := hid (if_neg hn)
 have HE2 : Hid ((if x ∈ ids I k then Value.pointer (some ⟨B (.link k x), 0, none⟩) else .pointer none) = .pointer (some ⟨B (.link k x), 0, none⟩)) := hid (if_pos hxm)
 have hX := h.clink k x hxm
 rw [hs, prv_at _ _ _ hx2, nxt_at _ _ _ hx1, ha, hb] at hX
 have hX : w.heap[B (.link k x)]? = some (.cells #[.int .i64 x, .pointer none, .pointer none] 241 (0, 0)) := hX
 obtain ⟨x0, x1, x2⟩ := cells3 hX
 have hL := h.clist k hn
 obtain ⟨y0, y1, y2⟩ := cells3 hL
 have hne : ∀ r r', Live I r → Live I r' → r ≠ r' → B r ≠ B r' := fun r r' hr hr' e => h.neq hr hr' e
 have hxl := hne (.link k x) (.list k) hxm hn (by simp)
 have hcl : c ≠ B (.list k) := by have := hne .root (.list k) trivial hn (by simp); rwa [h.root] at this
 have hcm : c ≠ B (.lmap k) := by have := hne .root (.lmap k) trivial hn (by simp); rwa [h.root] at this
 have hcr : c ≠ B .rmap := ne_rmap h
 have hlm := hne (.list k) (.lmap k) hn hn (by simp)
 have hml := hne (.lmap k) (.list k) hn hn (by simp)
 have H := hid (⟨h, hk, hx, hs, ha, hb, hn, hxm, hX, hL, hxl, hcl, hcm, hcr, hlm, hml⟩ : ChAt w c I B ρ m ∧ keyOk k ∧ keyOk x ∧ _ ∧ _ ∧ _ ∧ _ ∧ _ ∧ _ ∧ _ ∧ _ ∧ _ ∧ _ ∧ _ ∧ _ ∧ _)
 clear h hk hx hs ha hb hn hxm hX hL hxl hcl hcm hcr hlm hml hnd hnd' hx1 hx2 hne c1 x0 y0 y1
 go_enter Tryz.func110, Tryz.ntmps110
 go_wp2_with (first | (go_at_call 179; refine HA.out.mono ?_; rintro e w' ⟨rfl, rfl⟩) | (refine wpList_look (k := 3) (e := 235) rfl (.tmp 17) (.tmp 18) 186 rfl Tryz.underlying3 Tryz.underlying186 (zero_list _) rfl H.out.1.cmap k rfl H.out.2.1 (.pointer (some ⟨B (.list k), 0, none⟩)) HE.out ?_) | (refine wpList_look (k := 3) (e := 237) rfl (.tmp 23) (.tmp 24) 236 rfl Tryz.underlying3 Tryz.underlying236 (zero_link _) rfl (H.out.1.clmap k H.out.2.2.2.2.2.2.1) x rfl H.out.2.2.1 (.pointer (some ⟨B (.link k x), 0, none⟩)) HE2.out ?_) | (refine wpList_store1 rfl 237 (.tmp 47) (.tmp 45) rfl (B (.list k)) 0 rfl #[ptrO B k (ids I k).head?, ptrO B k (ids I k).getLast?, .map (some (B (.lmap k)))] 239 (.pointer none) rfl info_link H.out.2.2.2.2.2.2.2.2.2.1 (by simp) rfl ?_; intro w1 p1; have hX1 := p1.keep H.out.2.2.2.2.2.2.2.2.1 H.out.2.2.2.2.2.2.2.2.2.2.1; have z1 := (cells3 hX1).2.2; have v1 := (cells3 hX1).2.1; have hL1 := p1.at_; have P1 := hid (⟨p1, hX1, hL1⟩ : _ ∧ _ ∧ _); clear p1 hX1 hL1) | (refine wpList_store1 rfl 237 (.tmp 69) (.tmp 67) rfl (B (.list k)) 1 rfl #[.pointer none, ptrO B k (ids I k).getLast?, .map (some (B (.lmap k)))] 239 (.pointer none) rfl info_link P1.out.2.2 (by simp) rfl ?_; intro w2 p2; have hL2 := p2.at_; have hc2 := p2.keep (P1.out.1.keep H.out.1.croot H.out.2.2.2.2.2.2.2.2.2.2.2.1) H.out.2.2.2.2.2.2.2.2.2.2.2.1; have u2 := (cells3 hL2).2.2; have P2 := hid (⟨p2, hL2, hc2⟩ : _ ∧ _ ∧ _); clear p2 hL2 hc2) | (refine wpList_mdrop (k := 3) (e := 237) rfl (.tmp 73) (.tmp 74) 236 rfl Tryz.underlying3 Tryz.underlying236 rfl (((H.out.1.clmap k H.out.2.2.2.2.2.2.1).frame P1.out.1.fr H.out.2.2.2.2.2.2.2.2.2.2.2.2.2.2.2).frame P2.out.1.fr H.out.2.2.2.2.2.2.2.2.2.2.2.2.2.2.2) x rfl H.out.2.2.1 ?_; intro w3 m3 f3 z3; have hL3 := f3.keep P2.out.2.1 H.out.2.2.2.2.2.2.2.2.2.2.2.2.2.2.1; have hc3 := f3.keep P2.out.2.2 H.out.2.2.2.2.2.2.2.2.2.2.2.2.1; have u3 := (cells3 hL3).1; obtain ⟨e30, e31⟩ := cells2 hc3; have zf3 := freeAll hc3; have P3 := hid (⟨m3, f3, hc3⟩ : _ ∧ _ ∧ _); clear m3 f3 z3 hL3 hc3) | (refine wpList_mdrop (k := 3) (e := 235) rfl (.tmp 83) (.tmp 84) 186 rfl Tryz.underlying3 Tryz.underlying186 rfl (((H.out.1.cmap.frame P1.out.1.fr (H.out.1.neq (r := .rmap) (r' := .list k) trivial H.out.2.2.2.2.2.2.1 (by simp))).frame P2.out.1.fr (H.out.1.neq (r := .rmap) (r' := .list k) trivial H.out.2.2.2.2.2.2.1 (by simp))).frame P3.out.2.1 (H.out.1.neq (r := .rmap) (r' := .lmap k) trivial H.out.2.2.2.2.2.2.1 (by simp))) k rfl H.out.2.1 ?_; intro w4 m4 f4 z4; have hc4 := f4.keep P3.out.2.2 H.out.2.2.2.2.2.2.2.2.2.2.2.2.2.1; have e41 := (cells2 hc4).2; have zf4 := freeAll hc4; have P4 := hid (⟨m4, f4, hc4⟩ : _ ∧ _ ∧ _); clear m4 f4 z4 hc4))
 go_ret
 have h := H.out.1
 have hs := H.out.2.2.2.1
 have ha := H.out.2.2.2.2.1
 have hb := H.out.2.2.2.2.2.1
 have q1 : Put (B (.list k)) #[ptrO B k l2.head?, ptrO B k (ids I k).getLast?, .map (some (B (.lmap k)))] 239 w w1 := by rw [hb]; exact P1.out.1
 have q2 : Put (B (.list k)) #[ptrO B k l2.head?, ptrO B k l1.getLast?, .map (some (B (.lmap k)))] 239 w1 w2 := by rw [ha, hb]; exact P2.out.1
 have u := unl_none h hs ha hb q1 q2
 exact ⟨rfl, u.done h hs P3.out.1 P3.out.2.1 _ (.inr ⟨by simp only [List.append_eq_nil_iff]; exact ⟨by simpa using ha, by simpa using hb⟩, P4.out.1, P4.out.2.1⟩) P4.out.2.2⟩
theorem cut_any (w : World) (c : Nat) (I : List (Int × Int)) (B : Role → Nat) (ρ : Nat → Option Role) (m : Nat) (h : ChAt w c I B ρ m) (k x : Int) (hk : keyOk k) (hx : keyOk x) (hl : I.length ≤ 1000000) :
  Calls Tryz.prog 110 #[.pointer (some ⟨c, 0, none⟩), .int .i64 k, .int .i64 x] w fun e w' => e = .returned (.bool (decide ((k, x) ∈ I))) ∧ ChAt w' c (cutI I k x) B ρ m ∧ Fr (fun b => ρ b ≠ none) w w' := by
 by_cases hin : (k, x) ∈ I
 ·have hxm := (mem_ids I k x).2 hin
  obtain ⟨l1, l2, hs, h1, h2, _⟩ := split_at (ids_nodup h.nodup k) hxm
  rw [decide_eq_true hin]
  cases ha : l1.getLast? with
  | none =>
   cases hb : l2.head? with
   | none => exact cut_none w c I B ρ m h k x l1 l2 hk hx hs ha hb hl
   | some b => exact cut_head w c I B ρ m h k x b l1 l2 hk hx hs ha hb hl
  | some a =>
   cases hb : l2.head? with
   | none => exact cut_last w c I B ρ m h k x a l1 l2 hk hx hs ha hb hl
   | some b => exact cut_some w c I B ρ m h k x a b l1 l2 hk hx hs ha hb hl
 ·refine (cut_not w c I B ρ m h k x hk hx (fun e => hin ((mem_ids I k x).1 e))).mono ?_
  rintro e w' ⟨rfl, rfl⟩
  have ec : cutI I k x = I := List.filter_eq_self.2 (fun p hp => by
   have : p ≠ (k, x) := fun e => hin (e ▸ hp)
   simp [this])
  rw [ec]
  exact ⟨by rw [decide_eq_false hin], h, Fr.refl _ _⟩
end Go.Proofs.YthadcdoepoglkaaGreatDoor
