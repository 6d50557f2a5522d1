/- A part of the proof: contracts of functions of the program, for the row's text. -/
import Derived.Test.YthadcdoepoglkaaGreatDoorRows
import Derived.Test.YthadcdoepoglkaaGreatDoorJ02
import Derived.Test.YthadcdoepoglkaaGreatDoorJ10
namespace Go.Proofs.YthadcdoepoglkaaGreatDoor
open Go.RowKit Go.Lig
def ids (I : List (Int × Int)) (k : Int) : List Int := (I.filter fun p => p.1 == k).map (·.2)
def nxt : List Int → Int → Option Int
 | [], _ => none
 | y :: l, x => if y = x then l.head? else nxt l x
def prv (l : List Int) (x : Int) : Option Int := nxt l.reverse x
inductive Role
 | root
 | rmap
 | list (k : Int)
 | lmap (k : Int)
 | link (k x : Int)
 deriving DecidableEq
def ptrO (B : Role → Nat) (k : Int) : Option Int → Value
 | none => .pointer none
 | some x => .pointer (some ⟨B (.link k x), 0, none⟩)
def Live (I : List (Int × Int)) : Role → Prop
 | .root => True
 | .rmap => True
 | .list k => ids I k ≠ []
 | .lmap k => ids I k ≠ []
 | .link k x => x ∈ ids I k
structure ChAt (w : World) (c : Nat) (I : List (Int × Int)) (B : Role → Nat) (ρ : Nat → Option Role) (m : Nat) : Prop where
 nodup : I.Nodup
 root : B .root = c
 rho : ∀ r, Live I r → ρ (B r) = some r
 bound : ∀ b, ρ b ≠ none → b < w.heap.size
 croot : w.heap[c]? = some (.cells #[.map (some (B .rmap)), .int .i64 (I.length : Int)] 188 (0, 0))
 cmap : MapAt w Tryz.prog 3 (B .rmap) m (fun k => if ids I k = [] then .pointer none else .pointer (some ⟨B (.list k), 0, none⟩))
 clist : ∀ k, ids I k ≠ [] → w.heap[B (.list k)]? = some (.cells #[ptrO B k (ids I k).head?, ptrO B k (ids I k).getLast?, .map (some (B (.lmap k)))] 239 (0, 0))
 clmap : ∀ k, ids I k ≠ [] → MapAt w Tryz.prog 3 (B (.lmap k)) m (fun x => if x ∈ ids I k then .pointer (some ⟨B (.link k x), 0, none⟩) else .pointer none)
 clink : ∀ k x, x ∈ ids I k → w.heap[B (.link k x)]? = some (.cells #[.int .i64 x, ptrO B k (prv (ids I k) x), ptrO B k (nxt (ids I k) x)] 241 (0, 0))
theorem ChAt.frame {w w' : World} {c : Nat} {I : List (Int × Int)} {B : Role → Nat} {ρ : Nat → Option Role} {m : Nat} {U : Nat → Prop} (h : ChAt w c I B ρ m) (hf : Fr U w w') (hd : ∀ b, ρ b ≠ none → ¬ U b) : ChAt w' c I B ρ m := by
 have hd' : ∀ r, Live I r → ¬ U (B r) := fun r hr => hd _ (by rw [h.rho r hr]; simp)
 refine ⟨h.nodup, h.root, h.rho, fun b hb => Nat.lt_of_lt_of_le (h.bound b hb) hf.size, ?_, h.cmap.frame hf (hd' .rmap trivial), fun k hk => hf.keep (h.clist k hk) (hd' (.list k) hk), fun k hk => (h.clmap k hk).frame hf (hd' (.lmap k) hk), fun k x hx => hf.keep (h.clink k x hx) (hd' (.link k x) hx)⟩
 exact hf.keep h.croot (by have := hd' .root trivial; rwa [h.root] at this)
theorem ids_nil (k : Int) : ids [] k = [] := rfl
theorem ids_cons_same (I : List (Int × Int)) (k x : Int) : ids ((k, x) :: I) k = x :: ids I k := by simp [ids]
theorem ids_cons_other (I : List (Int × Int)) (k x j : Int) (h : j ≠ k) : ids ((k, x) :: I) j = ids I j := by
 simp [ids, Ne.symm h]
theorem mem_ids (I : List (Int × Int)) (k x : Int) : x ∈ ids I k ↔ (k, x) ∈ I := by
 simp only [ids, List.mem_map, List.mem_filter, beq_iff_eq]
 constructor
 ·rintro ⟨⟨a, b⟩, ⟨h1, h2⟩, h3⟩
  simp only at h2 h3
  subst h2 h3
  exact h1
 ·exact fun h => ⟨(k, x), ⟨h, rfl⟩, rfl⟩
theorem chnew_any (w : World) : Calls Tryz.prog 71 #[] w fun e w' => ∃ c B ρ, e = .returned (.pointer (some ⟨c, 0, none⟩)) ∧ ChAt w' c [] B ρ 0 ∧ Fr No w w' ∧ ∀ b, ρ b ≠ none → w.heap.size ≤ b := by
 go_enter Tryz.func71, Tryz.ntmps71
 go_wp2_with (refine wpList_mmake (k := 3) rfl 186 rfl ?_; intro w1 m1 f1 z1; have M1 := hid (⟨m1, f1, z1⟩ : _ ∧ _ ∧ _); clear m1 f1 z1)
 go_ret
 obtain ⟨m1, f1, z1⟩ := M1.out
 refine ⟨w1.heap.size, fun r => match r with | .root => w1.heap.size | .rmap => w.heap.size | _ => 0, fun b => if b = w1.heap.size then some .root else if b = w.heap.size then some .rmap else none, rfl, ?_, f1.alloc _, ?_⟩
 ·refine ⟨List.nodup_nil, rfl, ?_, ?_, heap1 w1 _, ?_, fun k hk => absurd rfl hk, fun k hk => absurd rfl hk, fun k x hx => by cases hx⟩
  ·intro r hr
   cases r with
   | root => simp
   | rmap => simp; omega
   | list k => exact absurd rfl hr
   | lmap k => exact absurd rfl hr
   | link k x => cases hr
  ·intro b hb
   split at hb
   ·simp; omega
   ·split at hb
    ·simp; omega
    ·exact absurd rfl hb
  ·simpa [ids_nil] using m1.frame ((Fr.refl No w1).alloc _) id
 ·intro b hb
  dsimp only at hb
  split at hb
  ·omega
  ·split at hb
   ·omega
   ·exact absurd rfl hb
def keyOk (k : Int) : Prop := (Lit.int .i64 k).wf = true
theorem zero_list (u : World) : (zeroValue 235).run Tryz.prog u = .ok (.pointer none) u := by kernel_rfl
theorem zero_link (u : World) : (zeroValue 237).run Tryz.prog u = .ok (.pointer none) u := by kernel_rfl
def listPtr (I : List (Int × Int)) (B : Role → Nat) (k : Int) : Value := if ids I k = [] then .pointer none else .pointer (some ⟨B (.list k), 0, none⟩)
theorem at_any (w : World) (c : Nat) (I : List (Int × Int)) (B : Role → Nat) (ρ : Nat → Option Role) (m : Nat) (h : ChAt w c I B ρ m) (k : Int) (hk : keyOk k) :
  Calls Tryz.prog 210 #[.pointer (some ⟨c, 0, none⟩), .int .i64 k] w fun e w' => e = .returned (listPtr I B k) ∧ w = w' := by
 obtain ⟨c0, c1⟩ := cells2 h.croot
 have H := hid (⟨h, hk⟩ : _ ∧ keyOk k)
 clear h hk c1
 go_enter Tryz.func210, Tryz.ntmps210
 go_wp2_with (refine wpList_look (k := 3) (e := 235) rfl (.tmp 10) (.tmp 11) 186 rfl Tryz.underlying3 Tryz.underlying186 (zero_list _) rfl H.out.1.cmap k rfl H.out.2 (listPtr I B k) rfl ?_)
 go_ret
 exact ⟨rfl, rfl⟩
end Go.Proofs.YthadcdoepoglkaaGreatDoor
namespace Go.Proofs.YthadcdoepoglkaaGreatDoor
open Go.RowKit Go.Lig
theorem has_any (w : World) (c : Nat) (I : List (Int × Int)) (B : Role → Nat) (ρ : Nat → Option Role) (m : Nat) (h : ChAt w c I B ρ m) (k x : Int) (hk : keyOk k) (hx : keyOk x) :
  Calls Tryz.prog 179 #[.pointer (some ⟨c, 0, none⟩), .int .i64 k, .int .i64 x] w fun e w' => e = .returned (.bool (decide (x ∈ ids I k))) ∧ w = w' := by
 have HA := hid (at_any w c I B ρ m h k hk)
 by_cases hn : ids I k = []
 ·rw [show listPtr I B k = .pointer none from if_pos hn] at HA
  have hf : decide (x ∈ ids I k) = false := by rw [hn]; rfl
  rw [hf]
  clear h hn hf
  go_enter Tryz.func179, Tryz.ntmps179
  go_wp2_with (go_at_call 210; refine HA.out.mono ?_; rintro e w' ⟨rfl, rfl⟩)
  go_ret
  exact ⟨rfl, rfl⟩
 ·rw [show listPtr I B k = .pointer (some ⟨B (.list k), 0, none⟩) from if_neg hn] at HA
  obtain ⟨c0, c1, c2⟩ := cells3 (h.clist k hn)
  have HM := hid (⟨h.clmap k hn, hx⟩ : _ ∧ keyOk x)
  clear h hn hx hk c0 c1
  by_cases hm : x ∈ ids I k
  ·rw [decide_eq_true hm]
   have HE : Hid ((if x ∈ ids I k then Value.pointer (some ⟨B (.link k x), 0, none⟩) else .pointer none) = .pointer (some ⟨B (.link k x), 0, none⟩)) := hid (if_pos hm)
   clear hm
   go_enter Tryz.func179, Tryz.ntmps179
   go_wp2_with (first | (go_at_call 210; refine HA.out.mono ?_; rintro e w' ⟨rfl, rfl⟩) | (refine wpList_lookG (k := 3) (e := 237) rfl (.tmp 17) (.tmp 18) 236 rfl Tryz.underlying3 Tryz.underlying236 (zero_link _) rfl HM.out.1 x rfl HM.out.2 (.pointer (some ⟨B (.link k x), 0, none⟩)) HE.out ?_))
   go_ret
   exact ⟨rfl, rfl⟩
  ·rw [decide_eq_false hm]
   have HE : Hid ((if x ∈ ids I k then Value.pointer (some ⟨B (.link k x), 0, none⟩) else .pointer none) = .pointer none) := hid (if_neg hm)
   clear hm
   go_enter Tryz.func179, Tryz.ntmps179
   go_wp2_with (first | (go_at_call 210; refine HA.out.mono ?_; rintro e w' ⟨rfl, rfl⟩) | (refine wpList_lookG (k := 3) (e := 237) rfl (.tmp 17) (.tmp 18) 236 rfl Tryz.underlying3 Tryz.underlying236 (zero_link _) rfl HM.out.1 x rfl HM.out.2 (.pointer none) HE.out ?_))
   go_ret
   exact ⟨rfl, rfl⟩
end Go.Proofs.YthadcdoepoglkaaGreatDoor
namespace Go.Proofs.YthadcdoepoglkaaGreatDoor
open Go.RowKit Go.Lig
def newB (B : Role → Nat) (k x : Int) (bl bm bx : Nat) : Role → Nat
 | .list j => if j = k then bl else B (.list j)
 | .lmap j => if j = k then bm else B (.lmap j)
 | .link j y => if j = k ∧ y = x then bx else B (.link j y)
 | r => B r
theorem prv_cons (l : List Int) (x : Int) (h : x ∉ l) : prv (x :: l) x = none := by
 unfold prv
 rw [List.reverse_cons]
 have : ∀ (m : List Int), x ∉ m → nxt (m ++ [x]) x = none := by
  intro m
  induction m with
  | nil => intro _; simp [nxt]
  | cons y m ih =>
   intro hm
   have h1 : ¬ y = x := fun e => hm (by simp [e])
   simp only [List.cons_append, nxt, if_neg h1]
   exact ih (fun e => hm (by simp [e]))
 exact this _ (by simpa using h)
theorem nxt_snoc (x y : Int) : ∀ (l : List Int), l.Nodup → y ∈ l → nxt (l ++ [x]) y = if l.getLast? = some y then some x else nxt l y
 | [], _, h => by cases h
 | [z], _, h => by
  obtain rfl : y = z := by simpa using h
  simp [nxt]
 | z :: z2 :: l, hn, h => by
  have hn' := List.nodup_cons.1 hn
  have hlast : (z :: z2 :: l).getLast? = (z2 :: l).getLast? := by simp [List.getLast?_cons_cons]
  rw [hlast]
  by_cases e : z = y
  ·subst e
   have hne : ¬ (z2 :: l).getLast? = some z := fun e => hn'.1 (List.mem_of_getLast? e)
   rw [if_neg hne]
   simp [nxt]
  ·have hy : y ∈ z2 :: l := by
    rcases List.mem_cons.1 h with rfl | h
    ·exact absurd rfl e
    ·exact h
   have ih := nxt_snoc x y (z2 :: l) hn'.2 hy
   simp only [List.cons_append, nxt, if_neg e] at ih ⊢
   exact ih
theorem prv_add (l : List Int) (x y : Int) (hn : l.Nodup) (hy : y ∈ l) : prv (x :: l) y = if l.head? = some y then some x else prv l y := by
 unfold prv
 rw [List.reverse_cons, nxt_snoc x y l.reverse (List.pairwise_reverse.2 (hn.imp Ne.symm)) (by simpa using hy), List.getLast?_reverse]
theorem nxt_cons_same (l : List Int) (x : Int) : nxt (x :: l) x = l.head? := by simp [nxt]
theorem nxt_cons_other (l : List Int) (x y : Int) (h : x ≠ y) : nxt (x :: l) y = nxt l y := by simp [nxt, h]
theorem ids_nodup {I : List (Int × Int)} (h : I.Nodup) (k : Int) : (ids I k).Nodup := by
 unfold ids
 refine List.pairwise_map.2 (List.Pairwise.imp_of_mem (R := (· ≠ ·)) (fun {a b} ha hb hne e => hne ?_) (h.filter _))
 have h1 : a.1 = k := by simpa using (List.mem_filter.1 ha).2
 have h2 : b.1 = k := by simpa using (List.mem_filter.1 hb).2
 exact Prod.ext (h1.trans h2.symm) e
def newR (ρ : Nat → Option Role) (k x : Int) (bl bm bx : Nat) : Nat → Option Role := fun b => if b = bl then some (.list k) else if b = bm then some (.lmap k) else if b = bx then some (.link k x) else ρ b
theorem ids_add (I : List (Int × Int)) (k x j : Int) : ids ((k, x) :: I) j = if j = k then x :: ids I k else ids I j := by
 split
 ·rename_i e; subst e; exact ids_cons_same I j x
 ·rename_i e; exact ids_cons_other I k x j e
structure Added (w w' : World) (c : Nat) (I : List (Int × Int)) (B : Role → Nat) (ρ : Nat → Option Role) (m : Nat) (k x : Int) (bl bm bx : Nat) : Prop where
 old : ids I k ≠ [] → bl = B (.list k) ∧ bm = B (.lmap k)
 new : ids I k = [] → w.heap.size ≤ bl ∧ w.heap.size ≤ bm ∧ bl ≠ bm
 fresh : w.heap.size ≤ bx ∧ bx ≠ bl ∧ bx ≠ bm
 lt : bl < w'.heap.size ∧ bm < w'.heap.size ∧ bx < w'.heap.size ∧ w.heap.size ≤ w'.heap.size
 croot : w'.heap[c]? = some (.cells #[.map (some (B .rmap)), .int .i64 ((I.length + 1 : Nat) : Int)] 188 (0, 0))
 cmap : MapAt w' Tryz.prog 3 (B .rmap) (m + 1) (fun j => if j = k then .pointer (some ⟨bl, 0, none⟩) else if ids I j = [] then .pointer none else .pointer (some ⟨B (.list j), 0, none⟩))
 clist : w'.heap[bl]? = some (.cells #[.pointer (some ⟨bx, 0, none⟩), if ids I k = [] then .pointer (some ⟨bx, 0, none⟩) else ptrO B k (ids I k).getLast?, .map (some bm)] 239 (0, 0))
 clmap : MapAt w' Tryz.prog 3 bm (m + 1) (fun y => if y = x then .pointer (some ⟨bx, 0, none⟩) else if y ∈ ids I k then .pointer (some ⟨B (.link k y), 0, none⟩) else .pointer none)
 clink : w'.heap[bx]? = some (.cells #[.int .i64 x, .pointer none, ptrO B k (ids I k).head?] 241 (0, 0))
 cold : ∀ y, y ∈ ids I k → w'.heap[B (.link k y)]? = some (.cells #[.int .i64 y, if (ids I k).head? = some y then .pointer (some ⟨bx, 0, none⟩) else ptrO B k (prv (ids I k) y), ptrO B k (nxt (ids I k) y)] 241 (0, 0))
 keepL : ∀ j, j ≠ k → ids I j ≠ [] → w'.heap[B (.list j)]? = w.heap[B (.list j)]?
 keepM : ∀ j f, j ≠ k → ids I j ≠ [] → MapAt w Tryz.prog 3 (B (.lmap j)) m f → MapAt w' Tryz.prog 3 (B (.lmap j)) (m + 1) f
 keepX : ∀ j y, j ≠ k → y ∈ ids I j → w'.heap[B (.link j y)]? = w.heap[B (.link j y)]?
theorem Added.ne {w w' : World} {c : Nat} {I : List (Int × Int)} {B : Role → Nat} {ρ : Nat → Option Role} {m : Nat} {k x : Int} {bl bm bx : Nat} (a : Added w w' c I B ρ m k x bl bm bx) (h : ChAt w c I B ρ m) {r : Role} (hr : Live I r) (h1 : r ≠ .list k) (h2 : r ≠ .lmap k) :
  B r ≠ bl ∧ B r ≠ bm ∧ B r ≠ bx := by
 have hb := h.bound (B r) (by rw [h.rho r hr]; simp)
 have hf := a.fresh
 by_cases hn : ids I k = []
 ·have := a.new hn
  omega
 ·obtain ⟨e1, e2⟩ := a.old hn
  refine ⟨fun e => ?_, fun e => ?_, by omega⟩
  ·have := h.rho r hr
   rw [e, e1, h.rho (.list k) hn] at this
   exact h1 (Option.some.inj this).symm
  ·have := h.rho r hr
   rw [e, e2, h.rho (.lmap k) hn] at this
   exact h2 (Option.some.inj this).symm
theorem Added.lm {w w' : World} {c : Nat} {I : List (Int × Int)} {B : Role → Nat} {ρ : Nat → Option Role} {m : Nat} {k x : Int} {bl bm bx : Nat} (a : Added w w' c I B ρ m k x bl bm bx) (h : ChAt w c I B ρ m) : bl ≠ bm := by
 by_cases hn : ids I k = []
 ·exact (a.new hn).2.2
 ·obtain ⟨e1, e2⟩ := a.old hn
  intro e
  have h1 := h.rho (.list k) hn
  rw [← e1, e, e2, h.rho (.lmap k) hn] at h1
  cases h1
theorem ptrO_other (B : Role → Nat) (k x j : Int) (bl bm bx : Nat) (e : j ≠ k) (o : Option Int) : ptrO (newB B k x bl bm bx) j o = ptrO B j o := by
 cases o <;> simp [ptrO, newB, e]
theorem ptrO_same (B : Role → Nat) (k x : Int) (bl bm bx : Nat) (o : Option Int) (ho : o ≠ some x) : ptrO (newB B k x bl bm bx) k o = ptrO B k o := by
 cases o with
 | none => rfl
 | some y =>
  have hy : ¬ y = x := fun e => ho (by rw [e])
  simp [ptrO, newB, hy]
theorem ptrO_x (B : Role → Nat) (k x : Int) (bl bm bx : Nat) : ptrO (newB B k x bl bm bx) k (some x) = .pointer (some ⟨bx, 0, none⟩) := by simp [ptrO, newB]
theorem nxt_mem : ∀ (l : List Int) (y z : Int), nxt l y = some z → z ∈ l
 | [], _, _, h => by cases h
 | a :: l, y, z, h => by
  simp only [nxt] at h
  split at h
  ·exact List.mem_cons_of_mem _ (List.mem_of_head? h)
  ·exact List.mem_cons_of_mem _ (nxt_mem l y z h)
theorem prv_mem (l : List Int) (y z : Int) (h : prv l y = some z) : z ∈ l := by simpa using nxt_mem _ _ _ h
theorem Added.done {w w' : World} {c : Nat} {I : List (Int × Int)} {B : Role → Nat} {ρ : Nat → Option Role} {m : Nat} {k x : Int} {bl bm bx : Nat} (a : Added w w' c I B ρ m k x bl bm bx) (h : ChAt w c I B ρ m) (hx : x ∉ ids I k) :
  ChAt w' c ((k, x) :: I) (newB B k x bl bm bx) (newR ρ k x bl bm bx) (m + 1) := by
 have hlm := a.lm h
 have hfr := a.fresh
 have hlt := a.lt
 refine ⟨List.nodup_cons.2 ⟨fun e => hx ((mem_ids I k x).2 e), h.nodup⟩, h.root, ?_, ?_, a.croot, ?_, ?_, ?_, ?_⟩
 ·have old : ∀ r, Live I r → r ≠ .list k → r ≠ .lmap k → newR ρ k x bl bm bx (B r) = some r := fun r hr h1 h2 => by
   obtain ⟨n1, n2, n3⟩ := a.ne h hr h1 h2
   simp only [newR, if_neg n1, if_neg n2, if_neg n3]
   exact h.rho r hr
  intro r hr
  cases r with
  | root => exact old .root trivial (by simp) (by simp)
  | rmap => exact old .rmap trivial (by simp) (by simp)
  | list j =>
   by_cases e : j = k
   ·subst e; simp [newB, newR]
   ·have hr' : ids I j ≠ [] := by rw [← ids_cons_other I k x j e]; exact hr
    simp only [newB, if_neg e]
    exact old (.list j) hr' (by simp [e]) (by simp)
  | lmap j =>
   by_cases e : j = k
   ·subst e; simp [newB, newR, Ne.symm hlm]
   ·have hr' : ids I j ≠ [] := by rw [← ids_cons_other I k x j e]; exact hr
    simp only [newB, if_neg e]
    exact old (.lmap j) hr' (by simp) (by simp [e])
  | link j y =>
   by_cases e : j = k ∧ y = x
   ·obtain ⟨rfl, rfl⟩ := e; simp [newB, newR, hfr.2.1, hfr.2.2]
   ·have hr0 : y ∈ ids ((k, x) :: I) j := hr
    have hr' : y ∈ ids I j := by
     rw [ids_add] at hr0
     split at hr0
     ·rename_i ej
      rcases List.mem_cons.1 hr0 with rfl | h0
      ·exact absurd ⟨ej, rfl⟩ e
      ·rw [ej]; exact h0
     ·exact hr0
    simp only [newB, if_neg e]
    exact old (.link j y) hr' (by simp) (by simp)
 ·intro b hb
  unfold newR at hb
  split at hb
  ·omega
  ·split at hb
   ·omega
   ·split at hb
    ·omega
    ·have := h.bound b hb
     omega
 ·have e : (fun j => if ids ((k, x) :: I) j = [] then Value.pointer none else .pointer (some ⟨newB B k x bl bm bx (.list j), 0, none⟩)) = (fun j => if j = k then .pointer (some ⟨bl, 0, none⟩) else if ids I j = [] then .pointer none else .pointer (some ⟨B (.list j), 0, none⟩)) := by
   funext j
   rw [ids_add]
   by_cases e : j = k
   ·simp [newB, e]
   ·simp [newB, e]
  rw [e]
  exact a.cmap
 ·intro j hj
  by_cases e : j = k
  ·subst e
   rw [ids_cons_same, List.head?_cons, ptrO_x]
   have h1 : newB B j x bl bm bx (.list j) = bl := by simp [newB]
   have h2 : newB B j x bl bm bx (.lmap j) = bm := by simp [newB]
   rw [h1, h2, a.clist]
   by_cases hn : ids I j = []
   ·rw [if_pos hn, hn, List.getLast?_singleton, ptrO_x]
   ·obtain ⟨y, l, hyl⟩ := List.exists_cons_of_ne_nil hn
    rw [if_neg hn]
    have hg : (x :: ids I j).getLast? = (ids I j).getLast? := by rw [hyl, List.getLast?_cons_cons]
    rw [hg, ptrO_same _ _ _ _ _ _ _ (fun e => hx (List.mem_of_getLast? e))]
  ·rw [ids_cons_other I k x j e] at hj ⊢
   have h1 : newB B k x bl bm bx (.list j) = B (.list j) := by simp [newB, e]
   have h2 : newB B k x bl bm bx (.lmap j) = B (.lmap j) := by simp [newB, e]
   rw [h1, h2, a.keepL j e hj, ptrO_other _ _ _ _ _ _ _ e, ptrO_other _ _ _ _ _ _ _ e]
   exact h.clist j hj
 ·intro j hj
  by_cases e : j = k
  ·subst e
   have h2 : newB B j x bl bm bx (.lmap j) = bm := by simp [newB]
   rw [h2, ids_cons_same]
   have ef : (fun y => if y ∈ x :: ids I j then Value.pointer (some ⟨newB B j x bl bm bx (.link j y), 0, none⟩) else .pointer none) = (fun y => if y = x then .pointer (some ⟨bx, 0, none⟩) else if y ∈ ids I j then .pointer (some ⟨B (.link j y), 0, none⟩) else .pointer none) := by
    funext y
    by_cases ey : y = x
    ·simp [ey, newB]
    ·simp [ey, newB]
   rw [ef]
   exact a.clmap
  ·rw [ids_cons_other I k x j e] at hj ⊢
   have h2 : newB B k x bl bm bx (.lmap j) = B (.lmap j) := by simp [newB, e]
   have ef : (fun y => if y ∈ ids I j then Value.pointer (some ⟨newB B k x bl bm bx (.link j y), 0, none⟩) else .pointer none) = (fun y => if y ∈ ids I j then .pointer (some ⟨B (.link j y), 0, none⟩) else .pointer none) := by
    funext y
    simp [newB, e]
   rw [h2, ef]
   exact a.keepM j _ e hj (h.clmap j hj)
 ·intro j y hy
  by_cases e : j = k
  ·subst e
   rw [ids_cons_same] at hy ⊢
   by_cases ey : y = x
   ·subst ey
    have h1 : newB B j y bl bm bx (.link j y) = bx := by simp [newB]
    rw [h1, prv_cons _ _ hx, nxt_cons_same, a.clink, ptrO_same _ _ _ _ _ _ _ (fun e => hx (List.mem_of_head? e))]
    rfl
   ·have hy' : y ∈ ids I j := by
     rcases List.mem_cons.1 hy with h0 | h0
     ·exact absurd h0 ey
     ·exact h0
    have h1 : newB B j x bl bm bx (.link j y) = B (.link j y) := by simp [newB, ey]
    rw [h1, a.cold y hy', prv_add _ _ _ (ids_nodup h.nodup j) hy', nxt_cons_other _ _ _ (Ne.symm ey), ptrO_same _ _ _ _ _ _ _ (fun e => hx (nxt_mem _ _ _ e))]
    split
    ·rw [ptrO_x]
    ·rw [ptrO_same _ _ _ _ _ _ _ (fun e => hx (prv_mem _ _ _ e))]
  ·rw [ids_cons_other I k x j e] at hy ⊢
   have h1 : newB B k x bl bm bx (.link j y) = B (.link j y) := by simp [newB, e]
   rw [h1, a.keepX j y e hy, ptrO_other _ _ _ _ _ _ _ e, ptrO_other _ _ _ _ _ _ _ e]
   exact h.clink j y hy
end Go.Proofs.YthadcdoepoglkaaGreatDoor
namespace Go.Proofs.YthadcdoepoglkaaGreatDoor
open Go.RowKit Go.Lig
theorem add_there (w : World) (c : Nat) (I : List (Int × Int)) (B : Role → Nat) (ρ : Nat → Option Role) (m : Nat) (h : ChAt w c I B ρ m) (k x : Int) (hk : keyOk k) (hx : keyOk x) (hm : x ∈ ids I k) :
  Calls Tryz.prog 109 #[.pointer (some ⟨c, 0, none⟩), .int .i64 k, .int .i64 x] w fun e w' => e = .returned (.bool false) ∧ w = w' := by
 have HA := hid (has_any w c I B ρ m h k x hk hx)
 rw [decide_eq_true hm] at HA
 clear h hm
 go_enter Tryz.func109, Tryz.ntmps109
 go_wp2_with (go_at_call 179; refine HA.out.mono ?_; rintro e w' ⟨rfl, rfl⟩)
 go_ret
 exact ⟨rfl, rfl⟩
theorem ne_rmap {w : World} {c : Nat} {I : List (Int × Int)} {B : Role → Nat} {ρ : Nat → Option Role} {m : Nat} (h : ChAt w c I B ρ m) : c ≠ B .rmap := by
 intro e
 have h1 := h.rho .root trivial
 have h2 := h.rho .rmap trivial
 rw [h.root, e, h2] at h1
 cases h1
theorem first_done {w w1 w3 w6 : World} {c : Nat} {I : List (Int × Int)} {B : Role → Nat} {ρ : Nat → Option Role} {m : Nat} {k x : Int} (h : ChAt w c I B ρ m) (hn : ids I k = [])
  (f1 : Fr No w w1) (z1 : w1.heap.size = w.heap.size + 1)
  (m3 : MapAt w3 Tryz.prog 3 (B .rmap) (m + 1) (upd (fun k => if ids I k = [] then .pointer none else .pointer (some ⟨B (.list k), 0, none⟩)) k (.pointer (some ⟨w1.heap.size, 0, none⟩))))
  (f3 : Fr (fun j => j = B .rmap) (w1.alloc (.cells #[.pointer none, .pointer none, .map (some w.heap.size)] 239)) w3)
  (z3 : w3.heap.size = (w1.alloc (.cells #[.pointer none, .pointer none, .map (some w.heap.size)] 239)).heap.size)
  (hl3 : w3.heap[w1.heap.size]? = some (.cells #[.pointer none, .pointer none, .map (some w.heap.size)] 239 (0, 0)))
  (m6 : MapAt w6 Tryz.prog 3 w.heap.size (0 + 1) (upd (fun _ => .pointer none) x (.pointer (some ⟨w3.heap.size, 0, none⟩))))
  (f6 : Fr (fun j => j = w.heap.size) (((w3.alloc (.cells #[.int .i64 x, .pointer none, .pointer none] 241)).setCell ⟨w1.heap.size, 1, none⟩ (.pointer (some ⟨w3.heap.size, 0, none⟩))).setCell ⟨w1.heap.size, 0, none⟩ (.pointer (some ⟨w3.heap.size, 0, none⟩))) w6)
  (z6 : w6.heap.size = (((w3.alloc (.cells #[.int .i64 x, .pointer none, .pointer none] 241)).setCell ⟨w1.heap.size, 1, none⟩ (.pointer (some ⟨w3.heap.size, 0, none⟩))).setCell ⟨w1.heap.size, 0, none⟩ (.pointer (some ⟨w3.heap.size, 0, none⟩))).heap.size)
  (hc6 : w6.heap[c]? = some (.cells #[.map (some (B .rmap)), .int .i64 (I.length : Int)] 188 (0, 0))) :
  Added w (w6.setCell ⟨c, 1, none⟩ (.int .i64 ((I.length : Int) + 1))) c I B ρ m k x w1.heap.size w.heap.size w3.heap.size ∧
   Fr (fun b => b = B .rmap ∨ b = c) w (w6.setCell ⟨c, 1, none⟩ (.int .i64 ((I.length : Int) + 1))) := by
 have hc := lt_of_block h.croot
 have hr := h.cmap.lt
 have hz3 : w3.heap.size = w.heap.size + 2 := by rw [z3]; simp; omega
 have hz6 : w6.heap.size = w.heap.size + 3 := by rw [z6]; simp [World.setCell]; omega
 have hcr := ne_rmap h
 have e3 : Fr (fun j => j = B .rmap) w w3 := ((f1.mono (fun _ _ e => e.elim)).alloc _).thenS f3
 have e5 := ((e3.alloc (.cells #[.int .i64 x, .pointer none, .pointer none] 241)).setCell (p := ⟨w1.heap.size, 1, none⟩) (.pointer (some ⟨w3.heap.size, 0, none⟩)) (fun hh => by have : w1.heap.size < w.heap.size := hh; omega)).setCell (p := ⟨w1.heap.size, 0, none⟩) (.pointer (some ⟨w3.heap.size, 0, none⟩)) (fun hh => by have : w1.heap.size < w.heap.size := hh; omega)
 have e6 := e5.trans f6 (fun j hj e => by omega)
 have e7 : Fr (fun b => b = B .rmap ∨ b = c) w (w6.setCell ⟨c, 1, none⟩ (.int .i64 ((I.length : Int) + 1))) := (e6.mono (S' := fun b => b = B .rmap ∨ b = c) (fun _ _ e => .inl e)).setCell _ (fun _ => .inr rfl)
 have g5 := (((Fr.refl (fun j => j = w1.heap.size ∨ j = w.heap.size ∨ j = c) w3).alloc (.cells #[.int .i64 x, .pointer none, .pointer none] 241)).setCell (p := ⟨w1.heap.size, 1, none⟩) (.pointer (some ⟨w3.heap.size, 0, none⟩)) (fun _ => .inl rfl)).setCell (p := ⟨w1.heap.size, 0, none⟩) (.pointer (some ⟨w3.heap.size, 0, none⟩)) (fun _ => .inl rfl)
 have g7 := (g5.trans f6 (fun j _ e => .inr (.inl e))).setCell (p := ⟨c, 1, none⟩) (.int .i64 ((I.length : Int) + 1)) (fun _ => .inr (.inr rfl))
 have hlive : ∀ r, Live I r → r ≠ .root → r ≠ .rmap → ¬ (B r = B .rmap ∨ B r = c) ∧ B r < w.heap.size := fun r hr h1 h2 => by
  refine ⟨?_, h.bound _ (by rw [h.rho r hr]; simp)⟩
  rintro (e | e)
  ·have := h.rho r hr
   rw [e, h.rho .rmap trivial] at this
   exact h2 (Option.some.inj this).symm
  ·have := h.rho r hr
   rw [e, ← h.root, h.rho .root trivial] at this
   exact h1 (Option.some.inj this).symm
 refine ⟨⟨fun e => absurd hn e, fun _ => by omega, by omega, by simp [World.setCell]; omega, ?_, ?_, ?_, ?_, ?_, ?_, ?_, ?_, ?_⟩, e7⟩
 ·have := hset (k := 1) (v := .int .i64 ((I.length : Int) + 1)) hc6
  simpa using this
 ·exact m3.frame g7 (by rintro (e | e | e) <;> omega)
 ·have a1 : (w3.alloc (.cells #[.int .i64 x, .pointer none, .pointer none] 241)).heap[w1.heap.size]? = _ := hold' hl3
  have a2 := hset (k := 0) (v := .pointer (some ⟨w3.heap.size, 0, none⟩)) (hset (k := 1) (v := .pointer (some ⟨w3.heap.size, 0, none⟩)) a1)
  have a3 := f6.keep a2 (by omega)
  rw [hset_ne (by show w1.heap.size ≠ c; omega), a3, if_pos hn]
  rfl
 ·have a1 := (m6.frame ((Fr.refl (fun j => j = c) w6).setCell (p := ⟨c, 1, none⟩) (.int .i64 ((I.length : Int) + 1)) (fun _ => rfl)) (by omega)).more (m := m + 1) (by omega)
  have ef : (fun y => if y = x then Value.pointer (some ⟨w3.heap.size, 0, none⟩) else if y ∈ ids I k then .pointer (some ⟨B (.link k y), 0, none⟩) else .pointer none) = upd (fun _ => .pointer none) x (.pointer (some ⟨w3.heap.size, 0, none⟩)) := by
   funext y
   rw [hn]
   simp [upd]
  rw [ef]
  exact a1
 ·have a1 := heap1 w3 (.cells #[.int .i64 x, .pointer none, .pointer none] 241)
  have a3 := f6.keep (b := w3.heap.size) ((hset_ne (a := ⟨w1.heap.size, 0, none⟩) (v := .pointer (some ⟨w3.heap.size, 0, none⟩)) (by show w3.heap.size ≠ w1.heap.size; omega)).trans ((hset_ne (a := ⟨w1.heap.size, 1, none⟩) (v := .pointer (some ⟨w3.heap.size, 0, none⟩)) (by show w3.heap.size ≠ w1.heap.size; omega)).trans a1)) (by omega)
  rw [hset_ne (by show w3.heap.size ≠ c; omega), a3, hn]
  rfl
 ·intro y hy
  rw [hn] at hy
  cases hy
 ·intro j hj hn'
  obtain ⟨h1, h2⟩ := hlive (.list j) hn' (by simp) (by simp)
  exact e7.block _ h2 h1
 ·intro j f hj hn' hm'
  obtain ⟨h1, h2⟩ := hlive (.lmap j) hn' (by simp) (by simp)
  exact (hm'.frame e7 h1).more (by omega)
 ·intro j y hj hy
  obtain ⟨h1, h2⟩ := hlive (.link j y) hy (by simp) (by simp)
  exact e7.block _ h2 h1
set_option maxRecDepth 100000 in
set_option maxHeartbeats 1000000 in
theorem add_first (w : World) (c : Nat) (I : List (Int × Int)) (B : Role → Nat) (ρ : Nat → Option Role) (m : Nat) (h : ChAt w c I B ρ m) (k x : Int) (hk : keyOk k) (hx : keyOk x) (hn : ids I k = []) (hm : m ≤ 1000000) (hl : I.length ≤ 1000000) :
  Calls Tryz.prog 109 #[.pointer (some ⟨c, 0, none⟩), .int .i64 k, .int .i64 x] w fun e w' => e = .returned (.bool true) ∧ ∃ B' ρ', ChAt w' c ((k, x) :: I) B' ρ' (m + 1) ∧ Fr (fun b => ρ b ≠ none) w w' ∧ ∀ b, ρ' b ≠ none → ρ b ≠ none ∨ w.heap.size ≤ b := by
 have HA := hid (has_any w c I B ρ m h k x hk hx)
 rw [show decide (x ∈ ids I k) = false by rw [hn]; rfl] at HA
 obtain ⟨c0, c1⟩ := cells2 h.croot
 have HN := hid hn
 have HE : Hid ((if ids I k = [] then Value.pointer none else .pointer (some ⟨B (.list k), 0, none⟩)) = .pointer none) := hid (if_pos hn)
 have H := hid (⟨h, hk, hx⟩ : _ ∧ keyOk k ∧ keyOk x)
 clear h hk hx hn c1
 go_enter Tryz.func109, Tryz.ntmps109
 go_wp2_with (first | (go_at_call 179; refine HA.out.mono ?_; rintro e w' ⟨rfl, rfl⟩) | (refine wpList_look (k := 3) (e := 235) rfl (.tmp 20) (.tmp 21) 186 rfl Tryz.underlying3 Tryz.underlying186 (zero_list _) rfl H.out.1.cmap k rfl H.out.2.1 (.pointer none) HE.out ?_) | (refine wpList_mmake (k := 3) rfl 236 rfl ?_; intro w1 m1 f1 z1; have M1 := hid (⟨m1, f1, z1⟩ : _ ∧ _ ∧ _); have q1 := (cells2 (hold' (o := .cells #[.pointer none, .pointer none, .map (some w.heap.size)] 239) (f1.keep H.out.1.croot (fun e => e)))).1; clear m1 f1 z1) | (refine wpList_mstore (k := 3) (e := 235) rfl (.tmp 31) (.tmp 32) (.tmp 33) 186 rfl Tryz.underlying3 Tryz.underlying186 rfl (H.out.1.cmap.frame (M1.out.2.1.alloc _) (fun e => e)) (by unfold maxLen; omega) k rfl H.out.2.1 (.pointer (some ⟨w1.heap.size, 0, none⟩)) rfl ?_; intro w3 m3 f3 z3; have hne : w1.heap.size ≠ B .rmap := (fun e => by have := H.out.1.cmap.lt; have := M1.out.2.2; omega); have hl3 : w3.heap[w1.heap.size]? = _ := f3.keep (heap1 w1 _) hne; have q3 := cells3 (hold' (o := .cells #[.int .i64 x, .pointer none, .pointer none] 241) hl3); have z3f := freeAll (hold' (o := .cells #[.int .i64 x, .pointer none, .pointer none] 241) hl3); have M3 := hid (⟨m3, f3, z3, hl3⟩ : _ ∧ _ ∧ _ ∧ _); have hw4 : ∀ v1 v2, MapAt (((w3.alloc (.cells #[.int .i64 x, .pointer none, .pointer none] 241)).setCell ⟨w1.heap.size, 1, none⟩ v1).setCell ⟨w1.heap.size, 0, none⟩ v2) Tryz.prog 3 w.heap.size 0 (fun _ => .pointer none) ∧ (((w3.alloc (.cells #[.int .i64 x, .pointer none, .pointer none] 241)).setCell ⟨w1.heap.size, 1, none⟩ v1).setCell ⟨w1.heap.size, 0, none⟩ v2).heap[c]? = some (.cells #[.map (some (B .rmap)), .int .i64 (I.length : Int)] 188 (0, 0)) := (fun v1 v2 => ⟨(((M1.out.1.frame ((Fr.refl No w1).alloc _) id).frame f3 (fun e => by have := H.out.1.cmap.lt; omega)).frame ((Fr.refl No w3).alloc _) id).frame (((Fr.refl (fun j => j = w1.heap.size) _).setCell (p := ⟨w1.heap.size, 1, none⟩) v1 (fun _ => rfl)).setCell (p := ⟨w1.heap.size, 0, none⟩) v2 (fun _ => rfl)) (fun e => by have := M1.out.2.2; omega), (((Fr.refl (fun j => j = w1.heap.size) _).setCell (p := ⟨w1.heap.size, 1, none⟩) v1 (fun _ => rfl)).setCell (p := ⟨w1.heap.size, 0, none⟩) v2 (fun _ => rfl)).keep (hold' (f3.keep (hold' (M1.out.2.1.keep H.out.1.croot id)) (ne_rmap H.out.1))) (fun e => by have := lt_of_block H.out.1.croot; have := M1.out.2.2; omega)⟩); have HW := hid hw4; clear hw4; have q30 := (cells3 hl3).1; obtain ⟨q31, q32, q33⟩ := q3; clear m3 f3 z3 hne hl3) | (refine wpList_mentry (k := 3) (e := 237) rfl (.tmp 61) (.tmp 62) 236 rfl Tryz.underlying3 Tryz.underlying236 zero_link rfl (HW.out _ _).1 (by unfold maxLen; omega) x rfl H.out.2.2 (.pointer (some ⟨w3.heap.size, 0, none⟩)) ?_; intro v0 st w5 e5; obtain ⟨w6, r6, m6, f6, z6⟩ := e5; have hc6 := f6.keep (HW.out _ _).2 (fun e => by have := lt_of_block H.out.1.croot; omega); have q6 := (cells2 hc6).2; have z6f := freeAll hc6; have M6 := hid (⟨m6, f6, z6, hc6⟩ : _ ∧ _ ∧ _ ∧ _); have R6 := hid r6; clear m6 f6 z6 hc6 r6) | (refine wpList_mentryStore rfl (.tmp 61) (.tmp 68) (.tmp 64) 236 rfl _ _ _ rfl rfl rfl R6.out ?_))
 go_ret
 obtain ⟨m1, f1, z1⟩ := M1.out
 obtain ⟨m3, f3, z3, hl3⟩ := M3.out
 obtain ⟨m6, f6, z6, hc6⟩ := M6.out
 obtain ⟨h, hk, hx⟩ := H.out
 have hn := HN.out
 obtain ⟨a, hf⟩ := first_done h hn f1 z1 m3 f3 z3 hl3 m6 f6 z6 hc6
 refine ⟨rfl, _, _, a.done h (by rw [hn]; simp), hf.mono (fun b hb e => ?_), fun b hb => ?_⟩
 ·rcases e with rfl | rfl
  ·rw [h.rho .rmap trivial]; simp
  ·rw [← h.root, h.rho .root trivial]; simp
 ·by_cases h0 : ρ b = none
  ·right
   unfold newR at hb
   have hfr := a.fresh
   have hnw := a.new hn
   split at hb
   ·omega
   ·split at hb
    ·omega
    ·split at hb
     ·omega
     ·exact absurd h0 hb
  ·exact .inl h0
end Go.Proofs.YthadcdoepoglkaaGreatDoor
