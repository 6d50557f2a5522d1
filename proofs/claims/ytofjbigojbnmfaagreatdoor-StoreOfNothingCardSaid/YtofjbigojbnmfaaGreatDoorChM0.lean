/- The lists as plain data, and how they lie in memory. -/
import Derived.Test.YtofjbigojbnmfaaGreatDoorRows
import Derived.Test.YtofjbigojbnmfaaGreatDoorLib2
import Derived.Test.YtofjbigojbnmfaaGreatDoorMapI
namespace Go.Proofs.YtofjbigojbnmfaaGreatDoor
open Go.RowKit Go.Lig

/-- what is in list k, the one that was put last first -/
def ids (I : List (Int × Int)) (k : Int) : List Int := (I.filter fun p => p.1 == k).map (·.2)
/-- what comes after x, before x -/
def nxt : List Int → Int → Option Int
  | [], _ => none
  | y :: l, x => if y = x then l.head? else nxt l x
def prv (l : List Int) (x : Int) : Option Int := nxt l.reverse x
inductive Role
  | root
  | rmap
  | list (k : Int)
  | lmap (k : Int)
  | link (k x : Int)
  deriving DecidableEq
def ptrO (B : Role → Nat) (k : Int) : Option Int → Value
  | none => .pointer none
  | some x => .pointer (some ⟨B (.link k x), 0, none⟩)
def Live (I : List (Int × Int)) : Role → Prop
  | .root => True
  | .rmap => True
  | .list k => ids I k ≠ []
  | .lmap k => ids I k ≠ []
  | .link k x => x ∈ ids I k
/-- The lists I, from block c on, B r the block of r, ρ what a block is. -/
structure ChAt (w : World) (c : Nat) (I : List (Int × Int)) (B : Role → Nat) (ρ : Nat → Option Role) (m : Nat) : Prop where
  nodup : I.Nodup
  root : B .root = c
  rho : ∀ r, Live I r → ρ (B r) = some r
  bound : ∀ b, ρ b ≠ none → b < w.heap.size
  croot : w.heap[c]? = some (.cells #[.map (some (B .rmap)), .int .i64 (I.length : Int)] 128 (0, 0))
  cmap : MapAt w Tryz.prog 3 (B .rmap) m (fun k => if ids I k = [] then .pointer none else .pointer (some ⟨B (.list k), 0, none⟩))
  clist : ∀ k, ids I k ≠ [] → w.heap[B (.list k)]? = some (.cells #[ptrO B k (ids I k).head?, ptrO B k (ids I k).getLast?, .map (some (B (.lmap k)))] 194 (0, 0))
  clmap : ∀ k, ids I k ≠ [] → MapAt w Tryz.prog 3 (B (.lmap k)) m (fun x => if x ∈ ids I k then .pointer (some ⟨B (.link k x), 0, none⟩) else .pointer none)
  clink : ∀ k x, x ∈ ids I k → w.heap[B (.link k x)]? = some (.cells #[.int .i64 x, ptrO B k (prv (ids I k) x), ptrO B k (nxt (ids I k) x)] 196 (0, 0))
theorem ChAt.frame {w w' : World} {c : Nat} {I : List (Int × Int)} {B : Role → Nat} {ρ : Nat → Option Role} {m : Nat} {U : Nat → Prop} (h : ChAt w c I B ρ m) (hf : Fr U w w') (hd : ∀ b, ρ b ≠ none → ¬ U b) : ChAt w' c I B ρ m := by
  have hd' : ∀ r, Live I r → ¬ U (B r) := fun r hr => hd _ (by rw [h.rho r hr]; simp)
  refine ⟨h.nodup, h.root, h.rho, fun b hb => Nat.lt_of_lt_of_le (h.bound b hb) hf.size, ?_, h.cmap.frame hf (hd' .rmap trivial), fun k hk => hf.keep (h.clist k hk) (hd' (.list k) hk), fun k hk => (h.clmap k hk).frame hf (hd' (.lmap k) hk), fun k x hx => hf.keep (h.clink k x hx) (hd' (.link k x) hx)⟩
  exact hf.keep h.croot (by have := hd' .root trivial; rwa [h.root] at this)
theorem ids_nil (k : Int) : ids [] k = [] := rfl
theorem ids_cons_same (I : List (Int × Int)) (k x : Int) : ids ((k, x) :: I) k = x :: ids I k := by simp [ids]
theorem ids_cons_other (I : List (Int × Int)) (k x j : Int) (h : j ≠ k) : ids ((k, x) :: I) j = ids I j := by
  simp [ids, Ne.symm h]
theorem mem_ids (I : List (Int × Int)) (k x : Int) : x ∈ ids I k ↔ (k, x) ∈ I := by
  simp only [ids, List.mem_map, List.mem_filter, beq_iff_eq]
  constructor
  · rintro ⟨⟨a, b⟩, ⟨h1, h2⟩, h3⟩
    simp only at h2 h3
    subst h2 h3
    exact h1
  · exact fun h => ⟨(k, x), ⟨h, rfl⟩, rfl⟩

/-! ### New -/
theorem chnew_any (w : World) : Calls Tryz.prog 31 #[] w fun e w' => ∃ c B ρ, e = .returned (.pointer (some ⟨c, 0, none⟩)) ∧ ChAt w' c [] B ρ 0 ∧ Fr No w w' ∧ ∀ b, ρ b ≠ none → w.heap.size ≤ b := by
  go_enter Tryz.func31, Tryz.ntmps31
  go_wp2_with (refine wpList_mmake (k := 3) rfl 126 rfl ?_; intro w1 m1 f1 z1; have M1 := hid (⟨m1, f1, z1⟩ : _ ∧ _ ∧ _); clear m1 f1 z1)
  go_ret
  obtain ⟨m1, f1, z1⟩ := M1.out
  refine ⟨w1.heap.size, fun r => match r with | .root => w1.heap.size | .rmap => w.heap.size | _ => 0, fun b => if b = w1.heap.size then some .root else if b = w.heap.size then some .rmap else none, rfl, ?_, f1.alloc _, ?_⟩
  · refine ⟨List.nodup_nil, rfl, ?_, ?_, heap1 w1 _, ?_, fun k hk => absurd rfl hk, fun k hk => absurd rfl hk, fun k x hx => by cases hx⟩
    · intro r hr
      cases r with
      | root => simp
      | rmap => simp; omega
      | list k => exact absurd rfl hr
      | lmap k => exact absurd rfl hr
      | link k x => cases hr
    · intro b hb
      split at hb
      · simp; omega
      · split at hb
        · simp; omega
        · exact absurd rfl hb
    · simpa [ids_nil] using m1.frame ((Fr.refl No w1).alloc _) id
  · intro b hb
    dsimp only at hb
    split at hb
    · omega
    · split at hb
      · omega
      · exact absurd rfl hb

/-! ### at, Has, Len -/
def keyOk (k : Int) : Prop := (Lit.int .i64 k).wf = true
theorem zero_list (u : World) : (zeroValue 189).run Tryz.prog u = .ok (.pointer none) u := by kernel_rfl
theorem zero_link (u : World) : (zeroValue 191).run Tryz.prog u = .ok (.pointer none) u := by kernel_rfl
theorem at_nil (w : World) (k : Int) : Calls Tryz.prog 145 #[.pointer none, .int .i64 k] w fun e w' => e = .returned (.pointer none) ∧ w = w' := by
  go_enter Tryz.func145, Tryz.ntmps145
  go_wp2
  go_ret
  exact ⟨rfl, rfl⟩
def listPtr (I : List (Int × Int)) (B : Role → Nat) (k : Int) : Value := if ids I k = [] then .pointer none else .pointer (some ⟨B (.list k), 0, none⟩)
theorem at_any (w : World) (c : Nat) (I : List (Int × Int)) (B : Role → Nat) (ρ : Nat → Option Role) (m : Nat) (h : ChAt w c I B ρ m) (k : Int) (hk : keyOk k) :
    Calls Tryz.prog 145 #[.pointer (some ⟨c, 0, none⟩), .int .i64 k] w fun e w' => e = .returned (listPtr I B k) ∧ w = w' := by
  obtain ⟨c0, c1⟩ := cells2 h.croot
  have H := hid (⟨h, hk⟩ : _ ∧ keyOk k)
  clear h hk c1
  go_enter Tryz.func145, Tryz.ntmps145
  go_wp2_with (refine wpList_look (k := 3) (e := 189) rfl (.tmp 10) (.tmp 11) 126 rfl Tryz.underlying3 Tryz.underlying126 (zero_list _) rfl H.out.1.cmap k rfl H.out.2 (listPtr I B k) rfl ?_)
  go_ret
  exact ⟨rfl, rfl⟩
theorem len_nil (w : World) : Calls Tryz.prog 85 #[.pointer none] w fun e w' => e = .returned (.int .i64 0) ∧ w = w' := by
  go_enter Tryz.func85, Tryz.ntmps85
  go_wp2
  go_ret
  exact ⟨rfl, rfl⟩
theorem len_any (w : World) (c : Nat) (I : List (Int × Int)) (B : Role → Nat) (ρ : Nat → Option Role) (m : Nat) (h : ChAt w c I B ρ m) :
    Calls Tryz.prog 85 #[.pointer (some ⟨c, 0, none⟩)] w fun e w' => e = .returned (.int .i64 (I.length : Int)) ∧ w = w' := by
  obtain ⟨c0, c1⟩ := cells2 h.croot
  clear h c0
  go_enter Tryz.func85, Tryz.ntmps85
  go_wp2
  go_ret
  exact ⟨rfl, rfl⟩
end Go.Proofs.YtofjbigojbnmfaaGreatDoor
