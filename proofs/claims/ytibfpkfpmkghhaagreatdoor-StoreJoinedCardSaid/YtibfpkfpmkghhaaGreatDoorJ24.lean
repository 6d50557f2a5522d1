/- A part of the proof: contracts of functions of the program, for the row's text. -/
import Derived.Test.YtibfpkfpmkghhaaGreatDoorJ19
import Derived.Test.YtibfpkfpmkghhaaGreatDoorJ23
namespace Go.Proofs.YtibfpkfpmkghhaaGreatDoor
open Go.RowKit Go.Lig

def edsTo (M : PSt) (t : Int) (i : Nat) : List Int := ((List.range i).filter fun (k : Nat) => (readE M t ((k : Int) + 1)).isSome).map fun (k : Nat) => (k : Int) + 1
theorem edsTo_succ (M : PSt) (t : Int) (i : Nat) : edsTo M t (i + 1) = edsTo M t i ++ if (readE M t ((i : Int) + 1)).isSome then [(i : Int) + 1] else [] := by
  unfold edsTo
  rw [List.range_succ, List.filter_append, List.map_append]
  cases h : (readE M t ((i : Int) + 1)).isSome <;> simp [h]
theorem infoEd : (Tryz.prog.info? 42).map (fun i => (i.zero, i.size, i.bytes)) = some (some (.agg #[.int .i64 0, .int .i64 0, .string ⟨#[]⟩, .float .f64 0]), 4, 40) := by kernel_rfl
set_option maxRecDepth 100000 in
set_option maxHeartbeats 1000000 in
theorem edges_any (w : World) (ρ : Nat → Option Pt) (s : Nat) (A : Ad) (M : PSt) (F : Nat) (h : StAt w ρ s A M F) (t : Int) (hl : M.K.live t = true) :
    Calls Tryz.prog 24 #[.pointer (some ⟨s, 0, none⟩), .int .i64 t] w fun e w' => ∃ v, e = .returned v ∧ OwnI w w' v (edsTo M t M.E.length) := by
  have HI := hid (islive_any w ρ s A M F h t)
  rw [hl] at HI
  obtain ⟨a1, c1, hnv⟩ := ownsRow_slice (h.at_ .edrow).1
  have x1 := h.cells.2.2.1
  rw [hnv] at x1
  have hn6 := h.elen
  have HH := hid (⟨h, hnv⟩ : _ ∧ _)
  clear h hl hnv
  go_enter Tryz.func24, Tryz.ntmps24
  go_wp2_with (go_at_call 43; refine HI.out.mono ?_; rintro e w1 ⟨rfl, rfl⟩)
  generalize hNe : M.E.length = n at *
  have HNe := hid hNe
  clear hNe x1
  go_loopw [5, 19] (fun v5 vi wr => ∃ (i : Nat) (a : Option Addr) (c m : Nat), i ≤ n ∧ m ≤ i ∧ v5 = .slice a m c ∧ vi = .int .i64 (i : Int) ∧ Hid (m = (edsTo M t i).length ∧ OwnI w wr (.slice a m c) (edsTo M t i))) (fun _ vi _ => n - (intOf vi).toNat)
  case atStart => exact ⟨0, none, 0, 0, Nat.zero_le _, Nat.zero_le _, rfl, rfl, rfl, OwnI.nil w⟩
  case round =>
    obtain ⟨i, a, c, m, hi, hmi, rfl, rfl, HO⟩ := hrel
    have hwr := HH.out.1.frame HO.out.2.fr
    have x0 := hwr.cells.1
    by_cases hlt : i < n
    · have hr2 := (hwr.at_ .edrow).1
      rw [HH.out.2, HNe.out] at hr2
      obtain ⟨gr, cur, rfl, -, -⟩ := owns_at hr2 (by omega)
      have hc := owns_cell hr2 rfl (ptrs_get A.z n i hlt)
      have hre := hwr.rdE t ((i : Int) + 1) wr (Fr.refl _ _)
      rw [edP_some A M i (by rw [HNe.out]; exact hlt)] at hre
      have hw : wrap64 ((i : Int) + 1) = (i : Int) + 1 := by unfold wrap64; omega
      have hw2 : IntKind.i64.wrap ((i : Int) + 1) = (i : Int) + 1 := IntWalk.i64_in _ (by omega)
      generalize (readE M t ((i : Int) + 1)).getD EdgeV.none = ev at hre
      obtain ⟨ef, et, ey, ew⟩ := ev
      dsimp only [edgeCs] at hre
      have HR := hid hre
      clear hre hr2 hwr
      cases hb : (readE M t ((i : Int) + 1)).isSome with
      | false =>
        rw [hb] at HR
        have HBB := hid hb
        clear hb
        go_wp2_with (first | (go_at_call 67; refine HR.out.mono ?_; rintro e w2 ⟨rfl, f2⟩; have F2 := hid f2; clear f2) | (refine wpList_allocO rfl 42 rfl _ 4 40 infoEd ?_; intro w3 p3; have P3 := hid (⟨F2.out.thenNo p3.fr, p3.at_, F2.out.size⟩ : Fr No wr w3 ∧ w3.heap[w2.heap.size]? = some (.cells #[.int .i64 0, .int .i64 0, .string ⟨#[]⟩, .float .f64 0] 42 (0, 0)) ∧ wr.heap.size ≤ w2.heap.size); clear p3) | (refine wpList_storeO rfl 42 (.tmp 8) (.tmp 32) rfl w2.heap.size 0 rfl [.int .i64 0, .int .i64 0, .string ⟨#[]⟩, .float .f64 0] 42 [.int .i64 ef, .int .i64 et, .string ey, .float .f64 ew] rfl (by kernel_rfl) P3.out.2.1 (by simp) (by simp [Value.oneCell']) ?_; intro w4 p4; have P4 := hid (P3.out.1.fresh p4.fr (fun k e => by subst e; exact P3.out.2.2)); clear p4))
        go_roundw
        case rel => exact ⟨i + 1, a, c, m, by omega, by omega, rfl, by go_num, by rw [edsTo_succ, HBB.out]; simpa using HO.out.1, by rw [edsTo_succ, HBB.out]; simpa using HO.out.2.next P4.out⟩
        case measure => simp [intOf]; omega
      | true =>
        rw [hb] at HR
        have HBB := hid hb
        clear hb
        go_wp2_with (first | (go_at_call 67; refine HR.out.mono ?_; rintro e w2 ⟨rfl, f2⟩; have F2 := hid f2; clear f2) | (refine wpList_allocO rfl 42 rfl _ 4 40 infoEd ?_; intro w3 p3; have P3 := hid (⟨F2.out.thenNo p3.fr, p3.at_, F2.out.size⟩ : Fr No wr w3 ∧ w3.heap[w2.heap.size]? = some (.cells #[.int .i64 0, .int .i64 0, .string ⟨#[]⟩, .float .f64 0] 42 (0, 0)) ∧ wr.heap.size ≤ w2.heap.size); clear p3) | (refine wpList_storeO rfl 42 (.tmp 8) (.tmp 32) rfl w2.heap.size 0 rfl [.int .i64 0, .int .i64 0, .string ⟨#[]⟩, .float .f64 0] 42 [.int .i64 ef, .int .i64 et, .string ey, .float .f64 ew] rfl (by kernel_rfl) P3.out.2.1 (by simp) (by simp [Value.oneCell']) ?_; intro w4 p4; have P4 := hid (P3.out.1.fresh p4.fr (fun k e => by subst e; exact P3.out.2.2)); clear p4) | (refine wpList_buildSlice1 rfl 35 3 (.tmp 37) rfl _ 1 8 Tryz.underlying35 infoInt (by decide) (by decide) (.int .i64 ((i : Int) + 1)) rfl rfl ?_; intro w5 p5; have P5 := hid (show New [iv ((i : Int) + 1)].toArray 3 w4 w5 from p5); clear p5) | (refine wpList_app rfl (.tmp 35) (.tmp 38) 35 rfl 3 _ 1 8 Tryz.underlying35 infoInt rfl (by decide) (.slice a m c) m ((edsTo M t i).map iv) rfl (by have := (HO.out.2.next P4.out).row; rw [← HO.out.1] at this; exact fd_owns this P5.out.fr) (.slice (some ⟨w4.heap.size, 0, none⟩) 1 1) 1 [iv ((i : Int) + 1)] rfl (Rd.block P5.out.at_ 1 1 1 rfl (by simp [iv, Value.oneCell']) (Nat.le_refl _) (by simp [maxLen])) (by unfold maxLen; omega) (by omega) ?_; intro v6 w6 o6 f6 b6 _; obtain ⟨a6, c6, rfl⟩ := ownsRow_slice o6; have O6 := hid (OwnI.app (HO.out.2.next P4.out) P5.out (by rw [← HO.out.1]; exact o6) f6 b6); clear o6 f6 b6))
        go_roundw
        case rel => exact ⟨i + 1, a6, c6, m + 1, by omega, by omega, rfl, by go_num, by rw [edsTo_succ, HBB.out, if_pos rfl, List.length_append, ← HO.out.1]; rfl, by rw [edsTo_succ, HBB.out, if_pos rfl]; exact O6.out⟩
        case measure => simp [intOf]; omega
    · obtain rfl : i = n := by omega
      go_wp2_with fail
      go_ret
      exact ⟨_, rfl, by rw [HNe.out]; exact HO.out.2⟩
end Go.Proofs.YtibfpkfpmkghhaaGreatDoor

namespace Go.Proofs.YtibfpkfpmkghhaaGreatDoor
open Go.RowKit Go.Lig

theorem kvs_set (a : Nat → Nat) {X : List (ByteArray × List EntR)} {j : Nat} {key : ByteArray} {l l' : List EntR} (h : X[j]? = some (key, l)) : kvs a (X.set j (key, l')) = kvs a X := by
  unfold kvs
  apply List.ext_getElem?
  intro i
  simp only [List.getElem?_map, List.getElem?_zipIdx]
  by_cases e : j = i
  · subst e
    rw [List.getElem?_set_self (List.getElem?_eq_some_iff.1 h).1, h]
    rfl
  · rw [List.getElem?_set_ne e]
def entA (e : EntR) : Value := .agg #[.int .i64 e.v.kind, .bool e.v.b, .int .i64 e.v.n, .float .f64 e.v.f, .string e.v.t, .int .i64 e.id]
theorem ix_del (w : World) (T : Nat → Prop) (m F : Nat) (X : List (ByteArray × List EntR)) (q : Nat → Option Xp) (a : Nat → Nat) (h : IxO w T m X F q a) (hb : ∀ b, T b → b < w.heap.size) (hF : F ≤ 1000000) (j : Nat) (key : ByteArray) (l : List EntR) (hj : X[j]? = some (key, l)) (e : EntR) :
    Calls Tryz.prog 118 #[ptrAt a j, entA e] w fun r w' => (∃ b, r = .returned (.bool b)) ∧ IxTo w T m (X.set j (key, delT l e)) F q a w' := by
  obtain ⟨ht, hlF⟩ := h.tr j key l hj
  refine (tree_del w (At q (.tree j)) (a j) l ht (by omega) e (fun b hb' => (h.bd b (by rw [show q b = _ from hb']; simp)).2)).mono ?_
  rintro r w' ⟨rfl, h1, f1⟩
  have hsub : ∀ b, At q (.tree j) b → T b := fun b hb' => (h.bd b (by rw [show q b = _ from hb']; simp)).1
  have hjl := (List.getElem?_eq_some_iff.1 hj).1
  refine ⟨⟨_, rfl⟩, T, ⟨h.mp, ?_, ?_, fun b hb' => ⟨(h.bd b hb').1, Nat.lt_of_lt_of_le (h.bd b hb').2 f1.size⟩, ?_⟩, f1.mono (fun b _ => hsub b), Grown.refl _ _, fun b hb' => Nat.lt_of_lt_of_le (hb b hb') f1.size⟩
  · rw [kvs_set a hj]
    exact h.map.frame f1 (fun E => by have h2 := h.mp; unfold At at h2 E; rw [h2] at E; cases E)
  · intro i k2 l2 e2
    by_cases hi : j = i
    · subst hi
      rw [List.getElem?_set_self hjl] at e2
      obtain ⟨rfl, rfl⟩ := Prod.mk.inj (Option.some.inj e2)
      exact ⟨h1, Nat.le_trans (delT_len l e) hlF⟩
    · rw [List.getElem?_set_ne hi] at e2
      obtain ⟨h3, h4⟩ := h.tr i k2 l2 e2
      exact ⟨h3.frame f1 (fun b hb' E => by unfold At at hb' E; rw [hb'] at E; simp at E; exact hi E.symm), h4⟩
  · intro p hp
    rcases List.mem_or_eq_of_mem_set hp with h2 | rfl
    · exact h.keys p h2
    · exact h.keys (key, l) (List.mem_of_getElem? hj)
theorem ix_add (w : World) (T : Nat → Prop) (m F : Nat) (X : List (ByteArray × List EntR)) (q : Nat → Option Xp) (a : Nat → Nat) (h : IxO w T m X F q a) (hb : ∀ b, T b → b < w.heap.size) (hF : F ≤ 1000000) (j : Nat) (key : ByteArray) (l : List EntR) (hj : X[j]? = some (key, l)) (e : EntR) (hok : ValOk e.v ∧ (Lit.int .i64 e.id).wf = true) :
    Calls Tryz.prog 120 #[ptrAt a j, entA e] w fun r w' => r = .returned (.bool (!isV l e)) ∧ ∃ q', IxTo w T m (X.set j (key, addT l e)) (F + 1) q' a w' := by
  obtain ⟨ht, hlF⟩ := h.tr j key l hj
  have hqb : ∀ b, q b ≠ none → b < w.heap.size := fun b hb' => (h.bd b hb').2
  refine (tree_add w (At q (.tree j)) (a j) l ht (by omega) e hok (fun b hb' => hqb b (by rw [show q b = _ from hb']; simp))).mono ?_
  rintro r w' ⟨rfl, T1, h1, f1, g1, bd1⟩
  have hsub : ∀ b, At q (.tree j) b → T b := fun b hb' => (h.bd b (by rw [show q b = _ from hb']; simp)).1
  have hjl := (List.getElem?_eq_some_iff.1 hj).1
  have hot : ∀ p, p ≠ .tree j → At (turn q (.tree j) T1) p = At q p := fun p hp => at_turn_other hp g1 hqb
  have hap : ∀ p b, p ≠ .tree j → At q p b → ¬ At q (.tree j) b := fun p b hp hb' E => by
    unfold At at hb' E
    rw [hb'] at E
    exact hp (Option.some.inj E)
  refine ⟨rfl, turn q (.tree j) T1, fun b => T b ∨ T1 b, ⟨?_, ?_, ?_, ?_, ?_⟩, f1.mono (fun b _ => hsub b), ?_, ?_⟩
  · rw [hot _ (by simp)]; exact h.mp
  · rw [kvs_set a hj]
    exact (h.map.frame f1 (hap .mp _ (by simp) h.mp)).more (Nat.le_succ F)
  · intro i k2 l2 e2
    by_cases hi : j = i
    · subst hi
      rw [List.getElem?_set_self hjl] at e2
      obtain ⟨rfl, rfl⟩ := Prod.mk.inj (Option.some.inj e2)
      rw [at_turn_same]
      exact ⟨h1, Nat.le_trans (addT_len l e) (by omega)⟩
    · rw [List.getElem?_set_ne hi] at e2
      obtain ⟨h3, h4⟩ := h.tr i k2 l2 e2
      rw [hot _ (by simp; omega)]
      exact ⟨h3.frame f1 (fun b hb' => hap (.tree i) b (by simp; omega) hb'), by omega⟩
  · intro b hb'
    have h5 := bound_turn hqb f1.size bd1 b hb'
    refine ⟨?_, h5⟩
    by_cases h6 : T1 b
    · exact .inr h6
    · refine .inl (h.bd b (fun E => hb' ?_)).1
      unfold turn
      simp [h6, E]
  · intro p hp
    rcases List.mem_or_eq_of_mem_set hp with h2 | rfl
    · exact h.keys p h2
    · exact h.keys (key, l) (List.mem_of_getElem? hj)
  · intro b hb'
    rcases hb' with h2 | h2
    · exact .inl h2
    · rcases g1 b h2 with h3 | h3
      · exact .inl (hsub b h3)
      · exact .inr h3
  · intro b hb'
    rcases hb' with h2 | h2
    · exact Nat.lt_of_lt_of_le (hb b h2) f1.size
    · exact bd1 b h2
/-- the store, its index opened -/
structure StX (w : World) (ρ : Nat → Option Pt) (s : Nat) (A : Ad) (M : PSt) (F : Nat) (q : Nat → Option Xp) (a : Nat → Nat) : Prop where
  st : StAt w ρ s A M F
  ix : IxO w (At ρ .index) A.m M.X F q a
theorem StAt.idx {w : World} {ρ : Nat → Option Pt} {s : Nat} {A : Ad} {M : PSt} {F : Nat} (h : StAt w ρ s A M F) : IxAt w (At ρ .index) A.m M.X F := h.at_ .index
theorem StAt.bdp {w : World} {ρ : Nat → Option Pt} {s : Nat} {A : Ad} {M : PSt} {F : Nat} (h : StAt w ρ s A M F) (p : Pt) : ∀ b, At ρ p b → b < w.heap.size := fun b hb => h.bound b (by rw [show ρ b = some p from hb]; simp)
/-- an entry struck, an entry added -/
def lOf (X : List (ByteArray × List EntR)) (j : Nat) : List EntR := (X[j]?.getD (⟨#[]⟩, [])).2
def delX (X : List (ByteArray × List EntR)) (key : ByteArray) (e : EntR) : List (ByteArray × List EntR) := match slot (openX X key) key with
  | some j => (openX X key).set j (key, delT (lOf (openX X key) j) e)
  | none => openX X key
def addX (X : List (ByteArray × List EntR)) (key : ByteArray) (e : EntR) : List (ByteArray × List EntR) := match slot (openX X key) key with
  | some j => (openX X key).set j (key, addT (lOf (openX X key) j) e)
  | none => openX X key
theorem delX_some {X : List (ByteArray × List EntR)} {key : ByteArray} {j : Nat} (h : slot (openX X key) key = some j) (e : EntR) : delX X key e = (openX X key).set j (key, delT (lOf (openX X key) j) e) := by
  unfold delX
  rw [h]
theorem addX_some {X : List (ByteArray × List EntR)} {key : ByteArray} {j : Nat} (h : slot (openX X key) key = some j) (e : EntR) : addX X key e = (openX X key).set j (key, addT (lOf (openX X key) j) e) := by
  unfold addX
  rw [h]
theorem lOf_at {X : List (ByteArray × List EntR)} {key : ByteArray} {j : Nat} (h : slot X key = some j) : X[j]? = some (key, lOf X j) := by
  obtain ⟨l, hl⟩ := slot_some h
  unfold lOf
  rw [hl]
  rfl
/-- does the entry stand there? -/
def hasX (X : List (ByteArray × List EntR)) (key : ByteArray) (e : EntR) : Bool := match slot (openX X key) key with
  | some j => isV (lOf (openX X key) j) e
  | none => false
theorem hasX_some {X : List (ByteArray × List EntR)} {key : ByteArray} {j : Nat} (h : slot (openX X key) key = some j) (e : EntR) : hasX X key e = isV (lOf (openX X key) j) e := by
  unfold hasX
  rw [h]
end Go.Proofs.YtibfpkfpmkghhaaGreatDoor

namespace Go.Proofs.YtibfpkfpmkghhaaGreatDoor
open Go.RowKit Go.Lig

theorem infoIx : (Tryz.prog.info? 167).map (fun i => (i.zero, i.size, i.bytes)) = some (some (.agg #[.string (ByteArray.mk #[]), .int .i64 0, .bool false, .int .i64 0, .float .f64 0, .string (ByteArray.mk #[]), .int .i64 0]), 7, 72) := by kernel_rfl
theorem cells7 {w : World} {b : Nat} {t : TypeId} {fr : Nat × Nat} {v0 v1 v2 v3 v4 v5 v6 : Value} (h : w.heap[b]? = some (.cells #[v0, v1, v2, v3, v4, v5, v6] t fr)) :
    w.cell? ⟨b, 0, none⟩ = some v0 ∧ w.cell? ⟨b, 1, none⟩ = some v1 ∧ w.cell? ⟨b, 2, none⟩ = some v2 ∧ w.cell? ⟨b, 3, none⟩ = some v3 ∧ w.cell? ⟨b, 4, none⟩ = some v4 ∧ w.cell? ⟨b, 5, none⟩ = some v5 ∧ w.cell? ⟨b, 6, none⟩ = some v6 := by
  simp [World.cell?, h]
theorem ixcell_one {l : List IxR} {u : Value} (h : u ∈ l.flatMap ixcell) : u.oneCell' = true := by
  obtain ⟨y, -, hu⟩ := List.mem_flatMap.1 h
  simp only [ixcell, List.mem_cons, List.not_mem_nil, or_false] at hu
  rcases hu with rfl | rfl | rfl | rfl | rfl | rfl | rfl <;> rfl
/-- what a call of finds has under it -/
structure FBase (w0 : World) (T0 : Nat → Prop) (s m b2 b3 b6 : Nat) : Prop where
  n2 : w0.heap.size ≤ b2
  n3 : w0.heap.size ≤ b3
  n6 : w0.heap.size ≤ b6
  d2 : b6 ≠ b2
  d3 : b6 ≠ b3
  s6 : w0.cell? ⟨s, 6, none⟩ = some (.map (some m))
  sT : ¬ T0 s
  bd : ∀ b, T0 b → b < w0.heap.size
/-- .. and what stands while it goes -/
structure FSt (Kp : Nat → Obj → Prop) (w0 : World) (T0 : Nat → Prop) (s m b2 b3 b6 : Nat) (id : Int) (w : World) (X : List (ByteArray × List EntR)) (F : Nat) (es : List IxR) : Prop where
  ex : ∃ (T : Nat → Prop) (row : Value), IxAt w T m X F ∧ Fr T0 w0 w ∧ Grown w0 T0 T ∧ (∀ b, T b → b < w.heap.size) ∧ w.heap[b2]? = some (.cells #[.pointer (some ⟨s, 0, none⟩)] 22 (0, 0)) ∧ w.heap[b3]? = some (.cells #[.int .i64 id] 3 (0, 0)) ∧ w.heap[b6]? = some (.cells #[row] 165 (0, 0)) ∧
    w.ownsRow 0 167 7 row es.length (es.flatMap ixcell) ∧ (∀ b, row.ownBlock = some b → ¬ T b ∧ w0.heap.size ≤ b ∧ b ≠ b2 ∧ b ≠ b3 ∧ b ≠ b6) ∧ ¬ T b2 ∧ ¬ T b3 ∧ ¬ T b6 ∧ ∀ b o, Kp b o → w.heap[b]? = some o ∧ ¬ T b ∧ b ≠ b6 ∧ row.ownBlock ≠ some b
theorem FSt.frame {Kp : Nat → Obj → Prop} {w0 w w' : World} {T0 : Nat → Prop} {s m b2 b3 b6 F : Nat} {id : Int} {X : List (ByteArray × List EntR)} {es : List IxR} (h : FSt Kp w0 T0 s m b2 b3 b6 id w X F es) (hf : Fr No w w') : FSt Kp w0 T0 s m b2 b3 b6 id w' X F es := by
  obtain ⟨T, row, h1, h2, h3, h4, h5, h6, h7, h8, h9, h10, h11, h12, h13⟩ := h.ex
  exact ⟨T, row, h1.frame hf (fun _ _ e => e), h2.thenNo hf, h3, fun b hb => Nat.lt_of_lt_of_le (h4 b hb) hf.size, hf.keep h5 (fun e => e), hf.keep h6 (fun e => e), hf.keep h7 (fun e => e), fd_owns h8 hf, h9, h10, h11, h12, fun b o hk => ⟨hf.keep (h13 b o hk).1 (fun e => e), (h13 b o hk).2⟩⟩
set_option maxRecDepth 100000 in
set_option maxHeartbeats 2000000 in
theorem find1_any {Kp : Nat → Obj → Prop} {w0 : World} {T0 : Nat → Prop} {s m b2 b3 b6 : Nat} (B : FBase w0 T0 s m b2 b3 b6) {id : Int} (w : World) (X : List (ByteArray × List EntR)) (F : Nat) (es : List IxR) (h : FSt Kp w0 T0 s m b2 b3 b6 id w X F es) (hF : F < 999990) (hes : es.length < 1000000) (key : ByteArray) (hk : key.size ≤ maxLen) (v : ValR) (hok : ValOk v) (hid0 : (Lit.int .i64 id).wf = true) :
    Calls Tryz.prog 119 #[.string key, .agg #[.int .i64 v.kind, .bool v.b, .int .i64 v.n, .float .f64 v.f, .string v.t], .pointer (some ⟨b3, 0, none⟩), .pointer (some ⟨b2, 0, none⟩), .pointer (some ⟨b6, 0, none⟩)] w fun e w' =>
      e = .returned (.tuple #[]) ∧ FSt Kp w0 T0 s m b2 b3 b6 id w' (addX X key ⟨v, id⟩) (F + 2) (if hasX X key ⟨v, id⟩ then es else es ++ [⟨key, ⟨v, id⟩⟩]) := by
  obtain ⟨hb, hhb⟩ : ∃ hb, hasX X key ⟨v, id⟩ = hb := ⟨_, rfl⟩
  rw [hhb]
  obtain ⟨es', hes'⟩ : ∃ es', es' = if hb = true then es else es ++ [⟨key, ⟨v, id⟩⟩] := ⟨_, rfl⟩
  rw [← hes']
  have HES := hid hes'
  have HHB := hid hhb
  clear hes' hhb
  obtain ⟨k1, k2⟩ := heap2 w (.cells #[.int .i64 v.kind, .bool v.b, .int .i64 v.n, .float .f64 v.f, .string v.t] 60) (.cells #[.string key, .int .i64 v.kind, .bool v.b, .int .i64 v.n, .float .f64 v.f, .string v.t, .int .i64 id] 167)
  have hf : Fr No w ((w.alloc (.cells #[.int .i64 v.kind, .bool v.b, .int .i64 v.n, .float .f64 v.f, .string v.t] 60)).alloc (.cells #[.string key, .int .i64 v.kind, .bool v.b, .int .i64 v.n, .float .f64 v.f, .string v.t, .int .i64 id] 167)) := ((Fr.refl No w).alloc _).alloc _
  obtain ⟨T, row, i1, f0, g0, bd, e2, e3, e6, o6, r6, t2, t3, t6, kp⟩ := h.ex
  have c3 := cells1 e3
  have hl3 := lt_of_block e3
  have hbT : ¬ T (w.heap.size + 1) := fun E => by have := bd _ E; omega
  have hbb : b2 ≠ w.heap.size + 1 ∧ b6 ≠ w.heap.size + 1 := ⟨fun E => by have := lt_of_block e2; omega, fun E => by have := lt_of_block e6; omega⟩
  have hrb : row.ownBlock ≠ some (w.heap.size + 1) := fun E => by have := (o6.lt _ E).2; omega
  have HW := hid (⟨i1.frame hf (fun _ _ e => e), f0.thenNo hf, g0, (fun b hb => Nat.lt_of_lt_of_le (bd b hb) hf.size : ∀ b, T b → b < _), hf.keep e2 (fun e => e), hf.keep e3 (fun e => e), hf.keep e6 (fun e => e), fd_owns o6 hf, r6, t2, t3, t6, (fun b o hk => ⟨hf.keep (kp b o hk).1 (fun e => e), (kp b o hk).2⟩ : ∀ b o, Kp b o → _ ∧ _)⟩ : _ ∧ _ ∧ _ ∧ _ ∧ _ ∧ _ ∧ _ ∧ _ ∧ _ ∧ _ ∧ _ ∧ _ ∧ _)
  have HV := hid (⟨hbT, hbb, hrb⟩ : _ ∧ _ ∧ _)
  clear h i1 f0 g0 e2 e3 e6 o6 r6 t2 t3 t6 kp bd hbT hbb hrb
  go_enter Tryz.func119, Tryz.ntmps119
  go_wp2_with fail
  generalize hw2 : (w.alloc (.cells #[.int .i64 v.kind, .bool v.b, .int .i64 v.n, .float .f64 v.f, .string v.t] 60)).alloc (.cells #[.string key, .int .i64 v.kind, .bool v.b, .int .i64 v.n, .float .f64 v.f, .string v.t, .int .i64 id] 167) = w2 at *
  clear k1 hw2 c3 hl3
  generalize hbt : w.heap.size + 1 = bt at *
  clear hbt hf
  obtain ⟨i2, f2, g2, bd2, e2, e3, e6, o6, r6, t2, t3, t6, kp⟩ := HW.out
  have hs0 := World.block_lt_of_cell? _ _ B.s6
  have hsT : ¬ T s := fun E => by
    rcases g2 s E with h1 | h1
    · exact B.sT h1
    · exact Nat.lt_irrefl _ (Nat.lt_of_lt_of_le hs0 h1)
  have s6 : w2.cell? ⟨s, 6, none⟩ = some (.map (some m)) := by
    rw [World.cell?_of_block (w := w0) (f2.block s hs0 B.sT)]
    exact B.s6
  have x2 := cells1 e2
  obtain ⟨y0, y1, y2, y3, y4, y5, y6⟩ := cells7 k2
  have HS := hid (⟨s6, hsT⟩ : _ ∧ _)
  have HK := hid k2
  have hsc : ∀ U : Nat → Prop, (∀ k, U k → T k ∨ w2.heap.size ≤ k) → ∀ b ∈ [b2, bt], b < w2.drew.heap.size ∧ ¬ U b := fun U hU b hb => by
    have l1 : b2 < w2.drew.heap.size := lt_of_block e2
    have l2 : bt < w2.drew.heap.size := lt_of_block k2
    rcases List.mem_cons.1 hb with rfl | hb
    · exact ⟨l1, fun E => by rcases hU _ E with h1 | h1; exact t2 h1; exact Nat.lt_irrefl _ (Nat.lt_of_lt_of_le l1 h1)⟩
    · rw [List.mem_singleton.1 hb]
      exact ⟨l2, fun E => by rcases hU _ E with h1 | h1; exact HV.out.1 h1; exact Nat.lt_irrefl _ (Nat.lt_of_lt_of_le l2 h1)⟩
  have HSC := hid hsc
  clear e2 e3 e6 o6 r6 t2 t3 t6 kp s6 hsT hs0 k2 i2 f2 g2 bd2 hsc
  refine wp_region_sched (by kernel_rfl) 6 [2, 5] [0, 1, 3, 4, 2, 5] (AgC [b2, bt] w2.drew) (by kernel_rfl) (AgC.refl _ _) ?_
  simp only [List.map_cons, List.map_nil, List.contains_cons, List.contains_nil, nth_zero, nth_succ, Nat.reduceBEq, Bool.or_false, Bool.or_true]
  repeat (refine sched_quiet (fun K hK => ?_); go_simp; refine hK _ ?_; clear hK K)
  refine sched_call (by first | rfl | go_simp) 117 #[.pointer (some ⟨s, 0, none⟩), .string key] (by first | kernel_rfl | go_simp) (tree_any w2.drew T m F s X (HW.out.1.frame (Fr.refl No w2).drew (fun _ _ e => e)) HW.out.2.2.2.1 (by omega) HS.out.1 HS.out.2 key hk) ?_
  rintro e w3 ⟨q3, a3, j, rfl, hj, T3, i3, f3, g3, bd3⟩
  have a3' := (AgC.refl [b2, bt] w2.drew).fr f3 (HSC.out T (fun k h1 => .inl h1))
  refine ⟨_, rfl, a3', ?_⟩
  repeat (refine sched_quiet (fun K hK => ?_); go_simp; refine hK _ ?_; clear hK K)
  have hl3 := lOf_at hj
  have HA := hid (⟨addX_some hj ⟨v, id⟩, hasX_some hj ⟨v, id⟩⟩ : _ ∧ _)
  refine sched_call (by first | rfl | go_simp) 120 #[ptrAt a3 j, entA ⟨v, id⟩] (by first | kernel_rfl | go_simp) (ix_add w3 T3 m (F + 1) (openX X key) q3 a3 i3 bd3 (by omega) j key _ hl3 ⟨v, id⟩ ⟨hok, hid0⟩) ?_
  rintro e w4 ⟨rfl, q4, T4, i4, f4, g4, bd4⟩
  rw [← HA.out.1] at i4
  rw [← HA.out.2, HHB.out]
  have g34 : Grown w2.drew T T4 := g3.trans g4 f3.size
  have f24 : Fr T w2.drew w4 := f3.trans f4 (fun k hk E => by rcases g3 k E with h1 | h1; exact h1; omega)
  refine ⟨_, rfl, a3'.fr f4 (HSC.out T3 g3), ?_⟩
  have hdr : w2.drew.heap.size = w2.heap.size := rfl
  obtain ⟨i2, f2, g2, bd2, e2, e3, e6, o6, r6, t2, t3, t6, kp⟩ := HW.out
  have hold : ∀ b, b < w2.heap.size → ¬ T b → ¬ T4 b := fun b hb hn E => by
    rcases g34 b E with h1 | h1
    · exact hn h1
    · omega
  have H4 := hid (⟨i4.close.more (show F + 1 + 1 ≤ F + 2 by omega), f2.drew.trans f24 (fun k hk E => by rcases g2 k E with h1 | h1; exact h1; omega), g2.trans g34 f2.size, bd4, f24.keep (w := w2.drew) e2 t2, f24.keep (w := w2.drew) e3 t3, f24.keep (w := w2.drew) e6 t6, f24.owns (w := w2.drew) o6 (fun k hk => (r6 k hk).1), (fun b hb => ⟨hold b (o6.lt b hb).2 (r6 b hb).1, (r6 b hb).2⟩ : ∀ b, row.ownBlock = some b → _ ∧ _), hold b2 (lt_of_block e2) t2, hold b3 (lt_of_block e3) t3, hold b6 (lt_of_block e6) t6, (fun b o hk => ⟨f24.keep (w := w2.drew) (kp b o hk).1 (kp b o hk).2.1, hold b (lt_of_block (kp b o hk).1) (kp b o hk).2.1, (kp b o hk).2.2⟩ : ∀ b o, Kp b o → _ ∧ _ ∧ _)⟩ : _ ∧ _ ∧ _ ∧ _ ∧ _ ∧ _ ∧ _ ∧ _ ∧ _ ∧ _ ∧ _ ∧ _ ∧ _)
  have HT := hid (f24.keep (w := w2.drew) HK.out HV.out.1)
  clear i2 f2 g2 bd2 e2 e3 e6 o6 r6 t2 t3 t6 kp i4 i3 f3 g3 f4 g4 bd3 bd4 g34 f24 hold hj hl3 HA a3' x2 y0 y1 y2 y3 y4 y5 y6
  refine sched_nil ?_
  cases hb with
  | true =>
    go_wp2_with fail
    go_end0
    have hee : es' = es := by have := HES.out; simpa using this
    rw [hee]
    exact ⟨rfl, ⟨T4, row, H4.out⟩⟩
  | false =>
    obtain ⟨i4, f04, g04, bd4, e2, e3, e6, o6, r6, t2, t3, t6, kp⟩ := H4.out
    have x6 := cells1 e6
    obtain ⟨y0, y1, y2, y3, y4, y5, y6⟩ := cells7 HT.out
    clear i4 f04 g04 bd4 e2 e3 e6 o6 r6 t2 t3 t6 kp
    go_wp2_with (first | (refine wpList_buildSlice1 rfl 165 167 (.tmp 20) rfl _ 7 72 Tryz.underlying165 infoIx (by decide) (by decide) (.agg #[.string key, .int .i64 v.kind, .bool v.b, .int .i64 v.n, .float .f64 v.f, .string v.t, .int .i64 id]) rfl rfl ?_; intro w5 p5; have P5 := hid p5; clear p5) | (refine wpList_app rfl (.tmp 19) (.tmp 21) 165 rfl 167 _ 7 72 Tryz.underlying165 infoIx ?_ (by decide) row es.length (es.flatMap ixcell) rfl ?_ (.slice (some ⟨w4.heap.size, 0, none⟩) 1 1) 1 (ixcell ⟨key, ⟨v, id⟩⟩) rfl ?_ ?_ ?_ ?_))
    case refine_1 => kernel_rfl
    case refine_2 => exact fd_owns H4.out.2.2.2.2.2.2.2.1 P5.out.fr
    case refine_3 => exact Rd.block (cs := ixcell ⟨key, ⟨v, id⟩⟩) P5.out.at_ 1 7 1 rfl (fun u hu => ixcell_one (l := [⟨key, ⟨v, id⟩⟩]) (by simpa using hu)) (Nat.le_refl _) (by simp [maxLen])
    case refine_4 => unfold maxLen; omega
    case refine_5 => omega
    case refine_6 =>
      intro v6 w6 o6 f6 b6' _
      have x6' := f6.keep (P5.out.fr.keep H4.out.2.2.2.2.2.2.1 (fun e => e)) (fun E => (H4.out.2.2.2.2.2.2.2.2.1 _ E).2.2.2.2 rfl)
      obtain ⟨av, cv, rfl⟩ := ownsRow_slice o6
      have H6 := hid (⟨o6, f6, b6', x6'⟩ : _ ∧ _ ∧ _ ∧ _)
      clear o6 f6 b6' x6' x6
      go_wp2_with (refine wpList_store1 rfl 165 (.tmp 4) (.tmp 22) rfl b6 0 rfl _ _ (.slice av (es.length + 1) cv) rfl (by kernel_rfl) H6.out.2.2.2 (by simp) rfl ?_; intro w7 p7; have P7 := hid p7; clear p7)
      go_end0
      have hee : es' = es ++ [⟨key, ⟨v, id⟩⟩] := by have := HES.out; simpa using this
      rw [hee]
      obtain ⟨i4, f04, g04, bd4, e2, e3, e6, o6, r6, t2, t3, t6, kp⟩ := H4.out
      have q7 : Put b6 #[.slice av (es.length + 1) cv] 165 w6 w7 := by simpa using P7.out
      have l6 := lt_of_block e6
      have l2 := lt_of_block e2
      have l3 := lt_of_block e3
      have hz5 := P5.out.fr.size
      -- what the append and the store leave alone
      have k6 : ∀ b, b < w4.heap.size → row.ownBlock ≠ some b → b ≠ b6 → w7.heap[b]? = w4.heap[b]? := fun b hb h1 h2 => by
        rw [q7.fr.block b (Nat.lt_of_lt_of_le (Nat.lt_of_lt_of_le hb hz5) H6.out.2.1.size) h2, H6.out.2.1.block b (Nat.lt_of_lt_of_le hb hz5) h1, P5.out.fr.block b hb (fun e => e)]
      have f47 : Fr (fun b => row.ownBlock = some b ∨ b = b6) w4 w7 := (((P5.out.fr.mono (fun _ _ E => E.elim)).thenS (H6.out.2.1.mono (fun k _ E => .inl E)))).thenS (q7.fr.mono (fun k _ E => .inr E))
      have hrow : ∀ b, (Value.slice av (es.length + 1) cv).ownBlock = some b → row.ownBlock = some b ∨ w4.heap.size ≤ b := fun b hb => by
        rcases H6.out.2.2.1 b hb with h1 | h1
        · exact .inl h1
        · exact .inr (Nat.le_trans hz5 h1)
      have hnb6 : (Value.slice av (es.length + 1) cv).ownBlock ≠ some b6 := fun E => by
        rcases hrow _ E with h1 | h1
        · exact (r6 _ h1).2.2.2.2 rfl
        · omega
      refine ⟨rfl, ⟨T4, _, i4.frame f47 (fun k hk E => by rcases E with h1 | h1; exact (r6 _ h1).1 hk; subst h1; exact t6 hk), f04.trans f47 (fun k hk E => by rcases E with h1 | h1; exact absurd hk (Nat.not_lt.2 (r6 _ h1).2.1); subst h1; exact absurd hk (Nat.not_lt.2 B.n6)), g04, fun b hb => Nat.lt_of_lt_of_le (bd4 b hb) f47.size, ?_, ?_, q7.at_, ?_, fun b hb => ?_, t2, t3, t6, fun b o hk => ?_⟩⟩
      · rw [k6 b2 l2 (fun E => (r6 _ E).2.2.1 rfl) (fun E => B.d2 E.symm)]; exact e2
      · rw [k6 b3 l3 (fun E => (r6 _ E).2.2.2.1 rfl) (fun E => B.d3 E.symm)]; exact e3
      · have := q7.fr.owns H6.out.1 (fun b hb E => by subst E; exact hnb6 hb)
        rw [List.length_append, List.flatMap_append]
        simpa using this
      · rcases hrow b hb with h1 | h1
        · exact r6 b h1
        · refine ⟨fun E => by have := bd4 b E; omega, by have := f04.size; omega, by omega, by omega, by omega⟩
      · obtain ⟨c1, c2, c3, c4⟩ := kp b o hk
        have lb := lt_of_block c1
        exact ⟨(k6 b lb c4 c3).trans c1, c2, c3, fun E => by
          rcases hrow b E with h1 | h1
          · exact c4 h1
          · omega⟩
end Go.Proofs.YtibfpkfpmkghhaaGreatDoor
