/- A part of the proof: contracts of functions of the program, for the row's text. -/
import Derived.Test.YtibfpkfpmkghhaaGreatDoorRows
import Derived.Test.YtibfpkfpmkghhaaGreatDoorJ02
import Derived.Test.YtibfpkfpmkghhaaGreatDoorJ14
import Derived.StringKeys
import Derived.Test.YtibfpkfpmkghhaaGreatDoorJ11
namespace Go.Proofs.YtibfpkfpmkghhaaGreatDoor
open Go.RowKit Go.Lig

theorem infoInt : (Tryz.prog.info? 3).map (fun i => (i.zero, i.size, i.bytes)) = some (some (.int .i64 0), 1, 8) := by kernel_rfl
def iv (x : Int) : Value := .int .i64 x
theorem iv_one (l : List Int) : ∀ u ∈ l.map iv, u.oneCell' = true := by
  intro u hu
  obtain ⟨x, _, rfl⟩ := List.mem_map.1 hu
  rfl
/-- v is a slice of ints of its own, made since w -/
structure OwnI (w w' : World) (v : Value) (l : List Int) : Prop where
  row : w'.ownsRow 0 3 1 v l.length (l.map iv)
  blk : ∀ j, v.ownBlock = some j → w.heap.size ≤ j
  fr : Fr No w w'
theorem OwnI.nil (w : World) : OwnI w w (.slice none 0 0) [] := ⟨World.ownsRow_nil _ _ _ _, fun _ e => (by cases e), Fr.refl _ _⟩
theorem OwnI.rd {w w' : World} {v : Value} {l : List Int} (h : OwnI w w' v l) : Rd w' v l.length 1 (l.map iv) := Rd.of_owns h.row (iv_one l)
theorem OwnI.next {w w1 w2 : World} {v : Value} {l : List Int} (h : OwnI w w1 v l) (hf : Fr No w1 w2) : OwnI w w2 v l := ⟨fd_owns h.row hf, h.blk, h.fr.thenNo hf⟩
theorem OwnI.ahead {w0 w w1 : World} {v : Value} {l : List Int} (h : OwnI w w1 v l) (hf : Fr No w0 w) : OwnI w0 w1 v l := ⟨h.row, fun j hj => Nat.le_trans hf.size (h.blk j hj), hf.thenNo h.fr⟩
theorem OwnI.app {w w1 w2 w3 : World} {v v' : Value} {l : List Int} {x : Int} {cs : Array Value} {t : TypeId} (h : OwnI w w1 v l) (p2 : New cs t w1 w2) (o : w3.ownsRow 0 3 1 v' (l.length + 1) (l.map iv ++ [iv x])) (f : Fr (fun k => v.ownBlock = some k) w2 w3)
    (b : ∀ k, v'.ownBlock = some k → v.ownBlock = some k ∨ w2.heap.size ≤ k) : OwnI w w3 v' (l ++ [x]) := by
  refine ⟨by simpa using o, fun j hj => ?_, (h.fr.thenNo p2.fr).trans f (fun k hk e => by have := h.blk k e; omega)⟩
  rcases b j hj with e | e
  · exact h.blk j e
  · have := h.fr.size
    have := p2.fr.size
    omega
end Go.Proofs.YtibfpkfpmkghhaaGreatDoor

namespace Go.Proofs.YtibfpkfpmkghhaaGreatDoor
open Go.RowKit Go.Lig

def slLen : Value → Nat
  | .slice _ n _ => n
  | _ => 0
theorem nxt_get : ∀ (l : List Int) (i : Nat) (y : Int), l.Nodup → l[i]? = some y → nxt l y = l[i + 1]?
  | [], i, y, _, h => by simp at h
  | z :: l, 0, y, hn, h => by
    obtain rfl : z = y := by simpa using h
    simp [nxt, List.head?_eq_getElem?]
  | z :: l, i + 1, y, hn, h => by
    have h' : l[i]? = some y := by simpa using h
    have hn' := List.nodup_cons.1 hn
    have : z ≠ y := fun e => hn'.1 (e ▸ List.mem_of_getElem? h')
    simp only [nxt, if_neg this]
    rw [nxt_get l i y hn'.2 h']
    simp
theorem take_snoc {l : List Int} {i : Nat} {y : Int} (h : l[i]? = some y) : l.take (i + 1) = l.take i ++ [y] := by
  rw [List.take_add_one, h]
  rfl
theorem listPtr_none {I : List (Int × Int)} {B : Role → Nat} {k : Int} (h : ids I k = []) : listPtr I B k = .pointer none := if_pos h
theorem listPtr_some {I : List (Int × Int)} {B : Role → Nat} {k : Int} (h : ids I k ≠ []) : listPtr I B k = .pointer (some ⟨B (.list k), 0, none⟩) := if_neg h
set_option maxHeartbeats 1000000 in
theorem walk_any (w : World) (c : Nat) (I : List (Int × Int)) (B : Role → Nat) (ρ : Nat → Option Role) (m : Nat) (h : ChAt w c I B ρ m) (k : Int) (hk : keyOk k) (hlen : I.length ≤ 1000000) :
    Calls Tryz.prog 72 #[.pointer (some ⟨c, 0, none⟩), .int .i64 k] w fun e w' => ∃ v, e = .returned v ∧ OwnI w w' v (ids I k) := by
  have HA := hid (at_any w c I B ρ m h k hk)
  by_cases hn : ids I k = []
  · rw [listPtr_none hn] at HA
    have HN := hid hn
    clear h hn
    go_enter Tryz.func72, Tryz.ntmps72
    go_wp2_with (go_at_call 146; refine HA.out.mono ?_; rintro e w' ⟨rfl, rfl⟩)
    go_ret
    refine ⟨_, rfl, ?_⟩
    rw [HN.out]
    exact OwnI.nil w
  · rw [listPtr_some hn] at HA
    have hL := h.clist k hn
    obtain ⟨c0, c1, c2⟩ := cells3 hL
    have hll : (ids I k).length ≤ 1000000 := by
      refine Nat.le_trans ?_ hlen
      unfold ids
      rw [List.length_map]
      exact List.length_filter_le _ _
    obtain ⟨L, hL'⟩ : ∃ L, L = ids I k := ⟨_, rfl⟩
    have hlL : L.length ≤ 1000000 := by rw [hL']; simpa using hll
    have hst : ptrO B k (ids I k).head? = ptrO B k L[0]? := by rw [hL', List.head?_eq_getElem?]
    rw [hst] at c0
    have hlink : ∀ i y, L[i]? = some y → w.heap[B (.link k y)]? = some (.cells #[.int .i64 y, ptrO B k (prv (ids I k) y), ptrO B k L[i + 1]?] 205 (0, 0)) := fun i y hy => by
      have hm : y ∈ ids I k := by have := List.mem_of_getElem? hy; rw [hL'] at this; simpa using this
      have := h.clink k y hm
      have e : nxt (ids I k) y = L[i + 1]? := by rw [hL']; exact nxt_get (ids I k) i y (ids_nodup h.nodup k) (hL' ▸ hy)
      rw [e] at this
      exact this
    have H := hid (⟨hlink, hL'⟩ : _ ∧ _)
    clear h hn hL hll c2 c1 hlink hL' hst
    go_enter Tryz.func72, Tryz.ntmps72
    go_wp2_with (go_at_call 146; refine HA.out.mono ?_; rintro e w' ⟨rfl, rfl⟩)
    go_loopw [6, 7] (fun vo vx wr => ∃ (i : Nat) (ao : Option Addr) (co : Nat), i ≤ L.length ∧ vo = .slice ao i co ∧ vx = ptrO B k L[i]? ∧ Hid (OwnI w wr (.slice ao i co) (L.take i))) (fun vo _ _ => L.length - slLen vo)
    case atStart => exact ⟨0, none, 0, Nat.zero_le _, rfl, rfl, OwnI.nil w⟩
    case round =>
      obtain ⟨i, ao, co, hi, rfl, rfl, ho⟩ := hrel
      by_cases hlt : i < L.length
      · obtain ⟨y, hy⟩ : ∃ y, L[i]? = some y := ⟨_, List.getElem?_eq_getElem hlt⟩
        rw [hy, show ptrO B k (some y) = .pointer (some ⟨B (.link k y), 0, none⟩) from rfl]
        have hlk := H.out.1 i y hy
        obtain ⟨x0, x1, x2⟩ := cells3 (ho.out.fr.keep hlk (fun e => e))
        have HL := hid hlk
        have HY := hid hy
        clear hy hlk x1 x2
        go_wp2_with (first | (refine wpList_buildSlice1 rfl 35 3 (.tmp 27) rfl _ 1 8 Tryz.underlying35 infoInt (by decide) (by decide) (.int .i64 y) rfl rfl ?_; intro w2 p2; have P2 := hid p2; clear p2) | (refine wpList_app rfl (.tmp 23) (.tmp 28) 35 rfl 3 (.int .i64 0) 1 8 Tryz.underlying35 infoInt rfl (by decide) (.slice ao i co) i ((L.take i).map iv) rfl (by have := fd_owns ho.out.row P2.out.fr; rwa [List.length_take, Nat.min_eq_left hi] at this) (.slice (some ⟨wr.heap.size, 0, none⟩) 1 1) 1 [iv y] rfl (Rd.block (cs := [iv y]) P2.out.at_ 1 1 1 rfl (by simp [iv, Value.oneCell']) (Nat.le_refl _) (by simp [maxLen])) (by unfold maxLen; omega) (by omega) ?_; rintro v3 w3 o3 f3 b3 -; have hx3 := (cells3 ((((ho.out.fr.thenNo P2.out.fr).trans f3 (fun k hk e => by have := ho.out.blk k e; omega)).keep HL.out (fun e => e)))).2.2; obtain ⟨ao3, co3, rfl⟩ := ownsRow_slice o3; have H3 := hid (ho.out.app (x := y) P2.out (by rw [List.length_take, Nat.min_eq_left hi]; exact o3) f3 b3); clear o3 f3 b3))
        go_roundw
        case rel => exact ⟨i + 1, ao3, co3, by omega, rfl, rfl, by rw [take_snoc HY.out]; exact H3.out⟩
        case measure => simp [slLen]; omega
      · obtain rfl : i = L.length := by omega
        rw [List.getElem?_eq_none (Nat.le_refl _), show ptrO B k none = .pointer none from rfl]
        have HO := hid (show OwnI w wr (.slice ao L.length co) L by have := ho.out; rwa [List.take_length] at this)
        clear ho hlt
        go_wp2
        go_ret
        exact ⟨_, rfl, H.out.2 ▸ HO.out⟩
end Go.Proofs.YtibfpkfpmkghhaaGreatDoor

namespace Go.Lig
open Go.RowKit Go.Maps Go.MapKept Go.ChangeMaps

def sKey (s : ByteArray) : Lit := .string s.data.toList
theorem sKey_ne {s t : ByteArray} (h : s ≠ t) : sKey s ≠ sKey t := fun e => h (by
  obtain ⟨⟨a⟩⟩ := s
  obtain ⟨⟨b⟩⟩ := t
  simp [sKey] at e
  subst e
  rfl)
def dOf (kv : List (ByteArray × Value)) : DataW Value := kv.foldl (fun D p => D.put (sKey p.1) (.held p.2)) (.map [])
def getS (kv : List (ByteArray × Value)) (s : ByteArray) : Value := match kv.find? (fun p => decide (p.1 = s)) with
  | some p => p.2
  | none => .pointer none
theorem dOf_snoc (kv : List (ByteArray × Value)) (s : ByteArray) (v : Value) : dOf (kv ++ [(s, v)]) = (dOf kv).put (sKey s) (.held v) := by simp [dOf, List.foldl_append]
theorem isMap_put {D : DataW Value} (h : IsMap D) (k : Lit) (d : DataW Value) : IsMap (D.put k d) := by
  obtain ⟨es, rfl⟩ := h
  exact ⟨_, rfl⟩
theorem at_fold (s : ByteArray) : ∀ (kv : List (ByteArray × Value)) (D : DataW Value), IsMap D → (kv.map (·.1)).Nodup → (∀ p ∈ kv, p.1 = s → D.atKey (sKey s) (.held (.pointer none)) = .held (.pointer none)) →
    (kv.foldl (fun D p => D.put (sKey p.1) (.held p.2)) D).atKey (sKey s) (.held (.pointer none)) = match kv.find? (fun p => decide (p.1 = s)) with
      | some p => .held p.2
      | none => D.atKey (sKey s) (.held (.pointer none)) := by
  intro kv
  induction kv with
  | nil => intro D _ _ _; rfl
  | cons p kv ih =>
    intro D hD hn hd
    rw [List.map_cons, List.nodup_cons] at hn
    simp only [List.foldl_cons, List.find?_cons]
    by_cases hp : p.1 = s
    · have hnone : kv.find? (fun p => decide (p.1 = s)) = none := by
        rw [List.find?_eq_none]
        intro q hq
        simp only [decide_eq_true_eq]
        intro e
        exact hn.1 (List.mem_map.2 ⟨q, hq, e.trans hp.symm⟩)
      rw [ih _ (isMap_put hD _ _) hn.2 (fun q hq e => absurd (by simpa using e) (by have := List.find?_eq_none.1 hnone q hq; simpa using this)), hnone]
      subst hp
      simp [atKey_put_same hD (show WideAt.IsKeyLit (sKey p.1) by trivial)]
    · rw [ih _ (isMap_put hD _ _) hn.2 (fun q hq e => by rw [atKey_put_other (sKey_ne (fun e' => hp e'.symm))]; exact hd q (List.mem_cons_of_mem _ hq) e)]
      rw [atKey_put_other (sKey_ne (fun e' => hp e'.symm))]
      simp [hp]
theorem at_dOf {kv : List (ByteArray × Value)} (hn : (kv.map (·.1)).Nodup) (s : ByteArray) : (dOf kv).atKey (sKey s) (.held (.pointer none)) = .held (getS kv s) := by
  unfold dOf
  rw [at_fold s kv (.map []) ⟨[], rfl⟩ hn (fun _ _ _ => rfl)]
  unfold getS
  split <;> simp_all <;> rfl
/-- Block g is a map of the entries kv. -/
structure MapS (w : World) (P : Program) (k : TypeId) (g n : Nat) (kv : List (ByteArray × Value)) : Prop where
  ex : w.ownsMap P k ptrR g n (dOf kv)
  nodup : (kv.map (·.1)).Nodup
theorem MapS.lt {w : World} {P : Program} {k : TypeId} {g n : Nat} {kv : List (ByteArray × Value)} (h : MapS w P k g n kv) : g < w.heap.size := h.ex.lt
theorem MapS.frame {w w' : World} {P : Program} {k : TypeId} {g n : Nat} {kv : List (ByteArray × Value)} {S : Nat → Prop} (h : MapS w P k g n kv) (hf : Fr S w w') (hn : ¬ S g) : MapS w' P k g n kv := by
  have hlt := h.lt
  obtain ⟨es, clock, hb, r⟩ := h.ex
  exact ⟨⟨es, clock, (hf.block g hlt hn).trans hb, r⟩, h.nodup⟩
theorem MapS.more {w : World} {P : Program} {k : TypeId} {g n m : Nat} {kv : List (ByteArray × Value)} (h : MapS w P k g n kv) (hm : n ≤ m) : MapS w P k g m kv := ⟨h.ex.mono hm, h.nodup⟩
theorem MapS.made (w : World) (P : Program) (k : TypeId) : MapS (w.alloc (.map #[] 0)) P k w.heap.size 0 [] := ⟨World.ownsMap_made w P k ptrR, List.nodup_nil⟩
section
variable {P : Program} {k e t : TypeId} {w : World} {g n : Nat} {kv : List (ByteArray × Value)}
theorem MapS.look (h : MapS w P k g n kv) (hk : P.underlying k = some .string) (ht : P.underlying t = some (.map k e)) (hz : (zeroValue e).run P w = .ok (.pointer none) w) {s : ByteArray} (hs : s.size ≤ maxLen) :
    (Instr.lookup t (.map (some g)) (.string s) false).run P w = .ok (getS kv s) w := by
  obtain ⟨v, ps, hrun, hv⟩ := h.ex.lookup (string_keyed hk) ht hz (zd := .held (.pointer none)) (zp := []) rfl (Go.WideMaps.keyOf_string_mk hk hs)
  have := at_dOf h.nodup s
  unfold sKey at this
  rw [this] at hv
  simp only [ptrR, Option.some.injEq, Prod.mk.injEq, DataW.held.injEq] at hv
  rw [hrun, hv.1]
theorem MapS.store (h : MapS w P k g n kv) (hk : P.underlying k = some .string) (ht : P.underlying t = some (.map k e)) (hn : n < maxLen) {s : ByteArray} (hs : s.size ≤ maxLen) (hnew : ∀ p ∈ kv, p.1 ≠ s) (v : Value) :
    ∃ w', (Instr.mapUpdate t (.map (some g)) (.string s) v).run P w = .ok () w' ∧ MapS w' P k g (n + 1) (kv ++ [(s, v)]) ∧ Fr (fun j => j = g) w w' ∧ w'.heap.size = w.heap.size := by
  obtain ⟨w', hrun, h', ht'⟩ := h.ex.store (string_keyed hk) ht hn (Go.WideMaps.keyOf_string_mk hk hs) (val := v) (d := .held v) (ps := []) rfl
  refine ⟨w', hrun, ⟨by rw [dOf_snoc]; exact h', ?_⟩, (Fr.refl _ w).grown ht'.grown (fun j hj _ => (Option.some.inj hj).symm), ?_⟩
  · rw [List.map_append, List.nodup_append]
    refine ⟨h.nodup, by simp, fun a ha c hc e1 => ?_⟩
    obtain ⟨p, hp, rfl⟩ := List.mem_map.1 ha
    simp only [List.map_cons, List.map_nil, List.mem_singleton] at hc
    exact hnew p hp (e1.trans hc)
  · obtain ⟨_, _, _, _, _, rfl⟩ := ht'
    simp [setBlock]
end
section
variable {P : Program} {ops : Array Oper} {rest : List Oper} {o : Oper} {a : Act} {w : World} {Q : Exit → Act → World → Prop} {k e : TypeId} {g n : Nat} {kv : List (ByteArray × Value)}
theorem wpList_slook (hgd : o.guard = none) (m x : Operand) (t : TypeId) (ho : o.op = .lookup t m x false) (hk : P.underlying k = some .string) (ht : P.underlying t = some (.map k e)) (hz : (zeroValue e).run P w = .ok (.pointer none) w)
    (hm : a.eval m = .map (some g)) (h : MapS w P k g n kv) (s : ByteArray) (hx : a.eval x = .string s) (hs : s.size ≤ maxLen) (v : Value) (hv : getS kv s = v)
    (hQ : wpList P ops Q rest (a.put o.dst v) w) : wpList P ops Q (o :: rest) a w := by
  subst hv
  exact wpList_run hgd (v := getS kv s) (w' := w) (by simp [execOp, ho, hm, hx, h.look hk ht hz hs, Result.andThen]) hQ
theorem wpList_sstore (hgd : o.guard = none) (m x y : Operand) (t : TypeId) (ho : o.op = .mapUpdate t m x y) (hk : P.underlying k = some .string) (ht : P.underlying t = some (.map k e))
    (hm : a.eval m = .map (some g)) (h : MapS w P k g n kv) (hn : n < maxLen) (s : ByteArray) (hx : a.eval x = .string s) (hs : s.size ≤ maxLen) (hnew : ∀ p ∈ kv, p.1 ≠ s) (v : Value) (hy : a.eval y = v)
    (hQ : ∀ w', MapS w' P k g (n + 1) (kv ++ [(s, v)]) → Fr (fun j => j = g) w w' → w'.heap.size = w.heap.size → wpList P ops Q rest (a.put o.dst undef) w') : wpList P ops Q (o :: rest) a w := by
  obtain ⟨w', hrun, h1, h2, h3⟩ := h.store hk ht hn hs hnew v
  exact wpList_runSkip hgd (w' := w') (by simp [execOp, ho, hm, hx, hy, hrun, Result.andThen]) (hQ w' h1 h2 h3)
end
end Go.Lig

namespace Go.Proofs.YtibfpkfpmkghhaaGreatDoor
open Go.RowKit Go.Lig

inductive Pt
  | root
  | clock
  | nrow
  | erow
  | edrow
  | enrow
  | out
  | inn
  | index
  | imm
  | node (i : Nat)
  | edge (i : Nat)
  deriving DecidableEq
structure PSt where
  K : Ck
  N : List (List (Ver NodeD))
  E : List (List (Ver EdgeV))
  D : List (Int × Int)
  O : List (Int × Int)
  I : List (Int × Int)
  X : List (ByteArray × List EntR)
  Y : List (List IxR)
/-- where its things lie -/
structure Ad where
  c : Nat
  o : Nat
  i : Nat
  m : Nat
  nv : Value
  ev : Value
  dv : Value
  fv : Value
  x : Nat → Nat
  z : Nat → Nat
def ptrs (x : Nat → Nat) (n : Nat) : List Value := (List.range n).map fun i => .pointer (some ⟨x i, 0, none⟩)
theorem ptrs_get (x : Nat → Nat) (n i : Nat) (h : i < n) : (ptrs x n)[i]? = some (.pointer (some ⟨x i, 0, none⟩)) := by
  simp [ptrs, h]
theorem ptrs_succ (x : Nat → Nat) (n : Nat) : ptrs x (n + 1) = ptrs x n ++ [.pointer (some ⟨x n, 0, none⟩)] := by simp [ptrs, List.range_succ]
/-! ### Parts -/
/-- a version's header, and what it is -/
structure VerIn (w : World) (I : Nat → Prop) (h : Ver NodeV) (d : Ver NodeD) : Prop where
  by_ : h.by_ = d.by_
  gone : h.gone = d.gone
  v : NodeIn w I (.slice h.v.l.a h.v.l.n h.v.l.c) (.slice h.v.p.a h.v.p.n h.v.p.c) d.v
/-- versions, one by one -/
structure VersIn (w : World) (I : Nat → Prop) (H : List (Ver NodeV)) (L : List (Ver NodeD)) : Prop where
  len : H.length = L.length
  at_ : ∀ (j : Nat) (h : Ver NodeV) (d : Ver NodeD), H[j]? = some h → L[j]? = some d → VerIn w I h d
/-- the cell of a node -/
structure NCell (w : World) (T I : Nat → Prop) (x : Nat) (L : List (Ver NodeD)) : Prop where
  ex : ∃ H, CellAt w T x H ∧ VersIn w I H L
theorem VerIn.frame {w w' : World} {I S : Nat → Prop} {h : Ver NodeV} {d : Ver NodeD} (v : VerIn w I h d) (hf : Fr S w w') (hd : ∀ k, I k → ¬ S k) : VerIn w' I h d := ⟨v.by_, v.gone, v.v.frame hf hd⟩
theorem VerIn.mono {w : World} {I J : Nat → Prop} {h : Ver NodeV} {d : Ver NodeD} (v : VerIn w I h d) (hj : ∀ k, I k → J k) : VerIn w J h d := ⟨v.by_, v.gone, v.v.mono hj⟩
theorem VersIn.frame {w w' : World} {I S : Nat → Prop} {H : List (Ver NodeV)} {L : List (Ver NodeD)} (v : VersIn w I H L) (hf : Fr S w w') (hd : ∀ k, I k → ¬ S k) : VersIn w' I H L := ⟨v.len, fun j h d e1 e2 => (v.at_ j h d e1 e2).frame hf hd⟩
theorem VersIn.mono {w : World} {I J : Nat → Prop} {H : List (Ver NodeV)} {L : List (Ver NodeD)} (v : VersIn w I H L) (hj : ∀ k, I k → J k) : VersIn w J H L := ⟨v.len, fun j h d e1 e2 => (v.at_ j h d e1 e2).mono hj⟩
theorem NCell.frame {w w' : World} {T I S : Nat → Prop} {x : Nat} {L : List (Ver NodeD)} (h : NCell w T I x L) (hf : Fr S w w') (hd : ∀ k, T k → ¬ S k) (hi : ∀ k, I k → ¬ S k) : NCell w' T I x L := by
  obtain ⟨H, h1, h2⟩ := h.ex
  exact ⟨H, h1.frame hf hd, h2.frame hf hi⟩
theorem NCell.mono {w : World} {T I J : Nat → Prop} {x : Nat} {L : List (Ver NodeD)} (h : NCell w T I x L) (hj : ∀ k, I k → J k) : NCell w T J x L := by
  obtain ⟨H, h1, h2⟩ := h.ex
  exact ⟨H, h1, h2.mono hj⟩
/-- lists: T has their blocks -/
structure ChP (w : World) (T : Nat → Prop) (c : Nat) (I : List (Int × Int)) (F : Nat) : Prop where
  ex : ∃ B r m, ChAt w c I B r m ∧ (∀ b, r b ≠ none → T b) ∧ m ≤ F
  len : I.length ≤ F
theorem ChP.frame {w w' : World} {T S : Nat → Prop} {c F : Nat} {I : List (Int × Int)} (h : ChP w T c I F) (hf : Fr S w w') (hd : ∀ k, T k → ¬ S k) : ChP w' T c I F := by
  obtain ⟨B, r, m, h1, h2, h3⟩ := h.ex
  exact ⟨⟨B, r, m, h1.frame hf (fun b hb => hd b (h2 b hb)), h2, h3⟩, h.len⟩
theorem ChP.more {w : World} {T : Nat → Prop} {c F G : Nat} {I : List (Int × Int)} (h : ChP w T c I F) (hg : F ≤ G) : ChP w T c I G := by
  obtain ⟨B, r, m, h1, h2, h3⟩ := h.ex
  exact ⟨⟨B, r, m, h1, h2, Nat.le_trans h3 hg⟩, Nat.le_trans h.len hg⟩
/-- a tree -/
structure TreeAt (w : World) (T : Nat → Prop) (x : Nat) (l : List EntR) : Prop where
  ex : ∃ v, w.heap[x]? = some (.cells #[v] 152 (0, 0)) ∧ w.ownsRow 0 91 6 v l.length (l.flatMap ncellE) ∧ ∀ k, v.ownBlock = some k → T k ∧ k ≠ x
  root : T x
  ok : ∀ y ∈ l, ValOk y.v ∧ (Lit.int .i64 y.id).wf = true
theorem TreeAt.frame {w w' : World} {T S : Nat → Prop} {x : Nat} {l : List EntR} (h : TreeAt w T x l) (hf : Fr S w w') (hd : ∀ k, T k → ¬ S k) : TreeAt w' T x l := by
  obtain ⟨v, h1, h2, h3⟩ := h.ex
  exact ⟨⟨v, hf.keep h1 (hd x h.root), hf.owns h2 (fun k hk => hd k (h3 k hk).1), h3⟩, h.root, h.ok⟩
inductive Xp
  | mp
  | tree (j : Nat)
  deriving DecidableEq
def kvs (a : Nat → Nat) (X : List (ByteArray × List EntR)) : List (ByteArray × Value) := X.zipIdx.map fun p => (p.1.1, .pointer (some ⟨a p.2, 0, none⟩))
/-- an index -/
structure IxAt (w : World) (T : Nat → Prop) (m : Nat) (X : List (ByteArray × List EntR)) (F : Nat) : Prop where
  ex : ∃ (q : Nat → Option Xp) (a : Nat → Nat), At q .mp m ∧ MapS w Tryz.prog 9 m F (kvs a X) ∧ (∀ j key l, X[j]? = some (key, l) → TreeAt w (At q (.tree j)) (a j) l ∧ l.length ≤ F) ∧ (∀ b, q b ≠ none → T b ∧ b < w.heap.size)
  keys : ∀ p ∈ X, p.1.size ≤ maxLen
theorem IxAt.frame {w w' : World} {T S : Nat → Prop} {m F : Nat} {X : List (ByteArray × List EntR)} (h : IxAt w T m X F) (hf : Fr S w w') (hd : ∀ k, T k → ¬ S k) : IxAt w' T m X F := by
  obtain ⟨q, a, h1, h2, h3, h4⟩ := h.ex
  have hq : ∀ p b, At q p b → ¬ S b := fun p b hb => hd b (h4 b (by rw [show q b = some p from hb]; simp)).1
  exact ⟨⟨q, a, h1, h2.frame hf (hq _ _ h1), fun j key l e => ⟨(h3 j key l e).1.frame hf (hq _), (h3 j key l e).2⟩, fun b hb => ⟨(h4 b hb).1, Nat.lt_of_lt_of_le (h4 b hb).2 hf.size⟩⟩, h.keys⟩
theorem IxAt.more {w : World} {T : Nat → Prop} {m F G : Nat} {X : List (ByteArray × List EntR)} (h : IxAt w T m X F) (hg : F ≤ G) : IxAt w T m X G := by
  obtain ⟨q, a, h1, h2, h3, h4⟩ := h.ex
  exact ⟨⟨q, a, h1, h2.more hg, fun j key l e => ⟨(h3 j key l e).1, Nat.le_trans (h3 j key l e).2 hg⟩, h4⟩, h.keys⟩
/-- the entries of nodes: rows that are never written again -/
structure EnAt (w : World) (T I : Nat → Prop) (v : Value) (Y : List (List IxR)) : Prop where
  ex : ∃ hs : List Value, hs.length = Y.length ∧ w.ownsRow 0 165 1 v Y.length hs ∧ ∀ (i : Nat) (hv : Value) (l : List IxR), hs[i]? = some hv → Y[i]? = some l → RdI w I hv l.length 7 (l.flatMap ixcell)
  blk : ∀ k, v.ownBlock = some k → T k
  one : ∀ l ∈ Y, ∀ y ∈ l, y.key.size ≤ maxLen ∧ ValOk y.x.v ∧ (Lit.int .i64 y.x.id).wf = true
theorem EnAt.frame {w w' : World} {T I S : Nat → Prop} {v : Value} {Y : List (List IxR)} (h : EnAt w T I v Y) (hf : Fr S w w') (hd : ∀ k, T k → ¬ S k) (hi : ∀ k, I k → ¬ S k) : EnAt w' T I v Y := by
  obtain ⟨hs, h1, h2, h3⟩ := h.ex
  exact ⟨⟨hs, h1, hf.owns h2 (fun k hk => hd k (h.blk k hk)), fun i hv l e1 e2 => (h3 i hv l e1 e2).frame hf hi⟩, h.blk, h.one⟩
theorem EnAt.mono {w : World} {T I J : Nat → Prop} {v : Value} {Y : List (List IxR)} (h : EnAt w T I v Y) (hj : ∀ k, I k → J k) : EnAt w T J v Y := by
  obtain ⟨hs, h1, h2, h3⟩ := h.ex
  exact ⟨⟨hs, h1, h2, fun i hv l e1 e2 => (h3 i hv l e1 e2).mono hj⟩, h.blk, h.one⟩
def ecells (D : List (Int × Int)) : List Value := D.flatMap fun p => [.int .i64 p.1, .int .i64 p.2]
/-! ### The whole -/
def rootCells (A : Ad) : Array Value := #[.pointer (some ⟨A.c, 0, none⟩), A.nv, A.dv, A.fv, .pointer (some ⟨A.o, 0, none⟩), .pointer (some ⟨A.i, 0, none⟩), .map (some A.m), A.ev]
/-- What part p is: R its blocks, I the blocks that are never written again. F bounds all that grows. -/
def PartAt (w : World) (R I : Nat → Prop) (s : Nat) (A : Ad) (M : PSt) (F : Nat) : Pt → Prop
  | .root => R s ∧ w.heap[s]? = some (.cells (rootCells A) 80 (0, 0))
  | .clock => ClockAt w R A.c M.K ∧ M.K.l.length ≤ F ∧ M.K.commits ≤ (F : Int)
  | .nrow => w.ownsRow 0 92 1 A.nv M.N.length (ptrs A.x M.N.length) ∧ (∀ k, A.nv.ownBlock = some k → R k) ∧ M.N.length ≤ 1000
  | .erow => EnAt w R I A.ev M.Y ∧ M.Y.length = M.N.length
  | .edrow => w.ownsRow 0 100 1 A.dv M.E.length (ptrs A.z M.E.length) ∧ (∀ k, A.dv.ownBlock = some k → R k) ∧ M.E.length ≤ 1000
  | .enrow => w.ownsRow 0 181 2 A.fv M.D.length (ecells M.D) ∧ (∀ k, A.fv.ownBlock = some k → R k) ∧ M.D.length = M.E.length ∧ ∀ p ∈ M.D, keyOk p.1 ∧ keyOk p.2
  | .out => ChP w R A.o M.O F
  | .inn => ChP w R A.i M.I F
  | .index => IxAt w R A.m M.X F
  | .imm => True
  | .node i => ∀ L, M.N[i]? = some L → NCell w R I (A.x i) L ∧ L.length ≤ F
  | .edge i => ∀ L, M.E[i]? = some L → Ec.CellAt w R (A.z i) L ∧ L.length ≤ F
theorem PartAt.frame {w w' : World} {R I S : Nat → Prop} {s : Nat} {A : Ad} {M : PSt} {F : Nat} {p : Pt} (h : PartAt w R I s A M F p) (hf : Fr S w w') (hd : ∀ k, R k → ¬ S k) (hi : ∀ k, I k → ¬ S k) : PartAt w' R I s A M F p := by
  cases p with
  | root => exact ⟨h.1, hf.keep h.2 (hd s h.1)⟩
  | clock => exact ⟨h.1.frame hf hd, h.2⟩
  | nrow => exact ⟨hf.owns h.1 (fun k hk => hd k (h.2.1 k hk)), h.2⟩
  | erow => exact ⟨h.1.frame hf hd hi, h.2⟩
  | edrow => exact ⟨hf.owns h.1 (fun k hk => hd k (h.2.1 k hk)), h.2⟩
  | enrow => exact ⟨hf.owns h.1 (fun k hk => hd k (h.2.1 k hk)), h.2⟩
  | out => exact ChP.frame h hf hd
  | inn => exact ChP.frame h hf hd
  | index => exact IxAt.frame h hf hd
  | imm => trivial
  | node i => exact fun L hL => ⟨(h L hL).1.frame hf hd hi, (h L hL).2⟩
  | edge i => exact fun L hL => ⟨(h L hL).1.frame hf hd, (h L hL).2⟩
theorem PartAt.mono {w : World} {R I J : Nat → Prop} {s : Nat} {A : Ad} {M : PSt} {F G : Nat} {p : Pt} (h : PartAt w R I s A M F p) (hj : ∀ k, I k → J k) (hg : F ≤ G) : PartAt w R J s A M G p := by
  cases p with
  | root => exact h
  | clock => exact ⟨h.1, Nat.le_trans h.2.1 hg, by have := h.2.2; omega⟩
  | nrow => exact h
  | erow => exact ⟨h.1.mono hj, h.2⟩
  | edrow => exact h
  | enrow => exact h
  | out => exact ChP.more h hg
  | inn => exact ChP.more h hg
  | index => exact IxAt.more h hg
  | imm => trivial
  | node i => exact fun L hL => ⟨(h L hL).1.mono hj, Nat.le_trans (h L hL).2 hg⟩
  | edge i => exact fun L hL => ⟨(h L hL).1, Nat.le_trans (h L hL).2 hg⟩
structure StAt (w : World) (ρ : Nat → Option Pt) (s : Nat) (A : Ad) (M : PSt) (F : Nat) : Prop where
  bound : ∀ b, ρ b ≠ none → b < w.heap.size
  at_ : ∀ p, PartAt w (At ρ p) (At ρ .imm) s A M F p
/-- what a turn of one part leaves -/
structure Trn (w w' : World) (ρ : Nat → Option Pt) (p : Pt) (T : Nat → Prop) : Prop where
  fr : Fr (At ρ p) w w'
  gr : Grown w (At ρ p) T
  bd : ∀ b, T b → b < w'.heap.size
section
variable {w w' : World} {ρ : Nat → Option Pt} {s : Nat} {A A' : Ad} {M M' : PSt} {p : Pt} {T : Nat → Prop} {F F' : Nat}
theorem Trn.at_ (t : Trn w w' ρ p T) (h : StAt w ρ s A M F) {q : Pt} (hq : q ≠ p) : At (turn ρ p T) q = At ρ q := at_turn_other hq t.gr h.bound
theorem StAt.frame (h : StAt w ρ s A M F) (hf : Fr No w w') : StAt w' ρ s A M F :=
  ⟨fun b hb => Nat.lt_of_lt_of_le (h.bound b hb) hf.size, fun p => (h.at_ p).frame hf (fun _ _ e => e) (fun _ _ e => e)⟩
theorem StAt.more (h : StAt w ρ s A M F) (hg : F ≤ F') : StAt w ρ s A M F' := ⟨h.bound, fun p => (h.at_ p).mono (fun _ e => e) hg⟩
/-- one part is turned -/
theorem StAt.upd (h : StAt w ρ s A M F) (t : Trn w w' ρ p T) (hp : p ≠ .imm) (hk : PartAt w' T (At ρ .imm) s A' M' F' p)
    (ho : ∀ q, q ≠ p → ∀ R, PartAt w' R (At ρ .imm) s A M F q → PartAt w' R (At ρ .imm) s A' M' F' q) : StAt w' (turn ρ p T) s A' M' F' := by
  have hi : At (turn ρ p T) .imm = At ρ .imm := t.at_ h (fun e => hp e.symm)
  refine ⟨bound_turn h.bound t.fr.size t.bd, fun q => ?_⟩
  rw [hi]
  by_cases hq : q = p
  · subst hq
    rw [at_turn_same]
    exact hk
  · rw [t.at_ h hq]
    exact ho q hq _ ((h.at_ q).frame t.fr (at_apart hq) (at_apart (fun e => hp e.symm)))
/-- blocks that are never written again are added -/
theorem StAt.addImm (h : StAt w ρ s A M F) (hf : Fr No w w') {J : Nat → Prop} (hJ : ∀ b, J b → w.heap.size ≤ b ∧ b < w'.heap.size) :
    StAt w' (turn ρ .imm (fun b => At ρ .imm b ∨ J b)) s A M F := by
  have gr : Grown w (At ρ .imm) (fun b => At ρ .imm b ∨ J b) := fun b hb => hb.imp id (fun e => (hJ b e).1)
  have hb : ∀ b, At ρ .imm b ∨ J b → b < w'.heap.size := fun b hb => hb.elim (fun e => Nat.lt_of_lt_of_le (h.bound b (by rw [show ρ b = _ from e]; simp)) hf.size) (fun e => (hJ b e).2)
  refine ⟨bound_turn h.bound hf.size hb, fun q => ?_⟩
  rw [at_turn_same]
  by_cases hq : q = .imm
  · subst hq; trivial
  · rw [at_turn_other hq gr h.bound]
    exact ((h.at_ q).frame hf (fun _ _ e => e) (fun _ _ e => e)).mono (fun _ e => .inl e) (Nat.le_refl _)
end
/-- what a store's function leaves -/
structure Gone (U : Nat → Prop) (w : World) (U' : Nat → Prop) (w' : World) : Prop where
  fr : Fr U w w'
  gr : Grown w U U'
theorem Gone.refl (U : Nat → Prop) (w : World) : Gone U w U w := ⟨Fr.refl _ _, Grown.refl _ _⟩
theorem Gone.no {U : Nat → Prop} {w w' : World} (h : Fr No w w') : Gone U w U w' := ⟨h.mono (fun _ _ e => e.elim), Grown.refl _ _⟩
theorem Gone.trans {U U' U'' : Nat → Prop} {a b c : World} (h : Gone U a U' b) (h' : Gone U' b U'' c) : Gone U a U'' c :=
  ⟨h.fr.trans h'.fr (fun k hk e => by rcases h.gr k e with h1 | h1; exact h1; omega), h.gr.trans h'.gr h.fr.size⟩
theorem Gone.nextNo {U U' : Nat → Prop} {a b c : World} (h : Gone U a U' b) (h' : Fr No b c) : Gone U a U' c := h.trans (Gone.no h')
/-- what lies elsewhere stays -/
theorem Gone.keep {U U' : Nat → Prop} {w w' : World} (h : Gone U w U' w') {b : Nat} {o : Obj} (hb : w.heap[b]? = some o) (hn : ¬ U b) : w'.heap[b]? = some o ∧ ¬ U' b :=
  ⟨h.fr.keep hb hn, fun e => by rcases h.gr b e with h1 | h1; exact hn h1; have := lt_of_block hb; omega⟩
theorem gone_turn {w w' : World} {ρ : Nat → Option Pt} {p : Pt} {T : Nat → Prop} (t : Trn w w' ρ p T) : Gone (Go.Lig.Own ρ) w (Go.Lig.Own (turn ρ p T)) w' :=
  ⟨t.fr.mono (fun b _ hb => at_own b hb), own_turn t.gr⟩
theorem gone_imm {w w' : World} {ρ : Nat → Option Pt} {J : Nat → Prop} (hf : Fr No w w') (hJ : ∀ b, J b → w.heap.size ≤ b ∧ b < w'.heap.size) : Gone (Go.Lig.Own ρ) w (Go.Lig.Own (turn ρ .imm (fun b => At ρ .imm b ∨ J b))) w' :=
  ⟨hf.mono (fun _ _ e => e.elim), own_turn (fun b hb => hb.imp id (fun e => (hJ b e).1))⟩
/-- the store at s is M; U its blocks -/
structure StS (U : Nat → Prop) (w : World) (s : Nat) (M : PSt) (F : Nat) : Prop where
  ex : ∃ ρ A, StAt w ρ s A M F ∧ Go.Lig.Own ρ = U
theorem StS.frame {U : Nat → Prop} {w w' : World} {s : Nat} {M : PSt} {F : Nat} (h : StS U w s M F) (hf : Fr No w w') : StS U w' s M F := by
  obtain ⟨ρ, A, h1, h2⟩ := h.ex
  exact ⟨ρ, A, h1.frame hf, h2⟩
theorem StS.more {U : Nat → Prop} {w : World} {s : Nat} {M : PSt} {F G : Nat} (h : StS U w s M F) (hg : F ≤ G) : StS U w s M G := by
  obtain ⟨ρ, A, h1, h2⟩ := h.ex
  exact ⟨ρ, A, h1.more hg, h2⟩
theorem StS.bound {U : Nat → Prop} {w : World} {s : Nat} {M : PSt} {F : Nat} (h : StS U w s M F) : ∀ b, U b → b < w.heap.size := by
  obtain ⟨ρ, A, h1, rfl⟩ := h.ex
  exact h1.bound
end Go.Proofs.YtibfpkfpmkghhaaGreatDoor
