/- A part of the proof: contracts of functions of the program, for the row's text. -/
import Derived.Test.YthadcdoepoglkaaGreatDoorJ49
import Derived.Test.YthadcdoepoglkaaGreatDoorJ14
import Derived.Test.YthadcdoepoglkaaGreatDoorJ51
import Derived.Test.YthadcdoepoglkaaGreatDoorJ52
import Derived.Test.YthadcdoepoglkaaGreatDoorJ11
import Derived.Test.YthadcdoepoglkaaGreatDoorJ03
import Derived.Maps.RangeRun
namespace Go.Proofs.YthadcdoepoglkaaGreatDoor
open Go.RowKit Go.Lig
def vEdsTo (v : VS) (t : Int) (i : Nat) : List Int := ((List.range i).filter fun (k : Nat) => (vEdge v t ((k : Int) + 1)).isSome).map fun (k : Nat) => (k : Int) + 1
theorem vEdsTo_succ (v : VS) (t : Int) (i : Nat) : vEdsTo v t (i + 1) = vEdsTo v t i ++ if (vEdge v t ((i : Int) + 1)).isSome then [(i : Int) + 1] else [] := by
 unfold vEdsTo
 rw [List.range_succ, List.filter_append, List.map_append]
 cases h : (vEdge v t ((i : Int) + 1)).isSome <;> simp [h]
set_option maxRecDepth 100000 in
set_option maxHeartbeats 2000000 in
theorem rsedges_any (w : World) (J : Nat → Prop) (ρ : Nat → Option Rp) (s : Nat) (A : RAd) (v : VS) (F : Nat) (h : RfAt w J ρ s A v F) (ho : Old w J) (t : Int) :
  Calls Tryz.prog 14 #[.pointer (some ⟨s, 0, none⟩), .int .i64 t] w fun e w' => ∃ x, e = .returned x ∧ OwnI w w' x (vEdsTo v t v.E.length) := by
 obtain ⟨a1, c1, hnv⟩ := ownsRow_slice (h.at_ .erow).1
 have x1 := h.cells.2.2.1
 rw [hnv] at x1
 have hn6 := h.elen
 have HH := hid (⟨h, ho⟩ : _ ∧ _)
 have HX := hid (fun u (hu : Fr No w u) => ((h.no hu).cells.2.2.1).trans (congrArg some hnv))
 clear h ho hnv x1
 go_enter Tryz.func14, Tryz.ntmps14
 go_wp2_with fail
 generalize hNe : v.E.length = n at *
 have HNe := hid hNe
 clear hNe
 go_loopw [5, 6] (fun v5 vi wr => ∃ (i : Nat) (a : Option Addr) (c m : Nat), i ≤ n ∧ m ≤ i ∧ v5 = .slice a m c ∧ vi = .int .i64 ((i : Int) + 1) ∧ Hid (m = (vEdsTo v t i).length ∧ OwnI w wr (.slice a m c) (vEdsTo v t i))) (fun _ vi _ => n + 1 - (intOf vi).toNat)
 case atStart => exact ⟨0, none, 0, 0, Nat.zero_le _, Nat.zero_le _, rfl, rfl, rfl, OwnI.nil w⟩
 case round =>
  obtain ⟨i, a, c, m, hi, hmi, rfl, rfl, HO⟩ := hrel
  have x1 := HX.out wr HO.out.2.fr
  by_cases hlt : i < n
  ·have HR := hid (show Calls Tryz.prog 38 #[.pointer (some ⟨s, 0, none⟩), .int .i64 t, .int .i64 ((i : Int) + 1)] wr fun e w' => ∃ (x y : Int) (z : ByteArray) (q : Nat), e = .returned (.tuple #[.agg #[.int .i64 x, .int .i64 y, .string z, .float .f64 q], .bool (vEdge v t ((i : Int) + 1)).isSome]) ∧ Fr No wr w' from (rsedge_any wr J ρ s A v F (HH.out.1.no HO.out.2.fr) t ((i : Int) + 1)).mono (by rintro e w' ⟨h1, h3⟩; exact ⟨_, _, _, _, h1, h3⟩))
   have hle : (i : Int) + 1 ≤ (n : Int) := by omega
   have hw2 : IntKind.i64.wrap ((i : Int) + 1 + 1) = (i : Int) + 1 + 1 := IntWalk.i64_in _ (by omega)
   cases hb : (vEdge v t ((i : Int) + 1)).isSome with
   | false =>
    rw [hb] at HR
    go_wp2_with (go_at_call 38; refine HR.out.mono ?_; rintro e w2 ⟨x, y, z, q, rfl, f2⟩; obtain ⟨W2, hW2⟩ : ∃ W2, w2.alloc (.cells #[.int .i64 x, .int .i64 y, .string z, .float .f64 q] 48) = W2 := ⟨_, rfl⟩; have F2 := hid (show Fr No wr W2 by rw [← hW2]; exact f2.alloc _); clear f2)
    go_roundw
    case rel => exact ⟨i + 1, a, c, m, by omega, by omega, rfl, by go_num, by rw [vEdsTo_succ, hb]; simpa using HO.out.1, by rw [vEdsTo_succ, hb]; simpa using HO.out.2.next F2.out⟩
    case measure => simp [intOf]; omega
   | true =>
    rw [hb] at HR
    go_wp2_with (first | (go_at_call 38; refine HR.out.mono ?_; rintro e w2 ⟨x, y, z, q, rfl, f2⟩; obtain ⟨W2, hW2⟩ : ∃ W2, w2.alloc (.cells #[.int .i64 x, .int .i64 y, .string z, .float .f64 q] 48) = W2 := ⟨_, rfl⟩; have F2 := hid (show Fr No wr W2 by rw [← hW2]; exact f2.alloc _); clear f2) | (refine wpList_buildSlice1 rfl 36 3 (.tmp 27) rfl _ 1 8 Tryz.underlying36 infoInt (by decide) (by decide) (.int .i64 ((i : Int) + 1)) rfl rfl ?_; intro w3 p3; have P3 := hid (show New [iv ((i : Int) + 1)].toArray 3 W2 w3 from p3); clear p3) | (refine wpList_app rfl (.tmp 26) (.tmp 28) 36 rfl 3 _ 1 8 Tryz.underlying36 infoInt rfl (by decide) (.slice a m c) m ((vEdsTo v t i).map iv) rfl (by have := (HO.out.2.next F2.out).row; rw [← HO.out.1] at this; exact fd_owns this P3.out.fr) (.slice (some ⟨W2.heap.size, 0, none⟩) 1 1) 1 [iv ((i : Int) + 1)] rfl (Rd.block P3.out.at_ 1 1 1 rfl (by simp [iv, Value.oneCell']) (Nat.le_refl _) (by simp [maxLen])) (by unfold maxLen; omega) (by omega) ?_; intro v4 w4 o4 f4 b4 _; obtain ⟨a4, c4, rfl⟩ := ownsRow_slice o4; have O4 := hid (OwnI.app (HO.out.2.next F2.out) P3.out (by rw [← HO.out.1]; exact o4) f4 b4); clear o4 f4 b4))
    go_roundw
    case rel => exact ⟨i + 1, a4, c4, m + 1, by omega, by omega, rfl, by go_num, by rw [vEdsTo_succ, hb, if_pos rfl, List.length_append, ← HO.out.1]; rfl, by rw [vEdsTo_succ, hb, if_pos rfl]; exact O4.out⟩
    case measure => simp [intOf]; omega
  ·obtain rfl : i = n := by omega
   have hle : ¬ (i : Int) + 1 ≤ (i : Int) := by omega
   go_wp2_with fail
   go_ret
   exact ⟨_, rfl, by rw [HNe.out]; exact HO.out.2⟩
end Go.Proofs.YthadcdoepoglkaaGreatDoor
namespace Go.Proofs.YthadcdoepoglkaaGreatDoor
open Go.RowKit Go.Lig
def nodeCost (d : NodeD) : Nat := 1 + d.L.length + d.Q.length
def costTo (ns : List NodeD) (i : Nat) : Nat := ((ns.take i).map nodeCost).sum
theorem costTo_succ {ns : List NodeD} {i : Nat} {d : NodeD} (h : ns[i]? = some d) : costTo ns (i + 1) = costTo ns i + nodeCost d := by
 unfold costTo
 rw [List.take_add_one, h, Option.toList_some, List.map_append, List.sum_append]
 simp
theorem leastW_sum (l : List WrD) : leastW l = (l.map (fun d => 1 + costW d)).sum := by
 unfold leastW leastTo
 rw [List.take_length]
 induction l with
 | nil => rfl
 | cons d l ih =>
  simp only [List.map_cons, List.sum_cons, List.length_cons]
  omega
theorem wrsN_sum {r : Nat → Option NodeD} {ns : List NodeD} : ∀ n, n ≤ ns.length → (∀ i d, i < n → ns[i]? = some d → r i = some d) → ((wrsN (fun i => (r i).isSome) r n).map (fun d => 1 + costW d)).sum = costTo ns n
 | 0, _, _ => rfl
 | n + 1, hn, h => by
  have hd := List.getElem?_eq_getElem (show n < ns.length by omega)
  have hr := h n _ (Nat.lt_succ_self n) hd
  have ih := wrsN_sum (r := r) (ns := ns) n (by omega) (fun i d hi => h i d (Nat.lt_succ_of_lt hi))
  have e : wrsN (fun i => (r i).isSome) r (n + 1) = wrsN (fun i => (r i).isSome) r n ++ (if (r n).isSome then [⟨false, (n : Int) + 1, (r n).isNone, (r n).getD NodeD.none, EdgeV.none⟩] else []) := rfl
  rw [costTo_succ hd, ← ih, e, List.map_append, List.sum_append, hr]
  simp [costW, nodeCost, Nat.add_assoc]
theorem wrsE_sum {r : Nat → Option EdgeV} : ∀ n, (∀ i, i < n → (r i).isSome = true) → (((wrsE (fun i => (r i).isSome) r n).map WrD.mark).map (fun d => 1 + costW d)).sum = 3 * n
 | 0, _ => rfl
 | n + 1, h => by
  have hr := h n (Nat.lt_succ_self n)
  have ih := wrsE_sum (r := r) n (fun i hi => h i (Nat.lt_succ_of_lt hi))
  have e : wrsE (fun i => (r i).isSome) r (n + 1) = wrsE (fun i => (r i).isSome) r n ++ (if (r n).isSome then [⟨false, (n : Int) + 1, (r n).isNone, NodeD.none, (r n).getD EdgeV.none⟩] else []) := rfl
  rw [e, List.map_append, List.map_append, List.sum_append, ih, hr]
  simp [costW, WrD.mark, NodeD.none]
  omega
def K2 : Ck := ⟨[⟨1, 0, 1⟩], 1⟩
theorem fr1_last {α : Type} (d : α) : lastP K2 (fr1 d) = some d := rfl
theorem com1 {p : PF} {ns : List NodeD} {es : List EdgeV} (h : p.1.vs = frV ns es) : (opCommit p 1).1 = 0 ∧ (opCommit p 1).2.1.vs = { frV ns es with K := K2 } := by
 have hK : p.1.K = K1 := congrArg VS.K h
 have hN : p.1.N = ns.map fr1 := congrArg VS.N h
 have hE : p.1.E = es.map fr1 := congrArg VS.E h
 unfold opCommit
 rw [hK, if_pos (show K1.live 1 = true from rfl)]
 refine ⟨rfl, ?_⟩
 show (⟨K1.commit 1, p.1.N, p.1.E⟩ : VS) = ⟨K2, ns.map fr1, es.map fr1⟩
 rw [hN, hE]
 rfl
theorem least_of {M : PSt} {ns : List NodeD} {es : List EdgeV} (h : M.vs = { frV ns es with K := K2 }) : leastW (imgM M) = costTo ns ns.length + 3 * es.length := by
 have hK : M.K = K2 := congrArg VS.K h
 have hN : M.N = ns.map fr1 := congrArg VS.N h
 have hE : M.E = es.map fr1 := congrArg VS.E h
 have lN : M.N.length = ns.length := by rw [hN, List.length_map]
 have lE : M.E.length = es.length := by rw [hE, List.length_map]
 rw [leastW_sum]
 unfold imgM imgN imgE
 rw [List.map_append, List.sum_append, lN, lE, wrsN_sum ns.length (Nat.le_refl _) (fun i d hi hd => by
  unfold lastN
  rw [hK, hN, List.getElem?_map, hd]
  exact fr1_last d), wrsE_sum es.length (fun i hi => by
  unfold lastE
  rw [hK, hE, List.getElem?_map, List.getElem?_eq_getElem hi]
  rfl)]
theorem eds_len (ns : List NodeD) (es : List EdgeV) : (vEdsTo (frV ns es) 1 (frV ns es).E.length).length = es.length := by
 have hl : (frV ns es).E.length = es.length := by simp [frV]
 rw [hl]
 unfold vEdsTo
 rw [List.length_map, List.filter_eq_self.2 (fun k hk => ?_), List.length_range]
 have hk := List.mem_range.1 hk
 have : vEdge (frV ns es) 1 ((k : Int) + 1) = (frV ns es).rdE 1 ((k : Int) + 1) := by
  unfold vEdge
  rw [if_pos (show (frV ns es).K.live 1 = true from rfl)]
 rw [this, frV_rdE (List.getElem?_eq_getElem hk)]
 rfl
theorem costTo_le {ns : List NodeD} (h : ∀ d ∈ ns, isNodeB d = true) (h7 : ns.length ≤ 7) (i : Nat) : costTo ns i ≤ 49 := by
 have key : ∀ l : List NodeD, (∀ d ∈ l, isNodeB d = true) → (l.map nodeCost).sum ≤ 7 * l.length := fun l => by
  induction l with
  | nil => intro _; exact Nat.le_refl _
  | cons d l ih =>
   intro hl
   have h1 := ih (fun q hq => hl q (List.mem_cons_of_mem _ hq))
   have h2 := node_small (hl d (List.mem_cons_self ..))
   have h3 : nodeCost d ≤ 7 := by unfold nodeCost; have := h2.1; have := h2.2; omega
   simp only [List.map_cons, List.sum_cons, List.length_cons]
   omega
 have h1 := key (ns.take i) (fun d hd => h d (List.mem_of_mem_take hd))
 have h2 := List.length_take_le i ns
 have h3 : (ns.take i).length ≤ ns.length := by rw [List.length_take]; omega
 unfold costTo
 omega
end Go.Proofs.YthadcdoepoglkaaGreatDoor
namespace Go.Proofs.YthadcdoepoglkaaGreatDoor
open Go.RowKit Go.Lig
structure Emp (w : World) (s : Nat) : Prop where
 ex : ∃ c o i m T B ρ B' ρ', w.heap[s]? = some (.cells #[.pointer (some ⟨c, 0, none⟩), .slice none 0 0, .slice none 0 0, .slice none 0 0, .pointer (some ⟨o, 0, none⟩), .pointer (some ⟨i, 0, none⟩), .map (some m), .slice none 0 0] 84 (0, 0))
  ∧ ClockAt w T c ⟨[], 0⟩ ∧ ChAt w o [] B ρ 0 ∧ ChAt w i [] B' ρ' 0 ∧ w.heap[m]? = some (.map #[] 0)
theorem Emp.frame {w w' : World} {s : Nat} (h : Emp w s) (hf : Fr No w w') : Emp w' s := by
 obtain ⟨c, o, i, m, T, B, ρ, B', ρ', h1, h2, h3, h4, h5⟩ := h.ex
 exact ⟨c, o, i, m, T, B, ρ, B', ρ', hf.keep h1 id, h2.frame hf (fun _ _ e => e), h3.frame hf (fun _ _ e => e), h4.frame hf (fun _ _ e => e), hf.keep h5 id⟩
theorem wpList_mrawA {P : Program} {ops : Array Oper} {rest : List Oper} {o : Oper} {a : Act} {w : World} {Q : Exit → Act → World → Prop} (hgd : o.guard = none) (t : TypeId) (ho : o.op = .makeMap t none)
  (hQ : wpList P ops Q rest (a.put o.dst (.map (some w.heap.size))) (w.alloc (.map #[] 0))) : wpList P ops Q (o :: rest) a w :=
 wpList_run hgd (v := .map (some w.heap.size)) (w' := w.alloc (.map #[] 0)) (by
  have hr : (Instr.makeMap t none).run P w = .ok (.map (some w.heap.size)) (w.alloc (.map #[] 0)) := rfl
  simp [execOp, ho, hr, Result.andThen]) hQ
theorem emp_new (w : World) : Calls Tryz.prog 33 #[] w fun e w' => ∃ s, e = .returned (.pointer (some ⟨s, 0, none⟩)) ∧ Emp w' s ∧ Fr No w w' := by
 go_enter Tryz.func33, Tryz.ntmps33
 go_wp2_with fail
 refine (clknew_any _).mono ?_
 rintro e w1 ⟨c, rfl, k1, f1, n1⟩
 have H1 := hid (⟨k1, f1⟩ : _ ∧ _)
 clear k1 f1 n1
 go_wp2_with fail
 refine (chnew_any _).mono ?_
 rintro e w2 ⟨o, B, ρ, rfl, k2, f2, n2⟩
 have H2 := hid (⟨k2, f2⟩ : _ ∧ _)
 clear k2 f2 n2
 go_wp2_with fail
 refine (chnew_any _).mono ?_
 rintro e w3 ⟨i, B', ρ', rfl, k3, f3, n3⟩
 have H3 := hid (⟨k3, f3⟩ : _ ∧ _)
 clear k3 f3 n3
 go_wp2_with (refine wpList_mrawA rfl 81 rfl ?_)
 go_ret
 have hfa : Fr No w3 (w3.alloc (.map #[] 0)) := (Fr.refl No w3).alloc _
 refine ⟨_, rfl, ⟨c, o, i, w3.heap.size, fun b => b = c, B, ρ, B', ρ', (heap2 w3 _ _).2, ?_, ?_, ?_, ?_⟩, ((H1.out.2.thenNo H2.out.2).thenNo H3.out.2).thenNo (hfa.alloc _)⟩
 ·exact H1.out.1.frame (((H2.out.2).thenNo H3.out.2).thenNo (hfa.alloc _)) (fun _ _ e => e)
 ·exact H2.out.1.frame ((H3.out.2).thenNo (hfa.alloc _)) (fun _ _ e => e)
 ·exact H3.out.1.frame (hfa.alloc _) (fun _ _ e => e)
 ·exact (heap2 w3 _ _).1
theorem edged_none (w : World) : Calls Tryz.prog 90 #[.slice none 0 0] w fun e w' => e = .returned (.slice none 0 0) ∧ w' = w := by
 go_enter Tryz.func90, Tryz.ntmps90
 go_wp2
 go_loopw [6] (fun vi wr => vi = .int .i64 0 ∧ wr = w) (fun _ _ => 0)
 case atStart => exact ⟨rfl, rfl⟩
 case round =>
  obtain ⟨rfl, rfl⟩ := hrel
  go_wp2
  go_ret
  exact ⟨rfl, rfl⟩
theorem writesN_none (w : World) (a b c : Value) : Calls Tryz.prog 84 #[.slice none 0 0, a, b, c] w fun e w' => e = .returned (.slice none 0 0) ∧ w' = w := by
 go_enter Tryz.func84, Tryz.ntmps84
 go_wp2
 go_loopw [9, 17] (fun v9 vi wr => v9 = .slice none 0 0 ∧ vi = .int .i64 0 ∧ wr = w) (fun _ _ _ => 0)
 case atStart => exact ⟨rfl, rfl, rfl⟩
 case round =>
  obtain ⟨rfl, rfl, rfl⟩ := hrel
  go_wp2
  go_ret
  exact ⟨rfl, rfl⟩
theorem writesE_none (w : World) (a b c : Value) : Calls Tryz.prog 87 #[.slice none 0 0, a, b, c] w fun e w' => e = .returned (.slice none 0 0) ∧ w' = w := by
 go_enter Tryz.func87, Tryz.ntmps87
 go_wp2
 go_loopw [9, 17] (fun v9 vi wr => v9 = .slice none 0 0 ∧ vi = .int .i64 0 ∧ wr = w) (fun _ _ _ => 0)
 case atStart => exact ⟨rfl, rfl, rfl⟩
 case round =>
  obtain ⟨rfl, rfl, rfl⟩ := hrel
  go_wp2
  go_ret
  exact ⟨rfl, rfl⟩
theorem image_nil (w : World) : Calls Tryz.prog 37 #[.pointer none] w fun e w' => e = .returned (.tuple #[.int .i64 0, .int .i64 0, .slice none 0 0]) ∧ Fr No w w' := by
 go_enter Tryz.func37, Tryz.ntmps37
 go_wp2
 go_ret3
 exact ⟨rfl, (Fr.refl No w).alloc _⟩
theorem append_none (P : Program) (t e ty : TypeId) (i : TypeInfo) (hu : P.underlying t = some (.slice e)) (hi : P.info? e = some i) (w : World) :
  (Builtin.append_ #[t, t] ty #[.slice none 0 0, .slice none 0 0]).run P w = .ok (.slice none 0 0) w := by
 simp [Builtin.append_, run_underlying hu, sizeOf, typeInfo, hi, Builtin.lenOf, Builtin.firstCells]
theorem infoWrA : ∃ i, Tryz.prog.info? 89 = some i := by
 have h : (Tryz.prog.info? 89).isSome = true := by kernel_rfl
 exact Option.isSome_iff_exists.1 h
set_option maxHeartbeats 1000000 in
theorem image_emp (w : World) (s : Nat) (h : Emp w s) : Calls Tryz.prog 37 #[.pointer (some ⟨s, 0, none⟩)] w fun e w' => e = .returned (.tuple #[.int .i64 0, .int .i64 0, .slice none 0 0]) ∧ Fr No w w' := by
 obtain ⟨c, o, i, m, T, B, ρ, B', ρ', h1, -⟩ := h.ex
 have hb := Go.Lig.cellOf h1
 have hx1 := hb 1
 have hx2 := hb 2
 have hlt := lt_of_block h1
 simp at hx1 hx2
 clear h hb h1
 go_enter Tryz.func37, Tryz.ntmps37
 go_wp2_with (first | (go_at_call 84; refine (writesN_none _ _ _ _).mono ?_; rintro e w' ⟨rfl, rfl⟩) | (go_at_call 87; refine (writesE_none _ _ _ _).mono ?_; rintro e w' ⟨rfl, rfl⟩))
 have q1 : (w.alloc (.cells #[.pointer (some ⟨s, 0, none⟩)] 25)).cell? ⟨s, 1, none⟩ = some (.slice none 0 0) := (World.cell?_of_block (hold hlt)).trans hx1
 have q2 : (w.alloc (.cells #[.pointer (some ⟨s, 0, none⟩)] 25)).cell? ⟨s, 2, none⟩ = some (.slice none 0 0) := (World.cell?_of_block (hold hlt)).trans hx2
 have q0 : (w.alloc (.cells #[.pointer (some ⟨s, 0, none⟩)] 25)).cell? ⟨w.heap.size, 0, none⟩ = some (.pointer (some ⟨s, 0, none⟩)) := cells1 (heap1 _ _)
 have HF : Hid (Fr No w (w.alloc (.cells #[.pointer (some ⟨s, 0, none⟩)] 25))) := hid ((Fr.refl No w).alloc _)
 generalize w.alloc (.cells #[.pointer (some ⟨s, 0, none⟩)] 25) = w1 at *
 generalize w.heap.size = nb at *
 clear hx1 hx2 hlt
 refine wp_region_sched (by kernel_rfl) 17 [12, 13] [0, 1, 2, 3, 4, 5, 6, 7, 8, 9, 10, 11, 12, 13, 14, 15, 16] (AgC [nb, s] w1.drew) (by kernel_rfl) (AgC.refl _ _) ?_
 simp only [List.map_cons, List.map_nil, List.contains_cons, List.contains_nil, nth_zero, nth_succ, Nat.reduceBEq, Bool.false_or, Bool.or_false, Bool.or_true, Bool.true_or]
 repeat (refine sched_quiet (fun K hK => ?_); go_simp; refine hK _ ?_; clear hK K)
 refine sched_call (by first | rfl | go_simp) 90 #[.slice none 0 0] (by first | kernel_rfl | go_simp) (edged_none _) ?_
 rintro e w2 ⟨rfl, rfl⟩
 refine ⟨_, rfl, AgC.refl _ _, ?_⟩
 obtain ⟨iw, hiw⟩ := infoWrA
 refine sched_loud ?_
 refine wpList_run rfl (v := .slice none 0 0) (w' := w1.drew) (by simp [go_sem, append_none Tryz.prog 85 89 _ iw Tryz.underlying85 hiw, Result.andThen]) ?_
 refine sched_on (AgC.refl _ _) ?_
 repeat (refine sched_quiet (fun K hK => ?_); go_simp; refine hK _ ?_; clear hK K)
 refine sched_nil ?_
 go_wp2_with fail
 go_ret3
 exact ⟨rfl, HF.out.drew⟩
end Go.Proofs.YthadcdoepoglkaaGreatDoor
namespace Go.Proofs.YthadcdoepoglkaaGreatDoor
open Go.RowKit Go.Lig
theorem len_any (w : World) (c : Nat) (I : List (Int × Int)) (B : Role → Nat) (ρ : Nat → Option Role) (m : Nat) (h : ChAt w c I B ρ m) :
  Calls Tryz.prog 46 #[.pointer (some ⟨c, 0, none⟩)] w fun e w' => e = .returned (.int .i64 (I.length : Int)) ∧ w = w' := by
 obtain ⟨c0, c1⟩ := cells2 h.croot
 clear h c0
 go_enter Tryz.func46, Tryz.ntmps46
 go_wp2
 go_ret
 exact ⟨rfl, rfl⟩
end Go.Proofs.YthadcdoepoglkaaGreatDoor
namespace Go.Proofs.YthadcdoepoglkaaGreatDoor
open Go.RowKit Go.Lig
theorem live_emp (w : World) (s : Nat) (h : Emp w s) : Calls Tryz.prog 18 #[.pointer (some ⟨s, 0, none⟩)] w fun e w' => e = .returned (.int .i64 0) ∧ Fr No w w' := by
 obtain ⟨c, o, i, m, T, B, ρ, B', ρ', h1, h2, -⟩ := h.ex
 obtain ⟨g, hr, -⟩ := h2.row
 have HC := hid (count_any w c g ⟨[], 0⟩ hr (by simp))
 have hx0 := Go.Lig.cellOf h1 0
 simp at hx0
 clear h h1 h2 hr
 go_enter Tryz.func18, Tryz.ntmps18
 go_wp2_with (go_at_call 45; refine HC.out.mono ?_; rintro e w1 ⟨rfl, f1⟩; have H1 := hid f1; clear f1)
 go_ret
 exact ⟨rfl, H1.out⟩
theorem run_range_made {P : Program} (w : World) (t k e : TypeId) (ht : P.underlying t = some (.map k e)) (m : Nat) (hm : w.heap[m]? = some (.map #[] 0)) :
  (Instr.range t (.map (some m))).run P w = .ok (.pointer (some ⟨w.heap.size, 0, none⟩)) (w.alloc (.mapIter (some m) 0 #[] 0)) := by
 simp [Instr.range, run_underlying ht, getObj, Sem.run, hm]
theorem run_next_none {P : Program} (w : World) (ty : TypeId) (r m : Nat) (hr : w.heap[r]? = some (.mapIter (some m) 0 #[] 0)) (hm : w.heap[m]? = some (.map #[] 0)) :
  (Instr.next (.pointer (some ⟨r, 0, none⟩)) false ty).run P w = .ok (.tuple #[.bool false]) w := by
 simp [Instr.next, getObj, Sem.run, hr, hm, choose, Question.forced]
theorem wpList_rangeNone {P : Program} {ops : Array Oper} {rest : List Oper} {o : Oper} {a : Act} {w : World} {Q : Exit → Act → World → Prop} (hgd : o.guard = none) (t k e : TypeId) (x : Operand) (ho : o.op = .range t x) (ht : P.underlying t = some (.map k e))
  (m : Nat) (hx : a.eval x = .map (some m)) (hm : w.heap[m]? = some (.map #[] 0)) (hQ : ∀ w' r, w'.heap[r]? = some (.mapIter (some m) 0 #[] 0) → w'.heap[m]? = some (.map #[] 0) → Fr No w w' → wpList P ops Q rest (a.put o.dst (.pointer (some ⟨r, 0, none⟩))) w') : wpList P ops Q (o :: rest) a w :=
 wpList_run hgd (by simp [execOp, ho, hx, run_range_made w t k e ht m hm, Result.andThen]) (hQ _ _ (heap1 w _) (hold' hm) ((Fr.refl No w).alloc _))
theorem wpList_nextNone {P : Program} {ops : Array Oper} {rest : List Oper} {o : Oper} {a : Act} {w : World} {Q : Exit → Act → World → Prop} (hgd : o.guard = none) (x : Operand) (ho : o.op = .next x false)
  (r m : Nat) (hx : a.eval x = .pointer (some ⟨r, 0, none⟩)) (hr : w.heap[r]? = some (.mapIter (some m) 0 #[] 0)) (hm : w.heap[m]? = some (.map #[] 0)) (hQ : wpList P ops Q rest (a.put o.dst (.tuple #[.bool false])) w) : wpList P ops Q (o :: rest) a w :=
 wpList_run hgd (by simp [execOp, ho, hx, run_next_none w o.type r m hr hm, Result.andThen]) hQ
set_option maxHeartbeats 1000000 in
theorem slots_emp (w : World) (s : Nat) (h : Emp w s) : Calls Tryz.prog 19 #[.pointer (some ⟨s, 0, none⟩)] w fun e w' => e = .returned (.int .i64 0) ∧ Fr No w w' := by
 obtain ⟨c, o, i, m, T, B, ρ, B', ρ', h1, h2, h3, h4, h5⟩ := h.ex
 have hb := Go.Lig.cellOf h1
 have hx1 := hb 1
 have hx2 := hb 2
 have hx4 := hb 4
 have hx5 := hb 5
 have hx6 := hb 6
 have H3 := hid (⟨h3, h4, h5⟩ : _ ∧ _ ∧ _)
 simp at hx1 hx2 hx4 hx5 hx6
 clear h hb h1 h2 h3 h4 h5
 go_enter Tryz.func19, Tryz.ntmps19
 go_wp2_with fail
 refine wp_region_sched (by kernel_rfl) 12 [4, 9] [0, 1, 2, 3, 5, 6, 7, 8, 4, 9, 10, 11] (AgC [s] w.drew) (by kernel_rfl) (AgC.refl _ _) ?_
 simp only [List.map_cons, List.map_nil, List.contains_cons, List.contains_nil, nth_zero, nth_succ, Nat.reduceBEq, Bool.false_or, Bool.or_false, Bool.or_true, Bool.true_or]
 repeat (refine sched_quiet (fun K hK => ?_); go_simp; refine hK _ ?_; clear hK K)
 refine sched_call (by first | rfl | go_simp) 46 #[.pointer (some ⟨o, 0, none⟩)] (by first | kernel_rfl | go_simp) (len_any _ _ _ _ _ _ (H3.out.1.frame (Fr.refl No w).drew (fun _ _ e => e))) ?_
 rintro e w2 ⟨rfl, rfl⟩
 refine ⟨_, rfl, AgC.refl _ _, ?_⟩
 refine sched_call (by first | rfl | go_simp) 46 #[.pointer (some ⟨i, 0, none⟩)] (by first | kernel_rfl | go_simp) (len_any _ _ _ _ _ _ (H3.out.2.1.frame (Fr.refl No w).drew (fun _ _ e => e))) ?_
 rintro e w2 ⟨rfl, rfl⟩
 refine ⟨_, rfl, AgC.refl _ _, ?_⟩
 repeat (refine sched_quiet (fun K hK => ?_); go_simp; refine hK _ ?_; clear hK K)
 refine sched_nil ?_
 go_wp2_with fail
 go_loopw [3, 28] (fun v3 vi wr => v3 = .int .i64 0 ∧ vi = .int .i64 0 ∧ wr = w.drew) (fun _ _ _ => 0)
 case atStart => exact ⟨rfl, rfl, rfl⟩
 case round =>
  obtain ⟨rfl, rfl, rfl⟩ := hrel
  go_wp2_with fail
  go_loopw [3, 42] (fun v3 vi wr => v3 = .int .i64 0 ∧ vi = .int .i64 0 ∧ wr = w.drew) (fun _ _ _ => 0)
  case atStart => exact ⟨rfl, rfl, rfl⟩
  case round =>
   obtain ⟨rfl, rfl, rfl⟩ := hrel
   go_wp2_with (first | (refine wpList_rangeNone rfl 81 _ _ (.tmp 54) rfl Tryz.underlying81 m rfl H3.out.2.2 ?_; intro w3 r k1 k2 f3; have H4 := hid (⟨k1, k2, f3⟩ : _ ∧ _ ∧ _); clear k1 k2 f3))
   simp only [Act.put, Option.bind, List.setIfInBounds_toArray, List.set_cons_zero, List.set_cons_succ]
   go_loopw [3] (fun v3 wr => v3 = .int .i64 0 ∧ wr = w3) (fun _ _ => 0)
   case atStart => exact ⟨rfl, rfl⟩
   case round =>
    obtain ⟨rfl, rfl⟩ := hrel
    have hfr : Hid (Fr No w wr) := hid ((Fr.refl No w).drew.thenNo H4.out.2.2)
    go_wp2_with (first | (refine wpList_nextNone rfl (.tmp 55) rfl r m rfl H4.out.1 H4.out.2.1 ?_))
    go_ret
    exact ⟨rfl, hfr.out⟩
set_option maxHeartbeats 1000000 in
theorem least_nil (w : World) : Calls Tryz.prog 13 #[.pointer none] w fun e w' => e = .returned (.int .i64 0) ∧ Fr No w w' := by
 go_enter Tryz.func13, Tryz.ntmps13
 go_wp2_with (go_at_call 37; refine (image_nil _).mono ?_; rintro e w1 ⟨rfl, f1⟩; have H1 := hid f1; clear f1)
 go_loopw [6, 19] (fun v6 vi wr => v6 = .int .i64 0 ∧ vi = .int .i64 0 ∧ wr = w1) (fun _ _ _ => 0)
 case atStart => exact ⟨rfl, rfl, rfl⟩
 case round =>
  obtain ⟨rfl, rfl, rfl⟩ := hrel
  go_wp2
  go_ret
  exact ⟨rfl, H1.out⟩
set_option maxHeartbeats 1000000 in
theorem least_emp (w : World) (s : Nat) (h : Emp w s) : Calls Tryz.prog 13 #[.pointer (some ⟨s, 0, none⟩)] w fun e w' => e = .returned (.int .i64 0) ∧ Fr No w w' := by
 have HI := hid (image_emp w s h)
 clear h
 go_enter Tryz.func13, Tryz.ntmps13
 go_wp2_with (go_at_call 37; refine HI.out.mono ?_; rintro e w1 ⟨rfl, f1⟩; have H1 := hid f1; clear f1)
 go_loopw [6, 19] (fun v6 vi wr => v6 = .int .i64 0 ∧ vi = .int .i64 0 ∧ wr = w1) (fun _ _ _ => 0)
 case atStart => exact ⟨rfl, rfl, rfl⟩
 case round =>
  obtain ⟨rfl, rfl, rfl⟩ := hrel
  go_wp2
  go_ret
  exact ⟨rfl, H1.out⟩
theorem clean_nil (w : World) : Calls Tryz.prog 25 #[.pointer none] w fun e w' => e = .returned (.bool false) ∧ Fr No w w' := by
 go_enter Tryz.func25, Tryz.ntmps25
 go_wp2
 go_ret
 exact ⟨rfl, Fr.refl _ _⟩
set_option maxHeartbeats 1000000 in
theorem clean_emp (w : World) (s : Nat) (h : Emp w s) : Calls Tryz.prog 25 #[.pointer (some ⟨s, 0, none⟩)] w fun e w' => e = .returned (.bool true) ∧ Fr No w w' := by
 have HE := hid h
 clear h
 go_enter Tryz.func25, Tryz.ntmps25
 go_wp2_with fail
 refine (live_emp _ s HE.out).mono ?_
 rintro e w1 ⟨rfl, f1⟩
 have H1 := hid f1
 clear f1
 go_wp2_with fail
 refine (slots_emp _ s (HE.out.frame H1.out)).mono ?_
 rintro e w2 ⟨rfl, f2⟩
 have H2 := hid (H1.out.thenNo f2)
 clear f2
 go_wp2_with fail
 refine (least_emp _ s (HE.out.frame H2.out)).mono ?_
 rintro e w3 ⟨rfl, f3⟩
 have H3 := hid (H2.out.thenNo f3)
 clear f3
 go_wp2
 go_ret
 exact ⟨rfl, H3.out⟩
end Go.Proofs.YthadcdoepoglkaaGreatDoor
namespace Go.Proofs.YthadcdoepoglkaaGreatDoor
open Go.RowKit Go.Lig
set_option maxHeartbeats 1000000 in
theorem known_any (w : World) : Calls Tryz.prog 15 #[] w fun e w' => e = .returned (.bool true) ∧ Fr No w w' := by
 go_enter Tryz.func15, Tryz.ntmps15
 go_wp2_with fail
 refine (emp_new _).mono ?_
 rintro e w1 ⟨s, rfl, h1, f1⟩
 have HE := hid h1
 have H1 := hid f1
 clear h1 f1
 go_wp2_with fail
 refine (least_emp _ s HE.out).mono ?_
 rintro e w2 ⟨rfl, f2⟩
 have H2 := hid f2
 clear f2
 go_wp2_with fail
 refine (clean_emp _ s (HE.out.frame H2.out)).mono ?_
 rintro e w3 ⟨rfl, f3⟩
 have H3 := hid ((H1.out.thenNo H2.out).thenNo f3)
 clear f3
 go_wp2_with fail
 refine (least_nil _).mono ?_
 rintro e w4 ⟨rfl, f4⟩
 have H4 := hid (H3.out.thenNo f4)
 clear f4
 go_wp2_with fail
 refine (clean_nil _).mono ?_
 rintro e w5 ⟨rfl, f5⟩
 have H5 := hid (H4.out.thenNo f5)
 clear f5
 go_wp2
 go_ret
 exact ⟨rfl, H5.out⟩
end Go.Proofs.YthadcdoepoglkaaGreatDoor
namespace Go.Proofs.YthadcdoepoglkaaGreatDoor
open Go.RowKit Go.Lig
set_option maxRecDepth 100000 in
set_option maxHeartbeats 4000000 in
theorem auditleast_any (w : World) (nv ev : Value) (ns : List NodeD) (es : List EdgeV) (hn : NodesAt w nv ns) (he : EdgesAt w ev es) :
  Calls Tryz.prog 3 #[nv, ev] w fun e w' => e = .returned (.bool true) ∧ Fr No w w' := by
 have HLg := hid (large16_any w nv ev ns es hn he)
 have HN := hid hn
 have HE := hid he
 obtain ⟨an, cn, rfl⟩ : ∃ an cn, nv = .slice an ns.length cn := by
  obtain ⟨R, -, h2, -⟩ := hn.ex
  obtain ⟨_, _, e1, -⟩ := rd_len h2
  exact ⟨_, _, e1⟩
 clear hn he
 go_enter Tryz.func3, Tryz.ntmps3
 go_wp2_with fail
 refine HLg.out.mono ?_
 rintro e w1 ⟨b, rfl, f1, hb⟩
 have F1 := hid f1
 clear f1 HLg
 cases b with
 | true =>
  clear hb
  go_wp2_with fail
  go_ret
  exact ⟨rfl, F1.out⟩
 | false =>
  obtain ⟨h7, h14, ha, hbe⟩ := hb rfl
  have HA := hid ha
  have HG := hid (graph16_any w1 (.slice an ns.length cn) ev ns es (HN.out.frame F1.out) (HE.out.frame F1.out) h7 h14 (fun d hd => by have := node_small (ha d hd); have h1 := this.1; have h2 := this.2; exact ⟨by omega, by omega⟩))
  have hvs := grE_vs h7 h14 ha hbe es.length (Nat.le_refl _)
  have HCT := hid (costTo_le ha h7)
  obtain ⟨fs, hfs⟩ : ∃ fs, okE ns.length es es.length = fs := ⟨_, rfl⟩
  have hfl : fs.length ≤ 14 := by rw [← hfs]; exact Nat.le_trans (okE_len _ _ _) h14
  rw [hfs] at hvs
  have hp2 : (grE ns es es.length).2 < 1000000 := by have := (grE_ok h7 h14 es.length (Nat.le_refl _)).rm.F; omega
  generalize grE ns es es.length = p at *
  rw [hvs] at HG
  obtain ⟨q1, q2⟩ := com1 hvs
  have HQ := hid (least_of q2)
  have HEL := hid (eds_len ns fs)
  have HP := hid (⟨hp2, q1⟩ : _ ∧ _)
  clear hb ha hbe h14 hfs hvs hp2 q1 q2
  obtain ⟨n, hne⟩ : ∃ n, ns.length = n := ⟨_, rfl⟩
  have HNe := hid hne
  rw [hne] at h7 HG HQ ⊢
  clear hne
  go_wp2_with (first | (go_at_call 11; refine HG.out.mono ?_; rintro e w2 ⟨s, x, rfl, h2⟩; have H2 := hid h2; clear h2; have HC : Hid (Calls Tryz.prog 12 #[.pointer (some ⟨s, 0, none⟩), .int .i64 1] w2 fun e w' => e = .returned (.int .i64 0) ∧ Both w1 w' (fun b => b < w1.heap.size) s x (opCommit p 1).2 (frV ns fs) 60) := hid (by obtain ⟨S, hS, -, hb⟩ := H2.out.st; exact (x_commit hS 1 HP.out.1).mono (by rintro e w' ⟨rfl, o⟩; exact ⟨by rw [HP.out.2], hb o⟩))) | (go_at_call 12; refine HC.out.mono ?_; rintro e w3 ⟨rfl, h3⟩; have H3 := hid h3; clear h3))
  go_loopw [8, 9] (fun vn vi wr => ∃ i : Nat, i ≤ n ∧ vn = .int .i64 (costTo ns i : Int) ∧ vi = .int .i64 (i : Int) ∧ Hid (Fr No w3 wr)) (fun _ vi _ => n - (intOf vi).toNat)
  case atStart => exact ⟨0, Nat.zero_le _, rfl, rfl, Fr.refl _ _⟩
  case round =>
   obtain ⟨i, hi, rfl, rfl, HF⟩ := hrel
   by_cases hlt : i < n
   ·obtain ⟨d, hd⟩ : ∃ d, ns[i]? = some d := ⟨ns[i]'(by have := HNe.out; omega), List.getElem?_eq_getElem _⟩
    obtain ⟨b0, o0, c0, ⟨⟨la, ln, lc⟩, ⟨pa, pn, pc⟩⟩, hva, hno, hlow, hcell⟩ := HN.out.at1 hd
    dsimp only at hno hcell
    rw [HNe.out] at hva
    obtain ⟨rfl, -, rfl⟩ := Value.slice.inj hva
    obtain ⟨k0, k1⟩ := hcell wr.drew ((F1.out.thenNo H3.out.fr).thenNo HF.out.drew)
    obtain ⟨k2, k3⟩ := hcell wr ((F1.out.thenNo H3.out.fr).thenNo HF.out)
    have HS := hid (costTo_succ hd)
    have hz1 := HCT.out i
    have hz2 := HCT.out (i + 1)
    obtain ⟨_, _, e1, -⟩ := rd_len hno.l
    obtain ⟨-, g1, -⟩ := Value.slice.inj e1
    obtain ⟨_, _, e2, -⟩ := rd_len hno.p
    obtain ⟨-, g2, -⟩ := Value.slice.inj e2
    rw [HS.out] at hz2
    unfold nodeCost at HS hz2
    rw [← g1, ← g2] at HS hz2
    clear hd hva hno hlow hcell e1 e2 g1 g2
    obtain ⟨z, hz⟩ : ∃ z, costTo ns i = z := ⟨_, rfl⟩
    rw [hz] at HS hz1 hz2 ⊢
    clear hz
    have hw1 : IntKind.i64.wrap ((z : Int) + 1) = (z : Int) + 1 := IntWalk.i64_in _ (by omega)
    have hw2 : IntKind.i64.wrap ((z : Int) + 1 + (ln : Int)) = (z : Int) + 1 + (ln : Int) := IntWalk.i64_in _ (by omega)
    have hw3 : IntKind.i64.wrap ((z : Int) + 1 + (ln : Int) + (pn : Int)) = (z : Int) + 1 + (ln : Int) + (pn : Int) := IntWalk.i64_in _ (by omega)
    go_wp2_with fail
    refine wp_region_sched (by kernel_rfl) 17 [] [0, 1, 2, 3, 4, 5, 6, 7, 8, 9, 10, 11, 12, 13, 14, 15, 16] (AgC [b0] wr.drew) (by kernel_rfl) (AgC.refl _ _) ?_
    simp only [List.map_cons, List.map_nil, List.contains_cons, List.contains_nil, nth_zero, nth_succ, Nat.reduceBEq, Bool.false_or, Bool.or_false, Bool.or_true, Bool.true_or]
    repeat (refine sched_quiet (fun K hK => ?_); go_simp; refine hK _ ?_; clear hK K)
    refine sched_nil ?_
    go_wp2_with fail
    go_roundw
    case rel => exact ⟨i + 1, by omega, by rw [HS.out]; push_cast; first | rfl | (congr 1; omega) | (congr 1; rw [hw1, hw2, hw3]; omega), by first | rfl | go_num, HF.out.drew⟩
    case measure => simp [intOf]; omega
   ·obtain rfl : i = n := by omega
    have HB := hid (H3.out.next HF.out)
    have HLe := hid (x_least HB.out.own)
    have hz1 := HCT.out i
    obtain ⟨z, hz⟩ : ∃ z, costTo ns i = z := ⟨_, rfl⟩
    rw [HQ.out, hz] at HLe
    rw [hz] at hz1 ⊢
    have HED : Hid (∀ u, Fr No wr u → Calls Tryz.prog 14 #[.pointer (some ⟨x, 0, none⟩), .int .i64 1] u fun e w' => ∃ a c, e = .returned (.slice a fs.length c) ∧ Fr No u w') := hid (fun u hu => by
     obtain ⟨ρ, A, hr, hor, -⟩ := (HB.out.next hu).rf
     exact (rsedges_any u _ ρ x A _ 60 hr hor 1).mono (by
      rintro e w' ⟨v, rfl, o⟩
      obtain ⟨a, c, rfl⟩ := ownsRow_slice o.row
      rw [HEL.out]
      exact ⟨a, c, rfl, o.fr⟩))
    have HKn := hid (fun u => known_any u)
    have hw1 : wrap64 (3 * (fs.length : Int)) = 3 * (fs.length : Int) := by unfold wrap64; omega
    have hw2 : wrap64 ((z : Int) + 3 * (fs.length : Int)) = (z : Int) + 3 * (fs.length : Int) := by unfold wrap64; omega
    have hq : (((z + 3 * fs.length : Nat) : Int) == (z : Int) + 3 * (fs.length : Int)) = true := by rw [beq_iff_eq]; push_cast; rfl
    clear hlt hz HF
    generalize fs.length = k at *
    go_wp2_with (first | (go_at_call 13; refine HLe.out.mono ?_; rintro e w4 ⟨rfl, f4⟩; have F4 := hid f4; clear f4) | (go_at_call 14; refine (HED.out _ F4.out).mono ?_; rintro e w5 ⟨a5, c5, rfl, f5⟩; have F5 := hid f5; clear f5) | (go_at_call 15; refine (HKn.out _).mono ?_; rintro e w6 ⟨rfl, f6⟩; have F6 := hid f6; clear f6))
    go_ret
    exact ⟨rfl, (((F1.out.thenNo HB.out.fr).thenNo F4.out).thenNo F5.out).thenNo F6.out⟩
end Go.Proofs.YthadcdoepoglkaaGreatDoor
