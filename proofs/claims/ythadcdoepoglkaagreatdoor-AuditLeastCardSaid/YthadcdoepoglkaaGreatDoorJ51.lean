/- A part of the proof: contracts of functions of the program, for the row's text. -/
import Derived.Test.YthadcdoepoglkaaGreatDoorJ43
import Derived.Test.YthadcdoepoglkaaGreatDoorJ50
import Derived.Test.YthadcdoepoglkaaGreatDoorJ31
import Derived.Test.YthadcdoepoglkaaGreatDoorJ26
import Derived.Test.YthadcdoepoglkaaGreatDoorJ45
import Derived.Test.YthadcdoepoglkaaGreatDoorJ02
namespace Go.Proofs.YthadcdoepoglkaaGreatDoor
open Go.RowKit Go.Lig
theorem risN_any (w : World) (la pa : Option Addr) (ln lc pn pc : Nat) (d : NodeD) (h : NodeOf w (.slice la ln lc) (.slice pa pn pc) d) (hl : NodeLow d) :
  Calls Tryz.prog 16 #[.agg #[.slice la ln lc, .slice pa pn pc]] w fun e w' => e = .returned (.bool (isNodeB d)) ∧ Fr No w w' := by
 obtain ⟨L, Q⟩ := d
 have h1 := h.l
 have h2 := h.p
 dsimp only at h1 h2
 obtain ⟨_, _, e1, -⟩ := rd_len h1
 obtain ⟨-, e2, -⟩ := Value.slice.inj e1
 subst e2
 obtain ⟨_, _, e3, -⟩ := rd_len h2
 obtain ⟨-, e4, -⟩ := Value.slice.inj e3
 subst e4
 have a1 := hl.l
 have a2 := hl.p
 unfold Go.reachBytes at a1 a2
 dsimp only at a1 a2
 exact rnode_any w la pa lc pc L Q h (by omega) (by omega) (fun s hs => by have := hl.ls s hs; unfold Go.reachBytes at this; omega) (fun q hq => by have := hl.ps q hq; unfold Go.reachBytes at this; omega)
theorem _root_.Go.Lig.NodeOf.inOld {w u : World} {la pa : Option Addr} {ln lc pn pc : Nat} {d : NodeD} (h : NodeOf w (.slice la ln lc) (.slice pa pn pc) d) (hf : Fr No w u) (hl : d.L.length ≤ 1000000 ∧ d.Q.length ≤ 1000000) : NodeIn u (fun b => b < w.heap.size) (.slice la ln lc) (.slice pa pn pc) d :=
 ⟨⟨h.l.frame hf (fun _ _ e => e), fun ne k hk => rd_block h.l hk ne⟩, ⟨h.p.frame hf (fun _ _ e => e), fun ne k hk => rd_block h.p hk ne⟩, h.ok, h.ls, hl⟩
theorem _root_.Go.Lig.NodeOf.arg {w u : World} {S : Nat → Prop} {la pa : Option Addr} {ln lc pn pc : Nat} {d : NodeD} (h : NodeOf w (.slice la ln lc) (.slice pa pn pc) d) (hf : Fr No w u) (hl : d.L.length ≤ 1000000 ∧ d.Q.length ≤ 1000000) (hS : ∀ b, S b → w.heap.size ≤ b) : ArgN S u u u la ln lc pa pn pc d := by
 have hq : d.Q ≠ [] → d.Q.flatMap pcell ≠ [] := fun ne e => by
  cases hd : d.Q with
  | nil => exact ne hd
  | cons q l => rw [hd] at e; cases e
 refine ⟨h.frame hf, hl, fun k hk ne => .inl ?_, fun k hk ne => .inl ?_⟩
 ·have := rd_block h.l hk (by simpa using ne)
  exact ⟨Nat.lt_of_lt_of_le this hf.size, fun e => by have := hS k e; omega⟩
 ·have := rd_block h.p hk (hq ne)
  exact ⟨Nat.lt_of_lt_of_le this hf.size, fun e => by have := hS k e; omega⟩
theorem Both.make {w0 w1 w2 w3 : World} {J : Nat → Prop} {s x : Nat} {v : VS} {F : Nat} {ρ : Nat → Option Rp} {v' : VS} {F' : Nat} {p : PF} (f1 : Fr No w0 w1) (hge : ∀ b, Go.Lig.Own ρ b → w0.heap.size ≤ b) (t : RTurns w1 J ρ x v F w2) (hs : OwS w2 w3 s p) (hj : Old w0 J) (e : v = v') (hF : F ≤ F') : Both w0 w3 J s x p v' F' := by
 subst e
 obtain ⟨ρ2, A2, k1, kg⟩ := t
 obtain ⟨⟨ρs, As, s1, s2⟩, sf⟩ := hs
 have f2 : Fr No w0 w2 := f1.trans kg.fr (fun k hk e => by have := hge k e; omega)
 have n2 : ∀ b, Go.Lig.Own ρs b → w2.heap.size ≤ b := fun b hb => (s2 b hb).elim (fun e => e.elim) id
 refine ⟨⟨ρs, As, ρ2, A2, s1, (k1.no sf).more hF, fun b hb => Nat.le_trans f2.size (n2 b hb), fun b hb => ?_, fun b hb e => ?_⟩, f2.thenNo sf, hj⟩
 ·rcases kg.gr b hb with q | q
  ·exact hge b q
  ·exact Nat.le_trans f1.size q
 ·have := n2 b hb
  have := k1.bound b e
  omega
theorem sb_any {w w3 : World} {J : Nat → Prop} {s x : Nat} (h : Both w w3 J s x (emptyM, 0) (vBegin emptyV).2 1) : Calls Tryz.prog 20 #[.pointer (some ⟨s, 0, none⟩)] w3 fun e w' => e = .returned (.tuple #[.int .i64 1, .int .i64 0]) ∧ Both w w' J s x gr0 gr0.1.vs 1 := by
 obtain ⟨S, hS, -, hb⟩ := h.st
 exact (x_begin hS (by decide)).mono (by rintro e w' ⟨rfl, o⟩; exact ⟨rfl, hb o⟩)
theorem gn_turn (w : World) (ns : List NodeD) (s x i F : Nat) {wr : World} (hB : Both w wr (fun b => b < w.heap.size) s x (grN ns i) (grN ns i).1.vs F) {d : NodeD} (hd : ns[i]? = some d) (la : Option Addr) (ln lc : Nat) (pa : Option Addr) (pn pc : Nat) (hno : NodeOf w (.slice la ln lc) (.slice pa pn pc) d) (hlow : NodeLow d) (hfw : d.L.length ≤ 1000000 ∧ d.Q.length ≤ 1000000) (hF : F < 1000) {a b c : Nat} (hg : GOk (grN ns i) a b c) (ha : a ≤ 100 ∧ c ≤ 900000) :
  ∃ ra rc : Int, Calls Tryz.prog 34 #[.pointer (some ⟨x, 0, none⟩), .int .i64 1, .agg #[.slice la ln lc, .slice pa pn pc]] wr (fun e w' => e = .returned (.tuple #[.int .i64 ra, .int .i64 rc]) ∧ Both w w' (fun b => b < w.heap.size) s x (grN ns i) (grN ns (i + 1)).1.vs (F + 1)) ∧
   ∀ u, Both w u (fun b => b < w.heap.size) s x (grN ns i) (grN ns (i + 1)).1.vs (F + 1) → Calls Tryz.prog 22 #[.pointer (some ⟨s, 0, none⟩), .int .i64 1, .agg #[.slice la ln lc, .slice pa pn pc]] u fun e w' => e = .returned (.tuple #[.int .i64 ra, .int .i64 rc]) ∧ Both w w' (fun b => b < w.heap.size) s x (grN ns (i + 1)) (grN ns (i + 1)).1.vs (F + 1) := by
 obtain ⟨q1, q2⟩ := sim_addnode (grN ns i) 1 (isNodeB d) d
 have hs := grN_succ hd
 unfold grN1 at hs
 refine ⟨(opAddNode (grN ns i) 1 (isNodeB d) d).1.1, (opAddNode (grN ns i) 1 (isNodeB d) d).1.2, ?_, fun u hu => ?_⟩
 ·obtain ⟨ρ, A, hr, hor, hb⟩ := hB.rf
  rw [hs, q1, q2]
  exact (rsaddnode_any wr _ ρ x A _ F hr hor 1 la ln lc pa pn pc d (hno.inOld hB.fr hfw) (isNodeB d) (by omega) (fun u hu => risN_any u la pa ln lc pn pc d (hno.frame (hB.fr.thenNo hu)) hlow)).mono (by rintro e w' ⟨rfl, t⟩; exact ⟨rfl, hb t⟩)
 ·obtain ⟨S, hS, hge, hb⟩ := hu.st
  have hrm := (hg.opAddNode (by omega) (by omega) 1 (bb := isNodeB d) (d := d) node_small).1
  have hp2 : (grN ns i).2 < 1000000 := by have := hg.rm.F; omega
  rw [hs] at hb ⊢
  exact (x_addnode 1 hS (Fr.refl _ _) (hno.arg hu.fr hfw hge) (fun u2 hu2 => isnode_any u2 la pa ln lc pn pc d (hno.frame (hu.fr.thenNo hu2)) hfw.1 hfw.2) hp2 hrm).mono (by rintro e w' ⟨rfl, o⟩; exact ⟨rfl, hb o⟩)
theorem ge_turn (w : World) (ns : List NodeD) (es : List EdgeV) (s x i F : Nat) {wr : World} (hB : Both w wr (fun b => b < w.heap.size) s x (grE ns es i) (grE ns es i).1.vs F) {ef et : Int} {ey : ByteArray} {ew : Nat} (hd : es[i]? = some ⟨ef, et, ey, ew⟩) (hlow : EdgeLow ⟨ef, et, ey, ew⟩) (hF : F < 1000) {a b c : Nat} (hg : GOk (grE ns es i) a b c) (ha : a ≤ 100 ∧ c ≤ 900000) :
  ∃ ra rc : Int, Calls Tryz.prog 35 #[.pointer (some ⟨x, 0, none⟩), .int .i64 1, .agg #[.int .i64 ef, .int .i64 et, .string ey, .float .f64 ew]] wr (fun e w' => e = .returned (.tuple #[.int .i64 ra, .int .i64 rc]) ∧ Both w w' (fun b => b < w.heap.size) s x (grE ns es i) (grE ns es (i + 1)).1.vs (F + 3)) ∧
   ∀ u, Both w u (fun b => b < w.heap.size) s x (grE ns es i) (grE ns es (i + 1)).1.vs (F + 3) → Calls Tryz.prog 23 #[.pointer (some ⟨s, 0, none⟩), .int .i64 1, .agg #[.int .i64 ef, .int .i64 et, .string ey, .float .f64 ew]] u fun e w' => e = .returned (.tuple #[.int .i64 ra, .int .i64 rc]) ∧ Both w w' (fun b => b < w.heap.size) s x (grE ns es (i + 1)) (grE ns es (i + 1)).1.vs (F + 3) := by
 obtain ⟨q1, q2⟩ := sim_addedge (grE ns es i) 1 (isEdgeB ⟨ef, et, ey, ew⟩) ⟨ef, et, ey, ew⟩
 have hs := grE_succ (ns := ns) hd
 have hz := hlow.type
 unfold Go.reachBytes at hz
 dsimp only at hz
 unfold grE1 at hs
 refine ⟨(opAddEdge (grE ns es i) 1 (isEdgeB ⟨ef, et, ey, ew⟩) ⟨ef, et, ey, ew⟩).1.1, (opAddEdge (grE ns es i) 1 (isEdgeB ⟨ef, et, ey, ew⟩) ⟨ef, et, ey, ew⟩).1.2, ?_, fun u hu => ?_⟩
 ·obtain ⟨ρ, A, hr, hor, hb⟩ := hB.rf
  rw [hs, q1, q2]
  exact (rsaddedge_any wr _ ρ x A _ F hr hor hg.vj.toVOk 1 ef et ey ew (isEdgeB ⟨ef, et, ey, ew⟩) (by omega) (fun u hu => risedge_any u ⟨ef, et, ey, ew⟩ (by show ey.size ≤ _; omega))).mono (by rintro e w' ⟨rfl, t⟩; exact ⟨rfl, hb t⟩)
 ·obtain ⟨S, hS, hge, hb⟩ := hu.st
  have hrm := (hg.opAddEdge (by omega) (by omega) 1 (bb := isEdgeB ⟨ef, et, ey, ew⟩) (v := ⟨ef, et, ey, ew⟩)).1
  rw [hs] at hb ⊢
  exact (x_addedge hS 1 ⟨ef, et, ey, ew⟩ (fun u2 hu2 => isedge_any u2 ⟨ef, et, ey, ew⟩ (by show ey.size ≤ maxLen; unfold maxLen; omega)) hrm).mono (by rintro e w' ⟨rfl, o⟩; exact ⟨rfl, hb o⟩)
set_option maxRecDepth 100000 in
set_option maxHeartbeats 8000000 in
theorem graph16_any (w : World) (nv ev : Value) (ns : List NodeD) (es : List EdgeV) (hn : NodesAt w nv ns) (he : EdgesAt w ev es) (h7 : ns.length ≤ 7) (h14 : es.length ≤ 14) (hfew : ∀ d ∈ ns, d.L.length ≤ 1000000 ∧ d.Q.length ≤ 1000000) :
  Calls Tryz.prog 11 #[nv, ev] w fun e w' => ∃ s x, e = .returned (.tuple #[.pointer (some ⟨s, 0, none⟩), .pointer (some ⟨x, 0, none⟩), .int .i64 1]) ∧ Both w w' (fun b => b < w.heap.size) s x (grE ns es es.length) (grE ns es es.length).1.vs 60 := by
 obtain ⟨an, cn, rfl⟩ : ∃ an cn, nv = .slice an ns.length cn := by
  obtain ⟨R, -, h2, -⟩ := hn.ex
  obtain ⟨_, _, e1, -⟩ := rd_len h2
  exact ⟨_, _, e1⟩
 obtain ⟨ae, ce, rfl⟩ : ∃ ae ce, ev = .slice ae es.length ce := by
  obtain ⟨_, _, e1, -⟩ := rd_len he.row
  exact ⟨_, _, e1⟩
 have HJ := hid (show Old w (fun b => b < w.heap.size) from fun b hb => hb)
 have HRN := hid (rsnew_any w _ HJ.out)
 have HN := hid hn
 have HE := hid he
 have HFW := hid hfew
 have HGN := hid (fun i hi => grN_ok h7 i hi)
 have HGE := hid (fun i hi => grE_ok h7 h14 i hi)
 obtain ⟨n, hne⟩ : ∃ n, ns.length = n := ⟨_, rfl⟩
 obtain ⟨m, hme⟩ : ∃ m, es.length = m := ⟨_, rfl⟩
 have HNe := hid (⟨hne, hme⟩ : _ ∧ _)
 rw [hme] at HGE
 rw [hne] at h7 HGN ⊢
 rw [hme] at h14 ⊢
 clear hn he hfew hne hme
 go_enter Tryz.func11, Tryz.ntmps11
 go_wp2_with (first | (go_at_call 31; refine HRN.out.mono ?_; rintro e w1 ⟨x, ρ, A, rfl, hr, f1, hge⟩; have H1 := hid (⟨hr, f1, hge⟩ : _ ∧ _ ∧ _); clear hr f1 hge; have HRB := hid (rsbegin_any w1 _ ρ x A emptyV 0 H1.out.1 (HJ.out.next H1.out.2.1) (by omega))) | (go_at_call 32; refine HRB.out.mono ?_; rintro e w2 ⟨rfl, t2⟩; have H2 := hid t2; clear t2; have HSN := hid (x_new w2)) | (go_at_call 33; refine HSN.out.mono ?_; rintro e w3 ⟨s, rfl, o3⟩; have H3 := hid (Both.make (v' := (vBegin emptyV).2) (F' := 1) H1.out.2.1 H1.out.2.2 (F := 1) H2.out o3 HJ.out rfl (by omega)); have HSB := hid (sb_any H3.out); clear o3) | (go_at_call 20; refine HSB.out.mono ?_; rintro e w4 ⟨rfl, b4⟩; have H4 := hid b4; clear b4))
 go_loopw [11] (fun vi wr => ∃ i : Nat, i ≤ n ∧ vi = .int .i64 (i : Int) ∧ Hid (Both w wr (fun b => b < w.heap.size) s x (grN ns i) (grN ns i).1.vs (1 + i))) (fun vi _ => n - (intOf vi).toNat)
 case atStart => exact ⟨0, Nat.zero_le _, rfl, H4.out⟩
 case round =>
  obtain ⟨i, hi, rfl, HB⟩ := hrel
  by_cases hlt : i < n
  ·obtain ⟨d, hd⟩ : ∃ d, ns[i]? = some d := ⟨ns[i]'(by have := HNe.out.1; omega), List.getElem?_eq_getElem _⟩
   obtain ⟨b0, o0, c0, ⟨⟨la, ln, lc⟩, ⟨pa, pn, pc⟩⟩, hva, hno, hlow, hcell⟩ := HN.out.at1 hd
   dsimp only at hno hcell
   obtain ⟨rfl, -, rfl⟩ := Value.slice.inj hva
   obtain ⟨k0, k1⟩ := hcell wr HB.out.fr
   have HC := hid hcell
   obtain ⟨ra, rc, HRA, HSA⟩ := gn_turn w ns s x i (1 + i) HB.out hd la ln lc pa pn pc hno hlow (HFW.out d (List.mem_of_getElem? hd)) (by omega) (HGN.out i (by omega)) (by omega)
   have HRA := hid HRA
   have HSA := hid HSA
   clear hd hva hno hlow hcell
   have hrr : ((rc : Int) == rc) = true := beq_self_eq_true rc
   go_wp2_with (first | (go_at_call 34; refine HRA.out.mono ?_; rintro e w5 ⟨rfl, b5⟩; have H5 := hid b5; obtain ⟨k2, k3⟩ := HC.out w5 H5.out.fr; clear b5 k0 k1) | (go_at_call 22; refine (HSA.out _ H5.out).mono ?_; rintro e w6 ⟨rfl, b6⟩; have H6 := hid b6; clear b6 k2 k3))
   go_roundw
   case rel => exact ⟨i + 1, by omega, by first | rfl | go_num, by have := H6.out; rwa [Nat.add_assoc] at this⟩
   case measure => simp [intOf]; omega
  ·obtain rfl : i = n := by omega
   have HB0 := hid (show Both w wr (fun b => b < w.heap.size) s x (grE ns es 0) (grE ns es 0).1.vs 8 by have := HB.out.more (F' := 8) (by omega); rw [← HNe.out.1] at this; exact this)
   clear HB hlt
   go_wp2_with fail
   go_loopw [16] (fun vi w7 => ∃ k : Nat, k ≤ m ∧ vi = .int .i64 (k : Int) ∧ Hid (Both w w7 (fun b => b < w.heap.size) s x (grE ns es k) (grE ns es k).1.vs (8 + 3 * k))) (fun vi _ => m - (intOf vi).toNat)
   case atStart => exact ⟨0, Nat.zero_le _, rfl, HB0.out⟩
   case round =>
    obtain ⟨k, hk, rfl, HK⟩ := hrel
    by_cases hkm : k < m
    ·obtain ⟨⟨ef, et, ey, ew⟩, hd⟩ : ∃ d, es[k]? = some d := ⟨es[k]'(by have := HNe.out.2; omega), List.getElem?_eq_getElem _⟩
     obtain ⟨b0, o0, c0, hva, hcell⟩ := HE.out.at1 hd
     dsimp only at hcell
     obtain ⟨rfl, -, rfl⟩ := Value.slice.inj hva
     obtain ⟨k0, k1, k2, k3⟩ := hcell _ HK.out.fr
     have HC := hid hcell
     obtain ⟨ra, rc, HRA, HSA⟩ := ge_turn w ns es s x k (8 + 3 * k) HK.out hd (HE.out.all _ (List.mem_of_getElem? hd)) (by omega) (HGE.out k (by omega)) (by omega)
     have HRA := hid HRA
     have HSA := hid HSA
     clear hd hva hcell
     have hrr : ((rc : Int) == rc) = true := beq_self_eq_true rc
     go_wp2_with (first | (go_at_call 35; refine HRA.out.mono ?_; rintro e w5 ⟨rfl, b5⟩; have H5 := hid b5; obtain ⟨g0, g1, g2, g3⟩ := HC.out w5 H5.out.fr; clear b5 k0 k1 k2 k3) | (go_at_call 23; refine (HSA.out _ H5.out).mono ?_; rintro e w6 ⟨rfl, b6⟩; have H6 := hid b6; clear b6 g0 g1 g2 g3))
     go_roundw
     case rel => exact ⟨k + 1, by omega, by first | rfl | go_num, by have := H6.out; rwa [show 8 + 3 * k + 3 = 8 + 3 * (k + 1) by omega] at this⟩
     case measure => simp [intOf]; omega
    ·obtain rfl : k = m := by omega
     go_wp2_with fail
     refine bodyPost_ret (v := .tuple #[.pointer (some ⟨s, 0, none⟩), .pointer (some ⟨x, 0, none⟩), .int .i64 1]) ?_ rfl ⟨s, x, rfl, HK.out.more (by omega)⟩
     simp [results, Tryz.f11, go_sem]
end Go.Proofs.YthadcdoepoglkaaGreatDoor
namespace Go.Proofs.YthadcdoepoglkaaGreatDoor
open Go.RowKit Go.Lig
set_option maxRecDepth 100000 in
set_option maxHeartbeats 8000000 in
theorem large16_any (w : World) (nv ev : Value) (ns : List NodeD) (es : List EdgeV) (hn : NodesAt w nv ns) (he : EdgesAt w ev es) :
  Calls Tryz.prog 10 #[nv, ev] w fun e w' => ∃ b, e = .returned (.bool b) ∧ Fr No w w' ∧ (b = false → ns.length ≤ 7 ∧ es.length ≤ 14 ∧ (∀ d ∈ ns, isNodeB d = true) ∧ ∀ e ∈ es, isEdgeB e = true) := by
 obtain ⟨an, cn, rfl⟩ : ∃ an cn, nv = .slice an ns.length cn := by
  obtain ⟨R, -, h2, -⟩ := hn.ex
  obtain ⟨_, _, e1, -⟩ := rd_len h2
  exact ⟨_, _, e1⟩
 obtain ⟨ae, ce, rfl⟩ : ∃ ae ce, ev = .slice ae es.length ce := by
  obtain ⟨_, _, e1, -⟩ := rd_len he.row
  exact ⟨_, _, e1⟩
 have HN := hid hn
 have HE := hid he
 obtain ⟨n, hne⟩ : ∃ n, ns.length = n := ⟨_, rfl⟩
 obtain ⟨m, hme⟩ : ∃ m, es.length = m := ⟨_, rfl⟩
 have HNe := hid (⟨hne, hme⟩ : _ ∧ _)
 rw [hne, hme]
 clear hn he hne hme
 by_cases h7 : n ≤ 7
 ·have h7' : ¬ (7 : Int) < (n : Int) := by omega
  by_cases h14 : m ≤ 14
  ·have h14' : ¬ (14 : Int) < (m : Int) := by omega
   go_enter Tryz.func10, Tryz.ntmps10
   go_wp2_with fail
   go_loopw [5] (fun vi wr => ∃ i : Nat, i ≤ n ∧ vi = .int .i64 (i : Int) ∧ Hid (Fr No w wr ∧ ∀ k d, k < i → ns[k]? = some d → isNodeB d = true)) (fun vi _ => n - (intOf vi).toNat)
   case atStart => exact ⟨0, Nat.zero_le _, rfl, Fr.refl _ _, fun k d hk => absurd hk (Nat.not_lt_zero _)⟩
   case round =>
    obtain ⟨i, hi, rfl, HF⟩ := hrel
    by_cases hlt : i < n
    ·obtain ⟨d, hd⟩ : ∃ d, ns[i]? = some d := ⟨ns[i]'(by have := HNe.out.1; omega), List.getElem?_eq_getElem _⟩
     obtain ⟨b0, o0, c0, ⟨⟨la, ln, lc⟩, ⟨pa, pn, pc⟩⟩, hva, hno, hlow, hcell⟩ := HN.out.at1 hd
     dsimp only at hno hcell
     obtain ⟨rfl, -, rfl⟩ := Value.slice.inj hva
     obtain ⟨k0, k1⟩ := hcell wr HF.out.1
     have HI := hid (risN_any wr la pa ln lc pn pc d (hno.frame HF.out.1) hlow)
     have HD := hid hd
     clear hd hva hno hlow hcell
     cases hb : isNodeB d with
     | false =>
      rw [hb] at HI
      clear hb
      go_wp2_with (go_at_call 16; refine HI.out.mono ?_; rintro e w2 ⟨rfl, f2⟩; have F2 := hid f2; clear f2)
      go_ret
      exact ⟨true, rfl, HF.out.1.thenNo F2.out, fun e => by cases e⟩
     | true =>
      rw [hb] at HI
      have HB := hid hb
      clear hb
      go_wp2_with (go_at_call 16; refine HI.out.mono ?_; rintro e w2 ⟨rfl, f2⟩; have F2 := hid f2; clear f2)
      go_roundw
      case rel => exact ⟨i + 1, by omega, by first | rfl | go_num, HF.out.1.thenNo F2.out, fun k q hk hq => by
       rcases Nat.lt_succ_iff_lt_or_eq.1 hk with h | rfl
       ·exact HF.out.2 k q h hq
       ·obtain rfl : _ = q := Option.some.inj (HD.out.symm.trans hq)
        exact HB.out⟩
      case measure => simp [intOf]; omega
    ·obtain rfl : i = n := by omega
     clear hlt
     have HF1 := hid HF.out
     clear HF
     go_wp2_with fail
     go_loopw [6] (fun vi w3 => ∃ k : Nat, k ≤ m ∧ vi = .int .i64 (k : Int) ∧ Hid (Fr No w w3 ∧ ∀ j d, j < k → es[j]? = some d → isEdgeB d = true)) (fun vi _ => m - (intOf vi).toNat)
     case atStart => exact ⟨0, Nat.zero_le _, rfl, HF1.out.1, fun k d hk => absurd hk (Nat.not_lt_zero _)⟩
     case round =>
      obtain ⟨k, hk, rfl, HG⟩ := hrel
      by_cases hkm : k < m
      ·obtain ⟨⟨ef, et, ey, ew⟩, hd⟩ : ∃ d, es[k]? = some d := ⟨es[k]'(by have := HNe.out.2; omega), List.getElem?_eq_getElem _⟩
       obtain ⟨b0, o0, c0, hva, hcell⟩ := HE.out.at1 hd
       dsimp only at hcell
       obtain ⟨rfl, -, rfl⟩ := Value.slice.inj hva
       obtain ⟨k0, k1, k2, k3⟩ := hcell _ HG.out.1
       have HI := hid (fun u => risedge_any u ⟨ef, et, ey, ew⟩ (by have := (HE.out.all _ (List.mem_of_getElem? hd)).type; unfold Go.reachBytes at this; dsimp only at this ⊢; omega))
       have HD := hid hd
       clear hd hva hcell
       cases hb : isEdgeB ⟨ef, et, ey, ew⟩ with
       | false =>
        rw [hb] at HI
        clear hb
        go_wp2_with (go_at_call 30; refine (HI.out _).mono ?_; rintro e w2 ⟨rfl, f2⟩; have F2 := hid f2; clear f2)
        go_ret
        exact ⟨true, rfl, HG.out.1.thenNo F2.out, fun e => by cases e⟩
       | true =>
        rw [hb] at HI
        have HB := hid hb
        clear hb
        go_wp2_with (go_at_call 30; refine (HI.out _).mono ?_; rintro e w2 ⟨rfl, f2⟩; have F2 := hid f2; clear f2)
        go_roundw
        case rel => exact ⟨k + 1, by omega, by first | rfl | go_num, HG.out.1.thenNo F2.out, fun j q hj hq => by
         rcases Nat.lt_succ_iff_lt_or_eq.1 hj with h | rfl
         ·exact HG.out.2 j q h hq
         ·obtain rfl : _ = q := Option.some.inj (HD.out.symm.trans hq)
          exact HB.out⟩
        case measure => simp [intOf]; omega
      ·obtain rfl : k = m := by omega
       go_wp2_with fail
       go_ret
       refine ⟨false, rfl, HG.out.1, fun _ => ⟨by have := HNe.out.1; omega, by have := HNe.out.2; omega, fun d hd => ?_, fun d hd => ?_⟩⟩
       ·obtain ⟨j, hj⟩ := List.getElem?_of_mem hd
        exact HF1.out.2 j d (by have := (List.getElem?_eq_some_iff.1 hj).1; have := HNe.out.1; omega) hj
       ·obtain ⟨j, hj⟩ := List.getElem?_of_mem hd
        exact HG.out.2 j d (by have := (List.getElem?_eq_some_iff.1 hj).1; have := HNe.out.2; omega) hj
  ·have h14' : (14 : Int) < (m : Int) := by omega
   clear h14 h7
   go_enter Tryz.func10, Tryz.ntmps10
   go_wp2_with fail
   refine bodyPost_ret (v := .bool true) ?_ rfl (.inr ⟨rfl, Fr.refl _ _⟩)
   simp [results, Tryz.f10, go_sem]
 ·have h7' : (7 : Int) < (n : Int) := by omega
  go_enter Tryz.func10, Tryz.ntmps10
  go_wp2_with fail
  go_ret
  exact ⟨true, rfl, Fr.refl _ _, fun e => by cases e⟩
end Go.Proofs.YthadcdoepoglkaaGreatDoor
namespace Go.Proofs.YthadcdoepoglkaaGreatDoor
open Go.RowKit Go.Lig
def fr1 {α : Type} (d : α) : List (Ver α) := [⟨1, d, false⟩]
def K1 : Ck := ⟨[⟨0, 0, 0⟩], 0⟩
def frV (ns : List NodeD) (es : List EdgeV) : VS := ⟨K1, ns.map fr1, es.map fr1⟩
def inR (n : Nat) (e : EdgeV) : Bool := (decide (1 ≤ e.from_) && decide (e.from_ ≤ (n : Int))) && (decide (1 ≤ e.to_) && decide (e.to_ ≤ (n : Int)))
section
variable {ns : List NodeD} {es : List EdgeV}
theorem fr1_cl {α : Type} (d : α) : clashV K1 1 (fr1 d) = false := rfl
theorem fr1_wr {α : Type} (d d' : α) (g : Bool) : writeV K1 1 d' g (fr1 d) = [⟨1, d', g⟩] := by
 unfold writeV
 rw [fr1_cl]
 simp [fr1]
theorem fr1_wr0 {α : Type} (d : α) (g : Bool) : writeV K1 1 d g [] = [⟨1, d, g⟩] := by
 unfold writeV
 rw [clashV_nil]
 simp
theorem frV_nc {k : Nat} {d : NodeD} (h : ns[k]? = some d) : (frV ns es).nc ((k : Int) + 1) = fr1 d := by
 unfold VS.nc
 rw [cellOf_nat]
 show (ns.map fr1)[k]?.getD [] = _
 rw [List.getElem?_map, h]
 rfl
theorem frV_ec {k : Nat} {e : EdgeV} (h : es[k]? = some e) : (frV ns es).ec ((k : Int) + 1) = fr1 e := by
 unfold VS.ec
 rw [cellOf_nat]
 show (es.map fr1)[k]?.getD [] = _
 rw [List.getElem?_map, h]
 rfl
theorem frV_rdN {k : Nat} {d : NodeD} (h : ns[k]? = some d) : (frV ns es).rdN 1 ((k : Int) + 1) = some d := by
 unfold VS.rdN
 rw [frV_nc h]
 rfl
theorem frV_rdE {k : Nat} {e : EdgeV} (h : es[k]? = some e) : (frV ns es).rdE 1 ((k : Int) + 1) = some e := by
 unfold VS.rdE
 rw [frV_ec h]
 rfl
theorem frV_some (id : Int) : ((frV ns es).rdN 1 id).isSome = (decide (1 ≤ id) && decide (id ≤ (ns.length : Int))) := by
 by_cases hp : 1 ≤ id ∧ id ≤ (ns.length : Int)
 ·obtain ⟨k, rfl⟩ : ∃ k : Nat, id = (k : Int) + 1 := ⟨(id - 1).toNat, by omega⟩
  have hk : k < ns.length := by omega
  rw [frV_rdN (List.getElem?_eq_getElem hk), decide_eq_true hp.1, decide_eq_true hp.2]
  rfl
 ·have : (frV ns es).nc id = [] := cellOf_none (by simpa [frV] using hp)
  unfold VS.rdN
  rw [this]
  symm
  show (decide (1 ≤ id) && decide (id ≤ (ns.length : Int))) = false
  rw [Bool.and_eq_false_iff, decide_eq_false_iff_not, decide_eq_false_iff_not]
  omega
theorem setl_same {α : Type} {l : List α} {k : Nat} {x : α} (h : l[k]? = some x) : l.set k x = l := by
 apply List.ext_getElem?
 intro i
 by_cases e : k = i
 ·subst e
  rw [List.getElem?_set_self (List.getElem?_eq_some_iff.1 h).1, h]
 ·rw [List.getElem?_set_ne e]
theorem frV_touch1 (id : Int) : vTouch1 1 (frV ns es) id = frV ns es := by
 unfold vTouch1
 cases hr : (frV ns es).rdN 1 id with
 | none => rfl
 | some d =>
  have hp := VS.rdN_pos hr
  have hl : (frV ns es).N.length = ns.length := by simp [frV]
  rw [hl] at hp
  obtain ⟨k, rfl⟩ : ∃ k : Nat, id = (k : Int) + 1 := ⟨(id - 1).toNat, by omega⟩
  have hk : k < ns.length := by omega
  have hd := List.getElem?_eq_getElem hk
  rw [frV_rdN hd] at hr
  obtain rfl := Option.some.inj hr
  have e1 : (ns.map fr1)[k]? = some (fr1 ns[k]) := by rw [List.getElem?_map, hd]; rfl
  show vPut (frV ns es) 1 ((k : Int) + 1 - 1).toNat ns[k] false = _
  rw [show ((k : Int) + 1 - 1).toNat = k by omega]
  show (⟨K1, (ns.map fr1).set k (writeV K1 1 ns[k] false ((ns.map fr1)[k]?.getD [])), es.map fr1⟩ : VS) = ⟨K1, ns.map fr1, es.map fr1⟩
  rw [e1]
  show (⟨K1, (ns.map fr1).set k (writeV K1 1 ns[k] false (fr1 ns[k])), es.map fr1⟩ : VS) = _
  rw [fr1_wr, setl_same (by rw [e1]; rfl)]
theorem frV_touch (l : List Int) : vTouch 1 (frV ns es) l = frV ns es := by
 unfold vTouch
 induction l with
 | nil => rfl
 | cons a l ih => rw [List.foldl_cons, frV_touch1, ih]
theorem snoc_set {α : Type} (l : List (List α)) (x : List α) : (l ++ [[]]).set l.length x = l ++ [x] := by
 rw [List.set_append_right _ _ (Nat.le_refl _), Nat.sub_self]
 rfl
theorem snoc_get {α : Type} (l : List (List α)) : (l ++ [([] : List α)])[l.length]?.getD [] = [] := by simp
theorem frV_addN (hn : ns.length < 24) (d : NodeD) : vAddNode (frV ns es) 1 true d = (((ns.length : Int) + 1, 0), frV (ns ++ [d]) es) := by
 have hl : (frV ns es).N.length = ns.length := by simp [frV]
 unfold vAddNode
 rw [hl, if_pos (show (frV ns es).K.live 1 = true from rfl), if_pos rfl, if_pos hn]
 congr 1
 show (⟨K1, (ns.map fr1 ++ [[]]).set ns.length (writeV K1 1 d false ((ns.map fr1 ++ [[]])[ns.length]?.getD [])), es.map fr1⟩ : VS) = _
 have hm : ns.length = (ns.map (fr1 (α := NodeD))).length := by simp
 rw [hm, snoc_get, snoc_set, fr1_wr0]
 unfold frV
 rw [List.map_append]
 rfl
theorem frV_addE (hn : es.length < 32) (e : EdgeV) : vAddEdge (frV ns es) 1 true e = if inR ns.length e then (((es.length : Int) + 1, 0), frV ns (es ++ [e])) else ((0, 4), frV ns es) := by
 have hl : (frV ns es).E.length = es.length := by simp [frV]
 unfold vAddEdge
 rw [hl, if_pos (show (frV ns es).K.live 1 = true from rfl), if_pos rfl, if_pos hn, frV_some, frV_some]
 cases hr : inR ns.length e with
 | false =>
  unfold inR at hr
  rw [hr]
  rfl
 | true =>
  have hr2 := hr
  unfold inR at hr
  rw [hr, if_pos rfl, if_pos rfl]
  unfold inR at hr2
  simp only [Bool.and_eq_true, decide_eq_true_eq] at hr2
  have cl : ∀ id : Int, 1 ≤ id → id ≤ (ns.length : Int) → clashV (frV ns es).K 1 ((frV ns es).nc id) = false := fun id h1 h2 => by
   obtain ⟨k, rfl⟩ : ∃ k : Nat, id = (k : Int) + 1 := ⟨(id - 1).toNat, by omega⟩
   rw [frV_nc (List.getElem?_eq_getElem (show k < ns.length by omega))]
   rfl
  rw [cl _ hr2.1.1 hr2.1.2, cl _ hr2.2.1 hr2.2.2, Bool.or_self, if_neg (by simp), frV_touch]
  congr 1
  show (⟨K1, ns.map fr1, (es.map fr1 ++ [[]]).set es.length (writeV K1 1 e false ((es.map fr1 ++ [[]])[es.length]?.getD []))⟩ : VS) = _
  have hm : es.length = (es.map (fr1 (α := EdgeV))).length := by simp
  rw [hm, snoc_get, snoc_set, fr1_wr0]
  unfold frV
  rw [List.map_append]
  rfl
def okE (n : Nat) (es : List EdgeV) (i : Nat) : List EdgeV := (es.take i).filter (inR n)
theorem okE_len (n : Nat) (es : List EdgeV) (i : Nat) : (okE n es i).length ≤ i := by
 unfold okE
 have h1 := List.length_filter_le (inR n) (es.take i)
 have h2 := List.length_take_le i es
 omega
theorem grN_vs {ns : List NodeD} (h7 : ns.length ≤ 7) (ha : ∀ d ∈ ns, isNodeB d = true) : ∀ i, i ≤ ns.length → (grN ns i).1.vs = frV (ns.take i) []
 | 0, _ => rfl
 | i + 1, hi => by
  have hd := List.getElem?_eq_getElem (show i < ns.length by omega)
  rw [grN_succ hd]
  unfold grN1
  rw [(sim_addnode _ _ _ _).2, grN_vs h7 ha i (by omega), ha _ (List.mem_of_getElem? hd), frV_addN (by rw [List.length_take]; omega), List.take_add_one, hd]
  rfl
theorem grE_vs {ns : List NodeD} {es : List EdgeV} (h7 : ns.length ≤ 7) (h14 : es.length ≤ 14) (ha : ∀ d ∈ ns, isNodeB d = true) (hb : ∀ e ∈ es, isEdgeB e = true) : ∀ i, i ≤ es.length → (grE ns es i).1.vs = frV ns (okE ns.length es i)
 | 0, _ => by
  have := grN_vs h7 ha ns.length (Nat.le_refl _)
  rw [List.take_length] at this
  exact this
 | i + 1, hi => by
  have hd := List.getElem?_eq_getElem (show i < es.length by omega)
  have hlen := okE_len ns.length es i
  rw [grE_succ hd]
  unfold grE1
  rw [(sim_addedge _ _ _ _).2, grE_vs h7 h14 ha hb i (by omega), hb _ (List.mem_of_getElem? hd), frV_addE (by omega)]
  have e1 : okE ns.length es (i + 1) = okE ns.length es i ++ if inR ns.length es[i] then [es[i]] else [] := by
   unfold okE
   rw [List.take_add_one, hd, List.filter_append]
   cases hr : inR ns.length es[i] <;> simp [hr]
  rw [e1]
  cases hr : inR ns.length es[i] with
  | false => simp
  | true => rfl
end
end Go.Proofs.YthadcdoepoglkaaGreatDoor
namespace Go.Proofs.YthadcdoepoglkaaGreatDoor
open Go.RowKit Go.Lig
theorem aborted_any (w : World) (c g : Nat) (K : Ck) (h : ClkRow w c g K) (hs : K.l.length ≤ 1000000) (t : Int) :
  Calls Tryz.prog 157 #[.pointer (some ⟨c, 0, none⟩), .int .i64 t] w fun e w' => e = .returned (.bool (K.aborted t)) ∧ w = w' := by
 have HA := hid (clkat_any w c g K h hs t)
 cases hx : K.tx t with
 | none =>
  have hr : K.aborted t = false := by unfold Ck.aborted; rw [hx]
  rw [hr]
  rw [atV_none hx] at HA
  clear h hr hx
  go_enter Tryz.func157, Tryz.ntmps157
  go_wp2_with (go_at_call 79; refine HA.out.mono ?_; rintro e w' ⟨rfl, rfl⟩)
  go_ret
  exact ⟨rfl, rfl⟩
 | some x =>
  obtain ⟨c0, c1, c2⟩ := h.cell hx
  rw [atV_some hx] at HA
  generalize (t - 1).toNat * 3 = o at *
  by_cases hz : x.state = 2
  ·have hr : K.aborted t = true := by unfold Ck.aborted; rw [hx]; simp [hz]
   have n1 : ((x.state : Int) == 2) = true := by rw [beq_iff_eq]; exact hz
   rw [hr]
   clear h hr hx hz c1 c2
   go_enter Tryz.func157, Tryz.ntmps157
   go_wp2_with (go_at_call 79; refine HA.out.mono ?_; rintro e w' ⟨rfl, rfl⟩)
   go_ret
   exact ⟨rfl, rfl⟩
  ·have hr : K.aborted t = false := by unfold Ck.aborted; rw [hx]; simp [hz]
   have n1 : ((x.state : Int) == 2) = false := by rw [beq_eq_false_iff_ne]; exact hz
   rw [hr]
   clear h hr hx hz c1 c2
   go_enter Tryz.func157, Tryz.ntmps157
   go_wp2_with (go_at_call 79; refine HA.out.mono ?_; rintro e w' ⟨rfl, rfl⟩)
   go_ret
   exact ⟨rfl, rfl⟩
end Go.Proofs.YthadcdoepoglkaaGreatDoor
