/- A part of the proof: contracts of functions of the program, for the row's text. -/
import Derived.Laws.BitsAllLaws
import Derived.Test.YthadcdoepoglkaaGreatDoorJ16
namespace Go.Lig
open Go.RowKit
def cmpI (a b : Int) : Int := if a < b then -1 else if b < a then 1 else 0
def cmpS (a b : ByteArray) : Int := if Op.bytesLess a.toList b.toList then -1 else if a.toList == b.toList then 0 else 1
def boolN (b : Bool) : Int := if b then 1 else 0
end Go.Lig
namespace Go.Proofs.YthadcdoepoglkaaGreatDoor
open Go.RowKit Go.Lig
theorem cmpint_any (w : World) (a b : Int) : Calls Tryz.prog 207 #[.int .i64 a, .int .i64 b] w fun e w' => e = .returned (.int .i64 (cmpI a b)) ∧ w = w' := by
 unfold cmpI
 by_cases h1 : a < b
 ·rw [if_pos h1]
  go_enter Tryz.func207, Tryz.ntmps207
  go_wp2
  go_ret
  exact ⟨rfl, rfl⟩
 ·rw [if_neg h1]
  by_cases h2 : b < a
  ·rw [if_pos h2]
   go_enter Tryz.func207, Tryz.ntmps207
   go_wp2
   go_ret
   exact ⟨rfl, rfl⟩
  ·rw [if_neg h2]
   go_enter Tryz.func207, Tryz.ntmps207
   go_wp2
   go_ret
   exact ⟨rfl, rfl⟩
theorem cmpu64_any (w : World) (a b : Int) : Calls Tryz.prog 238 #[.int .u64 a, .int .u64 b] w fun e w' => e = .returned (.int .i64 (cmpI a b)) ∧ w = w' := by
 unfold cmpI
 by_cases h1 : a < b
 ·rw [if_pos h1]
  go_enter Tryz.func238, Tryz.ntmps238
  go_wp2
  go_ret
  exact ⟨rfl, rfl⟩
 ·rw [if_neg h1]
  by_cases h2 : b < a
  ·rw [if_pos h2]
   go_enter Tryz.func238, Tryz.ntmps238
   go_wp2
   go_ret
   exact ⟨rfl, rfl⟩
  ·rw [if_neg h2]
   go_enter Tryz.func238, Tryz.ntmps238
   go_wp2
   go_ret
   exact ⟨rfl, rfl⟩
theorem cmpstr_any (w : World) (a b : ByteArray) : Calls Tryz.prog 228 #[.string a, .string b] w fun e w' => e = .returned (.int .i64 (cmpS a b)) ∧ w = w' := by
 have h0 : (a.toList == a.toList) = true := by simp
 have h0' : (b.toList == b.toList) = true := by simp
 unfold cmpS
 cases h1 : Op.bytesLess a.toList b.toList with
 | true =>
  simp only [if_true]
  go_enter Tryz.func228, Tryz.ntmps228
  go_wp2
  go_ret
  exact ⟨rfl, rfl⟩
 | false =>
  cases h2 : a.toList == b.toList with
  | true =>
   simp only [if_true, if_false, Bool.false_eq_true]
   go_enter Tryz.func228, Tryz.ntmps228
   go_wp2
   go_ret
   exact ⟨rfl, rfl⟩
  | false =>
   simp only [if_false, Bool.false_eq_true]
   go_enter Tryz.func228, Tryz.ntmps228
   go_wp2
   go_ret
   exact ⟨rfl, rfl⟩
theorem vnumber_any (w : World) (b : Bool) : Calls Tryz.prog 226 #[.bool b] w fun e w' => e = .returned (.int .i64 (boolN b)) ∧ w = w' := by
 cases b with
 | true =>
  go_enter Tryz.func226, Tryz.ntmps226
  go_wp2
  go_ret
  exact ⟨rfl, rfl⟩
 | false =>
  go_enter Tryz.func226, Tryz.ntmps226
  go_wp2
  go_ret
  exact ⟨rfl, rfl⟩
theorem or2_any (w : World) (g c : Nat) (a b : Int) (h0 : w.cell? ⟨g, 0, none⟩ = some (.int .i64 a)) (h1 : w.cell? ⟨g, 1, none⟩ = some (.int .i64 b)) : Calls Tryz.prog 205 #[.slice (some ⟨g, 0, none⟩) 2 c] w fun e w' => e = .returned (.int .i64 (if a = 0 then b else a)) ∧ w = w' := by
 have H := hid (⟨h0, h1⟩ : _ ∧ _)
 clear h0 h1
 go_enter Tryz.func205, Tryz.ntmps205
 go_wp2_with fail
 go_loopw [8] (fun vi wr => ∃ i : Nat, i ≤ 2 ∧ vi = .int .i64 (i : Int) ∧ wr = w ∧ (i = 0 ∨ (i = 1 ∧ a = 0) ∨ (i = 2 ∧ a = 0 ∧ b = 0))) (fun vi _ => 2 - (intOf vi).toNat)
 case atStart => exact ⟨0, by omega, rfl, rfl, .inl rfl⟩
 case round =>
  obtain ⟨i, hi, rfl, rfl, hc⟩ := hrel
  rcases hc with rfl | ⟨rfl, ha⟩ | ⟨rfl, ha, hb⟩
  ·have h0 := H.out.1
   by_cases ha : a = 0
   ·subst ha
    go_wp2_with fail
    go_roundw
    case rel => exact ⟨1, by omega, by go_num, by simp, by simp⟩
    case measure => simp [intOf]
   ·go_wp2_with fail
    go_ret
    exact ⟨by simp, rfl⟩
  ·have h1 := H.out.2
   subst ha
   by_cases hb : b = 0
   ·subst hb
    go_wp2_with fail
    go_roundw
    case rel => exact ⟨2, by omega, by go_num, by simp, by simp⟩
    case measure => simp [intOf]
   ·go_wp2_with fail
    go_ret
    exact ⟨by simp, rfl⟩
  ·subst ha hb
   go_wp2_with fail
   go_ret
   exact ⟨rfl, rfl⟩
def CmpOk (P : ValR → Prop) (c : ValR → ValR → Int) : Prop := ∀ a b, P a → P b → ∀ w, Calls Tryz.prog 206 #[.agg #[.int .i64 a.kind, .bool a.b, .int .i64 a.n, .float .f64 a.f, .string a.t], .agg #[.int .i64 b.kind, .bool b.b, .int .i64 b.n, .float .f64 b.f, .string b.t]] w fun e w' => e = .returned (.int .i64 (c a b)) ∧ Fr No w w'
def entV (x : EntR) : Value := .agg #[.int .i64 x.v.kind, .bool x.v.b, .int .i64 x.v.n, .float .f64 x.v.f, .string x.v.t, .int .i64 x.id]
def cmpE (c : ValR → ValR → Int) (x y : EntR) : Int := if c x.v y.v = 0 then cmpI x.id y.id else c x.v y.v
end Go.Proofs.YthadcdoepoglkaaGreatDoor
namespace Go.Proofs.YthadcdoepoglkaaGreatDoor
open Go.RowKit Go.Lig
def FindsTo (M M' : PSt) (F F' : Nat) (k : Nat) : Prop := ∀ (w : World) (ρ : Nat → Option Pt) (s : Nat) (A : Ad), StAt w ρ s A M F →
 Calls Tryz.prog 42 #[.pointer (some ⟨s, 0, none⟩), .int .i64 ((k : Int) + 1)] w fun e w' => e = .returned (.tuple #[]) ∧ TurnsA w ρ s A M' F' w'
theorem enter_finds2 : ∀ args w, (callFunc 102 args).run Tryz.prog w = .ok (.enter 102 args) w := enters_of Tryz.func102 (by kernel_rfl) rfl
theorem EnAt.put {w w' : World} {T I : Nat → Prop} {ge ce k : Nat} {cur : Array Value} {Y : List (List IxR)} {hv : Value} {l : List IxR} (h : EnAt w T I (.slice (some ⟨ge, 0, none⟩) Y.length ce) Y) (hg : w.heap[ge]? = some (.cells cur 163 (0, 0))) (p : Put ge (cur.setIfInBounds k hv) 163 w w') (hi : ∀ b, I b → ¬ b = ge)
  (hk : k < Y.length) (hr : RdI w' I hv l.length 7 (l.flatMap ixcell)) (hone : ∀ y ∈ l, y.key.size ≤ maxLen ∧ ValOk y.x.v ∧ (Lit.int .i64 y.x.id).wf = true) : EnAt w' T I (.slice (some ⟨ge, 0, none⟩) Y.length ce) (Y.set k l) := by
 obtain ⟨hs, h1, h2, h3⟩ := h.ex
 refine ⟨⟨hs.set k hv, by simp [h1], by simpa using owns_setN h2 hg p, fun i u m e1 e2 => ?_⟩, h.blk, fun m hm => ?_⟩
 ·by_cases e : k = i
  ·subst e
   rw [List.getElem?_set_self (by rw [h1]; exact hk)] at e1
   rw [List.getElem?_set_self hk] at e2
   obtain rfl := Option.some.inj e1
   obtain rfl := Option.some.inj e2
   exact hr
  ·rw [List.getElem?_set_ne e] at e1 e2
   exact (h3 i u m e1 e2).frame p.fr hi
 ·rcases List.mem_or_eq_of_mem_set hm with h4 | rfl
  ·exact h.one m h4
  ·exact hone
end Go.Proofs.YthadcdoepoglkaaGreatDoor
namespace Go.Proofs.YthadcdoepoglkaaGreatDoor
open Go.RowKit Go.Lig
section
variable {w w' : World} {ρ : Nat → Option Pt} {s : Nat} {A : Ad} {M : PSt} {F F' : Nat} {T' : Nat → Prop}
theorem StAt.node_ (h : StAt w ρ s A M F) {k : Nat} {L' : List (Ver NodeD)} (hk : k < M.N.length) (kc : NCell w' T' (At ρ .imm) (A.x k) L') (f : Fr (At ρ (.node k)) w w') (g : Grown w (At ρ (.node k)) T') (hF : F ≤ F') (hl : L'.length ≤ F') : TurnsA w ρ s A { M with N := M.N.set k L' } F' w' := by
 have t : Trn w w' ρ (.node k) T' := ⟨f, g, kc.bound⟩
 refine ⟨_, (h.more hF).upd t (by simp) (fun L hL => ?_) (fun q hq R hr => ?_), gone_turn t⟩
 ·rw [show ({ M with N := M.N.set k L' } : PSt).N[k]? = some L' from List.getElem?_set_self hk] at hL
  obtain rfl := Option.some.inj hL
  exact ⟨kc, hl⟩
 ·cases q with
  | nrow => exact ⟨by simpa using hr.1, hr.2.1, by simpa using hr.2.2⟩
  | erow => exact ⟨hr.1, by simpa using hr.2⟩
  | node i =>
   intro L hL
   have hne : k ≠ i := fun e => hq (by rw [e])
   rw [show ({ M with N := M.N.set k L' } : PSt).N[i]? = M.N[i]? from List.getElem?_set_ne hne] at hL
   exact hr L hL
  | _ => exact hr
theorem StAt.edge_ (h : StAt w ρ s A M F) {k : Nat} {L' : List (Ver EdgeV)} (hk : k < M.E.length) (kc : Ec.CellAt w' T' (A.z k) L') (f : Fr (At ρ (.edge k)) w w') (g : Grown w (At ρ (.edge k)) T') (hF : F ≤ F') (hl : L'.length ≤ F') : TurnsA w ρ s A { M with E := M.E.set k L' } F' w' := by
 have t : Trn w w' ρ (.edge k) T' := ⟨f, g, kc.bound⟩
 refine ⟨_, (h.more hF).upd t (by simp) (fun L hL => ?_) (fun q hq R hr => ?_), gone_turn t⟩
 ·rw [show ({ M with E := M.E.set k L' } : PSt).E[k]? = some L' from List.getElem?_set_self hk] at hL
  obtain rfl := Option.some.inj hL
  exact ⟨kc, hl⟩
 ·cases q with
  | edrow => exact ⟨by simpa using hr.1, hr.2.1, by simpa using hr.2.2⟩
  | enrow => exact ⟨hr.1, hr.2.1, by simpa using hr.2.2⟩
  | edge i =>
   intro L hL
   have hne : k ≠ i := fun e => hq (by rw [e])
   rw [show ({ M with E := M.E.set k L' } : PSt).E[i]? = M.E[i]? from List.getElem?_set_ne hne] at hL
   exact hr L hL
  | _ => exact hr
theorem StAt.out_ (h : StAt w ρ s A M F) {O' : List (Int × Int)} (kc : ChP w' T' A.o O' F') (f : Fr (At ρ .out) w w') (g : Grown w (At ρ .out) T') (hb : ∀ b, T' b → b < w'.heap.size) (hF : F ≤ F') : TurnsA w ρ s A { M with O := O' } F' w' := by
 have t : Trn w w' ρ .out T' := ⟨f, g, hb⟩
 refine ⟨_, (h.more hF).upd t (by simp) kc (fun q hq R hr => ?_), gone_turn t⟩
 cases q <;> first | exact hr | exact absurd rfl hq
theorem StAt.inn_ (h : StAt w ρ s A M F) {O' : List (Int × Int)} (kc : ChP w' T' A.i O' F') (f : Fr (At ρ .inn) w w') (g : Grown w (At ρ .inn) T') (hb : ∀ b, T' b → b < w'.heap.size) (hF : F ≤ F') : TurnsA w ρ s A { M with I := O' } F' w' := by
 have t : Trn w w' ρ .inn T' := ⟨f, g, hb⟩
 refine ⟨_, (h.more hF).upd t (by simp) kc (fun q hq R hr => ?_), gone_turn t⟩
 cases q <;> first | exact hr | exact absurd rfl hq
end
def putM (M : PSt) (t : Int) (k : Nat) (d : NodeD) (g : Bool) : PSt := { M with N := M.N.set k (writeV M.K t d g (M.N[k]?.getD [])) }
set_option maxRecDepth 100000 in
set_option maxHeartbeats 4000000 in
theorem puts_any (w : World) (ρ : Nat → Option Pt) (s : Nat) (A : Ad) (M : PSt) (F : Nat) (h : StAt w ρ s A M F) (t : Int) (k : Nat) (hk : k < M.N.length) (la pa : Option Addr) (ln lc pn pc : Nat) (d : NodeD) (hd : NodeOf w (.slice la ln lc) (.slice pa pn pc) d) (hd1 : d.L.length ≤ 1000000) (hd2 : d.Q.length ≤ 1000000)
  (gone : Bool) (hF : F < 1000000) (M' : PSt) (F' : Nat) (hfind : FindsTo (putM M t k d gone) M' (F + 1) F' k) :
  Calls Tryz.prog 55 #[.pointer (some ⟨s, 0, none⟩), .int .i64 t, .int .i64 ((k : Int) + 1), .agg #[.slice la ln lc, .slice pa pn pc], .bool gone] w fun e w' => e = .returned (.tuple #[]) ∧ TurnsA w ρ s A M' F' w' := by
 have hb := heap1 w (.cells #[.slice la ln lc, .slice pa pn pc] 34)
 have hf : Fr No w (w.alloc (.cells #[.slice la ln lc, .slice pa pn pc] 34)) := (Fr.refl No w).alloc _
 obtain ⟨L, hL⟩ : ∃ L, M.N[k]? = some L := ⟨_, List.getElem?_eq_getElem hk⟩
 have HFi := hid hfind
 have HD := hid (⟨hd, hd1, hd2⟩ : _ ∧ _ ∧ _)
 clear hfind hd hd1 hd2
 go_enter Tryz.func55, Tryz.ntmps55
 go_wp2_with fail
 generalize w.alloc (.cells #[.slice la ln lc, .slice pa pn pc] 34) = w1 at *
 have h1 := h.frame hf
 obtain ⟨x0, -⟩ := h1.cells
 obtain ⟨c0, c1⟩ := cells2 hb
 have HH := hid (⟨h1, hf, hL, hk, hF⟩ : _ ∧ _ ∧ _ ∧ _ ∧ _)
 have HB := hid (⟨lt_of_block hb, h1.lt⟩ : w.heap.size < w1.heap.size ∧ s < w1.heap.size)
 clear h h1 hf hb hL hk hF
 refine wp_region_sched (by kernel_rfl) 11 [2, 9, 11] [0, 1, 3, 4, 5, 6, 7, 8, 10, 2, 9, 11] (AgC [w.heap.size, s] w1.drew) (by kernel_rfl) (AgC.refl _ _) ?_
 simp only [List.map_cons, List.map_nil, List.contains_cons, List.contains_nil, nth_zero, nth_succ, Nat.reduceBEq, Bool.or_false, Bool.or_true]
 repeat (refine sched_quiet (fun K hK => ?_); go_simp; refine hK _ ?_; clear hK K)
 refine sched_call (by first | rfl | go_simp) 100 #[.pointer (some ⟨s, 0, none⟩), .int .i64 ((k : Int) + 1)] (by first | kernel_rfl | go_simp) (node_any _ ρ s A M F (HH.out.1.frame (Fr.refl No w1).drew) _) ?_
 rintro e w2 ⟨rfl, rfl⟩
 refine ⟨_, rfl, AgC.refl _ _, ?_⟩
 rw [ndP_some A M k HH.out.2.2.2.1]
 repeat (refine sched_quiet (fun K hK => ?_); go_simp; refine hK _ ?_; clear hK K)
 refine sched_call (by first | rfl | go_simp) 117 #[.agg #[.slice la ln lc, .slice pa pn pc]] (by first | kernel_rfl | go_simp) (copied_any _ _ _ _ _ _ _ d (HD.out.1.frame HH.out.2.1.drew) HD.out.2.1 HD.out.2.2) ?_
 rintro e w3 ⟨la', ln', lc', pa', pn', pc', rfl, o3⟩
 refine ⟨_, rfl, (AgC.refl _ _).fr o3.l.fr (fun j hj => ⟨by rcases List.mem_cons.1 hj with rfl | hj; exact HB.out.1; rw [List.mem_singleton.1 hj]; exact HB.out.2, fun e => e⟩), ?_⟩
 have hni := o3.nodeIn HD.out.1.ok HD.out.1.ls HD.out.2
 have h3 := (HH.out.1.frame (Fr.refl No w1).drew).addImm o3.l.fr (J := fun b => w1.drew.heap.size ≤ b ∧ b < w3.heap.size) (fun b hb => hb)
 have g3 := (Gone.no (U := Go.Lig.Own ρ) HH.out.2.1.drew).trans (gone_imm (ρ := ρ) o3.l.fr (J := fun b => w1.drew.heap.size ≤ b ∧ b < w3.heap.size) (fun b hb => hb))
 have hi3 : ∀ b, (w1.drew.heap.size ≤ b ∧ b < w3.heap.size) → At (turn ρ .imm (fun b => At ρ .imm b ∨ (w1.drew.heap.size ≤ b ∧ b < w3.heap.size))) .imm b := fun b hb => by rw [at_turn_same]; exact .inr hb
 have hni3 := hni.mono hi3
 generalize turn ρ .imm (fun b => At ρ .imm b ∨ (w1.drew.heap.size ≤ b ∧ b < w3.heap.size)) = ρ3 at *
 obtain ⟨gk, hck, -⟩ := h3.clock.row
 have hc3 := h3.ncell HH.out.2.2.1
 have hL1 := (h3.at_ (.node k) L HH.out.2.2.1).2
 have H3 := hid (⟨h3, g3, hni3, hck, hc3, hL1⟩ : _ ∧ _ ∧ _ ∧ _ ∧ _ ∧ _)
 clear o3 hni h3 g3 hi3 hni3 hck hc3 hL1
 repeat (refine sched_quiet (fun K hK => ?_); go_simp; refine hK _ ?_; clear hK K)
 refine sched_callL (by first | rfl | go_simp) 116 #[.pointer (some ⟨A.x k, 0, none⟩), .pointer (some ⟨A.c, 0, none⟩), .int .i64 t, .agg #[.slice la' ln' lc', .slice pa' pn' pc'], .bool gone] (by first | kernel_rfl | go_simp) (H3.out.2.2.2.2.1.write A.c gk M.K H3.out.2.2.2.1 H3.out.1.clock.small.1 (by have := H3.out.2.2.2.2.2; have := HH.out.2.2.2.2; omega) t ⟨⟨la', ln', lc'⟩, ⟨pa', pn', pc'⟩⟩ d gone (at_apart (by simp)) H3.out.2.2.1) ?_
 rintro e w4 ⟨rfl, T', k4, f4, g4⟩
 refine ⟨_, rfl, ?_⟩
 have hM : putM M t k d gone = { M with N := M.N.set k (writeV M.K t d gone L) } := by unfold putM; rw [HH.out.2.2.1]; rfl
 have t4 := H3.out.1.node_ (F' := F + 1) HH.out.2.2.2.1 k4 f4 g4 (Nat.le_succ _) (Nat.le_trans (writeV_len _ _ _ _ _) (Nat.succ_le_succ H3.out.2.2.2.2.2))
 rw [← hM] at t4
 have T4 := hid t4
 clear k4 f4 g4 hM t4
 refine sched_nil ?_
 obtain ⟨ρ4, h4, g4⟩ := T4.out
 have G4 := hid (H3.out.2.1.trans g4)
 have H4 := hid h4
 clear h4 g4
 go_wp2_with (go_at_call 42; refine (HFi.out w4 ρ4 s A H4.out).mono ?_; rintro e w5 ⟨rfl, h5⟩; have H5 := hid h5; clear h5)
 go_end0
 obtain ⟨ρ5, h5, g5⟩ := H5.out
 exact ⟨rfl, ρ5, h5, G4.out.trans g5⟩
end Go.Proofs.YthadcdoepoglkaaGreatDoor
