/- A part of the proof: contracts of functions of the program, for the row's text. -/
import Derived.Test.YthadcdoepoglkaaGreatDoorJ21
import Derived.Test.YthadcdoepoglkaaGreatDoorJ14
import Derived.Test.YthadcdoepoglkaaGreatDoorJ20
namespace Go.Proofs.YthadcdoepoglkaaGreatDoor
open Go.RowKit Go.Lig
def there {α : Type} (L : List (Ver α)) : Bool := L.any fun y => !y.gone
def linkM (M : PSt) (k : Nat) : PSt := match M.D[k]? with
 | some (f, t) => if there (M.E[k]?.getD []) then { M with O := addI M.O f ((k : Int) + 1), I := addI M.I t ((k : Int) + 1) } else { M with O := cutI M.O f ((k : Int) + 1), I := cutI M.I t ((k : Int) + 1) }
 | none => M
theorem there_step {L : List (Ver EdgeV)} {i : Nat} {y : Ver EdgeV} (h : L[i]? = some y) : there (L.take (i + 1)) = (there (L.take i) || !y.gone) := by
 unfold there
 rw [List.take_add_one, h, Option.toList_some, List.any_append]
 simp
theorem links1_any (w : World) (v : EdgeV) (b : Nat) (x : Bool) (hb : w.heap[b]? = some (.cells #[.bool x] 4 (0, 0))) :
  Calls Tryz.prog 108 #[.agg #[.int .i64 v.from_, .int .i64 v.to_, .string v.type, .float .f64 v.w], .pointer (some ⟨b, 0, none⟩)] w fun e w' => e = .returned (.tuple #[]) ∧ w'.heap[b]? = some (.cells #[.bool true] 4 (0, 0)) ∧ Fr (fun k => k = b) w w' := by
 have hf : Fr No w (w.alloc (.cells #[.int .i64 v.from_, .int .i64 v.to_, .string v.type, .float .f64 v.w] 48)) := (Fr.refl No w).alloc _
 have HB := hid (⟨hf.keep hb (fun e => e), hf⟩ : _ ∧ _)
 clear hf hb
 go_enter Tryz.func108, Tryz.ntmps108
 go_wp2_with (refine wpList_store1 rfl 4 (.tmp 1) (.const (.bool true)) rfl b 0 rfl _ _ (.bool true) rfl (by kernel_rfl) HB.out.1 (by simp) rfl ?_; intro w2 p2; have P2 := hid p2; clear p2)
 go_end0
 exact ⟨rfl, P2.out.at_, (HB.out.2.mono (fun _ _ e => e.elim)).thenS P2.out.fr⟩
theorem enter_links1 : ∀ args w, (callFunc 108 args).run Tryz.prog w = .ok (.enter 108 args) w := enters_of Tryz.func108 (by kernel_rfl) rfl
theorem key_small (n : Nat) (h : n ≤ 1000000) : keyOk (n : Int) := by
 have e : (Lit.int .i64 (n : Int)).wf = (decide (IntKind.i64.min ≤ (n : Int)) && decide ((n : Int) ≤ IntKind.i64.max)) := rfl
 have e1 : IntKind.i64.min = -9223372036854775808 := rfl
 have e2 : IntKind.i64.max = 9223372036854775807 := rfl
 unfold keyOk
 rw [e, Bool.and_eq_true, e1, e2]
 exact ⟨decide_eq_true (by omega), decide_eq_true (by omega)⟩
theorem addI_len (I : List (Int × Int)) (k x : Int) : (addI I k x).length ≤ I.length + 1 := by
 unfold addI
 split <;> simp
theorem cutI_len (I : List (Int × Int)) (k x : Int) : (cutI I k x).length ≤ I.length := List.length_filter_le _ _
theorem ChP.add {w : World} {T : Nat → Prop} {c F : Nat} {I : List (Int × Int)} (h : ChP w T c I F) (hF : F ≤ 1000000) (k x : Int) (hk : keyOk k) (hx : keyOk x) :
  Calls Tryz.prog 109 #[.pointer (some ⟨c, 0, none⟩), .int .i64 k, .int .i64 x] w fun e w' => ∃ b, e = .returned (.bool b) ∧ ∃ T', ChP w' T' c (addI I k x) (F + 1) ∧ Fr T w w' ∧ Grown w T T' ∧ ∀ b, T' b → b < w'.heap.size := by
 obtain ⟨B, r, m, h1, h2, h3⟩ := h.ex
 refine (add_any w c I B r m h1 k x hk hx (by omega) (by have := h.len; omega)).mono ?_
 rintro e w' ⟨rfl, B', r', k1, f1, g1⟩
 exact ⟨_, rfl, fun b => r' b ≠ none, ⟨⟨B', r', m + 1, k1, fun _ e => e, by omega⟩, Nat.le_trans (addI_len _ _ _) (Nat.succ_le_succ h.len)⟩, f1.mono (fun b _ hb => h2 b hb), fun b hb => (g1 b hb).imp (h2 b) id, k1.bound⟩
theorem ChP.cut {w : World} {T : Nat → Prop} {c F : Nat} {I : List (Int × Int)} (h : ChP w T c I F) (hF : F ≤ 1000000) (k x : Int) (hk : keyOk k) (hx : keyOk x) :
  Calls Tryz.prog 110 #[.pointer (some ⟨c, 0, none⟩), .int .i64 k, .int .i64 x] w fun e w' => ∃ b, e = .returned (.bool b) ∧ ChP w' T c (cutI I k x) F ∧ Fr T w w' := by
 obtain ⟨B, r, m, h1, h2, h3⟩ := h.ex
 refine (cut_any w c I B r m h1 k x hk hx (by have := h.len; omega)).mono ?_
 rintro e w' ⟨rfl, k1, f1⟩
 exact ⟨_, rfl, ⟨⟨B, r, m, k1, h2, h3⟩, Nat.le_trans (cutI_len _ _ _) h.len⟩, f1.mono (fun b _ hb => h2 b hb)⟩
theorem linkM_some {M : PSt} {k : Nat} {f t : Int} {L : List (Ver EdgeV)} (h1 : M.D[k]? = some (f, t)) (h2 : M.E[k]? = some L) : linkM M k = if there L then { M with O := addI M.O f ((k : Int) + 1), I := addI M.I t ((k : Int) + 1) } else { M with O := cutI M.O f ((k : Int) + 1), I := cutI M.I t ((k : Int) + 1) } := by
 unfold linkM
 rw [h1, h2]
 rfl
theorem links_each (w : World) (ρ : Nat → Option Pt) (s : Nat) (A : Ad) (M : PSt) (F : Nat) (h : StAt w ρ s A M F) (k : Nat) (L : List (Ver EdgeV)) (hL : M.E[k]? = some L) (b : Nat) (hb : w.heap[b]? = some (.cells #[.bool false] 4 (0, 0))) (hn : ¬ Go.Lig.Own ρ b) :
  Calls Tryz.prog 107 #[.pointer (some ⟨A.z k, 0, none⟩), .func (.func 108) #[] #[.pointer (some ⟨b, 0, none⟩)]] w fun e w' => e = .returned (.tuple #[]) ∧ w'.heap[b]? = some (.cells #[.bool (there L)] 4 (0, 0)) ∧ Fr (fun k => k = b) w w' := by
 have hc := h.ecell hL
 obtain ⟨g, hr, -⟩ := hc.row
 have := Ec.each_any w (A.z k) g L hc.small 108 #[.pointer (some ⟨b, 0, none⟩)] enter_links1 (fun i W => W.heap[b]? = some (.cells #[.bool (there (L.take i))] 4 (0, 0)) ∧ Fr (fun k => k = b) w W) ⟨by simpa [there] using hb, Fr.refl _ _⟩
  (fun i W W' h1 f => ⟨f.keep h1.1 (fun e => e), h1.2.thenNo f⟩) (fun i W h1 => ?_) (fun i y W hy hg h1 => ⟨by rw [there_step hy, hg]; simpa using h1.1, h1.2⟩)
  (fun i y W hy hg h1 => (links1_any W y.v b _ h1.1).mono fun e W' ⟨e1, e2, e3⟩ => ⟨e1, by rw [there_step hy, hg]; simpa using e2, h1.2.thenS e3⟩)
 ·rwa [List.take_length] at this
 ·have hc' := hc.frame h1.2 (fun k hk e => by subst e; exact hn (at_own _ hk))
  obtain ⟨a, n, g1, g2, g3, g4⟩ := hr.ex
  refine ⟨a, n, h1.2.keep g1 (fun e => hn (by rw [← e]; exact at_own _ hc.root)), h1.2.owns g2 (fun j hj e => ?_), g3, g4⟩
  by_cases hl : 0 < L.length
  ·obtain ⟨v, q1, q2, q3⟩ := hc.ex
   rw [g1] at q1
   simp only [Option.some.injEq, Obj.cells.injEq, Array.mk.injEq, List.cons.injEq, and_true] at q1
   subst q1
   exact hn (by rw [← e]; exact at_own _ (q3 j hj).1)
  ·obtain ⟨v, q1, q2, q3⟩ := hc.ex
   rw [g1] at q1
   simp only [Option.some.injEq, Obj.cells.injEq, Array.mk.injEq, List.cons.injEq, and_true] at q1
   subst q1
   exact hn (by rw [← e]; exact at_own _ (q3 j hj).1)
set_option maxRecDepth 100000 in
set_option maxHeartbeats 1000000 in
theorem links_any (w : World) (ρ : Nat → Option Pt) (s : Nat) (A : Ad) (M : PSt) (F : Nat) (h : StAt w ρ s A M F) (k : Nat) (hk : k < M.E.length) (hF : F < 1000000) :
  Calls Tryz.prog 44 #[.pointer (some ⟨s, 0, none⟩), .int .i64 ((k : Int) + 1)] w fun e w' => e = .returned (.tuple #[]) ∧ TurnsA w ρ s A (linkM M k) (F + 2) w' := by
 obtain ⟨hfo, hfb, hfl, hfk⟩ := h.at_ .enrow
 obtain ⟨L, hL⟩ : ∃ L, M.E[k]? = some L := ⟨_, List.getElem?_eq_getElem hk⟩
 obtain ⟨⟨f, t⟩, hD⟩ : ∃ p, M.D[k]? = some p := ⟨_, List.getElem?_eq_getElem (by omega)⟩
 have hkk := hfk _ (List.mem_of_getElem? hD)
 have hkx : keyOk ((k : Int) + 1) := by have := h.elen; exact key_small (k + 1) (by omega)
 obtain ⟨af, cf, hfv⟩ := ownsRow_slice hfo
 have x3 := h.cells.2.2.2.1
 rw [hfv] at x3 hfo
 obtain ⟨gf, cur, rfl, -, -⟩ := owns_at hfo (by omega)
 have y0 := owns_cell hfo rfl (j := k * 2 + 0) (u := .int .i64 f) (by rw [show ecells M.D = M.D.flatMap (fun p => [Value.int .i64 p.1, .int .i64 p.2]) from rfl, flat_get (m := 2) (fun _ => rfl) _ k _ hD 0 (by decide)]; rfl)
 have y1 := owns_cell hfo rfl (j := k * 2 + 1) (u := .int .i64 t) (by rw [show ecells M.D = M.D.flatMap (fun p => [Value.int .i64 p.1, .int .i64 p.2]) from rfl, flat_get (m := 2) (fun _ => rfl) _ k _ hD 1 (by decide)]; rfl)
 rw [Nat.add_zero] at y0
 have n2 : IntKind.i64.wrap (k : Int) = (k : Int) := IntWalk.i64_in _ (by have := h.elen; omega)
 have HH := hid (⟨h, hk, hF, hL, hD⟩ : _ ∧ _ ∧ _ ∧ _ ∧ _)
 have HK := hid (⟨hkk, hkx⟩ : _ ∧ _)
 have hkD : k < M.D.length := by omega
 have hDl : M.D.length ≤ 1000 := by have := h.elen; omega
 have hsl := h.lt
 have HU := hid (show ¬ Go.Lig.Own ρ w.heap.size from fun e => by have := h.bound _ e; omega)
 have HU1 := hid (show ¬ Go.Lig.Own ρ (w.heap.size + 1) from fun e => by have := h.bound _ e; omega)
 generalize M.D.length = n at *
 clear h hk hF hL hD hfo hfb hfl hfk hkk hkx hfv
 go_enter Tryz.func44, Tryz.ntmps44
 go_wp2_with (first | (refine wpList_storeO rfl 182 (.tmp 4) (.tmp 13) rfl w.heap.size 0 rfl [.int .i64 0, .int .i64 0] 182 [.int .i64 f, .int .i64 t] rfl (by kernel_rfl) (heap2 w _ _).1 (by simp) (by simp [Value.oneCell']) ?_; intro w1 p1; have P1 := hid (⟨(((Fr.refl No w).alloc _).alloc _).fresh p1.fr (fun k e => by omega), show w1.heap[w.heap.size]? = some (.cells #[.int .i64 f, .int .i64 t] 182 (0, 0)) from p1.at_, p1.keep (heap2 w _ _).2 (by omega)⟩ : _ ∧ _ ∧ _); clear p1) | (refine wpList_store1 rfl 4 (.tmp 5) (.const (.bool false)) rfl (w.heap.size + 1) 0 rfl _ _ (.bool false) rfl (by kernel_rfl) P1.out.2.2 (by simp) rfl ?_; intro w2 p2; have P2 := hid (⟨P1.out.1.fresh p2.fr (fun k e => by omega), p2.keep P1.out.2.1 (by omega), show w2.heap[w.heap.size + 1]? = some (.cells #[.bool false] 4 (0, 0)) from p2.at_⟩ : _ ∧ _ ∧ _); clear p2) | (go_at_call 106; refine (edge_any _ ρ s A M F (HH.out.1.frame P2.out.1) _).mono ?_; rintro e w3 ⟨rfl, rfl⟩; rw [edP_some A M k HH.out.2.1]))
 refine (links_each _ ρ s A M F (HH.out.1.frame P2.out.1) k L HH.out.2.2.2.1 _ P2.out.2.2 HU1.out).mono ?_
 rintro e w6 ⟨rfl, hb6, f6⟩
 have HE := hid (⟨P2.out.1.fresh' f6 (fun k e => by omega), hb6, f6.keep P2.out.2.1 (by omega)⟩ : _ ∧ _ ∧ _)
 clear hb6 f6 y0 y1
 cases hth : there L with
 | true =>
  rw [hth] at HE
  obtain ⟨d0, d1⟩ := cells2 (HE.out.2.2)
  have d5 := cells1 HE.out.2.1
  have h6 := HH.out.1.frame HE.out.1
  have x4 := h6.cells.2.2.2.2.1
  have HS6 := hid (⟨h6.lt, lt_of_block HE.out.2.2⟩ : _ ∧ _)
  have HT := hid hth
  clear h6 hth x3
  go_wp2_with fail
  refine wp_region_sched (by kernel_rfl) 7 [7] [0, 1, 2, 3, 4, 5, 6, 7] (AgC [s, w.heap.size] w6.drew) (by kernel_rfl) (AgC.refl _ _) ?_
  simp only [List.map_cons, List.map_nil, List.contains_cons, List.contains_nil, nth_zero, nth_succ, Nat.reduceBEq, Bool.or_false]
  repeat (refine sched_quiet (fun K hK => ?_); go_simp; refine hK _ ?_; clear hK K)
  refine sched_callL (by first | rfl | go_simp) 109 #[.pointer (some ⟨A.o, 0, none⟩), .int .i64 f, .int .i64 ((k : Int) + 1)] (by first | kernel_rfl | go_simp) (ChP.add ((HH.out.1.frame HE.out.1.drew).at_ .out) (by have := HH.out.2.2.1; omega) f ((k : Int) + 1) HK.out.1.1 HK.out.2) ?_
  rintro e w7 ⟨b7, rfl, T7, k7, f7, g7, bd7⟩
  refine ⟨_, rfl, ?_⟩
  have h6 := HH.out.1.frame HE.out.1.drew
  have t7 := h6.out_ (F' := F + 1) k7 f7 g7 bd7 (Nat.le_succ _)
  obtain ⟨ρ7, h7, g7⟩ := t7
  have g67 := (Gone.no (U := Go.Lig.Own ρ) HE.out.1.drew).trans g7
  obtain ⟨hb7, hu7⟩ := g7.keep (w := w6.drew) HE.out.2.2 HU.out
  obtain ⟨e0, e1⟩ := cells2 hb7
  have x5 := h7.cells.2.2.2.2.2.1
  have H7 := hid (⟨h7, g67⟩ : _ ∧ _)
  have HS7 := hid (⟨h7.lt, lt_of_block hb7⟩ : _ ∧ _)
  clear h6 k7 f7 g7 g67 h7 hb7 hu7 x4 d0 d1 d5 bd7
  refine sched_nil ?_
  go_wp2_with fail
  refine wp_region_sched (by kernel_rfl) 7 [7] [0, 1, 2, 3, 4, 5, 6, 7] (AgC [s, w.heap.size] w7.drew) (by kernel_rfl) (AgC.refl _ _) ?_
  simp only [List.map_cons, List.map_nil, List.contains_cons, List.contains_nil, nth_zero, nth_succ, Nat.reduceBEq, Bool.or_false]
  repeat (refine sched_quiet (fun K hK => ?_); go_simp; refine hK _ ?_; clear hK K)
  refine sched_callL (by first | rfl | go_simp) 109 #[.pointer (some ⟨A.i, 0, none⟩), .int .i64 t, .int .i64 ((k : Int) + 1)] (by first | kernel_rfl | go_simp) (ChP.add ((H7.out.1.frame (Fr.refl No w7).drew).at_ .inn) (by have := HH.out.2.2.1; omega) t ((k : Int) + 1) HK.out.1.2 HK.out.2) ?_
  rintro e w8 ⟨b8, rfl, T8, k8, f8, g8, bd8⟩
  refine ⟨_, rfl, ?_⟩
  have h7 := H7.out.1.frame (Fr.refl No w7).drew
  have t8 := h7.inn_ (F' := F + 2) (k8.more (by omega)) f8 g8 bd8 (by omega)
  have T8' := hid t8
  clear t8 h7 k8 f8 g8 bd8
  refine sched_nil ?_
  go_wp2_with fail
  go_end0
  obtain ⟨ρ8, h8, g8⟩ := T8'.out
  rw [linkM_some HH.out.2.2.2.2 HH.out.2.2.2.1, HT.out]
  exact ⟨rfl, ρ8, h8, (H7.out.2.nextNo (Fr.refl No w7).drew).trans g8⟩
 | false =>
  rw [hth] at HE
  obtain ⟨d0, d1⟩ := cells2 (HE.out.2.2)
  have d5 := cells1 HE.out.2.1
  have h6 := HH.out.1.frame HE.out.1
  have x4 := h6.cells.2.2.2.2.1
  have HS6 := hid (⟨h6.lt, lt_of_block HE.out.2.2⟩ : _ ∧ _)
  have HT := hid hth
  clear h6 hth x3
  go_wp2_with fail
  refine wp_region_sched (by kernel_rfl) 7 [7] [0, 1, 2, 3, 4, 5, 6, 7] (AgC [s, w.heap.size] w6.drew) (by kernel_rfl) (AgC.refl _ _) ?_
  simp only [List.map_cons, List.map_nil, List.contains_cons, List.contains_nil, nth_zero, nth_succ, Nat.reduceBEq, Bool.or_false]
  repeat (refine sched_quiet (fun K hK => ?_); go_simp; refine hK _ ?_; clear hK K)
  refine sched_callL (by first | rfl | go_simp) 110 #[.pointer (some ⟨A.o, 0, none⟩), .int .i64 f, .int .i64 ((k : Int) + 1)] (by first | kernel_rfl | go_simp) (ChP.cut ((HH.out.1.frame HE.out.1.drew).at_ .out) (by have := HH.out.2.2.1; omega) f ((k : Int) + 1) HK.out.1.1 HK.out.2) ?_
  rintro e w7 ⟨b7, rfl, k7, f7⟩
  refine ⟨_, rfl, ?_⟩
  have h6 := HH.out.1.frame HE.out.1.drew
  have t7 := h6.out_ (F' := F + 1) (k7.more (Nat.le_succ _)) f7 (Grown.refl _ _) (fun b hb => Nat.lt_of_lt_of_le (h6.rho hb) f7.size) (Nat.le_succ _)
  obtain ⟨ρ7, h7, g7⟩ := t7
  have g67 := (Gone.no (U := Go.Lig.Own ρ) HE.out.1.drew).trans g7
  obtain ⟨hb7, hu7⟩ := g7.keep (w := w6.drew) HE.out.2.2 HU.out
  obtain ⟨e0, e1⟩ := cells2 hb7
  have x5 := h7.cells.2.2.2.2.2.1
  have H7 := hid (⟨h7, g67⟩ : _ ∧ _)
  have HS7 := hid (⟨h7.lt, lt_of_block hb7⟩ : _ ∧ _)
  clear h6 k7 f7 g7 g67 h7 hb7 hu7 x4 d0 d1 d5 
  refine sched_nil ?_
  go_wp2_with fail
  refine wp_region_sched (by kernel_rfl) 7 [7] [0, 1, 2, 3, 4, 5, 6, 7] (AgC [s, w.heap.size] w7.drew) (by kernel_rfl) (AgC.refl _ _) ?_
  simp only [List.map_cons, List.map_nil, List.contains_cons, List.contains_nil, nth_zero, nth_succ, Nat.reduceBEq, Bool.or_false]
  repeat (refine sched_quiet (fun K hK => ?_); go_simp; refine hK _ ?_; clear hK K)
  refine sched_callL (by first | rfl | go_simp) 110 #[.pointer (some ⟨A.i, 0, none⟩), .int .i64 t, .int .i64 ((k : Int) + 1)] (by first | kernel_rfl | go_simp) (ChP.cut ((H7.out.1.frame (Fr.refl No w7).drew).at_ .inn) (by have := HH.out.2.2.1; omega) t ((k : Int) + 1) HK.out.1.2 HK.out.2) ?_
  rintro e w8 ⟨b8, rfl, k8, f8⟩
  refine ⟨_, rfl, ?_⟩
  have h7 := H7.out.1.frame (Fr.refl No w7).drew
  have t8 := h7.inn_ (F' := F + 2) (k8.more (by omega)) f8 (Grown.refl _ _) (fun b hb => Nat.lt_of_lt_of_le (h7.rho hb) f8.size) (by omega)
  have T8' := hid t8
  clear t8 h7 k8 f8 
  refine sched_nil ?_
  go_wp2_with fail
  go_end0
  obtain ⟨ρ8, h8, g8⟩ := T8'.out
  rw [linkM_some HH.out.2.2.2.2 HH.out.2.2.2.1, HT.out]
  exact ⟨rfl, ρ8, h8, (H7.out.2.nextNo (Fr.refl No w7).drew).trans g8⟩
end Go.Proofs.YthadcdoepoglkaaGreatDoor
namespace Go.Lig
open Go.RowKit
def putsOf (l : List (Tmp × Value)) (a : Act) : Act := l.foldl (fun a p => a.put (some p.1) p.2) a
theorem putsOf_nil (a : Act) : putsOf [] a = a := rfl
theorem putsOf_cons (p : Tmp × Value) (l : List (Tmp × Value)) (a : Act) : putsOf (p :: l) a = putsOf l (a.put (some p.1) p.2) := rfl
structure CutPost (a : Act) (puts : Nat → List (Tmp × Value)) (R : Nat → World → Prop) (e : Exit) (a' : Act) (w' : World) : Prop where
 e : e = .normal
 ex : ∃ b, a' = putsOf (puts b) a ∧ R b w'
theorem region_cut {P : Program} {c : Code} {Q : Exit → Act → World → Prop} {a : Act} {w : World} (puts : Nat → List (Tmp × Value)) (R : Nat → World → Prop)
  (h1 : c.wp P (CutPost a puts R) a w) (h2 : ∀ b w', R b w' → Q .normal (putsOf (puts b) a) w') : c.wp P Q a w :=
 Code.wp_mono (fun e a' w' h => by
  obtain ⟨rfl, b, rfl, hr⟩ := h
  exact h2 b w' hr) h1
end Go.Lig
namespace Go.Proofs.YthadcdoepoglkaaGreatDoor
open Go.RowKit Go.Lig
theorem infoN : (Tryz.prog.info? 34).map (fun i => (i.zero, i.size, i.bytes)) = some (some (.agg #[.slice none 0 0, .slice none 0 0]), 2, 48) := by kernel_rfl
set_option maxRecDepth 100000 in
set_option maxHeartbeats 4000000 in
theorem reads_of (w0 : World) (s c : Nat) (t id : Int) (nx : Option Addr) (la : Option Addr) (ln lc : Nat) (pa : Option Addr) (pn pc : Nat) (rb : Bool) (x0 : w0.cell? ⟨s, 0, none⟩ = some (.pointer (some ⟨c, 0, none⟩)))
  (hn : ∀ u, Fr No w0 u → Calls Tryz.prog 100 #[.pointer (some ⟨s, 0, none⟩), .int .i64 id] u fun e w' => e = .returned (.pointer nx) ∧ u = w')
  (hr : ∀ u, Fr No w0 u → Calls Tryz.prog 113 #[.pointer nx, .pointer (some ⟨c, 0, none⟩), .int .i64 t] u fun e w' => e = .returned (.tuple #[.agg #[.slice la ln lc, .slice pa pn pc], .bool rb]) ∧ Fr No u w') :
  Calls Tryz.prog 53 #[.pointer (some ⟨s, 0, none⟩), .int .i64 t, .int .i64 id] w0 fun e w' => e = .returned (.bool rb) ∧ Fr No w0 w' := by
 have HN := hid hn
 have HR := hid hr
 have HS : Hid (s < w0.heap.size) := hid (World.block_lt_of_cell? w0 _ x0)
 clear hn hr
 go_enter Tryz.func53, Tryz.ntmps53
 go_wp2_with fail
 refine region_cut (fun b => [(10, .pointer (some ⟨s, 0, none⟩)), (11, .int .i64 id), (12, .pointer nx), (13, .pointer (some ⟨s, 0, none⟩)), (14, .pointer (some ⟨s, 0, none⟩)), (15, .pointer (some ⟨s, 0, none⟩)), (16, .pointer (some ⟨c, 0, none⟩)), (17, .int .i64 t), (18, .tuple #[.agg #[.slice la ln lc, .slice pa pn pc], .bool rb]), (9, .tuple #[.agg #[.slice la ln lc, .slice pa pn pc], .bool rb]), (19, .agg #[.slice la ln lc, .slice pa pn pc]), (20, .bool rb), (7, .pointer (some ⟨b, 0, none⟩)), (8, .bool rb)])
  (fun b W => Fr No w0 W ∧ W.heap[b]? = some (.cells #[.slice la ln lc, .slice pa pn pc] 34 (0, 0)) ∧ w0.heap.size ≤ b) ?_ ?_
 ·refine wp_region_tree (by kernel_rfl) (.quiet 0 (.quiet 1 (.quiet 3 (.quiet 4 (.quiet 5 (.quiet 6 (.quiet 7 (.two 2 (.two 8 (.quiet 9 (.quiet 10 (.quiet 11 (.one 12 (.one 13 (.quiet 14 .done)))))) 12 (.one 8 (.quiet 9 (.quiet 10 (.quiet 11 (.one 13 (.quiet 14 .done))))))) 12 (.one 2 (.one 8 (.quiet 9 (.quiet 10 (.quiet 11 (.one 13 (.quiet 14 .done))))))))))))))) (AgC [s] w0.drew) (by kernel_rfl) (AgC.refl _ _) ?_
  simp only [fill, nth_zero, nth_succ]
  repeat (refine tree_quiet (fun K hK => ?_); go_simp; refine hK _ ?_; clear hK K)
  refine tree_two ?_ ?_
  ·refine tree_call (by first | rfl | go_simp) 100 #[.pointer (some ⟨s, 0, none⟩), .int .i64 id] (by first | kernel_rfl | go_simp) (HN.out _ (Fr.refl No w0).drew) ?_
   rintro e wn ⟨rfl, rfl⟩
   refine ⟨_, rfl, AgC.refl _ _, ?_⟩
   refine tree_two ?_ ?_
   ·refine tree_call (by first | rfl | go_simp) 113 #[.pointer nx, .pointer (some ⟨c, 0, none⟩), .int .i64 t] (by first | kernel_rfl | go_simp) (HR.out _ (Fr.refl No w0).drew) ?_
    rintro e w8 ⟨rfl, f8⟩
    have a8 := (AgC.refl _ _).fr f8 (fun j hj => by rw [List.mem_singleton.1 hj]; exact ⟨HS.out, fun e => e⟩)
    have F8 := hid ((Fr.refl No w0).drew.thenNo f8)
    refine ⟨_, rfl, a8, ?_⟩
    clear f8
    repeat (refine tree_quiet (fun K hK => ?_); go_simp; refine hK _ ?_; clear hK K)
    refine tree_one (wpList_allocO rfl 34 rfl _ 2 48 infoN ?_)
    intro w3 p3
    have a3 := a8.fr p3.fr (fun j hj => by rw [List.mem_singleton.1 hj]; exact ⟨HS.out, fun e => e⟩)
    have F3 := hid (F8.out.thenNo p3.fr)
    have B3 := hid (show w3.heap[w8.heap.size]? = some (.cells #[.slice none 0 0, .slice none 0 0] 34 (0, 0)) from p3.at_)
    have Z3 := hid (show w0.heap.size ≤ w8.heap.size from F8.out.size)
    refine tree_on a3 ?_
    generalize w8.heap.size = b3 at *
    clear p3
    repeat (refine tree_quiet (fun K hK => ?_); go_simp; refine hK _ ?_; clear hK K)
    refine tree_one (wpList_storeO rfl 34 (.tmp 7) (.tmp 19) rfl b3 0 rfl [.slice none 0 0, .slice none 0 0] 34 [.slice la ln lc, .slice pa pn pc] rfl (by kernel_rfl) B3.out (by simp) (by simp [Value.oneCell']) ?_)
    intro w5 p5
    have P5 := hid (⟨F3.out.fresh p5.fr (fun k e => by subst e; exact Z3.out), p5.at_⟩ : _ ∧ _)
    refine tree_on (a3.fr p5.fr (fun j hj => by rw [List.mem_singleton.1 hj]; exact ⟨HS.out, fun e => by have h1 := Z3.out; have h2 := HS.out; omega⟩)) ?_
    clear p5
    repeat (refine tree_quiet (fun K hK => ?_); go_simp; refine hK _ ?_; clear hK K)
    refine tree_nil ?_
    refine CutPost.mk rfl ⟨b3, ?_, P5.out.1, P5.out.2, Z3.out⟩
    simp only [putsOf_cons, putsOf_nil]
    go_simp
   ·refine tree_one (wpList_allocO rfl 34 rfl _ 2 48 infoN ?_)
    intro w3 p3
    have a3 := (AgC.refl _ _).fr p3.fr (fun j hj => by rw [List.mem_singleton.1 hj]; exact ⟨HS.out, fun e => e⟩)
    have F3 := hid ((Fr.refl No w0).drew.thenNo p3.fr)
    have B3 := hid (show w3.heap[w0.drew.heap.size]? = some (.cells #[.slice none 0 0, .slice none 0 0] 34 (0, 0)) from p3.at_)
    have Z3 := hid (show w0.heap.size ≤ w0.drew.heap.size from (Fr.refl No w0).drew.size)
    refine tree_on a3 ?_
    generalize w0.drew.heap.size = b3 at *
    clear p3
    refine tree_call (by first | rfl | go_simp) 113 #[.pointer nx, .pointer (some ⟨c, 0, none⟩), .int .i64 t] (by first | kernel_rfl | go_simp) (HR.out _ F3.out) ?_
    rintro e w8 ⟨rfl, f8⟩
    have a8 := a3.fr f8 (fun j hj => by rw [List.mem_singleton.1 hj]; exact ⟨HS.out, fun e => e⟩)
    have F8 := hid (F3.out.thenNo f8)
    have B8 := hid (f8.keep B3.out (fun e => e))
    refine ⟨_, rfl, a8, ?_⟩
    clear f8
    repeat (refine tree_quiet (fun K hK => ?_); go_simp; refine hK _ ?_; clear hK K)
    refine tree_one (wpList_storeO rfl 34 (.tmp 7) (.tmp 19) rfl b3 0 rfl [.slice none 0 0, .slice none 0 0] 34 [.slice la ln lc, .slice pa pn pc] rfl (by kernel_rfl) B8.out (by simp) (by simp [Value.oneCell']) ?_)
    intro w5 p5
    have P5 := hid (⟨F8.out.fresh p5.fr (fun k e => by subst e; exact Z3.out), p5.at_⟩ : _ ∧ _)
    refine tree_on (a8.fr p5.fr (fun j hj => by rw [List.mem_singleton.1 hj]; exact ⟨HS.out, fun e => by have h1 := Z3.out; have h2 := HS.out; omega⟩)) ?_
    clear p5
    repeat (refine tree_quiet (fun K hK => ?_); go_simp; refine hK _ ?_; clear hK K)
    refine tree_nil ?_
    refine CutPost.mk rfl ⟨b3, ?_, P5.out.1, P5.out.2, Z3.out⟩
    simp only [putsOf_cons, putsOf_nil]
    go_simp
  ·refine tree_one (wpList_allocO rfl 34 rfl _ 2 48 infoN ?_)
   intro w3 p3
   have a3 := (AgC.refl _ _).fr p3.fr (fun j hj => by rw [List.mem_singleton.1 hj]; exact ⟨HS.out, fun e => e⟩)
   have F3 := hid ((Fr.refl No w0).drew.thenNo p3.fr)
   have B3 := hid (show w3.heap[w0.drew.heap.size]? = some (.cells #[.slice none 0 0, .slice none 0 0] 34 (0, 0)) from p3.at_)
   have Z3 := hid (show w0.heap.size ≤ w0.drew.heap.size from (Fr.refl No w0).drew.size)
   refine tree_on a3 ?_
   generalize w0.drew.heap.size = b3 at *
   clear p3
   refine tree_call (by first | rfl | go_simp) 100 #[.pointer (some ⟨s, 0, none⟩), .int .i64 id] (by first | kernel_rfl | go_simp) (HN.out _ F3.out) ?_
   rintro e wn ⟨rfl, rfl⟩
   refine ⟨_, rfl, a3, ?_⟩
   refine tree_call (by first | rfl | go_simp) 113 #[.pointer nx, .pointer (some ⟨c, 0, none⟩), .int .i64 t] (by first | kernel_rfl | go_simp) (HR.out _ F3.out) ?_
   rintro e w8 ⟨rfl, f8⟩
   have a8 := a3.fr f8 (fun j hj => by rw [List.mem_singleton.1 hj]; exact ⟨HS.out, fun e => e⟩)
   have F8 := hid (F3.out.thenNo f8)
   have B8 := hid (f8.keep B3.out (fun e => e))
   refine ⟨_, rfl, a8, ?_⟩
   clear f8
   repeat (refine tree_quiet (fun K hK => ?_); go_simp; refine hK _ ?_; clear hK K)
   refine tree_one (wpList_storeO rfl 34 (.tmp 7) (.tmp 19) rfl b3 0 rfl [.slice none 0 0, .slice none 0 0] 34 [.slice la ln lc, .slice pa pn pc] rfl (by kernel_rfl) B8.out (by simp) (by simp [Value.oneCell']) ?_)
   intro w5 p5
   have P5 := hid (⟨F8.out.fresh p5.fr (fun k e => by subst e; exact Z3.out), p5.at_⟩ : _ ∧ _)
   refine tree_on (a8.fr p5.fr (fun j hj => by rw [List.mem_singleton.1 hj]; exact ⟨HS.out, fun e => by have h1 := Z3.out; have h2 := HS.out; omega⟩)) ?_
   clear p5
   repeat (refine tree_quiet (fun K hK => ?_); go_simp; refine hK _ ?_; clear hK K)
   refine tree_nil ?_
   refine CutPost.mk rfl ⟨b3, ?_, P5.out.1, P5.out.2, Z3.out⟩
   simp only [putsOf_cons, putsOf_nil]
   go_simp
 rintro b w5 ⟨f5, h5, z5⟩
 have F5 := hid f5
 clear f5 h5 z5
 simp only [putsOf_cons, putsOf_nil]
 go_wp2_with fail
 go_ret
 exact ⟨rfl, F5.out⟩
end Go.Proofs.YthadcdoepoglkaaGreatDoor
namespace Go.Proofs.YthadcdoepoglkaaGreatDoor
open Go.RowKit Go.Lig
def readN (M : PSt) (t id : Int) : Option NodeD := if 1 ≤ id ∧ id ≤ (M.N.length : Int) then readV M.K t (M.N[(id - 1).toNat]?.getD []) else none
def readE (M : PSt) (t id : Int) : Option EdgeV := if 1 ≤ id ∧ id ≤ (M.E.length : Int) then readV M.K t (M.E[(id - 1).toNat]?.getD []) else none
theorem readN_some (M : PSt) (t : Int) (k : Nat) (L : List (Ver NodeD)) (hL : M.N[k]? = some L) : readN M t ((k : Int) + 1) = readV M.K t L := by
 have := (List.getElem?_eq_some_iff.1 hL).1
 unfold readN
 rw [if_pos (by omega), show ((k : Int) + 1 - 1).toNat = k by omega, hL]
 rfl
section
variable {w : World} {ρ : Nat → Option Pt} {s : Nat} {A : Ad} {M : PSt} {F : Nat}
theorem StAt.rdN (h : StAt w ρ s A M F) (t id : Int) : ∃ (la : Option Addr) (ln lc : Nat) (pa : Option Addr) (pn pc : Nat), NodeIn w (At ρ .imm) (.slice la ln lc) (.slice pa pn pc) ((readN M t id).getD NodeD.none) ∧
  ∀ u, Fr No w u → Calls Tryz.prog 113 #[.pointer (ndP A M id), .pointer (some ⟨A.c, 0, none⟩), .int .i64 t] u fun e w' => e = .returned (.tuple #[.agg #[.slice la ln lc, .slice pa pn pc], .bool (readN M t id).isSome]) ∧ Fr No u w' := by
 obtain ⟨gk, hk, -⟩ := h.clock.row
 by_cases hv : 1 ≤ id ∧ id ≤ (M.N.length : Int)
 ·obtain ⟨k, rfl⟩ : ∃ k : Nat, id = (k : Int) + 1 := ⟨(id - 1).toNat, by omega⟩
  have hkl : k < M.N.length := by omega
  obtain ⟨L, hL⟩ : ∃ L, M.N[k]? = some L := ⟨_, List.getElem?_eq_getElem hkl⟩
  obtain ⟨r, ho, hr⟩ := (h.ncell hL).read A.c gk M.K hk h.clock.small.1 t
  rw [ndP_some A M k hkl, readN_some M t k L hL]
  cases r with
  | none =>
   have hn : readV M.K t L = none := by have := ho.is; cases e : readV M.K t L with | none => rfl | some _ => rw [e] at this; cases this
   rw [hn]
   exact ⟨none, 0, 0, none, 0, 0, NodeIn.none _ _, fun u hu => hr u hu⟩
  | some v =>
   obtain ⟨d, hd⟩ : ∃ d, readV M.K t L = some d := by have := ho.is; cases e : readV M.K t L with | none => rw [e] at this; cases this | some d => exact ⟨d, rfl⟩
   rw [hd]
   exact ⟨_, _, _, _, _, _, ho.v v d rfl hd, fun u hu => hr u hu⟩
 ·rw [show readN M t id = none from if_neg hv, show ndP A M id = none from if_neg hv]
  exact ⟨none, 0, 0, none, 0, 0, NodeIn.none _ _, fun u _ => read_nil u A.c t⟩
def edgeCs (v : EdgeV) : Array Value := #[.int .i64 v.from_, .int .i64 v.to_, .string v.type, .float .f64 v.w]
theorem optE_eq (r : Option EdgeV) : Ec.optN r = .agg (edgeCs (r.getD EdgeV.none)) := by cases r <;> rfl
end
theorem reads_any (w : World) (ρ : Nat → Option Pt) (s : Nat) (A : Ad) (M : PSt) (F : Nat) (h : StAt w ρ s A M F) (t id : Int) :
  Calls Tryz.prog 53 #[.pointer (some ⟨s, 0, none⟩), .int .i64 t, .int .i64 id] w fun e w' => e = .returned (.bool (readN M t id).isSome) ∧ Fr No w w' := by
 obtain ⟨la, ln, lc, pa, pn, pc, -, hr⟩ := h.rdN t id
 exact reads_of w s A.c t id (ndP A M id) la ln lc pa pn pc _ h.cells.1 (fun u hu => node_any u ρ s A M F (h.frame hu) id) hr
end Go.Proofs.YthadcdoepoglkaaGreatDoor
namespace Go.Proofs.YthadcdoepoglkaaGreatDoor
open Go.RowKit Go.Lig
inductive TouchTo (t : Int) (M' : PSt) (F' : Nat) : PSt → Nat → List Int → Prop
 | nil : TouchTo t M' F' M' F' []
 | skip {M : PSt} {F : Nat} {id : Int} {l : List Int} (h : readN M t id = none) (r : TouchTo t M' F' M F l) : TouchTo t M' F' M F (id :: l)
 | put {M M1 : PSt} {F F1 : Nat} {k : Nat} {d : NodeD} {l : List Int} (hk : k < M.N.length) (h : readN M t ((k : Int) + 1) = some d) (hF : F < 1000000) (hf : FindsTo (putM M t k d false) M1 (F + 1) F1 k) (r : TouchTo t M' F' M1 F1 l) : TouchTo t M' F' M F (((k : Int) + 1) :: l)
set_option maxRecDepth 100000 in
set_option maxHeartbeats 1000000 in
theorem touches_any (w : World) (ρ : Nat → Option Pt) (s : Nat) (A : Ad) (M : PSt) (F : Nat) (h : StAt w ρ s A M F) (t : Int) (v : Value) (l : List Int) (hr : Rd w v l.length 1 (l.map iv)) (hlen : l.length ≤ 1000) (hb : ∀ k, slBlock v = some k → ¬ Go.Lig.Own ρ k) (M' : PSt) (F' : Nat) (ht : TouchTo t M' F' M F l) :
  Calls Tryz.prog 58 #[.pointer (some ⟨s, 0, none⟩), .int .i64 t, v] w fun e w' => e = .returned (.tuple #[]) ∧ TurnsA w ρ s A M' F' w' := by
 obtain ⟨ao, ca, rfl, -⟩ := rd_len hr
 have HH := hid (⟨h, ht, hr, hb⟩ : _ ∧ _ ∧ _ ∧ _)
 generalize hne : l.length = n at *
 have HNe := hid hne
 clear h ht hr hb hne
 go_enter Tryz.func58, Tryz.ntmps58
 go_wp2_with fail
 go_loopw [12] (fun vi wr => ∃ (i : Nat), i ≤ n ∧ vi = .int .i64 (i : Int) ∧ Hid (∃ M1 F1, TurnsA w ρ s A M1 F1 wr ∧ TouchTo t M' F' M1 F1 (l.drop i))) (fun vi _ => n - (intOf vi).toNat)
 case atStart => exact ⟨0, Nat.zero_le _, rfl, M, F, ⟨ρ, HH.out.1, Gone.refl _ _⟩, by simpa using HH.out.2.1⟩
 case round =>
  obtain ⟨i, hi, rfl, HR0⟩ := hrel
  by_cases hlt : i < n
  ·obtain ⟨M1, F1, ⟨ρ1, h1, g1⟩, ht1⟩ := HR0.out
   obtain ⟨id, hid0⟩ : ∃ id, l[i]? = some id := ⟨_, List.getElem?_eq_getElem (by have := HNe.out; omega)⟩
   have hdr : l.drop i = id :: l.drop (i + 1) := by
    have := (List.getElem?_eq_some_iff.1 hid0).1
    rw [List.drop_eq_getElem_cons this]
    congr 1
    exact (List.getElem?_eq_some_iff.1 hid0).2
   rw [hdr] at ht1
   have hrw : Rd wr (.slice ao n ca) n 1 (l.map iv) := HH.out.2.2.1.frame g1.fr (fun k hk => HH.out.2.2.2 k hk)
   obtain ⟨ba, oa, ca', hva, hca⟩ := hrw.at1 (k := i) (u := iv id) (by simp [hid0])
   obtain ⟨rfl, rfl⟩ : ao = some ⟨ba, oa, none⟩ ∧ ca = ca' := by simpa using hva
   have c1 : wr.cell? ⟨ba, oa + i, none⟩ = some (.int .i64 id) := hca wr (Fr.refl _ _)
   obtain ⟨c, hce⟩ : ∃ c, A.c = c := ⟨_, rfl⟩
   obtain ⟨la, ln, lc, pa, pn, pc, hin, hr⟩ := h1.rdN t id
   have HN : Hid (∀ u, Fr No wr u → Calls Tryz.prog 100 #[.pointer (some ⟨s, 0, none⟩), .int .i64 id] u fun e w' => e = .returned (.pointer (ndP A M1 id)) ∧ u = w') := hid (fun u hu => node_any u ρ1 s A M1 F1 (h1.frame hu) id)
   have x0 := h1.cells.1
   rw [hce] at hr x0
   have HR := hid hr
   have HS : Hid (s < wr.heap.size) := hid h1.lt
   have H1 := hid (⟨h1, g1, ht1, hin, hid0⟩ : _ ∧ _ ∧ _ ∧ _ ∧ _)
   have hw : wrap64 ((i : Int) + 1) = (i : Int) + 1 := by have := HNe.out; unfold wrap64; omega
   generalize ndP A M1 id = nx at *
   generalize hrb : (readN M1 t id).isSome = rb at *
   have HRB := hid hrb
   clear h1 g1 ht1 hin hr hce hdr hva hca hrw hid0 hrb
   go_wp2_with fail
   refine region_cut (fun b => [(17, .pointer (some ⟨s, 0, none⟩)), (18, .int .i64 id), (19, .pointer nx), (20, .pointer (some ⟨s, 0, none⟩)), (21, .pointer (some ⟨s, 0, none⟩)), (22, .pointer (some ⟨s, 0, none⟩)), (23, .pointer (some ⟨c, 0, none⟩)), (24, .int .i64 t), (25, .tuple #[.agg #[.slice la ln lc, .slice pa pn pc], .bool rb]), (16, .tuple #[.agg #[.slice la ln lc, .slice pa pn pc], .bool rb]), (26, .agg #[.slice la ln lc, .slice pa pn pc]), (27, .bool rb), (8, .pointer (some ⟨b, 0, none⟩)), (9, .bool rb)])
    (fun b W => Fr No wr W ∧ W.heap[b]? = some (.cells #[.slice la ln lc, .slice pa pn pc] 34 (0, 0)) ∧ wr.heap.size ≤ b) ?_ ?_
   ·refine wp_region_tree (by kernel_rfl) (.quiet 0 (.quiet 1 (.quiet 3 (.quiet 4 (.quiet 5 (.quiet 6 (.quiet 7 (.two 2 (.two 8 (.quiet 9 (.quiet 10 (.quiet 11 (.one 12 (.one 13 (.quiet 14 .done)))))) 12 (.one 8 (.quiet 9 (.quiet 10 (.quiet 11 (.one 13 (.quiet 14 .done))))))) 12 (.one 2 (.one 8 (.quiet 9 (.quiet 10 (.quiet 11 (.one 13 (.quiet 14 .done))))))))))))))) (AgC [s] wr.drew) (by kernel_rfl) (AgC.refl _ _) ?_
    simp only [fill, nth_zero, nth_succ]
    repeat (refine tree_quiet (fun K hK => ?_); go_simp; refine hK _ ?_; clear hK K)
    refine tree_two ?_ ?_
    ·refine tree_call (by first | rfl | go_simp) 100 #[.pointer (some ⟨s, 0, none⟩), .int .i64 id] (by first | kernel_rfl | go_simp) (HN.out _ (Fr.refl No wr).drew) ?_
     rintro e wn ⟨rfl, rfl⟩
     refine ⟨_, rfl, AgC.refl _ _, ?_⟩
     refine tree_two ?_ ?_
     ·refine tree_call (by first | rfl | go_simp) 113 #[.pointer nx, .pointer (some ⟨c, 0, none⟩), .int .i64 t] (by first | kernel_rfl | go_simp) (HR.out _ (Fr.refl No wr).drew) ?_
      rintro e w8 ⟨rfl, f8⟩
      have a8 := (AgC.refl _ _).fr f8 (fun j hj => by rw [List.mem_singleton.1 hj]; exact ⟨HS.out, fun e => e⟩)
      have F8 := hid ((Fr.refl No wr).drew.thenNo f8)
      refine ⟨_, rfl, a8, ?_⟩
      clear f8
      repeat (refine tree_quiet (fun K hK => ?_); go_simp; refine hK _ ?_; clear hK K)
      refine tree_one (wpList_allocO rfl 34 rfl _ 2 48 infoN ?_)
      intro w3 p3
      have a3 := a8.fr p3.fr (fun j hj => by rw [List.mem_singleton.1 hj]; exact ⟨HS.out, fun e => e⟩)
      have F3 := hid (F8.out.thenNo p3.fr)
      have B3 := hid (show w3.heap[w8.heap.size]? = some (.cells #[.slice none 0 0, .slice none 0 0] 34 (0, 0)) from p3.at_)
      have Z3 := hid (show wr.heap.size ≤ w8.heap.size from F8.out.size)
      refine tree_on a3 ?_
      generalize w8.heap.size = b3 at *
      clear p3
      repeat (refine tree_quiet (fun K hK => ?_); go_simp; refine hK _ ?_; clear hK K)
      refine tree_one (wpList_storeO rfl 34 (.tmp 8) (.tmp 26) rfl b3 0 rfl [.slice none 0 0, .slice none 0 0] 34 [.slice la ln lc, .slice pa pn pc] rfl (by kernel_rfl) B3.out (by simp) (by simp [Value.oneCell']) ?_)
      intro w5 p5
      have P5 := hid (⟨F3.out.fresh p5.fr (fun k e => by subst e; exact Z3.out), p5.at_⟩ : _ ∧ _)
      refine tree_on (a3.fr p5.fr (fun j hj => by rw [List.mem_singleton.1 hj]; exact ⟨HS.out, fun e => by have h1 := Z3.out; have h2 := HS.out; omega⟩)) ?_
      clear p5
      repeat (refine tree_quiet (fun K hK => ?_); go_simp; refine hK _ ?_; clear hK K)
      refine tree_nil ?_
      refine CutPost.mk rfl ⟨b3, ?_, P5.out.1, P5.out.2, Z3.out⟩
      simp only [putsOf_cons, putsOf_nil]
      go_simp
     ·refine tree_one (wpList_allocO rfl 34 rfl _ 2 48 infoN ?_)
      intro w3 p3
      have a3 := (AgC.refl _ _).fr p3.fr (fun j hj => by rw [List.mem_singleton.1 hj]; exact ⟨HS.out, fun e => e⟩)
      have F3 := hid ((Fr.refl No wr).drew.thenNo p3.fr)
      have B3 := hid (show w3.heap[wr.drew.heap.size]? = some (.cells #[.slice none 0 0, .slice none 0 0] 34 (0, 0)) from p3.at_)
      have Z3 := hid (show wr.heap.size ≤ wr.drew.heap.size from (Fr.refl No wr).drew.size)
      refine tree_on a3 ?_
      generalize wr.drew.heap.size = b3 at *
      clear p3
      refine tree_call (by first | rfl | go_simp) 113 #[.pointer nx, .pointer (some ⟨c, 0, none⟩), .int .i64 t] (by first | kernel_rfl | go_simp) (HR.out _ F3.out) ?_
      rintro e w8 ⟨rfl, f8⟩
      have a8 := a3.fr f8 (fun j hj => by rw [List.mem_singleton.1 hj]; exact ⟨HS.out, fun e => e⟩)
      have F8 := hid (F3.out.thenNo f8)
      have B8 := hid (f8.keep B3.out (fun e => e))
      refine ⟨_, rfl, a8, ?_⟩
      clear f8
      repeat (refine tree_quiet (fun K hK => ?_); go_simp; refine hK _ ?_; clear hK K)
      refine tree_one (wpList_storeO rfl 34 (.tmp 8) (.tmp 26) rfl b3 0 rfl [.slice none 0 0, .slice none 0 0] 34 [.slice la ln lc, .slice pa pn pc] rfl (by kernel_rfl) B8.out (by simp) (by simp [Value.oneCell']) ?_)
      intro w5 p5
      have P5 := hid (⟨F8.out.fresh p5.fr (fun k e => by subst e; exact Z3.out), p5.at_⟩ : _ ∧ _)
      refine tree_on (a8.fr p5.fr (fun j hj => by rw [List.mem_singleton.1 hj]; exact ⟨HS.out, fun e => by have h1 := Z3.out; have h2 := HS.out; omega⟩)) ?_
      clear p5
      repeat (refine tree_quiet (fun K hK => ?_); go_simp; refine hK _ ?_; clear hK K)
      refine tree_nil ?_
      refine CutPost.mk rfl ⟨b3, ?_, P5.out.1, P5.out.2, Z3.out⟩
      simp only [putsOf_cons, putsOf_nil]
      go_simp
    ·refine tree_one (wpList_allocO rfl 34 rfl _ 2 48 infoN ?_)
     intro w3 p3
     have a3 := (AgC.refl _ _).fr p3.fr (fun j hj => by rw [List.mem_singleton.1 hj]; exact ⟨HS.out, fun e => e⟩)
     have F3 := hid ((Fr.refl No wr).drew.thenNo p3.fr)
     have B3 := hid (show w3.heap[wr.drew.heap.size]? = some (.cells #[.slice none 0 0, .slice none 0 0] 34 (0, 0)) from p3.at_)
     have Z3 := hid (show wr.heap.size ≤ wr.drew.heap.size from (Fr.refl No wr).drew.size)
     refine tree_on a3 ?_
     generalize wr.drew.heap.size = b3 at *
     clear p3
     refine tree_call (by first | rfl | go_simp) 100 #[.pointer (some ⟨s, 0, none⟩), .int .i64 id] (by first | kernel_rfl | go_simp) (HN.out _ F3.out) ?_
     rintro e wn ⟨rfl, rfl⟩
     refine ⟨_, rfl, a3, ?_⟩
     refine tree_call (by first | rfl | go_simp) 113 #[.pointer nx, .pointer (some ⟨c, 0, none⟩), .int .i64 t] (by first | kernel_rfl | go_simp) (HR.out _ F3.out) ?_
     rintro e w8 ⟨rfl, f8⟩
     have a8 := a3.fr f8 (fun j hj => by rw [List.mem_singleton.1 hj]; exact ⟨HS.out, fun e => e⟩)
     have F8 := hid (F3.out.thenNo f8)
     have B8 := hid (f8.keep B3.out (fun e => e))
     refine ⟨_, rfl, a8, ?_⟩
     clear f8
     repeat (refine tree_quiet (fun K hK => ?_); go_simp; refine hK _ ?_; clear hK K)
     refine tree_one (wpList_storeO rfl 34 (.tmp 8) (.tmp 26) rfl b3 0 rfl [.slice none 0 0, .slice none 0 0] 34 [.slice la ln lc, .slice pa pn pc] rfl (by kernel_rfl) B8.out (by simp) (by simp [Value.oneCell']) ?_)
     intro w5 p5
     have P5 := hid (⟨F8.out.fresh p5.fr (fun k e => by subst e; exact Z3.out), p5.at_⟩ : _ ∧ _)
     refine tree_on (a8.fr p5.fr (fun j hj => by rw [List.mem_singleton.1 hj]; exact ⟨HS.out, fun e => by have h1 := Z3.out; have h2 := HS.out; omega⟩)) ?_
     clear p5
     repeat (refine tree_quiet (fun K hK => ?_); go_simp; refine hK _ ?_; clear hK K)
     refine tree_nil ?_
     refine CutPost.mk rfl ⟨b3, ?_, P5.out.1, P5.out.2, Z3.out⟩
     simp only [putsOf_cons, putsOf_nil]
     go_simp
   rintro b w5 ⟨f5, h5, z5⟩
   obtain ⟨d0, d1⟩ := cells2 h5
   have H5 := hid f5
   clear f5 h5 z5 c1 x0
   simp only [putsOf_cons, putsOf_nil]
   cases rb with
   | false =>
    go_wp2_with fail
    go_roundw
    case rel =>
     refine ⟨i + 1, by omega, by go_num, ?_⟩
     obtain ⟨h1, g1, ht1, hin, hid0⟩ := H1.out
     have hn : readN M1 t id = none := by have := HRB.out; cases e : readN M1 t id with | none => rfl | some _ => rw [e] at this; cases this
     refine ⟨M1, F1, ⟨ρ1, h1.frame H5.out, g1.nextNo H5.out⟩, ?_⟩
     cases ht1 with
     | skip h r => exact r
     | put hk h _ _ _ => rw [hn] at h; cases h
    case measure => simp [intOf]; omega
   | true =>
    obtain ⟨h1, g1, ht1, hin, hid0⟩ := H1.out
    obtain ⟨d, hd⟩ : ∃ d, readN M1 t id = some d := by have := HRB.out; cases e : readN M1 t id with | none => rw [e] at this; cases this | some d => exact ⟨d, rfl⟩
    rw [hd] at hin
    obtain ⟨k, M2, F2, rfl, hk, hF, hf, ht2⟩ : ∃ (k : Nat) (M2 : PSt) (F2 : Nat), id = (k : Int) + 1 ∧ k < M1.N.length ∧ F1 < 1000000 ∧ FindsTo (putM M1 t k d false) M2 (F1 + 1) F2 k ∧ TouchTo t M' F' M2 F2 (l.drop (i + 1)) := by
     cases ht1 with
     | skip h r => rw [hd] at h; cases h
     | put hk h hF hf r =>
      rw [hd] at h
      obtain rfl := Option.some.inj h
      exact ⟨_, _, _, rfl, hk, hF, hf, r⟩
    have HP := hid (puts_any w5 ρ1 s A M1 F1 (h1.frame H5.out) t k hk la pa ln lc pn pc d (hin.of.frame H5.out) hin.few.1 hin.few.2 false hF M2 F2 hf)
    have HG := hid (⟨g1.nextNo H5.out, ht2⟩ : _ ∧ _)
    clear h1 g1 ht1 hin hid0 hd hk hF hf ht2 H1 HN HR
    go_wp2_with (go_at_call 55; refine HP.out.mono ?_; rintro e w6 ⟨rfl, h6⟩; have H6 := hid h6; clear h6)
    go_roundw
    case rel =>
     refine ⟨i + 1, by omega, by go_num, ?_⟩
     obtain ⟨ρ6, h6, g6⟩ := H6.out
     exact ⟨M2, F2, ⟨ρ6, h6, HG.out.1.trans g6⟩, HG.out.2⟩
    case measure => simp [intOf]; omega
  ·obtain rfl : i = n := by omega
   go_wp2_with fail
   go_end0
   obtain ⟨M1, F1, t1, ht1⟩ := HR0.out
   rw [List.drop_eq_nil_of_le (by have := HNe.out; omega)] at ht1
   cases ht1
   exact ⟨rfl, t1⟩
end Go.Proofs.YthadcdoepoglkaaGreatDoor
