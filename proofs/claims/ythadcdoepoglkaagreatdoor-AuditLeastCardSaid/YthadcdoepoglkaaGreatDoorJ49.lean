/- A part of the proof: contracts of functions of the program, for the row's text. -/
import Derived.Test.YthadcdoepoglkaaGreatDoorJ48
namespace Go.Proofs.YthadcdoepoglkaaGreatDoor
open Go.RowKit Go.Lig
section
variable {w : World} {J : Nat → Prop} {ρ : Nat → Option Rp} {s : Nat} {A : RAd} {v : VS} {F : Nat}
theorem RfAt.ckN (h : RfAt w J ρ s A v F) (t : Int) {k : Nat} (hk : k < v.N.length) : Calls Tryz.prog 153 #[.pointer (some ⟨A.x k, 0, none⟩), .pointer (some ⟨A.c, 0, none⟩), .int .i64 t] w fun e w' => e = .returned (.int .i64 (rerr (clashV v.K t (v.nc ((k : Int) + 1))))) ∧ Fr No w w' := by
 have hL : v.N[k]? = some v.N[k] := List.getElem?_eq_getElem hk
 obtain ⟨H, c1, c2, -⟩ := h.ncell hL
 obtain ⟨g, hr, -⟩ := c1.row
 obtain ⟨gk, hck, -⟩ := h.clock.row
 have e : v.nc ((k : Int) + 1) = v.N[k] := by unfold VS.nc; rw [cellOf_nat, hL]; rfl
 rw [e, ← c2.clash v.K t]
 exact rcheck_any w (A.x k) g A.c gk H v.K hr hck t
end
end Go.Proofs.YthadcdoepoglkaaGreatDoor
namespace Go.Proofs.YthadcdoepoglkaaGreatDoor
open Go.RowKit Go.Lig
theorem VOk.put_rd {v : VS} (h : VOk v) {t : Int} (hl : v.K.live t = true) {k : Nat} (hk : k < v.N.length) (hc : clashV v.K t (v.nc ((k : Int) + 1)) = false) (d : NodeD) {n : Int} (hr : (v.rdN t n).isSome = true) : ((vPut v t k d false).rdN t n).isSome = true := by
 show (readV v.K t ((vPut v t k d false).nc n)).isSome = true
 rw [vPut_nc hk]
 split
 ·rw [read_write_self (h.n _) hl hc]
  rfl
 ·exact hr
theorem vTouch_two {v : VS} {t : Int} {a b : Nat} {da db : NodeD} (ha : v.rdN t ((a : Int) + 1) = some da) (hb : (vPut v t a da false).rdN t ((b : Int) + 1) = some db) : vTouch t v [(a : Int) + 1, (b : Int) + 1] = vPut (vPut v t a da false) t b db false := by
 have e1 : vTouch1 t v ((a : Int) + 1) = vPut v t a da false := by unfold vTouch1; rw [ha, show ((a : Int) + 1 - 1).toNat = a by omega]
 have e2 : vTouch1 t (vPut v t a da false) ((b : Int) + 1) = vPut (vPut v t a da false) t b db false := by unfold vTouch1; rw [hb, show ((b : Int) + 1 - 1).toNat = b by omega]
 show vTouch1 t (vTouch1 t v ((a : Int) + 1)) ((b : Int) + 1) = _
 rw [e1, e2]
set_option maxRecDepth 100000 in
set_option maxHeartbeats 4000000 in
theorem rstouch_any (w : World) (J : Nat → Prop) (ρ : Nat → Option Rp) (s : Nat) (A : RAd) (v : VS) (F : Nat) (h : RfAt w J ρ s A v F) (ho : Old w J) (hv : VOk v) (t : Int) (hl : v.K.live t = true) {a b : Nat} (ha : a < v.N.length) (hb : b < v.N.length) (hra : (v.rdN t ((a : Int) + 1)).isSome = true) (hrb : (v.rdN t ((b : Int) + 1)).isSome = true) (ey : ByteArray) (ew : Nat) (hF : F < 999980) :
  Calls Tryz.prog 75 #[.pointer (some ⟨s, 0, none⟩), .int .i64 t, .agg #[.int .i64 ((a : Int) + 1), .int .i64 ((b : Int) + 1), .string ey, .float .f64 ew]] w fun e w' =>
   e = .returned (.bool (!(clashV v.K t (v.nc ((a : Int) + 1)) || clashV v.K t (v.nc ((b : Int) + 1))))) ∧ RTurns w J ρ s (if clashV v.K t (v.nc ((a : Int) + 1)) || clashV v.K t (v.nc ((b : Int) + 1)) then v else vTouch t v [(a : Int) + 1, (b : Int) + 1]) (F + 2) w' := by
 have hbx := heap1 w (.cells #[.int .i64 ((a : Int) + 1), .int .i64 ((b : Int) + 1), .string ey, .float .f64 ew] 48)
 have hfr : Fr No w (w.alloc (.cells #[.int .i64 ((a : Int) + 1), .int .i64 ((b : Int) + 1), .string ey, .float .f64 ew] 48)) := (Fr.refl No w).alloc _
 obtain ⟨w0, hw0⟩ : ∃ w0, w.alloc (.cells #[.int .i64 ((a : Int) + 1), .int .i64 ((b : Int) + 1), .string ey, .float .f64 ew] 48) = w0 := ⟨_, rfl⟩
 rw [hw0] at hbx hfr
 have h0 := h.no hfr
 have HCK := hid (fun u (hu : Fr No w0 u) (k : Nat) (hk : k < v.N.length) => (h0.no hu).ckN t hk)
 replace HCK := hid (fun (u : World) (hu : Fr No w0 u) (k : Nat) (hk : k < v.N.length) (c : Bool) (hc : clashV v.K t (v.nc ((k : Int) + 1)) = c) => (show Calls Tryz.prog 153 #[.pointer (some ⟨A.x k, 0, none⟩), .pointer (some ⟨A.c, 0, none⟩), .int .i64 t] u fun e w' => e = .returned (.int .i64 (rerr c)) ∧ Fr No u w' from by rw [← hc]; exact HCK.out u hu k hk))
 obtain ⟨c0, c1, -, -⟩ := cells4 hbx
 obtain ⟨x0, x1, -⟩ := h0.cells
 obtain ⟨g, n, hnv, hx⟩ := h0.xAt ha
 obtain ⟨g', n', hnv', hy⟩ := h0.xAt hb
 rw [hnv] at x1 hnv'
 obtain ⟨e1, -, -⟩ := Value.slice.inj hnv'
 obtain rfl : g = g' := by simpa using e1
 have px := hx w0 (Fr.refl _ _)
 have py := hy w0 (Fr.refl _ _)
 have hn1 := h0.nlen
 have hwa : IntKind.i64.wrap (a : Int) = (a : Int) := IntWalk.i64_in _ (by omega)
 have hwb : IntKind.i64.wrap (b : Int) = (b : Int) := IntWalk.i64_in _ (by omega)
 have HGB := hid (⟨World.block_lt_of_cell? _ _ px, World.block_lt_of_cell? _ _ x0, lt_of_block hbx⟩ : _ ∧ _ ∧ _)
 obtain ⟨da, hda⟩ := Option.isSome_iff_exists.1 hra
 have HF := hid (⟨h, h0, ho, hfr, hF, hbx, hv, hl⟩ : _ ∧ _ ∧ _ ∧ _ ∧ _ ∧ _ ∧ _ ∧ _)
 have HR := hid (⟨ha, hb, hda, hrb⟩ : _ ∧ _ ∧ _ ∧ _)
 obtain ⟨m, hm⟩ : ∃ m, v.N.length = m := ⟨_, rfl⟩
 rw [hm] at x1 hn1 ha hb
 clear h h0 ho hfr hF hbx hv hl hra hrb hda hnv hnv' e1 hx hy hm
 cases hca : clashV v.K t (v.nc ((a : Int) + 1)) with
 | true =>
  simp only [Bool.true_or, Bool.not_true, ↓reduceIte]
  have HCA := hid hca
  clear hca
  go_enter Tryz.func75, Tryz.ntmps75
  go_wp2_with fail
  refine wp_region_sched (by kernel_rfl) 34 [14, 31] [0, 1, 2, 3, 4, 5, 6, 7, 8, 9, 10, 11, 12, 13, 14, 15, 16, 17, 18, 19, 20, 21, 22, 23, 24, 25, 26, 27, 28, 29, 30, 31, 32, 33] (AgC [s, g, w.heap.size] w0.drew) (by kernel_rfl) (AgC.refl _ _) ?_
  simp only [List.map_cons, List.map_nil, List.contains_cons, List.contains_nil, nth_zero, nth_succ, Nat.reduceBEq, Bool.false_or, Bool.or_false, Bool.or_true, Bool.true_or]
  repeat (refine sched_quiet (fun K hK => ?_); go_simp; refine hK _ ?_; clear hK K)
  refine sched_call ?_ 153 #[.pointer (some ⟨A.x a, 0, none⟩), .pointer (some ⟨A.c, 0, none⟩), .int .i64 t] ?_ (HCK.out _ (Fr.refl No w0).drew _ HR.out.1 true HCA.out) ?_
  focus (first | rfl | (go_simp; done))
  focus (first | rfl | (go_simp; done))
  rintro e w4 ⟨rfl, f4⟩
  have a4 : AgC [s, g, w.heap.size] w0.drew w4 := (AgC.refl [s, g, w.heap.size] w0.drew).fr f4 (fun j hj => by
   simp only [List.mem_cons, List.not_mem_nil, or_false] at hj
   rcases hj with rfl | rfl | rfl
   ·exact ⟨HGB.out.2.1, fun e => e⟩
   ·exact ⟨HGB.out.1, fun e => e⟩
   ·exact ⟨HGB.out.2.2, fun e => e⟩)
  have F4 := hid ((Fr.refl No w0).drew.thenNo f4)
  clear f4
  refine ⟨_, rfl, a4, ?_⟩
  have e6 : rerr true = 6 := rfl
  rw [e6]
  clear e6
  repeat (first | (refine sched_quiet (fun K hK => ?_); go_simp; refine hK _ ?_; clear hK K) | (refine sched_skip ?_ a4 ?_; focus (first | rfl | (go_simp; done))))
  refine sched_nil ?_
  clear a4
  go_wp2_with fail
  go_ret
  exact ⟨rfl, RTurns.ofNo (HF.out.1.more (by omega)) (HF.out.2.2.2.1.thenNo F4.out)⟩
 | false =>
  cases hcb : clashV v.K t (v.nc ((b : Int) + 1)) with
  | true =>
   simp only [Bool.false_or, Bool.not_true, ↓reduceIte]
   have HCA := hid hca
   have HCB := hid hcb
   clear hca hcb
   go_enter Tryz.func75, Tryz.ntmps75
   go_wp2_with fail
   refine wp_region_sched (by kernel_rfl) 34 [14, 31] [0, 1, 2, 3, 4, 5, 6, 7, 8, 9, 10, 11, 12, 13, 14, 15, 16, 17, 18, 19, 20, 21, 22, 23, 24, 25, 26, 27, 28, 29, 30, 31, 32, 33] (AgC [s, g, w.heap.size] w0.drew) (by kernel_rfl) (AgC.refl _ _) ?_
   simp only [List.map_cons, List.map_nil, List.contains_cons, List.contains_nil, nth_zero, nth_succ, Nat.reduceBEq, Bool.false_or, Bool.or_false, Bool.or_true, Bool.true_or]
   repeat (refine sched_quiet (fun K hK => ?_); go_simp; refine hK _ ?_; clear hK K)
   refine sched_call ?_ 153 #[.pointer (some ⟨A.x a, 0, none⟩), .pointer (some ⟨A.c, 0, none⟩), .int .i64 t] ?_ (HCK.out _ (Fr.refl No w0).drew _ HR.out.1 false HCA.out) ?_
   focus (first | rfl | (go_simp; done))
   focus (first | rfl | (go_simp; done))
   rintro e w4 ⟨rfl, f4⟩
   have a4 : AgC [s, g, w.heap.size] w0.drew w4 := (AgC.refl [s, g, w.heap.size] w0.drew).fr f4 (fun j hj => by
    simp only [List.mem_cons, List.not_mem_nil, or_false] at hj
    rcases hj with rfl | rfl | rfl
    ·exact ⟨HGB.out.2.1, fun e => e⟩
    ·exact ⟨HGB.out.1, fun e => e⟩
    ·exact ⟨HGB.out.2.2, fun e => e⟩)
   have F4 := hid ((Fr.refl No w0).drew.thenNo f4)
   clear f4
   refine ⟨_, rfl, a4, ?_⟩
   have e6 : rerr false = 0 := rfl
   rw [e6]
   clear e6
   repeat (refine sched_quiet (fun K hK => ?_); go_simp; refine hK _ ?_; clear hK K)
   refine sched_call ?_ 153 #[.pointer (some ⟨A.x b, 0, none⟩), .pointer (some ⟨A.c, 0, none⟩), .int .i64 t] ?_ (HCK.out _ F4.out _ HR.out.2.1 true HCB.out) ?_
   focus (first | rfl | (go_simp; done))
   focus (first | rfl | (go_simp; done))
   rintro e w5 ⟨rfl, f4⟩
   have a5 : AgC [s, g, w.heap.size] w0.drew w5 := a4.fr f4 (fun j hj => by
    simp only [List.mem_cons, List.not_mem_nil, or_false] at hj
    rcases hj with rfl | rfl | rfl
    ·exact ⟨HGB.out.2.1, fun e => e⟩
    ·exact ⟨HGB.out.1, fun e => e⟩
    ·exact ⟨HGB.out.2.2, fun e => e⟩)
   have F5 := hid (F4.out.thenNo f4)
   clear f4
   refine ⟨_, rfl, a5, ?_⟩
   have e6 : rerr true = 6 := rfl
   rw [e6]
   clear e6 a4
   repeat (refine sched_quiet (fun K hK => ?_); go_simp; refine hK _ ?_; clear hK K)
   refine sched_nil ?_
   clear a5
   go_wp2_with fail
   go_ret
   exact ⟨rfl, RTurns.ofNo (HF.out.1.more (by omega)) (HF.out.2.2.2.1.thenNo F5.out)⟩
  | false =>
   simp only [Bool.or_self, Bool.not_false, Bool.false_eq_true, ↓reduceIte]
   have HCA := hid hca
   have HCB := hid hcb
   obtain ⟨db, hdb⟩ := Option.isSome_iff_exists.1 (HF.out.2.2.2.2.2.2.1.put_rd HF.out.2.2.2.2.2.2.2 HR.out.1 hca da HR.out.2.2.2)
   have hva : vNode v t ((a : Int) + 1) = some da := by unfold vNode; rw [if_pos HF.out.2.2.2.2.2.2.2]; exact HR.out.2.2.1
   have hvb : vNode (vPut v t a da false) t ((b : Int) + 1) = some db := by unfold vNode; rw [if_pos (show (vPut v t a da false).K.live t = true from HF.out.2.2.2.2.2.2.2)]; exact hdb
   have HE := hid (vTouch_two HR.out.2.2.1 hdb)
   have HND := hid (fun u (hu : Fr No w0 u) => rsnode_any u J ρ s A v F (HF.out.2.1.no hu) (HF.out.2.2.1.next (HF.out.2.2.2.1.thenNo hu)) t ((a : Int) + 1))
   rw [hva] at HND
   simp only [Option.isSome_some, Option.getD_some] at HND
   have HVB := hid hvb
   clear hca hcb hva hvb hdb
   go_enter Tryz.func75, Tryz.ntmps75
   go_wp2_with fail
   refine wp_region_sched (by kernel_rfl) 34 [14, 31] [0, 1, 2, 3, 4, 5, 6, 7, 8, 9, 10, 11, 12, 13, 14, 15, 16, 17, 18, 19, 20, 21, 22, 23, 24, 25, 26, 27, 28, 29, 30, 31, 32, 33] (AgC [s, g, w.heap.size] w0.drew) (by kernel_rfl) (AgC.refl _ _) ?_
   simp only [List.map_cons, List.map_nil, List.contains_cons, List.contains_nil, nth_zero, nth_succ, Nat.reduceBEq, Bool.false_or, Bool.or_false, Bool.or_true, Bool.true_or]
   repeat (refine sched_quiet (fun K hK => ?_); go_simp; refine hK _ ?_; clear hK K)
   refine sched_call ?_ 153 #[.pointer (some ⟨A.x a, 0, none⟩), .pointer (some ⟨A.c, 0, none⟩), .int .i64 t] ?_ (HCK.out _ (Fr.refl No w0).drew _ HR.out.1 false HCA.out) ?_
   focus (first | rfl | (go_simp; done))
   focus (first | rfl | (go_simp; done))
   rintro e w4 ⟨rfl, f4⟩
   have a4 : AgC [s, g, w.heap.size] w0.drew w4 := (AgC.refl [s, g, w.heap.size] w0.drew).fr f4 (fun j hj => by
    simp only [List.mem_cons, List.not_mem_nil, or_false] at hj
    rcases hj with rfl | rfl | rfl
    ·exact ⟨HGB.out.2.1, fun e => e⟩
    ·exact ⟨HGB.out.1, fun e => e⟩
    ·exact ⟨HGB.out.2.2, fun e => e⟩)
   have F4 := hid ((Fr.refl No w0).drew.thenNo f4)
   clear f4
   refine ⟨_, rfl, a4, ?_⟩
   have e6 : rerr false = 0 := rfl
   rw [e6]
   repeat (refine sched_quiet (fun K hK => ?_); go_simp; refine hK _ ?_; clear hK K)
   refine sched_call ?_ 153 #[.pointer (some ⟨A.x b, 0, none⟩), .pointer (some ⟨A.c, 0, none⟩), .int .i64 t] ?_ (HCK.out _ F4.out _ HR.out.2.1 false HCB.out) ?_
   focus (first | rfl | (go_simp; done))
   focus (first | rfl | (go_simp; done))
   rintro e w5 ⟨rfl, f4⟩
   have a5 : AgC [s, g, w.heap.size] w0.drew w5 := a4.fr f4 (fun j hj => by
    simp only [List.mem_cons, List.not_mem_nil, or_false] at hj
    rcases hj with rfl | rfl | rfl
    ·exact ⟨HGB.out.2.1, fun e => e⟩
    ·exact ⟨HGB.out.1, fun e => e⟩
    ·exact ⟨HGB.out.2.2, fun e => e⟩)
   have F5 := hid (F4.out.thenNo f4)
   clear f4
   refine ⟨_, rfl, a5, ?_⟩
   rw [e6]
   clear e6 a4
   repeat (refine sched_quiet (fun K hK => ?_); go_simp; refine hK _ ?_; clear hK K)
   refine sched_nil ?_
   clear a5 px py x0 x1 c0 c1
   obtain ⟨c0, c1, -, -⟩ := cells4 (F5.out.keep HF.out.2.2.2.2.2.1 (fun e => e))
   go_wp2_with (go_at_call 74; (with_reducible refine (HND.out _ F5.out).mono ?_); rintro e w6 ⟨la, ln, lc, pa, pn, pc, rfl, i6, f6⟩; have bz := heap1 w6 (.cells #[.slice la ln lc, .slice pa pn pc] 34); obtain ⟨w7, hw7⟩ : ∃ w7, w6.alloc (.cells #[.slice la ln lc, .slice pa pn pc] 34) = w7 := ⟨_, rfl⟩; rw [hw7] at bz; obtain ⟨d0, d1⟩ := cells2 bz; have f67 : Fr No w6 w7 := (by rw [← hw7]; exact (Fr.refl No w6).alloc _); have F7 := hid (F5.out.thenNo (f6.thenNo f67)); have I7 := hid (i6.frame f67 (fun _ _ e => e)); obtain ⟨z0, z1, -, -⟩ := cells4 (F7.out.keep HF.out.2.2.2.2.2.1 (fun e => e)); clear f6 i6 bz f67)
   (try rw [hw7])
   have hnb : ¬ Go.Lig.Own ρ w.heap.size := fun e => by
    have := HF.out.1.bound _ e
    omega
   have HB7 := hid (F7.out.keep HF.out.2.2.2.2.2.1 (fun e => e))
   have HNB := hid hnb
   have HO7 := hid (HF.out.2.2.1.next (HF.out.2.2.2.1.thenNo F7.out))
   have HP := hid (rsputnode_any w7 J ρ s A v F (HF.out.2.1.no F7.out) HO7.out t HR.out.1 la ln lc pa pn pc da I7.out false (by have := HF.out.2.2.2.2.1; omega))
   clear hnb c0 c1
   go_wp2_with (go_at_call 73; (with_reducible refine HP.out.mono ?_); rintro e w8 ⟨rfl, ρ8, A8, h8, G8⟩; have hb8 := (G8.keep HB7.out HNB.out).1; obtain ⟨y0, y1, -, -⟩ := cells4 hb8; have H8 := hid (⟨h8, (Gone.no (HF.out.2.2.2.1.thenNo F7.out)).trans G8, hb8, HO7.out.next G8.fr⟩ : _ ∧ _ ∧ _ ∧ _); clear h8 G8 hb8)
   have HND2 := hid (rsnode_any w8 J ρ8 s A8 (vPut v t a da false) (F + 1) H8.out.1 H8.out.2.2.2 t ((b : Int) + 1))
   rw [HVB.out] at HND2
   simp only [Option.isSome_some, Option.getD_some] at HND2
   clear d0 d1 z0 z1
   go_wp2_with (go_at_call 74; (with_reducible refine (HND2.out).mono ?_); rintro e w6 ⟨la, ln, lc, pa, pn, pc, rfl, i6, f6⟩; have bz := heap1 w6 (.cells #[.slice la ln lc, .slice pa pn pc] 34); obtain ⟨w7, hw7⟩ : ∃ w7, w6.alloc (.cells #[.slice la ln lc, .slice pa pn pc] 34) = w7 := ⟨_, rfl⟩; rw [hw7] at bz; obtain ⟨d0, d1⟩ := cells2 bz; have f67 : Fr No w6 w7 := (by rw [← hw7]; exact (Fr.refl No w6).alloc _); have F7 := hid ((Fr.refl No w8).thenNo (f6.thenNo f67)); have I7 := hid (i6.frame f67 (fun _ _ e => e)); obtain ⟨z0, z1, -, -⟩ := cells4 (F7.out.keep H8.out.2.2.1 (fun e => e)); clear f6 i6 bz f67)
   (try rw [hw7])
   have HP2 := hid (rsputnode_any w7 J ρ8 s A8 (vPut v t a da false) (F + 1) (H8.out.1.no F7.out) (H8.out.2.2.2.next F7.out) t (k := b) (by have := HR.out.2.1; simpa [vPut] using this) la ln lc pa pn pc db I7.out false (by have := HF.out.2.2.2.2.1; omega))
   clear y0 y1
   go_wp2_with (go_at_call 73; (with_reducible refine HP2.out.mono ?_); rintro e w9 ⟨rfl, ρ9, A9, h9, G9⟩; have H9 := hid (⟨h9, G9⟩ : _ ∧ _); clear h9 G9)
   go_ret
   exact ⟨rfl, ρ9, A9, by rw [HE.out]; exact H9.out.1, (H8.out.2.1.nextNo F7.out).trans H9.out.2⟩
end Go.Proofs.YthadcdoepoglkaaGreatDoor
namespace Go.Proofs.YthadcdoepoglkaaGreatDoor
open Go.RowKit Go.Lig
section
variable {w w' : World} {J : Nat → Prop} {ρ : Nat → Option Rp} {s : Nat} {A A' : RAd} {v v' : VS} {p : Rp} {T : Nat → Prop} {F F' : Nat}
theorem RfAt.eNew (h : RfAt w J ρ s A v F) (ho : Old w J) (hf : Fr No w w') {b : Nat} (hb0 : w.heap.size ≤ b) (hb1 : b < w'.heap.size) : ∃ ρ', At ρ' (.edge v.E.length) = (fun k => k = b) ∧ RfAt w' J ρ' s { A with z := fun i => if i = v.E.length then b else A.z i } v F ∧ Gone (Go.Lig.Own ρ) w (Go.Lig.Own ρ') w' := by
 have tr : RTrn w w' ρ (.edge v.E.length) (fun k => k = b) := ⟨hf.mono (fun _ _ e => e.elim), fun k hk => .inr (by rw [hk]; exact hb0), fun k hk => by rw [hk]; exact hb1⟩
 refine ⟨_, at_turn_same _ _ _, h.upd ho tr (fun L hL => ?_) (fun q hq R hR => ?_), rgone_turn tr⟩
 ·rw [List.getElem?_eq_none (Nat.le_refl _)] at hL
  cases hL
 ·cases q with
  | erow =>
   obtain ⟨r1, r2, r3⟩ := hR
   refine ⟨?_, r2, r3⟩
   rw [ptrs_congr (y := A.z) (fun i hi => by
    show (if i = v.E.length then b else A.z i) = A.z i
    rw [if_neg (by omega)])]
   exact r1
  | edge i =>
   have hi : i ≠ v.E.length := fun e => hq (by rw [e])
   intro L hL
   obtain ⟨H, c1, c2, c3⟩ := hR L hL
   refine ⟨H, ?_, c2, c3⟩
   show RCellAt w' R (if i = v.E.length then b else A.z i) H
   rw [if_neg hi]
   exact c1
  | _ => exact hR
theorem RfAt.eRow (h : RfAt w J ρ s A v F) (ho : Old w J) {b : Nat} (hxb : A.z v.E.length = b) (hat : At ρ (.edge v.E.length) = (fun k => k = b)) {a : Option Addr} {n : Nat} (f : Fr (fun k => At ρ .erow k ∨ k = s) w w') (hcell : w'.heap[b]? = some (.cells #[.slice none 0 0] 129 (0, 0)))
  (o : w'.ownsRow 0 126 1 (.slice a (v.E.length + 1) n) (v.E.length + 1) (ptrs A.z v.E.length ++ [.pointer (some ⟨b, 0, none⟩)])) (hb : ∀ k, (Value.slice a (v.E.length + 1) n).ownBlock = some k → At ρ .erow k ∨ w.heap.size ≤ k)
  (hr : w'.heap[s]? = some (.cells (rrootCells { A with ev := .slice a (v.E.length + 1) n }) 93 (0, 0))) (hn : v.E.length < 1000) : ∃ ρ', RfAt w' J ρ' s { A with ev := .slice a (v.E.length + 1) n } (vGrowE v) F ∧ Gone (Go.Lig.Own ρ) w (Go.Lig.Own ρ') w' := by
 have hl : (vGrowE v).E.length = v.E.length + 1 := by simp [vGrowE]
 have hbw : b < w'.heap.size := lt_of_block hcell
 refine ⟨_, h.upd3 (p := .erow) (T := fun k => (Value.slice a (v.E.length + 1) n).ownBlock = some k) ho f hb (fun b hb => (o.lt b hb).2) (by simp) hr ⟨?_, fun k hk => hk, by rw [hl]; omega⟩ (fun q hq hq2 hR => ?_)⟩
 ·rw [hl, ptrs_succ, hxb]
  exact o
 ·cases q with
  | root => exact absurd rfl hq2
  | erow => exact absurd rfl hq
  | edge i =>
   by_cases hi : i = v.E.length
   ·subst hi
    intro L hL
    have hL2 : (v.E ++ [[]])[v.E.length]? = some L := hL
    rw [List.getElem?_append_right (Nat.le_refl _), Nat.sub_self] at hL2
    obtain rfl : [] = L := Option.some.inj hL2
    rw [hat]
    refine ⟨[], ⟨⟨.slice none 0 0, by show w'.heap[A.z v.E.length]? = _; rw [hxb]; exact hcell, World.ownsRow_nil _ _ _ _, fun _ e => (by cases e)⟩, hxb, fun k hk => by rw [hk]; exact hbw, Nat.zero_le _, fun y hy => (by cases hy)⟩, RVers.nil _, Nat.zero_le _⟩
   ·intro L hL
    have hL2 : (v.E ++ [[]])[i]? = some L := hL
    by_cases hi2 : i < v.E.length
    ·rw [List.getElem?_append_left hi2] at hL2
     exact hR L hL2
    ·rw [List.getElem?_eq_none (by simp; omega)] at hL2
     cases hL2
  | _ => exact hR
end
end Go.Proofs.YthadcdoepoglkaaGreatDoor
