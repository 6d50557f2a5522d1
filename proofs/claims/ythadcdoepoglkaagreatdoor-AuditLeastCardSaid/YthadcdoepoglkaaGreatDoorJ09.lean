/- A part of the proof: contracts of functions of the program, for the row's text. -/
import Derived.Test.YthadcdoepoglkaaGreatDoorJ08
namespace Go.Proofs.YthadcdoepoglkaaGreatDoor.Ec
open Go.RowKit Go.Lig
def clashL (K : Ck) (t : Int) (L : List (Ver EdgeV)) : Bool := match L.getLast? with
 | some y => K.clashes t y.by_
 | none => false
theorem CelRow.lt {w : World} {x g : Nat} {L : List (Ver EdgeV)} (h : CelRow w x g L) (hl : 0 < L.length) : g < w.heap.size := by
 obtain ⟨a, n, h1, h2, h3, _⟩ := h.ex
 obtain rfl := h3 hl
 obtain ⟨g', cur, e', -, hg, -⟩ := owns_at h2 hl
 obtain rfl : g = g' := by simpa using e'
 exact lt_of_block hg
set_option maxHeartbeats 1000000 in
theorem check_empty (w : World) (x g : Nat) (h : CelRow w x g []) (c t : Value) :
  Calls Tryz.prog 114 #[.pointer (some ⟨x, 0, none⟩), c, t] w fun e w' => e = .returned (.int .i64 0) ∧ Fr No w w' := by
 obtain ⟨a, cap, h1, -⟩ := h.ex
 have x0 := cells1 h1
 clear h h1
 go_enter Tryz.func114, Tryz.ntmps114
 go_wp2_with fail
 refine wp_region_sched (by kernel_rfl) 25 [22] [0, 1, 2, 3, 4, 5, 6, 7, 8, 9, 10, 11, 12, 13, 14, 15, 16, 17, 18, 19, 20, 21, 22, 23, 24] (AgC [x] w.drew) (by kernel_rfl) (AgC.refl _ _) ?_
 simp only [List.map_cons, List.map_nil, List.contains_cons, List.contains_nil, nth_zero, nth_succ, Nat.reduceBEq, Bool.or_false]
 repeat (refine sched_quiet (fun K hK => ?_); go_simp; refine hK _ ?_; clear hK K)
 refine sched_skip (by first | rfl | go_simp) (AgC.refl _ _) ?_
 repeat (refine sched_quiet (fun K hK => ?_); go_simp; refine hK _ ?_; clear hK K)
 refine sched_nil ?_
 go_wp2_with fail
 go_ret
 exact ⟨rfl, (Fr.refl No w).drew⟩
set_option maxHeartbeats 1000000 in
theorem check_last (w : World) (x g c gk : Nat) (K : Ck) (L : List (Ver EdgeV)) (h : CelRow w x g L) (hs : L.length ≤ 1000000) (hk : ClkRow w c gk K) (hks : K.l.length ≤ 1000000) (t : Int) (y : Ver EdgeV) (hy : L.getLast? = some y) (r : Bool) (hr : K.clashes t y.by_ = r) :
  Calls Tryz.prog 114 #[.pointer (some ⟨x, 0, none⟩), .pointer (some ⟨c, 0, none⟩), .int .i64 t] w fun e w' => e = .returned (errI r) ∧ Fr No w w' := by
 obtain ⟨hl, hly⟩ := last_at hy
 obtain ⟨a, cap, h1, -, h3, -⟩ := id h.ex
 obtain rfl := h3 hl
 have x0 := cells1 h1
 obtain ⟨y0, -⟩ := h.cell hly
 obtain ⟨m, hm⟩ : ∃ m, L.length = m + 1 := ⟨L.length - 1, by omega⟩
 rw [hm, Nat.add_sub_cancel] at y0
 have n2 : IntKind.i64.wrap ((L.length : Int) - 1) = (m : Int) := by rw [hm, show (((m + 1 : Nat) : Int) - 1) = (m : Int) by omega]; exact IntWalk.i64_in _ (by omega)
 have hmn : m < L.length := by omega
 have HB := hid (⟨lt_of_block h1, h.lt hl⟩ : x < w.heap.size ∧ g < w.heap.size)
 have HS := hid (clashes_any w.drew c gk K (hk.frame (Fr.refl No w).drew) hks t y.by_)
 rw [hr] at HS
 generalize L.length = n at *
 clear h h1 h3 hk hks hly hy hr hm
 go_enter Tryz.func114, Tryz.ntmps114
 go_wp2_with fail
 refine wp_region_sched (by kernel_rfl) 25 [22] [0, 1, 2, 3, 4, 5, 6, 7, 8, 9, 10, 11, 12, 13, 14, 15, 16, 17, 18, 19, 20, 21, 22, 23, 24] (AgC [x, g] w.drew) (by kernel_rfl) (AgC.refl _ _) ?_
 simp only [List.map_cons, List.map_nil, List.contains_cons, List.contains_nil, nth_zero, nth_succ, Nat.reduceBEq, Bool.or_false]
 repeat (refine sched_quiet (fun K hK => ?_); go_simp; refine hK _ ?_; clear hK K)
 refine sched_call (by first | rfl | go_simp) 184 #[.pointer (some ⟨c, 0, none⟩), .int .i64 t, .int .i64 y.by_] (by first | kernel_rfl | go_simp) HS.out ?_
 rintro e w2 ⟨rfl, f2⟩
 refine ⟨_, rfl, (AgC.refl _ _).fr f2 (fun j hj => ⟨by rcases List.mem_cons.1 hj with rfl | hj; exact HB.out.1; rw [List.mem_singleton.1 hj]; exact HB.out.2, id⟩), ?_⟩
 have H2 := hid f2
 clear f2
 cases r with
 | false =>
  repeat (refine sched_quiet (fun K hK => ?_); go_simp; refine hK _ ?_; clear hK K)
  refine sched_nil ?_
  go_wp2_with fail
  go_ret
  exact ⟨rfl, (Fr.refl No w).drew.thenNo H2.out⟩
 | true =>
  repeat (refine sched_quiet (fun K hK => ?_); go_simp; refine hK _ ?_; clear hK K)
  refine sched_nil ?_
  go_wp2_with fail
  go_ret
  exact ⟨rfl, (Fr.refl No w).drew.thenNo H2.out⟩
theorem check_any (w : World) (x g c gk : Nat) (K : Ck) (L : List (Ver EdgeV)) (h : CelRow w x g L) (hs : L.length ≤ 1000000) (hk : ClkRow w c gk K) (hks : K.l.length ≤ 1000000) (t : Int) :
  Calls Tryz.prog 114 #[.pointer (some ⟨x, 0, none⟩), .pointer (some ⟨c, 0, none⟩), .int .i64 t] w fun e w' => e = .returned (errI (clashL K t L)) ∧ Fr No w w' := by
 cases hl : L.getLast? with
 | none =>
  obtain rfl : L = [] := List.getLast?_eq_none_iff.1 hl
  exact check_empty w x g h _ _
 | some y =>
  have e : clashL K t L = K.clashes t y.by_ := by unfold clashL; rw [hl]
  rw [e]
  exact check_last w x g c gk K L h hs hk hks t y hl _ rfl
end Go.Proofs.YthadcdoepoglkaaGreatDoor.Ec
namespace Go.Proofs.YthadcdoepoglkaaGreatDoor.Ec
open Go.RowKit Go.Lig
theorem infoV : (Tryz.prog.info? 178).map (fun i => (i.zero, i.size, i.bytes)) = some (some (.agg #[.int .i64 0, .int .i64 0, .int .i64 0, .string ⟨#[]⟩, .float .f64 0, .bool false]), 6, 56) := by kernel_rfl
theorem built_v (t : Int) (f o : Int) (s : ByteArray) (x : Nat) (g : Bool) : Tryz.prog.built 178 [(0, .int .i64 t), (1, .agg #[.int .i64 f, .int .i64 o, .string s, .float .f64 x]), (2, .bool g)] = some #[.int .i64 t, .int .i64 f, .int .i64 o, .string s, .float .f64 x, .bool g] := by kernel_rfl
def writeL (K : Ck) (t : Int) (v : EdgeV) (g : Bool) (L : List (Ver EdgeV)) : List (Ver EdgeV) := if clashL K t L then L else
 match L.getLast? with
 | some y => if y.by_ = t then L.dropLast ++ [⟨t, v, g⟩] else L ++ [⟨t, v, g⟩]
 | none => L ++ [⟨t, v, g⟩]
set_option maxHeartbeats 1000000 in
theorem write_clash (w : World) (T : Nat → Prop) (x c gk : Nat) (K : Ck) (L : List (Ver EdgeV)) (h : CellAt w T x L) (hk : ClkRow w c gk K) (hks : K.l.length ≤ 1000000) (t : Int) (v : EdgeV) (gone : Bool) (hc : clashL K t L = true) :
  Calls Tryz.prog 123 #[.pointer (some ⟨x, 0, none⟩), .pointer (some ⟨c, 0, none⟩), .int .i64 t, .agg #[.int .i64 v.from_, .int .i64 v.to_, .string v.type, .float .f64 v.w], .bool gone] w fun e w' => e = .returned (.int .i64 6) ∧ Fr No w w' := by
 obtain ⟨g, hr, -⟩ := h.row
 have hf : Fr No w (w.alloc (.cells #[.int .i64 v.from_, .int .i64 v.to_, .string v.type, .float .f64 v.w] 48)) := (Fr.refl No w).alloc _
 have HC := hid (check_any _ x g c gk K L (hr.frame hf) h.small (hk.frame hf) hks t)
 rw [hc] at HC
 have HF := hid hf
 clear h hr hk hks hc hf
 go_enter Tryz.func123, Tryz.ntmps123
 go_wp2_with (go_at_call 114; refine HC.out.mono ?_; rintro e w1 ⟨rfl, f1⟩; have H1 := hid f1; clear f1; dsimp only [errI, if_true])
 go_ret
 exact ⟨rfl, HF.out.thenNo H1.out⟩
theorem flat_last (L : List (Ver EdgeV)) (m : Nat) (hm : L.length = m + 1) (z : Ver EdgeV) : (L.flatMap ecell).take (m * 6) ++ ecell z ++ (L.flatMap ecell).drop (m * 6 + (ecell z).length) = (L.dropLast ++ [z]).flatMap ecell := by
 have hne : L ≠ [] := fun e => by subst e; simp at hm
 have e : L = L.dropLast ++ [L.getLast hne] := (List.dropLast_concat_getLast hne).symm
 have l1 : (L.dropLast.flatMap ecell).length = m * 6 := by rw [flat_len (f := ecell) (m := 6) (fun _ => rfl)]; simp [hm]
 have e2 : L.flatMap ecell = L.dropLast.flatMap ecell ++ ecell (L.getLast hne) := by
  conv => lhs; rw [e]
  rw [List.flatMap_append, List.flatMap_cons, List.flatMap_nil, List.append_nil]
 rw [e2, List.take_append_of_le_length (by omega), List.take_of_length_le (by omega), List.drop_eq_nil_of_le (by rw [List.length_append, l1]; simp [ecell]), List.append_nil, List.flatMap_append, List.flatMap_cons, List.flatMap_nil, List.append_nil]
def vcells (t : Int) (v : EdgeV) (gone : Bool) : List Value := [.int .i64 t, .int .i64 v.from_, .int .i64 v.to_, .string v.type, .float .f64 v.w, .bool gone]
set_option maxHeartbeats 2000000 in
theorem write_over (w : World) (T : Nat → Prop) (x c gk : Nat) (K : Ck) (L : List (Ver EdgeV)) (h : CellAt w T x L) (hk : ClkRow w c gk K) (hks : K.l.length ≤ 1000000) (t : Int) (v : EdgeV) (gone : Bool) (hc : clashL K t L = false) (y : Ver EdgeV) (hy : L.getLast? = some y) (hyt : y.by_ = t) :
  Calls Tryz.prog 123 #[.pointer (some ⟨x, 0, none⟩), .pointer (some ⟨c, 0, none⟩), .int .i64 t, .agg #[.int .i64 v.from_, .int .i64 v.to_, .string v.type, .float .f64 v.w], .bool gone] w fun e w' => e = .returned (.int .i64 0) ∧ CellAt w' T x (L.dropLast ++ [⟨t, v, gone⟩]) ∧ Fr T w w' := by
 obtain ⟨g, hr, hgT⟩ := h.row
 obtain ⟨hl, hly⟩ := last_at hy
 have hf : Fr No w (w.alloc (.cells #[.int .i64 v.from_, .int .i64 v.to_, .string v.type, .float .f64 v.w] 48)) := (Fr.refl No w).alloc _
 have hnb := heap1 w (.cells #[.int .i64 v.from_, .int .i64 v.to_, .string v.type, .float .f64 v.w] 48)
 have HC := hid (check_any _ x g c gk K L (hr.frame hf) h.small (hk.frame hf) hks t)
 rw [hc] at HC
 have HF := hid (⟨hf, hnb⟩ : _ ∧ _)
 have HH := hid (⟨h, hr, hgT hl, hly⟩ : _ ∧ _ ∧ _ ∧ _)
 have HS := hid h.small
 clear h hk hks hc hf hnb hgT hy hly
 go_enter Tryz.func123, Tryz.ntmps123
 go_wp2_with (go_at_call 114; refine HC.out.mono ?_; rintro e w1 ⟨rfl, f1⟩; have H1 := hid f1; clear f1; dsimp only [errI, if_false])
 -- the local version
 have hn1 := H1.out.keep HF.out.2 id
 obtain ⟨n0, n1, nx2, nx3⟩ := cells4 hn1
 have HN := hid (HF.out.1.thenNo H1.out)
 have hr1 := hr.frame HN.out
 obtain ⟨a, cap, g1, g2, g3, g4⟩ := id hr1.ex
 obtain rfl := g3 hl
 have x0 := cells1 g1
 have HB := hid (⟨lt_of_block hn1, lt_of_block g1⟩ : w.heap.size < w1.heap.size ∧ x < w1.heap.size)
 have HG := hid (⟨g1, g2, g4, hr1⟩ : _ ∧ _ ∧ _ ∧ _)
 generalize hnbe : w.heap.size = nb at *
 clear hn1 hr hr1 g1 g2 g3 g4
 refine wp_region_sched (by kernel_rfl) 12 [9, 10] [0, 1, 2, 3, 4, 5, 6, 7, 8, 9, 10, 11] (AgC [x, nb] w1.drew) (by kernel_rfl) (AgC.refl _ _) ?_
 simp only [List.map_cons, List.map_nil, List.contains_cons, List.contains_nil, nth_zero, nth_succ, Nat.reduceBEq, Bool.or_false, Bool.or_true]
 repeat (first | (refine sched_build rfl 178 [(0, .tmp 21), (1, .tmp 22), (2, .tmp 23)] rfl [(0, .int .i64 t), (1, .agg #[.int .i64 v.from_, .int .i64 v.to_, .string v.type, .float .f64 v.w]), (2, .bool gone)] rfl _ (built_v ..) ?_) | (refine sched_quiet (fun K hK => ?_); go_simp; refine hK _ ?_; clear hK K))
 refine sched_loud (wpList_allocO rfl 178 rfl _ 6 56 infoV ?_)
 intro w3 p3
 have p3' : New #[.int .i64 0, .int .i64 0, .int .i64 0, .string ⟨#[]⟩, .float .f64 0, .bool false] 178 w1.drew w3 := p3
 have a3 : AgC [x, nb] w1.drew w3 := (AgC.refl _ _).fr p3.fr (fun j hj => ⟨by rcases List.mem_cons.1 hj with rfl | hj; exact HB.out.2; rw [List.mem_singleton.1 hj]; exact HB.out.1, id⟩)
 refine sched_on a3 ?_
 refine sched_loud (wpList_storeO rfl 178 (.tmp 12) (.tmp 24) rfl w1.drew.heap.size 0 rfl [.int .i64 0, .int .i64 0, .int .i64 0, .string ⟨#[]⟩, .float .f64 0, .bool false] 178 (vcells t v gone) rfl (by kernel_rfl) p3'.at_ (by simp [vcells]) (by simp [vcells, Value.oneCell']) ?_)
 intro w4 p4
 have p5 : New (vcells t v gone).toArray 178 w1.drew w4 := local_done (n := 6) p3' p4 rfl
 refine sched_on (a3.fr p4.fr (fun j hj => ⟨by rcases List.mem_cons.1 hj with rfl | hj; exact HB.out.2; rw [List.mem_singleton.1 hj]; exact HB.out.1, fun e => by have h1 := HB.out; have h2 : w1.drew.heap.size = w1.heap.size := rfl; rcases List.mem_cons.1 hj with rfl | hj; omega; rw [List.mem_singleton.1 hj] at e; omega⟩)) ?_
 have P5 := hid p5
 clear p3 p3' a3 p4 p5
 repeat (refine sched_quiet (fun K hK => ?_); go_simp; refine hK _ ?_; clear hK K)
 refine sched_nil ?_
 have hF4 : Fr No w1 w4 := (Fr.refl No w1).drew.thenNo P5.out.fr
 have hr4 := HG.out.2.2.2.frame hF4
 have x4 := cells1 (hF4.keep HG.out.1 id)
 obtain ⟨y0, -⟩ := hr4.cell HH.out.2.2.2
 obtain ⟨m, hm⟩ : ∃ m, L.length = m + 1 := ⟨L.length - 1, by omega⟩
 have HL := hid hm
 rw [hm, Nat.add_sub_cancel, hyt] at y0
 have n2 : IntKind.i64.wrap ((L.length : Int) - 1) = (m : Int) := by rw [hm, show (((m + 1 : Nat) : Int) - 1) = (m : Int) by omega]; exact IntWalk.i64_in _ (by have := HS.out; omega)
 have hmn : m < L.length := by omega
 have H4 := hid (⟨hr4, hF4⟩ : _ ∧ _)
 clear hm hr4 hF4 x0 n0 n1 nx2 nx3
 generalize hLn : L.length = n at x4 n2 hmn hl ⊢
 go_wp2_with fail
 have hb4 : w4.heap[w1.heap.size]? = some (.cells #[.int .i64 t, .int .i64 v.from_, .int .i64 v.to_, .string v.type, .float .f64 v.w, .bool gone] 178 (0, 0)) := P5.out.at_
 obtain ⟨v0, v1, v2, v3, v4, v5⟩ := cells6 hb4
 have HBn := hid (lt_of_block hb4)
 have HSz := hid (⟨P5.out.size, HB.out⟩ : _ ∧ _)
 generalize hBe : w1.heap.size = B at *
 obtain ⟨a', cap', g1, g2, g3, g4⟩ := H4.out.1.ex
 obtain rfl := g3 (by omega)
 obtain ⟨g', cur, e', -, hg, hnc, hcs, ht⟩ := owns_at g2 (by omega)
 obtain rfl : g = g' := by simpa using e'
 have HR := hid (⟨g1, g2, g4, hg, hcs, hnc⟩ : _ ∧ _ ∧ _ ∧ _ ∧ _ ∧ _)
 clear hb4 g1 g2 g3 g4 hg hcs hnc ht e' y0
 refine wp_region_sched (by kernel_rfl) 8 [8] [0, 1, 2, 3, 4, 5, 6, 7, 8] (AgC [x, B] w4.drew) (by kernel_rfl) (AgC.refl _ _) ?_
 simp only [List.map_cons, List.map_nil, List.contains_cons, List.contains_nil, nth_zero, nth_succ, Nat.reduceBEq, Bool.or_false, Bool.or_true]
 repeat (refine sched_quiet (fun K hK => ?_); go_simp; refine hK _ ?_; clear hK K)
 refine sched_loud (wpList_storeO rfl 178 (.tmp 52) (.tmp 51) rfl g (m * 6) rfl cur.toList 178 (vcells t v gone) rfl (by kernel_rfl) (by rw [Array.toArray_toList]; exact HR.out.2.2.2.1) (by have := HR.out.2.2.2.2; have := HL.out; simp [vcells]; omega) (by simp [vcells, Value.oneCell']) ?_)
 intro w5 p5
 have P6 := hid p5
 clear p5
 refine sched_last ?_
 refine sched_nil ?_
 go_wp2_with fail
 go_ret
 obtain ⟨h, -, hgT, -⟩ := HH.out
 obtain ⟨g1, g2, g4, hg, hcs, hnc⟩ := HR.out
 have hm := HL.out
 have hF4 : Fr No w w4 := HN.out.thenNo H4.out.2
 have hF5 : Fr (fun k => k = g) w4 w5 := (Fr.refl _ w4).drew.thenS P6.out.fr
 have hF : Fr T w w5 := (hF4.mono (fun _ _ e => e.elim)).thenS (hF5.mono (fun k _ e => by subst e; exact hgT))
 have o5 := owns_putSeg (w := w4.drew) g2 hg (cs := vcells t v gone) (o := m * 6) (by simp [vcells]; omega) (by simp [vcells, Value.oneCell']) P6.out
 rw [show vcells t v gone = ecell ⟨t, v, gone⟩ from rfl, flat_last L m hm] at o5
 have hlen : (L.dropLast ++ [(⟨t, v, gone⟩ : Ver EdgeV)]).length = L.length := by simp [hm]
 refine ⟨rfl, ⟨⟨_, hF5.keep g1 (fun e => g4 e.symm), by rw [hlen]; exact o5, fun k hk => ?_⟩, h.root, fun k hk => Nat.lt_of_lt_of_le (h.bound k hk) hF.size, by rw [hlen]; exact HS.out⟩, hF⟩
 obtain rfl : g = k := Option.some.inj hk
 exact ⟨hgT, g4⟩
theorem grow_done {w w2 w5 w6 w7 : World} {T : Nat → Prop} {x n cap n6 : Nat} {a a6 : Option Addr} {L : List (Ver EdgeV)} {z : Ver EdgeV} (h : CellAt w T x L) (hF : Fr No w w2) (hO : ∀ k, (Value.slice a n cap).ownBlock = some k → T k ∧ k ≠ x) (hn : L.length = n) (f5 : Fr No w2 w5)
  (f6 : Fr (fun k => (Value.slice a n cap).ownBlock = some k) w5 w6) (o6 : w6.ownsRow 0 178 6 (.slice a6 (n + 1) n6) (n + 1) (L.flatMap ecell ++ ecell z)) (b6 : ∀ k, (Value.slice a6 (n + 1) n6).ownBlock = some k → (Value.slice a n cap).ownBlock = some k ∨ w5.heap.size ≤ k)
  (p7 : Put x #[.slice a6 (n + 1) n6] 180 w6 w7) (hs : L.length < 1000000) : ∃ T', CellAt w7 T' x (L ++ [z]) ∧ Fr T w w7 ∧ Grown w T T' := by
 have hf5 : Fr No w w5 := hF.thenNo f5
 have hnew : ∀ k, (Value.slice a6 (n + 1) n6).ownBlock = some k → (T k ∧ k ≠ x) ∨ w.heap.size ≤ k := fun k hk => by
  rcases b6 k hk with e | e
  ·exact .inl (hO k e)
  ·exact .inr (Nat.le_trans hf5.size e)
 have hxl : x < w.heap.size := h.bound x h.root
 have hne : ∀ k, (Value.slice a6 (n + 1) n6).ownBlock = some k → k ≠ x := fun k hk => by
  rcases hnew k hk with e | e
  ·exact e.2
  ·omega
 have hl : (L ++ [z]).length = n + 1 := by simp [hn]
 refine ⟨fun k => k = x ∨ (Value.slice a6 (n + 1) n6).ownBlock = some k, ⟨⟨_, p7.at_, ?_, fun k hk => ⟨.inr hk, hne k hk⟩⟩, .inl rfl, fun k hk => ?_, ?_⟩, ?_, fun k hk => ?_⟩
 ·rw [hl, List.flatMap_append, List.flatMap_cons, List.flatMap_nil, List.append_nil]
  exact p7.fr.owns o6 hne
 ·have hz := p7.fr.size
  rcases hk with rfl | hk
  ·have := hf5.size; have := f6.size; omega
  ·have := (o6.lt k hk).2; omega
 ·rw [hl]; omega
 ·exact (hf5.mono (fun _ _ e => e.elim)).trans ((f6.mono (S' := fun k => (T k ∧ k ≠ x) ∨ k = x) (fun k _ e => .inl (hO k e))).trans p7.fr (fun _ _ e => .inr e)) (fun k _ e => by rcases e with e | rfl; exact e.1; exact h.root)
 ·rcases hk with rfl | hk
  ·exact .inl h.root
  ·exact (hnew k hk).imp (fun e => e.1) id
set_option maxHeartbeats 2000000 in
theorem write_new (w : World) (T : Nat → Prop) (x c gk : Nat) (K : Ck) (L : List (Ver EdgeV)) (h : CellAt w T x L) (hk : ClkRow w c gk K) (hks : K.l.length ≤ 1000000) (t : Int) (v : EdgeV) (gone : Bool) (hc : clashL K t L = false) (hne : ∀ y, L.getLast? = some y → y.by_ ≠ t) (hL1 : L.length < 1000000) :
  Calls Tryz.prog 123 #[.pointer (some ⟨x, 0, none⟩), .pointer (some ⟨c, 0, none⟩), .int .i64 t, .agg #[.int .i64 v.from_, .int .i64 v.to_, .string v.type, .float .f64 v.w], .bool gone] w fun e w' => e = .returned (.int .i64 0) ∧ ∃ T', CellAt w' T' x (L ++ [⟨t, v, gone⟩]) ∧ Fr T w w' ∧ Grown w T T' := by
 obtain ⟨g, hr, hgT⟩ := h.row
 have hf : Fr No w (w.alloc (.cells #[.int .i64 v.from_, .int .i64 v.to_, .string v.type, .float .f64 v.w] 48)) := (Fr.refl No w).alloc _
 have hnb := heap1 w (.cells #[.int .i64 v.from_, .int .i64 v.to_, .string v.type, .float .f64 v.w] 48)
 have HC := hid (check_any _ x g c gk K L (hr.frame hf) h.small (hk.frame hf) hks t)
 rw [hc] at HC
 have HF := hid (⟨hf, hnb⟩ : _ ∧ _)
 have HH := hid (⟨h, hr, hgT, hne⟩ : _ ∧ _ ∧ _ ∧ _)
 have HS := hid hL1
 clear h hk hks hc hf hnb hgT hne hL1
 go_enter Tryz.func123, Tryz.ntmps123
 go_wp2_with (go_at_call 114; refine HC.out.mono ?_; rintro e w1 ⟨rfl, f1⟩; have H1 := hid f1; clear f1; dsimp only [errI, if_false])
 -- the local version
 have hn1 := H1.out.keep HF.out.2 id
 obtain ⟨n0, n1, nx2, nx3⟩ := cells4 hn1
 have HN := hid (HF.out.1.thenNo H1.out)
 obtain ⟨v', g1, g2, g3⟩ := (HH.out.1.frame HN.out (fun _ _ e => e)).ex
 obtain ⟨a, cap, rfl⟩ := ownsRow_slice g2
 have x0 := cells1 g1
 have HB := hid (⟨lt_of_block hn1, lt_of_block g1⟩ : w.heap.size < w1.heap.size ∧ x < w1.heap.size)
 have HG := hid (⟨g1, g2, g3⟩ : _ ∧ _ ∧ _)
 generalize hnbe : w.heap.size = nb at *
 clear hn1 hr g1 g2 g3
 refine wp_region_sched (by kernel_rfl) 12 [9, 10] [0, 1, 2, 3, 4, 5, 6, 7, 8, 9, 10, 11] (AgC [x, nb] w1.drew) (by kernel_rfl) (AgC.refl _ _) ?_
 simp only [List.map_cons, List.map_nil, List.contains_cons, List.contains_nil, nth_zero, nth_succ, Nat.reduceBEq, Bool.or_false, Bool.or_true]
 repeat (first | (refine sched_build rfl 178 [(0, .tmp 21), (1, .tmp 22), (2, .tmp 23)] rfl [(0, .int .i64 t), (1, .agg #[.int .i64 v.from_, .int .i64 v.to_, .string v.type, .float .f64 v.w]), (2, .bool gone)] rfl _ (built_v ..) ?_) | (refine sched_quiet (fun K hK => ?_); go_simp; refine hK _ ?_; clear hK K))
 refine sched_loud (wpList_allocO rfl 178 rfl _ 6 56 infoV ?_)
 intro w3 p3
 have p3' : New #[.int .i64 0, .int .i64 0, .int .i64 0, .string ⟨#[]⟩, .float .f64 0, .bool false] 178 w1.drew w3 := p3
 have a3 : AgC [x, nb] w1.drew w3 := (AgC.refl _ _).fr p3.fr (fun j hj => ⟨by rcases List.mem_cons.1 hj with rfl | hj; exact HB.out.2; rw [List.mem_singleton.1 hj]; exact HB.out.1, id⟩)
 refine sched_on a3 ?_
 refine sched_loud (wpList_storeO rfl 178 (.tmp 12) (.tmp 24) rfl w1.drew.heap.size 0 rfl [.int .i64 0, .int .i64 0, .int .i64 0, .string ⟨#[]⟩, .float .f64 0, .bool false] 178 (vcells t v gone) rfl (by kernel_rfl) p3'.at_ (by simp [vcells]) (by simp [vcells, Value.oneCell']) ?_)
 intro w4 p4
 have p5 : New (vcells t v gone).toArray 178 w1.drew w4 := local_done (n := 6) p3' p4 rfl
 refine sched_on (a3.fr p4.fr (fun j hj => ⟨by rcases List.mem_cons.1 hj with rfl | hj; exact HB.out.2; rw [List.mem_singleton.1 hj]; exact HB.out.1, fun e => by have h1 := HB.out; have h2 : w1.drew.heap.size = w1.heap.size := rfl; rcases List.mem_cons.1 hj with rfl | hj; omega; rw [List.mem_singleton.1 hj] at e; omega⟩)) ?_
 have P5 := hid p5
 clear p3 p3' a3 p4 p5
 repeat (refine sched_quiet (fun K hK => ?_); go_simp; refine hK _ ?_; clear hK K)
 refine sched_nil ?_
 have hF4 : Fr No w1 w4 := (Fr.refl No w1).drew.thenNo P5.out.fr
 have x4 := cells1 (hF4.keep HG.out.1 id)
 have H4 := hid (HN.out.thenNo hF4)
 have hb4 : w4.heap[w1.heap.size]? = some (.cells #[.int .i64 t, .int .i64 v.from_, .int .i64 v.to_, .string v.type, .float .f64 v.w, .bool gone] 178 (0, 0)) := P5.out.at_
 obtain ⟨v0, v1, v2, v3, v4, v5⟩ := cells6 hb4
 have HBn := hid (⟨lt_of_block hb4, lt_of_block (hF4.keep HG.out.1 id)⟩ : _ ∧ _)
 have O := hid (⟨fd_owns HG.out.2.1 hF4, HG.out.2.2, fun k hk => (HG.out.2.1.lt k hk).2, hF4.keep HG.out.1 id⟩ : w4.ownsRow 0 178 6 (.slice a L.length cap) L.length (L.flatMap ecell) ∧ (∀ k, (Value.slice a L.length cap).ownBlock = some k → T k ∧ k ≠ x) ∧ (∀ k, (Value.slice a L.length cap).ownBlock = some k → k < w1.heap.size) ∧ w4.heap[x]? = some (.cells #[.slice a L.length cap] 180 (0, 0)))
 clear hb4 hF4 x0 n0 n1 nx2 nx3
 by_cases hl0 : L.length = 0
 ·have n1 : ¬ (0 < L.length) := by omega
  generalize hBe : w1.heap.size = B at *
  generalize hLn0 : L.length = n at *
  have hLn := hid (⟨hLn0, HS.out⟩ : L.length = n ∧ n < 1000000)
  clear hl0 hLn0
  go_wp2_with fail
  refine wp_region_sched (by kernel_rfl) 10 [6, 7, 10] [0, 1, 2, 3, 4, 5, 6, 7, 8, 9, 10] (AgC [x, B] w4.drew) (by kernel_rfl) (AgC.refl _ _) ?_
  simp only [List.map_cons, List.map_nil, List.contains_cons, List.contains_nil, nth_zero, nth_succ, Nat.reduceBEq, Bool.or_false, Bool.or_true]
  repeat (refine sched_quiet (fun K hK => ?_); go_simp; refine hK _ ?_; clear hK K)
  refine sched_loud (wpList_buildSlice1 rfl 175 178 (.tmp 58) rfl _ 6 56 Tryz.underlying175 infoV (by decide) (by decide) (.agg (vcells t v gone).toArray) rfl rfl ?_)
  intro w5 p5
  have p5' : New (vcells t v gone).toArray 178 w4.drew w5 := p5
  have hL : ∀ (U : Nat → Prop), ¬ U x → ¬ U B → ∀ j ∈ [x, B], j < w4.drew.heap.size ∧ ¬ U j := fun U h1 h2 j hj => by rcases List.mem_cons.1 hj with rfl | hj; exact ⟨HBn.out.2, h1⟩; rw [List.mem_singleton.1 hj]; exact ⟨HBn.out.1, h2⟩
  have a5 := (AgC.refl [x, B] w4.drew).fr p5.fr (hL No id id)
  refine sched_on a5 ?_
  refine sched_loud (wpList_app rfl (.tmp 57) (.tmp 59) 175 rfl 178 _ 6 56 Tryz.underlying175 infoV rfl (by decide) (.slice a n cap) n (L.flatMap ecell) rfl (fd_owns (w := w4.drew) O.out.1 p5.fr) (.slice (some ⟨w4.drew.heap.size, 0, none⟩) 1 1) 1 (vcells t v gone) rfl (Rd.block p5'.at_ 1 6 1 rfl (by simp [vcells, Value.oneCell']) (Nat.le_refl _) (by simp [maxLen])) (by have := hLn.out; unfold maxLen; omega) (by have := hLn.out; omega) ?_)
  intro v6 w6 o6 f6 b6 _
  have hcv : ¬ (Value.slice a n cap).ownBlock = some x := fun e => (O.out.2.1 x e).2 rfl
  have hcB : ¬ (Value.slice a n cap).ownBlock = some B := fun e => by have h2 := O.out.2.2.1 B e; omega
  refine sched_on (a5.fr f6 (hL _ hcv hcB)) ?_
  have hg6 := f6.keep (p5.keep (w := w4.drew) O.out.2.2.2) hcv
  obtain ⟨a6, n6, rfl⟩ := ownsRow_slice o6
  have O6 := hid (⟨o6, f6, b6, hg6, p5.fr⟩ : _ ∧ _ ∧ _ ∧ _ ∧ _)
  clear o6 f6 b6 hg6 p5 p5' a5 hcv hcB hL
  repeat (refine sched_quiet (fun K hK => ?_); go_simp; refine hK _ ?_; clear hK K)
  refine sched_loud (wpList_store1 rfl 175 (.tmp 62) (.tmp 60) rfl x 0 rfl _ _ (.slice a6 (n + 1) n6) rfl (by kernel_rfl) O6.out.2.2.2.1 (by simp) rfl ?_)
  intro w7 p7
  have p7' : Put x #[.slice a6 (n + 1) n6] 180 w6 w7 := p7
  have P7 := hid p7'
  clear p7 p7'
  refine sched_last ?_
  refine sched_nil ?_
  go_wp2_with fail
  go_ret
  exact ⟨rfl, grow_done (w2 := w4.drew) (z := ⟨t, v, gone⟩) HH.out.1 (H4.out.thenNo (Fr.refl No w4).drew) O.out.2.1 hLn.out.1 O6.out.2.2.2.2 O6.out.2.1 O6.out.1 O6.out.2.2.1 P7.out (by have := hLn.out; omega)⟩
 ·obtain ⟨m, hm⟩ : ∃ m, L.length = m + 1 := ⟨L.length - 1, by omega⟩
  obtain ⟨y, hy⟩ : ∃ y, L[m]? = some y := ⟨_, List.getElem?_eq_getElem (by omega)⟩
  have hyt : (y.by_ == t) = false := beq_eq_false_iff_ne.2 (HH.out.2.2.2 y (by rw [List.getLast?_eq_getElem?, hm]; exact hy))
  have hr4 := HH.out.2.1.frame H4.out
  obtain ⟨y0, -⟩ := hr4.cell hy
  have ha : a = some ⟨g, 0, none⟩ := by
   obtain ⟨a'', n'', e1, -, e3, -⟩ := hr4.ex
   have e4 := e1.symm.trans O.out.2.2.2
   simp at e4
   rw [← e4.1]
   exact e3 (by omega)
  subst ha
  have n2 : IntKind.i64.wrap ((L.length : Int) - 1) = (m : Int) := by rw [hm, show (((m + 1 : Nat) : Int) - 1) = (m : Int) by omega]; exact IntWalk.i64_in _ (by have := HS.out; omega)
  have hmn : m < L.length := by omega
  clear hm hy hl0 hr4
  generalize hBe : w1.heap.size = B at *
  generalize hLn0 : L.length = n at *
  have hLn := hid (⟨hLn0, HS.out⟩ : L.length = n ∧ n < 1000000)
  clear hLn0
  go_wp2_with fail
  refine wp_region_sched (by kernel_rfl) 10 [6, 7, 10] [0, 1, 2, 3, 4, 5, 6, 7, 8, 9, 10] (AgC [x, B] w4.drew) (by kernel_rfl) (AgC.refl _ _) ?_
  simp only [List.map_cons, List.map_nil, List.contains_cons, List.contains_nil, nth_zero, nth_succ, Nat.reduceBEq, Bool.or_false, Bool.or_true]
  repeat (refine sched_quiet (fun K hK => ?_); go_simp; refine hK _ ?_; clear hK K)
  refine sched_loud (wpList_buildSlice1 rfl 175 178 (.tmp 58) rfl _ 6 56 Tryz.underlying175 infoV (by decide) (by decide) (.agg (vcells t v gone).toArray) rfl rfl ?_)
  intro w5 p5
  have p5' : New (vcells t v gone).toArray 178 w4.drew w5 := p5
  have hL : ∀ (U : Nat → Prop), ¬ U x → ¬ U B → ∀ j ∈ [x, B], j < w4.drew.heap.size ∧ ¬ U j := fun U h1 h2 j hj => by rcases List.mem_cons.1 hj with rfl | hj; exact ⟨HBn.out.2, h1⟩; rw [List.mem_singleton.1 hj]; exact ⟨HBn.out.1, h2⟩
  have a5 := (AgC.refl [x, B] w4.drew).fr p5.fr (hL No id id)
  refine sched_on a5 ?_
  refine sched_loud (wpList_app rfl (.tmp 57) (.tmp 59) 175 rfl 178 _ 6 56 Tryz.underlying175 infoV rfl (by decide) (.slice (some ⟨g, 0, none⟩) n cap) n (L.flatMap ecell) rfl (fd_owns (w := w4.drew) O.out.1 p5.fr) (.slice (some ⟨w4.drew.heap.size, 0, none⟩) 1 1) 1 (vcells t v gone) rfl (Rd.block p5'.at_ 1 6 1 rfl (by simp [vcells, Value.oneCell']) (Nat.le_refl _) (by simp [maxLen])) (by have := hLn.out; unfold maxLen; omega) (by have := hLn.out; omega) ?_)
  intro v6 w6 o6 f6 b6 _
  have hcv : ¬ (Value.slice (some ⟨g, 0, none⟩) n cap).ownBlock = some x := fun e => (O.out.2.1 x e).2 rfl
  have hcB : ¬ (Value.slice (some ⟨g, 0, none⟩) n cap).ownBlock = some B := fun e => by have h2 := O.out.2.2.1 B e; omega
  refine sched_on (a5.fr f6 (hL _ hcv hcB)) ?_
  have hg6 := f6.keep (p5.keep (w := w4.drew) O.out.2.2.2) hcv
  obtain ⟨a6, n6, rfl⟩ := ownsRow_slice o6
  have O6 := hid (⟨o6, f6, b6, hg6, p5.fr⟩ : _ ∧ _ ∧ _ ∧ _ ∧ _)
  clear o6 f6 b6 hg6 p5 p5' a5 hcv hcB hL
  repeat (refine sched_quiet (fun K hK => ?_); go_simp; refine hK _ ?_; clear hK K)
  refine sched_loud (wpList_store1 rfl 175 (.tmp 62) (.tmp 60) rfl x 0 rfl _ _ (.slice a6 (n + 1) n6) rfl (by kernel_rfl) O6.out.2.2.2.1 (by simp) rfl ?_)
  intro w7 p7
  have p7' : Put x #[.slice a6 (n + 1) n6] 180 w6 w7 := p7
  have P7 := hid p7'
  clear p7 p7'
  refine sched_last ?_
  refine sched_nil ?_
  go_wp2_with fail
  go_ret
  exact ⟨rfl, grow_done (w2 := w4.drew) (z := ⟨t, v, gone⟩) HH.out.1 (H4.out.thenNo (Fr.refl No w4).drew) O.out.2.1 hLn.out.1 O6.out.2.2.2.2 O6.out.2.1 O6.out.1 O6.out.2.2.1 P7.out (by have := hLn.out; omega)⟩
theorem write_any (w : World) (T : Nat → Prop) (x c gk : Nat) (K : Ck) (L : List (Ver EdgeV)) (h : CellAt w T x L) (hk : ClkRow w c gk K) (hks : K.l.length ≤ 1000000) (hL : L.length < 1000000) (t : Int) (v : EdgeV) (gone : Bool) :
  Calls Tryz.prog 123 #[.pointer (some ⟨x, 0, none⟩), .pointer (some ⟨c, 0, none⟩), .int .i64 t, .agg #[.int .i64 v.from_, .int .i64 v.to_, .string v.type, .float .f64 v.w], .bool gone] w fun e w' => e = .returned (errI (clashL K t L)) ∧ ∃ T', CellAt w' T' x (writeL K t v gone L) ∧ Fr T w w' ∧ Grown w T T' := by
 cases hc : clashL K t L with
 | true =>
  have e : writeL K t v gone L = L := by unfold writeL; rw [if_pos hc]
  rw [e]
  exact (write_clash w T x c gk K L h hk hks t v gone hc).mono fun e' w' ⟨h1, f⟩ => ⟨h1, T, h.frame f (fun _ _ e => e), f.mono (fun _ _ e => e.elim), Grown.refl _ _⟩
 | false =>
  cases hy : L.getLast? with
  | none =>
   have e : writeL K t v gone L = L ++ [⟨t, v, gone⟩] := by unfold writeL; rw [if_neg (by simp [hc]), hy]
   rw [e]
   exact write_new w T x c gk K L h hk hks t v gone hc (fun y e => by rw [hy] at e; cases e) hL
  | some y =>
   by_cases hyt : y.by_ = t
   ·have e : writeL K t v gone L = L.dropLast ++ [⟨t, v, gone⟩] := by unfold writeL; rw [if_neg (by simp [hc]), hy]; simp only [if_pos hyt]
    rw [e]
    exact (write_over w T x c gk K L h hk hks t v gone hc y hy hyt).mono fun e' w' ⟨h1, h2, f⟩ => ⟨h1, T, h2, f, Grown.refl _ _⟩
   ·have e : writeL K t v gone L = L ++ [⟨t, v, gone⟩] := by unfold writeL; rw [if_neg (by simp [hc]), hy]; simp only [if_neg hyt]
    rw [e]
    exact write_new w T x c gk K L h hk hks t v gone hc (fun z e => by rw [hy] at e; obtain rfl := Option.some.inj e; exact hyt) hL
end Go.Proofs.YthadcdoepoglkaaGreatDoor.Ec
namespace Go.Proofs.YthadcdoepoglkaaGreatDoor.Ec
open Go.RowKit Go.Lig
theorem undo1_any (w : World) (y : Ver EdgeV) (t : Int) (b : Nat) (hb : w.cell? ⟨b, 0, none⟩ = some (.int .i64 t)) :
  Calls Tryz.prog 127 #[.agg #[.int .i64 y.by_, .int .i64 y.v.from_, .int .i64 y.v.to_, .string y.v.type, .float .f64 y.v.w, .bool y.gone], .pointer (some ⟨b, 0, none⟩)] w fun e w' => e = .returned (.bool (y.by_ == t)) ∧ Fr No w w' := by
 have hlt : b < w.heap.size := World.block_lt_of_cell? w _ hb
 go_enter Tryz.func127, Tryz.ntmps127
 go_wp2
 go_ret
 exact ⟨rfl, (Fr.refl No w).alloc _⟩
set_option maxHeartbeats 2000000 in
theorem idxv_any (w : World) (a : Option Addr) (g cap : Nat) (L : List (Ver EdgeV)) (ha : 0 < L.length → a = some ⟨g, 0, none⟩) (hs : L.length ≤ 1000000) (hc : ∀ W, Fr No w W → ∀ j y, L[j]? = some y → NcAt W g j y) (cf : Nat) (clb : Array Value) (p : Ver EdgeV → Bool)
  (hcf : ∀ args w, (callFunc cf args).run Tryz.prog w = .ok (.enter cf args) w)
  (hp : ∀ W y, Fr No w W → Calls Tryz.prog cf (#[.agg #[.int .i64 y.by_, .int .i64 y.v.from_, .int .i64 y.v.to_, .string y.v.type, .float .f64 y.v.w, .bool y.gone]] ++ clb) W fun e W' => e = .returned (.bool (p y)) ∧ Fr No W W') :
  Calls Tryz.prog 175 #[.slice a L.length cap, .func (.func cf) #[] clb] w fun e w' => ∃ i : Int, e = .returned (.int .i64 i) ∧ Fr No w w' ∧ ((i = -1 ∧ ∀ y ∈ L, p y = false) ∨ ∃ j : Nat, i = j ∧ j < L.length ∧ (∃ y, L[j]? = some y ∧ p y = true) ∧ ∀ k y, k < j → L[k]? = some y → p y = false) := by
 have HC := hid hc
 have HP := hid hp
 have HCF := hid hcf
 have HA := hid ha
 clear hc hp hcf ha
 go_enter Tryz.func175, Tryz.ntmps175
 go_wp2_with fail
 generalize hLn : L.length = n at *
 go_loopw [8] (fun vi wr => ∃ i : Nat, i ≤ n ∧ vi = .int .i64 (i : Int) ∧ Hid (Fr No w wr ∧ ∀ k y, k < i → L[k]? = some y → p y = false)) (fun vi _ => n - (intOf vi).toNat)
 case atStart => exact ⟨0, Nat.zero_le _, rfl, Fr.refl _ _, fun k y hk => absurd hk (Nat.not_lt_zero _)⟩
 case round =>
  obtain ⟨i, hi, rfl, HF⟩ := hrel
  by_cases hlt : i < n
  ·obtain ⟨y, hy⟩ : ∃ y, L[i]? = some y := ⟨_, List.getElem?_eq_getElem (by omega)⟩
   obtain rfl := HA.out (by omega)
   obtain ⟨y0, y1, y2, y3, y4, y5⟩ := HC.out wr HF.out.1 i y hy
   have HY := hid hy
   clear hy
   cases hpy : p y with
   | false =>
    go_wp2_with (rw [HCF.out, Oper.upon_enter]; refine (HP.out wr y HF.out.1).mono ?_; rintro e W' ⟨rfl, f⟩; rw [hpy]; have F := hid f; clear f)
    go_roundw
    case rel => exact ⟨i + 1, by omega, by go_num, HF.out.1.thenNo F.out, fun k z hk hz => by
     rcases Nat.lt_succ_iff_lt_or_eq.1 hk with h | rfl
     ·exact HF.out.2 k z h hz
     ·rw [HY.out] at hz; obtain rfl := Option.some.inj hz; exact hpy⟩
    case measure => simp [intOf]; omega
   | true =>
    go_wp2_with (rw [HCF.out, Oper.upon_enter]; refine (HP.out wr y HF.out.1).mono ?_; rintro e W' ⟨rfl, f⟩; rw [hpy]; have F := hid f; clear f)
    go_ret
    exact ⟨_, rfl, HF.out.1.thenNo F.out, .inr ⟨i, rfl, by omega, ⟨y, HY.out, hpy⟩, HF.out.2⟩⟩
  ·go_wp2_with fail
   go_ret
   refine ⟨_, rfl, HF.out.1, .inl ⟨rfl, fun y hy => ?_⟩⟩
   obtain ⟨k, hk⟩ := List.getElem?_of_mem hy
   exact HF.out.2 k y (by have := (List.getElem?_eq_some_iff.1 hk).1; omega) hk
end Go.Proofs.YthadcdoepoglkaaGreatDoor.Ec
