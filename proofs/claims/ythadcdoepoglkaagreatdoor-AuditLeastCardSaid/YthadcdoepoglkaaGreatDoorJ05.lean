/- A part of the proof: contracts of functions of the program, for the row's text. -/
import Derived.Test.YthadcdoepoglkaaGreatDoorJ04
namespace Go.Proofs.YthadcdoepoglkaaGreatDoor
open Go.RowKit Go.Lig
theorem celnew_any (w : World) : Calls Tryz.prog 118 #[] w fun e w' => ∃ c, e = .returned (.pointer (some ⟨c, 0, none⟩)) ∧ CellAt w' (fun b => b = c) c [] ∧ Fr No w w' ∧ w.heap.size ≤ c := by
 go_enter Tryz.func118, Tryz.ntmps118
 go_wp2
 go_ret
 exact ⟨_, rfl, ⟨⟨_, heap1 w _, World.ownsRow_nil _ _ _ _, fun _ e => (by cases e)⟩, rfl, fun k hk => by subst hk; simp, by simp⟩, (Fr.refl No w).alloc _, Nat.le_refl _⟩
theorem read1_any (w : World) (c gk : Nat) (K : Ck) (h : ClkRow w c gk K) (hs : K.l.length ≤ 1000000) (t b : Int) (b4 b5 : Nat) (h4 : w.cell? ⟨b4, 0, none⟩ = some (.pointer (some ⟨c, 0, none⟩))) (h5 : w.cell? ⟨b5, 0, none⟩ = some (.int .i64 t)) :
  Calls Tryz.prog 182 #[.int .i64 b, .pointer (some ⟨b4, 0, none⟩), .pointer (some ⟨b5, 0, none⟩)] w fun e w' => e = .returned (.bool (K.sees t b)) ∧ Fr No w w' := by
 have HS := hid (sees_any w c gk K h hs t b)
 clear h hs
 go_enter Tryz.func182, Tryz.ntmps182
 go_wp2_with (go_at_call 183; refine HS.out.mono ?_; rintro e w1 ⟨rfl, f1⟩; have H1 := hid f1; clear f1)
 go_ret
 exact ⟨rfl, H1.out⟩
set_option maxHeartbeats 1000000 in
theorem last_nil (w : World) (cf : Nat) (clb : Array Value) : Calls Tryz.prog 155 #[.pointer none, .func (.func cf) #[] clb] w fun e w' => e = .returned (.tuple #[optN none, .bool false]) ∧ Fr No w w' := by
 go_enter Tryz.func155, Tryz.ntmps155
 go_wp2
 refine bodyPost_ret (v := .tuple #[optN none, .bool false]) ?_ rfl ⟨rfl, ?_⟩
 ·simp [results, Tryz.f155, go_sem, optN]
 ·exact (((Fr.refl No w).alloc _).alloc _).alloc _
theorem end_row (W : World) (b4 : Nat) (u v a b : Value) (tN : TypeId) (h4 : W.heap[b4]? = some (.cells #[u, v] tN (0, 0))) :
  ((W.setCell ⟨b4, 0, none⟩ a).setCell ⟨b4, 1, none⟩ b).heap[b4]? = some (.cells #[a, b] tN (0, 0)) ∧ Fr (fun k => k = b4) W ((W.setCell ⟨b4, 0, none⟩ a).setCell ⟨b4, 1, none⟩ b) :=
 ⟨hset (hset h4), ((Fr.refl (fun k => k = b4) W).setCell (p := ⟨b4, 0, none⟩) a (fun _ => rfl)).setCell (p := ⟨b4, 1, none⟩) b (fun _ => rfl)⟩
theorem _root_.Go.Lig.Fr.fresh {w w1 w2 : World} {S : Nat → Prop} (h : Fr No w w1) (h' : Fr S w1 w2) (hS : ∀ k, S k → w.heap.size ≤ k) : Fr No w w2 := h.trans h' (fun k hk e => by have := hS k e; omega)
set_option maxHeartbeats 1000000 in
theorem read_of (w : World) (x : Option Addr) (c : Nat) (t : Int) (r : Option NodeV)
  (hl : ∀ w0, Fr No w w0 → w0.cell? ⟨w.heap.size, 0, none⟩ = some (.pointer (some ⟨c, 0, none⟩)) → w0.cell? ⟨w.heap.size + 1, 0, none⟩ = some (.int .i64 t) → w.heap.size + 1 < w0.heap.size →
   Calls Tryz.prog 155 #[.pointer x, .func (.func 182) #[] #[.pointer (some ⟨w.heap.size, 0, none⟩), .pointer (some ⟨w.heap.size + 1, 0, none⟩)]] w0 fun e w' => e = .returned (.tuple #[optN r, .bool r.isSome]) ∧ Fr No w0 w') :
  Calls Tryz.prog 113 #[.pointer x, .pointer (some ⟨c, 0, none⟩), .int .i64 t] w fun e w' => e = .returned (.tuple #[optN r, .bool r.isSome]) ∧ Fr No w w' := by
 obtain ⟨b4, b5, b6⟩ := heap3 w (.cells #[.pointer (some ⟨c, 0, none⟩)] 76) (.cells #[.int .i64 t] 3) (.cells #[.slice none 0 0, .slice none 0 0] 34)
 have hf : Fr No w (((w.alloc (.cells #[.pointer (some ⟨c, 0, none⟩)] 76)).alloc (.cells #[.int .i64 t] 3)).alloc (.cells #[.slice none 0 0, .slice none 0 0] 34)) := (((Fr.refl No w).alloc _).alloc _).alloc _
 have HL := hid (hl _ hf (cells1 b4) (cells1 b5) (by simp))
 have HB := hid (⟨hf, b6⟩ : _ ∧ _)
 clear hl b4 b5 b6 hf
 go_enter Tryz.func113, Tryz.ntmps113
 cases r with
 | none =>
  go_wp2_with (go_at_call 155; refine HL.out.mono ?_; rintro e w1 ⟨rfl, f1⟩; have k6 := f1.keep HB.out.2 id; obtain ⟨k0, k1⟩ := cells2 k6; have z6 := freeAll k6; have H1 := hid (⟨HB.out.1.thenNo f1, k6⟩ : _ ∧ _); clear f1 k6; dsimp only [optN, Option.isSome])
  obtain ⟨q6, qf⟩ := end_row w1 (w.heap.size + 1 + 1) _ _ (.slice none 0 0) (.slice none 0 0) _ H1.out.2
  obtain ⟨r0, r1⟩ := cells2 q6
  refine bodyPost_ret (v := .tuple #[optN none, .bool false]) ?_ rfl ⟨rfl, H1.out.1.fresh qf (fun k e => by subst e; omega)⟩
  simp [results, Tryz.f113, go_sem, optN, r0, r1]
 | some v =>
  go_wp2_with (go_at_call 155; refine HL.out.mono ?_; rintro e w1 ⟨rfl, f1⟩; have k6 := f1.keep HB.out.2 id; obtain ⟨k0, k1⟩ := cells2 k6; have z6 := freeAll k6; have H1 := hid (⟨HB.out.1.thenNo f1, k6⟩ : _ ∧ _); clear f1 k6; dsimp only [optN, Option.isSome])
  obtain ⟨q6, qf⟩ := end_row w1 (w.heap.size + 1 + 1) _ _ (.slice v.l.a v.l.n v.l.c) (.slice v.p.a v.p.n v.p.c) _ H1.out.2
  obtain ⟨r0, r1⟩ := cells2 q6
  refine bodyPost_ret (v := .tuple #[optN (some v), .bool true]) ?_ rfl ⟨rfl, H1.out.1.fresh qf (fun k e => by subst e; omega)⟩
  simp [results, Tryz.f113, go_sem, optN, r0, r1]
theorem read_nil (w : World) (c : Nat) (t : Int) : Calls Tryz.prog 113 #[.pointer none, .pointer (some ⟨c, 0, none⟩), .int .i64 t] w fun e w' => e = .returned (.tuple #[optN none, .bool false]) ∧ Fr No w w' :=
 read_of w none c t none (fun w0 _ _ _ _ => last_nil w0 _ _)
theorem enter_read1 : ∀ args w, (callFunc 182 args).run Tryz.prog w = .ok (.enter 182 args) w := enters_of Tryz.func182 (by kernel_rfl) rfl
def readL (K : Ck) (t : Int) (L : List (Ver NodeV)) : Option NodeV := lastOf (K.sees t) L.reverse
theorem read_any (w : World) (x g c gk : Nat) (K : Ck) (L : List (Ver NodeV)) (h : CelRow w x g L) (hs : L.length ≤ 1000000) (hk : ClkRow w c gk K) (hks : K.l.length ≤ 1000000) (t : Int) :
  Calls Tryz.prog 113 #[.pointer (some ⟨x, 0, none⟩), .pointer (some ⟨c, 0, none⟩), .int .i64 t] w fun e w' => e = .returned (.tuple #[optN (readL K t L), .bool (readL K t L).isSome]) ∧ Fr No w w' :=
 read_of w _ c t (readL K t L) (fun w0 hf h4 h5 hlt => last_any w0 x g L (h.frame hf) hs _ _ (K.sees t) enter_read1 (fun W b hB =>
  read1_any W c gk K (hk.frame (hf.thenNo (Fr.of_below hB))) hks t b _ _ ((hB.cell (p := ⟨w.heap.size, 0, none⟩) (by simp; omega)).trans h4) ((hB.cell (p := ⟨w.heap.size + 1, 0, none⟩) hlt).trans h5)))
end Go.Proofs.YthadcdoepoglkaaGreatDoor
namespace Go.Proofs.YthadcdoepoglkaaGreatDoor
open Go.RowKit Go.Lig
def clashL (K : Ck) (t : Int) (L : List (Ver NodeV)) : Bool := match L.getLast? with
 | some y => K.clashes t y.by_
 | none => false
def errI (b : Bool) : Value := if b then .int .i64 6 else .int .i64 0
theorem last_at {α : Type} {L : List α} {y : α} (h : L.getLast? = some y) : 0 < L.length ∧ L[L.length - 1]? = some y := by
 have hne : L ≠ [] := by intro e; subst e; simp at h
 exact ⟨List.length_pos_iff.2 hne, by rw [← h, List.getLast?_eq_getElem?]⟩
theorem CelRow.lt {w : World} {x g : Nat} {L : List (Ver NodeV)} (h : CelRow w x g L) (hl : 0 < L.length) : g < w.heap.size := by
 obtain ⟨a, n, h1, h2, h3, _⟩ := h.ex
 obtain rfl := h3 hl
 obtain ⟨g', cur, e', -, hg, -⟩ := owns_at h2 hl
 obtain rfl : g = g' := by simpa using e'
 exact lt_of_block hg
set_option maxHeartbeats 1000000 in
theorem check_empty (w : World) (x g : Nat) (h : CelRow w x g []) (c t : Value) :
  Calls Tryz.prog 115 #[.pointer (some ⟨x, 0, none⟩), c, t] w fun e w' => e = .returned (.int .i64 0) ∧ Fr No w w' := by
 obtain ⟨a, cap, h1, -⟩ := h.ex
 have x0 := cells1 h1
 clear h h1
 go_enter Tryz.func115, Tryz.ntmps115
 go_wp2_with fail
 refine wp_region_sched (by kernel_rfl) 25 [22] [0, 1, 2, 3, 4, 5, 6, 7, 8, 9, 10, 11, 12, 13, 14, 15, 16, 17, 18, 19, 20, 21, 22, 23, 24] (AgC [x] w.drew) (by kernel_rfl) (AgC.refl _ _) ?_
 simp only [List.map_cons, List.map_nil, List.contains_cons, List.contains_nil, nth_zero, nth_succ, Nat.reduceBEq, Bool.or_false]
 repeat (refine sched_quiet (fun K hK => ?_); go_simp; refine hK _ ?_; clear hK K)
 refine sched_skip (by first | rfl | go_simp) (AgC.refl _ _) ?_
 repeat (refine sched_quiet (fun K hK => ?_); go_simp; refine hK _ ?_; clear hK K)
 refine sched_nil ?_
 go_wp2_with fail
 go_ret
 exact ⟨rfl, (Fr.refl No w).drew⟩
set_option maxHeartbeats 1000000 in
theorem check_last (w : World) (x g c gk : Nat) (K : Ck) (L : List (Ver NodeV)) (h : CelRow w x g L) (hs : L.length ≤ 1000000) (hk : ClkRow w c gk K) (hks : K.l.length ≤ 1000000) (t : Int) (y : Ver NodeV) (hy : L.getLast? = some y) (r : Bool) (hr : K.clashes t y.by_ = r) :
  Calls Tryz.prog 115 #[.pointer (some ⟨x, 0, none⟩), .pointer (some ⟨c, 0, none⟩), .int .i64 t] w fun e w' => e = .returned (errI r) ∧ Fr No w w' := by
 obtain ⟨hl, hly⟩ := last_at hy
 obtain ⟨a, cap, h1, -, h3, -⟩ := id h.ex
 obtain rfl := h3 hl
 have x0 := cells1 h1
 obtain ⟨y0, -⟩ := h.cell hly
 obtain ⟨m, hm⟩ : ∃ m, L.length = m + 1 := ⟨L.length - 1, by omega⟩
 rw [hm, Nat.add_sub_cancel] at y0
 have n2 : IntKind.i64.wrap ((L.length : Int) - 1) = (m : Int) := by rw [hm, show (((m + 1 : Nat) : Int) - 1) = (m : Int) by omega]; exact IntWalk.i64_in _ (by omega)
 have hmn : m < L.length := by omega
 have HB := hid (⟨lt_of_block h1, h.lt hl⟩ : x < w.heap.size ∧ g < w.heap.size)
 have HS := hid (clashes_any w.drew c gk K (hk.frame (Fr.refl No w).drew) hks t y.by_)
 rw [hr] at HS
 generalize L.length = n at *
 clear h h1 h3 hk hks hly hy hr hm
 go_enter Tryz.func115, Tryz.ntmps115
 go_wp2_with fail
 refine wp_region_sched (by kernel_rfl) 25 [22] [0, 1, 2, 3, 4, 5, 6, 7, 8, 9, 10, 11, 12, 13, 14, 15, 16, 17, 18, 19, 20, 21, 22, 23, 24] (AgC [x, g] w.drew) (by kernel_rfl) (AgC.refl _ _) ?_
 simp only [List.map_cons, List.map_nil, List.contains_cons, List.contains_nil, nth_zero, nth_succ, Nat.reduceBEq, Bool.or_false]
 repeat (refine sched_quiet (fun K hK => ?_); go_simp; refine hK _ ?_; clear hK K)
 refine sched_call (by first | rfl | go_simp) 184 #[.pointer (some ⟨c, 0, none⟩), .int .i64 t, .int .i64 y.by_] (by first | kernel_rfl | go_simp) HS.out ?_
 rintro e w2 ⟨rfl, f2⟩
 refine ⟨_, rfl, (AgC.refl _ _).fr f2 (fun j hj => ⟨by rcases List.mem_cons.1 hj with rfl | hj; exact HB.out.1; rw [List.mem_singleton.1 hj]; exact HB.out.2, id⟩), ?_⟩
 have H2 := hid f2
 clear f2
 cases r with
 | false =>
  repeat (refine sched_quiet (fun K hK => ?_); go_simp; refine hK _ ?_; clear hK K)
  refine sched_nil ?_
  go_wp2_with fail
  go_ret
  exact ⟨rfl, (Fr.refl No w).drew.thenNo H2.out⟩
 | true =>
  repeat (refine sched_quiet (fun K hK => ?_); go_simp; refine hK _ ?_; clear hK K)
  refine sched_nil ?_
  go_wp2_with fail
  go_ret
  exact ⟨rfl, (Fr.refl No w).drew.thenNo H2.out⟩
theorem check_any (w : World) (x g c gk : Nat) (K : Ck) (L : List (Ver NodeV)) (h : CelRow w x g L) (hs : L.length ≤ 1000000) (hk : ClkRow w c gk K) (hks : K.l.length ≤ 1000000) (t : Int) :
  Calls Tryz.prog 115 #[.pointer (some ⟨x, 0, none⟩), .pointer (some ⟨c, 0, none⟩), .int .i64 t] w fun e w' => e = .returned (errI (clashL K t L)) ∧ Fr No w w' := by
 cases hl : L.getLast? with
 | none =>
  obtain rfl : L = [] := List.getLast?_eq_none_iff.1 hl
  exact check_empty w x g h _ _
 | some y =>
  have e : clashL K t L = K.clashes t y.by_ := by unfold clashL; rw [hl]
  rw [e]
  exact check_last w x g c gk K L h hs hk hks t y hl _ rfl
end Go.Proofs.YthadcdoepoglkaaGreatDoor
