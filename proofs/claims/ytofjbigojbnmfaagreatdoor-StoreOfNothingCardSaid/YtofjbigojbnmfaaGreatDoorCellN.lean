/- The cell: New, Read, Check. -/
import Derived.Test.YtofjbigojbnmfaaGreatDoorCellL
import Derived.Test.YtofjbigojbnmfaaGreatDoorClk9b
import Derived.Test.YtofjbigojbnmfaaGreatDoorClk8
namespace Go.Proofs.YtofjbigojbnmfaaGreatDoor
open Go.RowKit Go.Lig

theorem celnew_any (w : World) : Calls Tryz.prog 91 #[] w fun e w' => ∃ c, e = .returned (.pointer (some ⟨c, 0, none⟩)) ∧ CellAt w' (fun b => b = c) c [] ∧ Fr No w w' ∧ w.heap.size ≤ c := by
  go_enter Tryz.func91, Tryz.ntmps91
  go_wp2
  go_ret
  exact ⟨_, rfl, ⟨⟨_, heap1 w _, World.ownsRow_nil _ _ _ _, fun _ e => (by cases e)⟩, rfl, fun k hk => by subst hk; simp, by simp⟩, (Fr.refl No w).alloc _, Nat.le_refl _⟩
theorem ClkRow.frame' {w w' : World} {c g : Nat} {K : Ck} (h : ClkRow w c g K) (hf : Fr No w w') : ClkRow w' c g K := h.frame hf
theorem read1_any (w : World) (c gk : Nat) (K : Ck) (h : ClkRow w c gk K) (hs : K.l.length ≤ 1000000) (t b : Int) (b4 b5 : Nat) (h4 : w.cell? ⟨b4, 0, none⟩ = some (.pointer (some ⟨c, 0, none⟩))) (h5 : w.cell? ⟨b5, 0, none⟩ = some (.int .i64 t)) :
    Calls Tryz.prog 116 #[.int .i64 b, .pointer (some ⟨b4, 0, none⟩), .pointer (some ⟨b5, 0, none⟩)] w fun e w' => e = .returned (.bool (K.sees t b)) ∧ Fr No w w' := by
  have HS := hid (sees_any w c gk K h hs t b)
  clear h hs
  go_enter Tryz.func116, Tryz.ntmps116
  go_wp2_with (go_at_call 117; refine HS.out.mono ?_; rintro e w1 ⟨rfl, f1⟩; have H1 := hid f1; clear f1)
  go_ret
  exact ⟨rfl, H1.out⟩
set_option maxHeartbeats 1000000 in
theorem last_nil (w : World) (cf : Nat) (clb : Array Value) : Calls Tryz.prog 115 #[.pointer none, .func (.func cf) #[] clb] w fun e w' => e = .returned (.tuple #[optN none, .bool false]) ∧ Fr No w w' := by
  go_enter Tryz.func115, Tryz.ntmps115
  go_wp2
  refine bodyPost_ret (v := .tuple #[optN none, .bool false]) ?_ rfl ⟨rfl, ?_⟩
  · simp [results, Tryz.f115, go_sem, optN]
  · exact (((Fr.refl No w).alloc _).alloc _).alloc _
/-- the stores at a function's end, one row alone -/
theorem end_row (W : World) (b4 : Nat) (u v a b : Value) (tN : TypeId) (h4 : W.heap[b4]? = some (.cells #[u, v] tN (0, 0))) :
    ((W.setCell ⟨b4, 0, none⟩ a).setCell ⟨b4, 1, none⟩ b).heap[b4]? = some (.cells #[a, b] tN (0, 0)) ∧ Fr (fun k => k = b4) W ((W.setCell ⟨b4, 0, none⟩ a).setCell ⟨b4, 1, none⟩ b) :=
  ⟨hset (hset h4), ((Fr.refl (fun k => k = b4) W).setCell (p := ⟨b4, 0, none⟩) a (fun _ => rfl)).setCell (p := ⟨b4, 1, none⟩) b (fun _ => rfl)⟩
theorem _root_.Go.Lig.Fr.fresh {w w1 w2 : World} {S : Nat → Prop} (h : Fr No w w1) (h' : Fr S w1 w2) (hS : ∀ k, S k → w.heap.size ≤ k) : Fr No w w2 := h.trans h' (fun k hk e => by have := hS k e; omega)
set_option maxHeartbeats 1000000 in
theorem read_of (w : World) (x : Option Addr) (c : Nat) (t : Int) (r : Option NodeV)
    (hl : ∀ w0, Fr No w w0 → w0.cell? ⟨w.heap.size, 0, none⟩ = some (.pointer (some ⟨c, 0, none⟩)) → w0.cell? ⟨w.heap.size + 1, 0, none⟩ = some (.int .i64 t) → w.heap.size + 1 < w0.heap.size →
      Calls Tryz.prog 115 #[.pointer x, .func (.func 116) #[] #[.pointer (some ⟨w.heap.size, 0, none⟩), .pointer (some ⟨w.heap.size + 1, 0, none⟩)]] w0 fun e w' => e = .returned (.tuple #[optN r, .bool r.isSome]) ∧ Fr No w0 w') :
    Calls Tryz.prog 49 #[.pointer x, .pointer (some ⟨c, 0, none⟩), .int .i64 t] w fun e w' => e = .returned (.tuple #[optN r, .bool r.isSome]) ∧ Fr No w w' := by
  obtain ⟨b4, b5, b6⟩ := heap3 w (.cells #[.pointer (some ⟨c, 0, none⟩)] 64) (.cells #[.int .i64 t] 3) (.cells #[.slice none 0 0, .slice none 0 0] 32)
  have hf : Fr No w (((w.alloc (.cells #[.pointer (some ⟨c, 0, none⟩)] 64)).alloc (.cells #[.int .i64 t] 3)).alloc (.cells #[.slice none 0 0, .slice none 0 0] 32)) := (((Fr.refl No w).alloc _).alloc _).alloc _
  have HL := hid (hl _ hf (cells1 b4) (cells1 b5) (by simp))
  have HB := hid (⟨hf, b6⟩ : _ ∧ _)
  clear hl b4 b5 b6 hf
  go_enter Tryz.func49, Tryz.ntmps49
  cases r with
  | none =>
    go_wp2_with (go_at_call 115; refine HL.out.mono ?_; rintro e w1 ⟨rfl, f1⟩; have k6 := f1.keep HB.out.2 id; obtain ⟨k0, k1⟩ := cells2 k6; have z6 := freeAll k6; have H1 := hid (⟨HB.out.1.thenNo f1, k6⟩ : _ ∧ _); clear f1 k6; dsimp only [optN, Option.isSome])
    obtain ⟨q6, qf⟩ := end_row w1 (w.heap.size + 1 + 1) _ _ (.slice none 0 0) (.slice none 0 0) _ H1.out.2
    obtain ⟨r0, r1⟩ := cells2 q6
    refine bodyPost_ret (v := .tuple #[optN none, .bool false]) ?_ rfl ⟨rfl, H1.out.1.fresh qf (fun k e => by subst e; omega)⟩
    simp [results, Tryz.f49, go_sem, optN, r0, r1]
  | some v =>
    go_wp2_with (go_at_call 115; refine HL.out.mono ?_; rintro e w1 ⟨rfl, f1⟩; have k6 := f1.keep HB.out.2 id; obtain ⟨k0, k1⟩ := cells2 k6; have z6 := freeAll k6; have H1 := hid (⟨HB.out.1.thenNo f1, k6⟩ : _ ∧ _); clear f1 k6; dsimp only [optN, Option.isSome])
    obtain ⟨q6, qf⟩ := end_row w1 (w.heap.size + 1 + 1) _ _ (.slice v.l.a v.l.n v.l.c) (.slice v.p.a v.p.n v.p.c) _ H1.out.2
    obtain ⟨r0, r1⟩ := cells2 q6
    refine bodyPost_ret (v := .tuple #[optN (some v), .bool true]) ?_ rfl ⟨rfl, H1.out.1.fresh qf (fun k e => by subst e; omega)⟩
    simp [results, Tryz.f49, go_sem, optN, r0, r1]
theorem read_nil (w : World) (c : Nat) (t : Int) : Calls Tryz.prog 49 #[.pointer none, .pointer (some ⟨c, 0, none⟩), .int .i64 t] w fun e w' => e = .returned (.tuple #[optN none, .bool false]) ∧ Fr No w w' :=
  read_of w none c t none (fun w0 _ _ _ _ => last_nil w0 _ _)
theorem enter_read1 : ∀ args w, (callFunc 116 args).run Tryz.prog w = .ok (.enter 116 args) w := enters_of Tryz.func116 (by kernel_rfl) rfl
/-- what transaction t reads of the versions L -/
def readL (K : Ck) (t : Int) (L : List (Ver NodeV)) : Option NodeV := lastOf (K.sees t) L.reverse
theorem read_any (w : World) (x g c gk : Nat) (K : Ck) (L : List (Ver NodeV)) (h : CelRow w x g L) (hs : L.length ≤ 1000000) (hk : ClkRow w c gk K) (hks : K.l.length ≤ 1000000) (t : Int) :
    Calls Tryz.prog 49 #[.pointer (some ⟨x, 0, none⟩), .pointer (some ⟨c, 0, none⟩), .int .i64 t] w fun e w' => e = .returned (.tuple #[optN (readL K t L), .bool (readL K t L).isSome]) ∧ Fr No w w' :=
  read_of w _ c t (readL K t L) (fun w0 hf h4 h5 hlt => last_any w0 x g L (h.frame hf) hs _ _ (K.sees t) enter_read1 (fun W b hB =>
    read1_any W c gk K (hk.frame (hf.thenNo (Fr.of_below hB))) hks t b _ _ ((hB.cell (p := ⟨w.heap.size, 0, none⟩) (by simp; omega)).trans h4) ((hB.cell (p := ⟨w.heap.size + 1, 0, none⟩) hlt).trans h5)))
end Go.Proofs.YtofjbigojbnmfaaGreatDoor
