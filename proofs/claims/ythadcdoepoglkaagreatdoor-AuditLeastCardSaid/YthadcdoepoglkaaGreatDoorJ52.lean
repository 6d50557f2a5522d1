/- A part of the proof: contracts of functions of the program, for the row's text. -/
import Derived.Test.YthadcdoepoglkaaGreatDoorJ08
import Derived.Test.YthadcdoepoglkaaGreatDoorJ51
import Derived.Test.YthadcdoepoglkaaGreatDoorJ16
import Derived.Test.YthadcdoepoglkaaGreatDoorJ38
import Derived.Test.YthadcdoepoglkaaGreatDoorJ39
namespace Go.Proofs.YthadcdoepoglkaaGreatDoor
open Go.RowKit Go.Lig
def pastB (K : Ck) (b : Int) : Bool := !K.live b && !K.aborted b
def lastP {α : Type} (K : Ck) (L : List (Ver α)) : Option α := lastOf (pastB K) L.reverse
theorem nlast1_any (w : World) (c gk : Nat) (K : Ck) (h : ClkRow w c gk K) (hs : K.l.length ≤ 1000000) (b : Int) (b4 : Nat) (h4 : w.cell? ⟨b4, 0, none⟩ = some (.pointer (some ⟨c, 0, none⟩))) :
  Calls Tryz.prog 156 #[.int .i64 b, .pointer (some ⟨b4, 0, none⟩)] w fun e w' => e = .returned (.bool (pastB K b)) ∧ Fr No w w' := by
 have HL := hid (live_any w c gk K h hs b)
 have HA := hid (aborted_any w c gk K h hs b)
 clear h hs
 unfold pastB
 cases hl : K.live b with
 | true =>
  rw [hl] at HL
  clear hl HA
  go_enter Tryz.func156, Tryz.ntmps156
  go_wp2_with (go_at_call 78; refine HL.out.mono ?_; rintro e w1 ⟨rfl, rfl⟩)
  go_ret
  exact ⟨rfl, Fr.refl _ _⟩
 | false =>
  rw [hl] at HL
  cases ha : K.aborted b with
  | true =>
   rw [ha] at HA
   clear hl ha
   go_enter Tryz.func156, Tryz.ntmps156
   go_wp2_with (first | (go_at_call 78; refine HL.out.mono ?_; rintro e w1 ⟨rfl, rfl⟩) | (go_at_call 157; refine HA.out.mono ?_; rintro e w1 ⟨rfl, rfl⟩))
   go_ret
   exact ⟨rfl, Fr.refl _ _⟩
  | false =>
   rw [ha] at HA
   clear hl ha
   go_enter Tryz.func156, Tryz.ntmps156
   go_wp2_with (first | (go_at_call 78; refine HL.out.mono ?_; rintro e w1 ⟨rfl, rfl⟩) | (go_at_call 157; refine HA.out.mono ?_; rintro e w1 ⟨rfl, rfl⟩))
   go_ret
   exact ⟨rfl, Fr.refl _ _⟩
theorem elast1_any (w : World) (c gk : Nat) (K : Ck) (h : ClkRow w c gk K) (hs : K.l.length ≤ 1000000) (b : Int) (b4 : Nat) (h4 : w.cell? ⟨b4, 0, none⟩ = some (.pointer (some ⟨c, 0, none⟩))) :
  Calls Tryz.prog 159 #[.int .i64 b, .pointer (some ⟨b4, 0, none⟩)] w fun e w' => e = .returned (.bool (pastB K b)) ∧ Fr No w w' := by
 have HL := hid (live_any w c gk K h hs b)
 have HA := hid (aborted_any w c gk K h hs b)
 clear h hs
 unfold pastB
 cases hl : K.live b with
 | true =>
  rw [hl] at HL
  clear hl HA
  go_enter Tryz.func159, Tryz.ntmps159
  go_wp2_with (go_at_call 78; refine HL.out.mono ?_; rintro e w1 ⟨rfl, rfl⟩)
  go_ret
  exact ⟨rfl, Fr.refl _ _⟩
 | false =>
  rw [hl] at HL
  cases ha : K.aborted b with
  | true =>
   rw [ha] at HA
   clear hl ha
   go_enter Tryz.func159, Tryz.ntmps159
   go_wp2_with (first | (go_at_call 78; refine HL.out.mono ?_; rintro e w1 ⟨rfl, rfl⟩) | (go_at_call 157; refine HA.out.mono ?_; rintro e w1 ⟨rfl, rfl⟩))
   go_ret
   exact ⟨rfl, Fr.refl _ _⟩
  | false =>
   rw [ha] at HA
   clear hl ha
   go_enter Tryz.func159, Tryz.ntmps159
   go_wp2_with (first | (go_at_call 78; refine HL.out.mono ?_; rintro e w1 ⟨rfl, rfl⟩) | (go_at_call 157; refine HA.out.mono ?_; rintro e w1 ⟨rfl, rfl⟩))
   go_ret
   exact ⟨rfl, Fr.refl _ _⟩
theorem enter_nlast1 : ∀ args w, (callFunc 156 args).run Tryz.prog w = .ok (.enter 156 args) w := enters_of Tryz.func156 (by kernel_rfl) rfl
theorem enter_elast1 : ∀ args w, (callFunc 159 args).run Tryz.prog w = .ok (.enter 159 args) w := enters_of Tryz.func159 (by kernel_rfl) rfl
set_option maxHeartbeats 1000000 in
theorem nlast_of (w : World) (x : Option Addr) (c : Nat) (r : Option NodeV)
  (hl : ∀ w0, Fr No w w0 → w0.cell? ⟨w.heap.size, 0, none⟩ = some (.pointer (some ⟨c, 0, none⟩)) → w.heap.size < w0.heap.size →
   Calls Tryz.prog 155 #[.pointer x, .func (.func 156) #[] #[.pointer (some ⟨w.heap.size, 0, none⟩)]] w0 fun e w' => e = .returned (.tuple #[optN r, .bool r.isSome]) ∧ Fr No w0 w') :
  Calls Tryz.prog 81 #[.pointer x, .pointer (some ⟨c, 0, none⟩)] w fun e w' => e = .returned (.tuple #[optN r, .bool r.isSome]) ∧ Fr No w w' := by
 obtain ⟨b4, b6⟩ := heap2 w (.cells #[.pointer (some ⟨c, 0, none⟩)] 76) (.cells #[.slice none 0 0, .slice none 0 0] 34)
 have hf : Fr No w ((w.alloc (.cells #[.pointer (some ⟨c, 0, none⟩)] 76)).alloc (.cells #[.slice none 0 0, .slice none 0 0] 34)) := ((Fr.refl No w).alloc _).alloc _
 have HL := hid (hl _ hf (cells1 b4) (by simp; omega))
 have HB := hid (⟨hf, b6⟩ : _ ∧ _)
 clear hl b4 b6 hf
 go_enter Tryz.func81, Tryz.ntmps81
 cases r with
 | none =>
  go_wp2_with (go_at_call 155; refine HL.out.mono ?_; rintro e w1 ⟨rfl, f1⟩; have k6 := f1.keep HB.out.2 id; obtain ⟨k0, k1⟩ := cells2 k6; have z6 := freeAll k6; have H1 := hid (⟨HB.out.1.thenNo f1, k6⟩ : _ ∧ _); clear f1 k6; dsimp only [optN, Option.isSome])
  obtain ⟨q6, qf⟩ := end_row w1 (w.heap.size + 1) _ _ (.slice none 0 0) (.slice none 0 0) _ H1.out.2
  obtain ⟨r0, r1⟩ := cells2 q6
  refine bodyPost_ret (v := .tuple #[optN none, .bool false]) ?_ rfl ⟨rfl, H1.out.1.fresh qf (fun k e => by subst e; omega)⟩
  simp [results, Tryz.f81, go_sem, optN, r0, r1]
 | some v =>
  go_wp2_with (go_at_call 155; refine HL.out.mono ?_; rintro e w1 ⟨rfl, f1⟩; have k6 := f1.keep HB.out.2 id; obtain ⟨k0, k1⟩ := cells2 k6; have z6 := freeAll k6; have H1 := hid (⟨HB.out.1.thenNo f1, k6⟩ : _ ∧ _); clear f1 k6; dsimp only [optN, Option.isSome])
  obtain ⟨q6, qf⟩ := end_row w1 (w.heap.size + 1) _ _ (.slice v.l.a v.l.n v.l.c) (.slice v.p.a v.p.n v.p.c) _ H1.out.2
  obtain ⟨r0, r1⟩ := cells2 q6
  refine bodyPost_ret (v := .tuple #[optN (some v), .bool true]) ?_ rfl ⟨rfl, H1.out.1.fresh qf (fun k e => by subst e; omega)⟩
  simp [results, Tryz.f81, go_sem, optN, r0, r1]
theorem nlast_any (w : World) (x g c gk : Nat) (K : Ck) (L : List (Ver NodeV)) (h : CelRow w x g L) (hs : L.length ≤ 1000000) (hk : ClkRow w c gk K) (hks : K.l.length ≤ 1000000) :
  Calls Tryz.prog 81 #[.pointer (some ⟨x, 0, none⟩), .pointer (some ⟨c, 0, none⟩)] w fun e w' => e = .returned (.tuple #[optN (lastP K L), .bool (lastP K L).isSome]) ∧ Fr No w w' :=
 nlast_of w _ c (lastP K L) (fun w0 hf h4 hlt => last_any w0 x g L (h.frame hf) hs _ _ (pastB K) enter_nlast1 (fun W b hB =>
  nlast1_any W c gk K (hk.frame (hf.thenNo (Fr.of_below hB))) hks b _ ((hB.cell (p := ⟨w.heap.size, 0, none⟩) hlt).trans h4)))
set_option maxHeartbeats 1000000 in
theorem elast_of (w : World) (x : Option Addr) (c : Nat) (r : Option EdgeV)
  (hl : ∀ w0, Fr No w w0 → w0.cell? ⟨w.heap.size, 0, none⟩ = some (.pointer (some ⟨c, 0, none⟩)) → w.heap.size < w0.heap.size →
   Calls Tryz.prog 158 #[.pointer x, .func (.func 159) #[] #[.pointer (some ⟨w.heap.size, 0, none⟩)]] w0 fun e w' => e = .returned (.tuple #[Ec.optN r, .bool r.isSome]) ∧ Fr No w0 w') :
  Calls Tryz.prog 83 #[.pointer x, .pointer (some ⟨c, 0, none⟩)] w fun e w' => e = .returned (.tuple #[Ec.optN r, .bool r.isSome]) ∧ Fr No w w' := by
 obtain ⟨b4, b6⟩ := heap2 w (.cells #[.pointer (some ⟨c, 0, none⟩)] 76) (.cells #[.int .i64 0, .int .i64 0, .string ⟨#[]⟩, .float .f64 0] 48)
 have hf : Fr No w ((w.alloc (.cells #[.pointer (some ⟨c, 0, none⟩)] 76)).alloc (.cells #[.int .i64 0, .int .i64 0, .string ⟨#[]⟩, .float .f64 0] 48)) := ((Fr.refl No w).alloc _).alloc _
 have HL := hid (hl _ hf (cells1 b4) (by simp; omega))
 have HB := hid (⟨hf, b6⟩ : _ ∧ _)
 clear hl b4 b6 hf
 go_enter Tryz.func83, Tryz.ntmps83
 cases r with
 | none =>
  go_wp2_with (go_at_call 158; refine HL.out.mono ?_; rintro e w1 ⟨rfl, f1⟩; have k6 := f1.keep HB.out.2 id; obtain ⟨k0, k1, k2, k3⟩ := cells4 k6; have z6 := freeAll k6; have H1 := hid (⟨HB.out.1.thenNo f1, k6⟩ : _ ∧ _); clear f1 k6; dsimp only [Ec.optN, Option.isSome])
  obtain ⟨q6, qf⟩ := Ec.end_row w1 (w.heap.size + 1) _ _ _ _ (.int .i64 0) (.int .i64 0) (.string ⟨#[]⟩) (.float .f64 0) _ H1.out.2
  obtain ⟨r0, r1, q2, q3⟩ := cells4 q6
  refine bodyPost_ret (v := .tuple #[Ec.optN none, .bool false]) ?_ rfl ⟨rfl, H1.out.1.fresh qf (fun k e => by subst e; omega)⟩
  simp [results, Tryz.f83, go_sem, Ec.optN, r0, r1, q2, q3]
 | some v =>
  go_wp2_with (go_at_call 158; refine HL.out.mono ?_; rintro e w1 ⟨rfl, f1⟩; have k6 := f1.keep HB.out.2 id; obtain ⟨k0, k1, k2, k3⟩ := cells4 k6; have z6 := freeAll k6; have H1 := hid (⟨HB.out.1.thenNo f1, k6⟩ : _ ∧ _); clear f1 k6; dsimp only [Ec.optN, Option.isSome])
  obtain ⟨q6, qf⟩ := Ec.end_row w1 (w.heap.size + 1) _ _ _ _ (.int .i64 v.from_) (.int .i64 v.to_) (.string v.type) (.float .f64 v.w) _ H1.out.2
  obtain ⟨r0, r1, q2, q3⟩ := cells4 q6
  refine bodyPost_ret (v := .tuple #[Ec.optN (some v), .bool true]) ?_ rfl ⟨rfl, H1.out.1.fresh qf (fun k e => by subst e; omega)⟩
  simp [results, Tryz.f83, go_sem, Ec.optN, r0, r1, q2, q3]
theorem elast_any (w : World) (x g c gk : Nat) (K : Ck) (L : List (Ver EdgeV)) (h : Ec.CelRow w x g L) (hs : L.length ≤ 1000000) (hk : ClkRow w c gk K) (hks : K.l.length ≤ 1000000) :
  Calls Tryz.prog 83 #[.pointer (some ⟨x, 0, none⟩), .pointer (some ⟨c, 0, none⟩)] w fun e w' => e = .returned (.tuple #[Ec.optN (lastP K L), .bool (lastP K L).isSome]) ∧ Fr No w w' :=
 elast_of w _ c (lastP K L) (fun w0 hf h4 hlt => Ec.last_any w0 x g L (h.frame hf) hs _ _ (pastB K) enter_elast1 (fun W b hB =>
  elast1_any W c gk K (hk.frame (hf.thenNo (Fr.of_below hB))) hks b _ ((hB.cell (p := ⟨w.heap.size, 0, none⟩) hlt).trans h4)))
end Go.Proofs.YthadcdoepoglkaaGreatDoor
namespace Go.Proofs.YthadcdoepoglkaaGreatDoor
open Go.RowKit Go.Lig
def lastN (M : PSt) (i : Nat) : Option NodeD := lastP M.K (M.N[i]?.getD [])
def lastE (M : PSt) (i : Nat) : Option EdgeV := lastP M.K (M.E[i]?.getD [])
def imgN (M : PSt) : List WrD := wrsN (fun i => (lastN M i).isSome) (fun i => lastN M i) M.N.length
def imgE (M : PSt) : List WrD := wrsE (fun i => (lastE M i).isSome) (fun i => lastE M i) M.E.length
def imgM (M : PSt) : List WrD := imgN M ++ (imgE M).map WrD.mark
section
variable {w : World} {ρ : Nat → Option Pt} {s : Nat} {A : Ad} {M : PSt} {F : Nat}
theorem StAt.ltN (h : StAt w ρ s A M F) {k : Nat} (hk : k < M.N.length) : ∃ (la : Option Addr) (ln lc : Nat) (pa : Option Addr) (pn pc : Nat), NodeIn w (At ρ .imm) (.slice la ln lc) (.slice pa pn pc) ((lastN M k).getD NodeD.none) ∧
  ∀ u, Fr No w u → Calls Tryz.prog 81 #[.pointer (some ⟨A.x k, 0, none⟩), .pointer (some ⟨A.c, 0, none⟩)] u fun e w' => e = .returned (.tuple #[.agg #[.slice la ln lc, .slice pa pn pc], .bool (lastN M k).isSome]) ∧ Fr No u w' := by
 obtain ⟨gk, hck, -⟩ := h.clock.row
 obtain ⟨L, hL⟩ : ∃ L, M.N[k]? = some L := ⟨_, List.getElem?_eq_getElem hk⟩
 have eL : lastN M k = lastP M.K L := by unfold lastN; rw [hL]; rfl
 rw [eL]
 obtain ⟨H, h1, h2⟩ := (h.ncell hL).ex
 obtain ⟨g, hr, -⟩ := h1.row
 have ho : OptIn w (At ρ .imm) (lastP M.K H) (lastP M.K L) := lastOf_two _ _ _ h2.reverse
 have hc := fun u (hu : Fr No w u) => nlast_any u (A.x k) g A.c gk M.K H (hr.frame hu) h1.small (hck.frame hu) h.clock.small.1
 cases hx : lastP M.K H with
 | none =>
  rw [hx] at ho hc
  have hn : lastP M.K L = none := by have := ho.is; cases e : lastP M.K L with | none => rfl | some _ => rw [e] at this; cases this
  rw [hn]
  exact ⟨none, 0, 0, none, 0, 0, NodeIn.none _ _, hc⟩
 | some v =>
  rw [hx] at ho hc
  obtain ⟨d, hd⟩ : ∃ d, lastP M.K L = some d := by have := ho.is; cases e : lastP M.K L with | none => rw [e] at this; cases this | some d => exact ⟨d, rfl⟩
  rw [hd]
  exact ⟨_, _, _, _, _, _, ho.v v d rfl hd, hc⟩
theorem StAt.ltE (h : StAt w ρ s A M F) {k : Nat} (hk : k < M.E.length) : ∀ u, Fr No w u → Calls Tryz.prog 83 #[.pointer (some ⟨A.z k, 0, none⟩), .pointer (some ⟨A.c, 0, none⟩)] u fun e w' => e = .returned (.tuple #[.agg (edgeCs ((lastE M k).getD EdgeV.none)), .bool (lastE M k).isSome]) ∧ Fr No u w' := by
 obtain ⟨gk, hck, -⟩ := h.clock.row
 intro u hu
 obtain ⟨L, hL⟩ : ∃ L, M.E[k]? = some L := ⟨_, List.getElem?_eq_getElem hk⟩
 have eL : lastE M k = lastP M.K L := by unfold lastE; rw [hL]; rfl
 obtain ⟨g, hr, -⟩ := (h.ecell hL).row
 rw [eL, ← optE_eq]
 exact elast_any u (A.z k) g A.c gk M.K L (hr.frame hu) (h.ecell hL).small (hck.frame hu) h.clock.small.1
end
set_option maxRecDepth 100000 in
theorem img1_any (w : World) (x s c b2 : Nat) (la : Option Addr) (ln lc : Nat) (pa : Option Addr) (pn pc : Nat) (rb : Bool) (h2 : w.cell? ⟨b2, 0, none⟩ = some (.pointer (some ⟨s, 0, none⟩))) (hc : w.cell? ⟨s, 0, none⟩ = some (.pointer (some ⟨c, 0, none⟩)))
  (hr : Calls Tryz.prog 81 #[.pointer (some ⟨x, 0, none⟩), .pointer (some ⟨c, 0, none⟩)] w fun e w' => e = .returned (.tuple #[.agg #[.slice la ln lc, .slice pa pn pc], .bool rb]) ∧ Fr No w w') :
  Calls Tryz.prog 80 #[.pointer (some ⟨x, 0, none⟩), .pointer (some ⟨b2, 0, none⟩)] w fun e w' => e = .returned (.bool rb) ∧ Fr No w w' := by
 have HR := hid hr
 clear hr
 go_enter Tryz.func80, Tryz.ntmps80
 go_wp2_with (go_at_call 81; refine HR.out.mono ?_; rintro e w1 ⟨rfl, f1⟩; obtain ⟨W1, hW1⟩ : ∃ W1, w1.alloc (.cells #[.slice la ln lc, .slice pa pn pc] 34) = W1 := ⟨_, rfl⟩; have F1 := hid (show Fr No w W1 by rw [← hW1]; exact f1.alloc _); clear f1)
 go_ret
 exact ⟨rfl, by first | exact F1.out | (rw [hW1]; exact F1.out)⟩
theorem enter_img1_any : ∀ args w, (callFunc 80 args).run Tryz.prog w = .ok (.enter 80 args) w := enters_of Tryz.func80 (by kernel_rfl) rfl
set_option maxRecDepth 100000 in
theorem img2_any (w : World) (x s c b2 : Nat) (ef et : Int) (ey : ByteArray) (ew : Nat) (rb : Bool) (h2 : w.cell? ⟨b2, 0, none⟩ = some (.pointer (some ⟨s, 0, none⟩))) (hc : w.cell? ⟨s, 0, none⟩ = some (.pointer (some ⟨c, 0, none⟩)))
  (hr : Calls Tryz.prog 83 #[.pointer (some ⟨x, 0, none⟩), .pointer (some ⟨c, 0, none⟩)] w fun e w' => e = .returned (.tuple #[.agg #[.int .i64 ef, .int .i64 et, .string ey, .float .f64 ew], .bool rb]) ∧ Fr No w w') :
  Calls Tryz.prog 82 #[.pointer (some ⟨x, 0, none⟩), .pointer (some ⟨b2, 0, none⟩)] w fun e w' => e = .returned (.bool rb) ∧ Fr No w w' := by
 have HR := hid hr
 clear hr
 go_enter Tryz.func82, Tryz.ntmps82
 go_wp2_with (go_at_call 83; refine HR.out.mono ?_; rintro e w1 ⟨rfl, f1⟩; obtain ⟨W1, hW1⟩ : ∃ W1, w1.alloc (.cells #[.int .i64 ef, .int .i64 et, .string ey, .float .f64 ew] 48) = W1 := ⟨_, rfl⟩; have F1 := hid (show Fr No w W1 by rw [← hW1]; exact f1.alloc _); clear f1)
 go_ret
 exact ⟨rfl, by first | exact F1.out | (rw [hW1]; exact F1.out)⟩
theorem enter_img2_any : ∀ args w, (callFunc 82 args).run Tryz.prog w = .ok (.enter 82 args) w := enters_of Tryz.func82 (by kernel_rfl) rfl
set_option maxRecDepth 100000 in
set_option maxHeartbeats 1000000 in
theorem img3_any (w : World) (x s c b2 : Nat) (la : Option Addr) (ln lc : Nat) (pa : Option Addr) (pn pc : Nat) (rb : Bool) (h2 : w.cell? ⟨b2, 0, none⟩ = some (.pointer (some ⟨s, 0, none⟩))) (hc : w.cell? ⟨s, 0, none⟩ = some (.pointer (some ⟨c, 0, none⟩)))
  (hr : ∀ u, Fr No w u → Calls Tryz.prog 81 #[.pointer (some ⟨x, 0, none⟩), .pointer (some ⟨c, 0, none⟩)] u fun e w' => e = .returned (.tuple #[.agg #[.slice la ln lc, .slice pa pn pc], .bool rb]) ∧ Fr No u w') :
  Calls Tryz.prog 85 #[.pointer (some ⟨x, 0, none⟩), .pointer (some ⟨b2, 0, none⟩)] w fun e w' => e = .returned (.tuple #[.agg #[.slice la ln lc, .slice pa pn pc], .bool rb]) ∧ Fr No w w' := by
 have hb := heap1 w (.cells #[.slice none 0 0, .slice none 0 0] 34)
 have hf : Fr No w (w.alloc (.cells #[.slice none 0 0, .slice none 0 0] 34)) := (Fr.refl No w).alloc _
 have e0 : ∀ b k, b < w.heap.size → (w.alloc (.cells #[.slice none 0 0, .slice none 0 0] 34)).cell? ⟨b, k, none⟩ = w.cell? ⟨b, k, none⟩ := fun b k hb => World.cell?_of_block (w := w) (hold hb)
 have c0 := (e0 s 0 (World.block_lt_of_cell? _ _ hc)).trans hc
 have c2 := (e0 b2 0 (World.block_lt_of_cell? _ _ h2)).trans h2
 have HR := hid (hr _ hf)
 have HF := hid (⟨hf, hb⟩ : _ ∧ _)
 clear h2 hc hr e0 hf hb
 go_enter Tryz.func85, Tryz.ntmps85
 go_wp2_with (first | (go_at_call 81; refine HR.out.mono ?_; rintro e w2 ⟨rfl, f2⟩; have F2 := hid (⟨HF.out.1.thenNo f2, f2.keep HF.out.2 (fun e => e)⟩ : _ ∧ _); clear f2) | (refine wpList_storeO rfl 34 (.tmp 3) (.tmp 11) rfl w.heap.size 0 rfl [.slice none 0 0, .slice none 0 0] 34 [.slice la ln lc, .slice pa pn pc] rfl (by kernel_rfl) F2.out.2 (by simp) (by simp [Value.oneCell']) ?_; intro w3 p3; have P3 := hid (show Put w.heap.size #[.slice la ln lc, .slice pa pn pc] 34 w2 w3 from p3); clear p3))
 obtain ⟨r0, r1⟩ := cells2 P3.out.at_
 refine bodyPost_ret (v := .tuple #[.agg #[.slice la ln lc, .slice pa pn pc], .bool rb]) ?_ rfl ⟨rfl, F2.out.1.fresh' P3.out.fr (fun k e => by omega)⟩
 simp [results, Tryz.f85, go_sem, r0, r1]
theorem enter_img3_any : ∀ args w, (callFunc 85 args).run Tryz.prog w = .ok (.enter 85 args) w := enters_of Tryz.func85 (by kernel_rfl) rfl
set_option maxRecDepth 100000 in
set_option maxHeartbeats 1000000 in
theorem img4_any (w : World) (x s c b2 : Nat) (ef et : Int) (ey : ByteArray) (ew : Nat) (rb : Bool) (h2 : w.cell? ⟨b2, 0, none⟩ = some (.pointer (some ⟨s, 0, none⟩))) (hc : w.cell? ⟨s, 0, none⟩ = some (.pointer (some ⟨c, 0, none⟩)))
  (hr : ∀ u, Fr No w u → Calls Tryz.prog 83 #[.pointer (some ⟨x, 0, none⟩), .pointer (some ⟨c, 0, none⟩)] u fun e w' => e = .returned (.tuple #[.agg #[.int .i64 ef, .int .i64 et, .string ey, .float .f64 ew], .bool rb]) ∧ Fr No u w') :
  Calls Tryz.prog 88 #[.pointer (some ⟨x, 0, none⟩), .pointer (some ⟨b2, 0, none⟩)] w fun e w' => e = .returned (.tuple #[.agg #[.int .i64 ef, .int .i64 et, .string ey, .float .f64 ew], .bool rb]) ∧ Fr No w w' := by
 have hb := heap1 w (.cells #[.int .i64 0, .int .i64 0, .string ⟨#[]⟩, .float .f64 0] 48)
 have hf : Fr No w (w.alloc (.cells #[.int .i64 0, .int .i64 0, .string ⟨#[]⟩, .float .f64 0] 48)) := (Fr.refl No w).alloc _
 have e0 : ∀ b k, b < w.heap.size → (w.alloc (.cells #[.int .i64 0, .int .i64 0, .string ⟨#[]⟩, .float .f64 0] 48)).cell? ⟨b, k, none⟩ = w.cell? ⟨b, k, none⟩ := fun b k hb => World.cell?_of_block (w := w) (hold hb)
 have c0 := (e0 s 0 (World.block_lt_of_cell? _ _ hc)).trans hc
 have c2 := (e0 b2 0 (World.block_lt_of_cell? _ _ h2)).trans h2
 have HR := hid (hr _ hf)
 have HF := hid (⟨hf, hb⟩ : _ ∧ _)
 clear h2 hc hr e0 hf hb
 go_enter Tryz.func88, Tryz.ntmps88
 go_wp2_with (first | (go_at_call 83; refine HR.out.mono ?_; rintro e w2 ⟨rfl, f2⟩; have F2 := hid (⟨HF.out.1.thenNo f2, f2.keep HF.out.2 (fun e => e)⟩ : _ ∧ _); clear f2) | (refine wpList_storeO rfl 48 (.tmp 3) (.tmp 11) rfl w.heap.size 0 rfl [.int .i64 0, .int .i64 0, .string ⟨#[]⟩, .float .f64 0] 48 [.int .i64 ef, .int .i64 et, .string ey, .float .f64 ew] rfl (by kernel_rfl) F2.out.2 (by simp) (by simp [Value.oneCell']) ?_; intro w3 p3; have P3 := hid (show Put w.heap.size #[.int .i64 ef, .int .i64 et, .string ey, .float .f64 ew] 48 w2 w3 from p3); clear p3))
 obtain ⟨r0, r1, r2, r3⟩ := cells4 P3.out.at_
 refine bodyPost_ret (v := .tuple #[.agg #[.int .i64 ef, .int .i64 et, .string ey, .float .f64 ew], .bool rb]) ?_ rfl ⟨rfl, F2.out.1.fresh' P3.out.fr (fun k e => by omega)⟩
 simp [results, Tryz.f88, go_sem, r0, r1, r2, r3]
theorem enter_img4_any : ∀ args w, (callFunc 88 args).run Tryz.prog w = .ok (.enter 88 args) w := enters_of Tryz.func88 (by kernel_rfl) rfl
section
variable (w : World) (ρ : Nat → Option Pt) (s : Nat) (A : Ad) (M : PSt) (F : Nat) (h : StAt w ρ s A M F)
include h
theorem imn_any (b2 : Nat) (h2 : w.cell? ⟨b2, 0, none⟩ = some (.pointer (some ⟨s, 0, none⟩))) : Calls Tryz.prog 84 #[A.nv, .func (.func 80) #[] #[.pointer (some ⟨b2, 0, none⟩)], .func (.func 85) #[] #[.pointer (some ⟨b2, 0, none⟩)], .func (.func 86) #[] #[]] w fun e w' => ∃ v', e = .returned v' ∧ WrsO w w' v' (imgN M) := by
 have hb2 := World.block_lt_of_cell? _ _ h2
 obtain ⟨hr, -, hn⟩ := h.at_ .nrow
 refine writesn_any w A.nv M.N.length A.x (Rd.of_owns hr (ptrs_one _ _)) hn _ _ _ _ _ _ enter_img1_any enter_img3_any (fun i hi W hW => ?_) (fun i hi => ?_)
 ·obtain ⟨la, ln, lc, pa, pn, pc, hin, hr⟩ := h.ltN hi
  exact img1_any W (A.x i) s A.c b2 la ln lc pa pn pc _ ((World.cell?_of_block (w := w) (hW.block b2 hb2 (fun e => e))).trans h2) (h.frame hW).cells.1 (hr W hW)
 ·obtain ⟨la, ln, lc, pa, pn, pc, hin, hr⟩ := h.ltN hi
  exact ⟨la, ln, lc, pa, pn, pc, _, hin, fun W hW => img3_any W (A.x i) s A.c b2 la ln lc pa pn pc _ ((World.cell?_of_block (w := w) (hW.block b2 hb2 (fun e => e))).trans h2) (h.frame hW).cells.1 (fun u hu => hr u (hW.thenNo hu))⟩
theorem ime_any (b2 : Nat) (h2 : w.cell? ⟨b2, 0, none⟩ = some (.pointer (some ⟨s, 0, none⟩))) : Calls Tryz.prog 87 #[A.dv, .func (.func 82) #[] #[.pointer (some ⟨b2, 0, none⟩)], .func (.func 88) #[] #[.pointer (some ⟨b2, 0, none⟩)], .func (.func 89) #[] #[]] w fun e w' => ∃ v', e = .returned v' ∧ WrsO w w' v' (imgE M) := by
 have hb2 := World.block_lt_of_cell? _ _ h2
 obtain ⟨hr, -, hn⟩ := h.at_ .edrow
 refine writese_any w A.dv M.E.length A.z (Rd.of_owns hr (ptrs_one _ _)) hn _ _ _ _ _ _ enter_img2_any enter_img4_any (fun i hi W hW => ?_) (fun i hi W hW => ?_)
 ·exact img2_any W (A.z i) s A.c b2 _ _ _ _ _ ((World.cell?_of_block (w := w) (hW.block b2 hb2 (fun e => e))).trans h2) (h.frame hW).cells.1 (h.ltE hi W hW)
 ·exact img4_any W (A.z i) s A.c b2 _ _ _ _ _ ((World.cell?_of_block (w := w) (hW.block b2 hb2 (fun e => e))).trans h2) (h.frame hW).cells.1 (fun u hu => h.ltE hi u (hW.thenNo hu))
end
set_option maxRecDepth 100000 in
set_option maxHeartbeats 4000000 in
theorem image_any (w : World) (ρ : Nat → Option Pt) (s : Nat) (A : Ad) (M : PSt) (F : Nat) (h : StAt w ρ s A M F) :
  Calls Tryz.prog 37 #[.pointer (some ⟨s, 0, none⟩)] w fun e w' => ∃ v, e = .returned (.tuple #[.int .i64 (M.N.length : Int), .int .i64 (M.E.length : Int), v]) ∧ WrsO w w' v (imgM M) := by
 have k2 := heap1 w (.cells #[.pointer (some ⟨s, 0, none⟩)] 25)
 have hf : Fr No w (w.alloc (.cells #[.pointer (some ⟨s, 0, none⟩)] 25)) := (Fr.refl No w).alloc _
 have hsl := h.lt
 have h1 := h.frame hf
 have c2 := cells1 k2
 obtain ⟨an, cn, hnv⟩ := ownsRow_slice (h.at_ .nrow).1
 obtain ⟨ad, cd, hdv⟩ := ownsRow_slice (h.at_ .edrow).1
 have HPn := hid (imn_any _ ρ s A M F h1 w.heap.size c2)
 have HPe := hid (fun (W : World) (hW : Fr No (w.alloc (.cells #[.pointer (some ⟨s, 0, none⟩)] 25)) W) => ime_any W ρ s A M F (h1.frame hW) w.heap.size (cells1 (hW.keep k2 (fun e => e))))
 have HNl := hid (⟨h.nlen, h.elen, wrsN_len (fun i => (lastN M i).isSome) (fun i => lastN M i) M.N.length, wrsE_len (fun i => (lastE M i).isSome) (fun i => lastE M i) M.E.length⟩ : M.N.length ≤ 1000 ∧ M.E.length ≤ 1000 ∧ (imgN M).length ≤ M.N.length ∧ (imgE M).length ≤ M.E.length)
 have s1 := h1.cells.2.1
 have s2 := h1.cells.2.2.1
 have HH := hid (⟨h.cells.2.1, h.cells.2.2.1, hnv, hdv, hsl⟩ : _ ∧ _ ∧ _ ∧ _ ∧ _)
 rw [hnv] at HPn s1
 rw [hdv] at HPe s2
 have HF := hid (⟨hf, k2⟩ : _ ∧ _)
 have HPM : Hid (imgM M = imgN M ++ (imgE M).map WrD.mark) := hid rfl
 rw [HPM.out]
 generalize imgN M = ln at *
 generalize imgE M = le at *
 generalize M.N.length = n at *
 generalize M.E.length = m at *
 clear hf h h1 hnv hdv hsl HPM
 go_enter Tryz.func37, Tryz.ntmps37
 go_wp2_with fail
 generalize (w.alloc (.cells #[.pointer (some ⟨s, 0, none⟩)] 25)) = w1 at *
 refine HPn.out.mono ?_
 rintro e w2 ⟨v2, rfl, o2⟩
 have HO2 := hid o2
 have c2' := cells1 (o2.fr.keep k2 (fun e => e))
 have s2' := (World.cell?_of_block (w := w1) (o2.fr.block s (Nat.lt_of_lt_of_le HH.out.2.2.2.2 HF.out.1.size) (fun e => e))).trans s2
 clear o2 c2 s1 s2 k2
 go_wp2_with fail
 refine (HPe.out w2 HO2.out.fr).mono ?_
 rintro e w3 ⟨v3, rfl, o3⟩
 have HO3 := hid o3
 clear o3 c2' s2'
 go_wp2_with fail
 have f3 := (HF.out.1.thenNo HO2.out.fr).thenNo HO3.out.fr
 have c2'' := cells1 ((HO2.out.fr.thenNo HO3.out.fr).keep HF.out.2 (fun e => e))
 have s1' := (World.cell?_of_block (w := w) (f3.block s HH.out.2.2.2.2 (fun e => e))).trans HH.out.1
 have s2'' := (World.cell?_of_block (w := w) (f3.block s HH.out.2.2.2.2 (fun e => e))).trans HH.out.2.1
 rw [HH.out.2.2.1] at s1'
 rw [HH.out.2.2.2.1] at s2''
 have hsc : ∀ j ∈ [s, w.heap.size], j < w3.drew.heap.size ∧ ¬ No j := fun j hj => ⟨by
  rcases List.mem_cons.1 hj with rfl | hj
  ·exact Nat.lt_of_lt_of_le HH.out.2.2.2.2 f3.size
  ·rw [List.mem_singleton.1 hj]; exact Nat.lt_of_lt_of_le (lt_of_block HF.out.2) (HO2.out.fr.thenNo HO3.out.fr).size, fun e => e⟩
 refine wp_region_sched (by kernel_rfl) 17 [12, 13] [0, 1, 2, 3, 4, 5, 6, 7, 8, 9, 10, 11, 12, 13, 14, 15, 16] (AgC [s, w.heap.size] w3.drew) (by kernel_rfl) (AgC.refl _ _) ?_
 simp only [List.map_cons, List.map_nil, List.contains_cons, List.contains_nil, nth_zero, nth_succ, Nat.reduceBEq, Bool.false_or, Bool.or_false, Bool.or_true, Bool.true_or]
 repeat (refine sched_quiet (fun K hK => ?_); go_simp; refine hK _ ?_; clear hK K)
 have HO3d := HO3.out.next (Fr.refl No w3).drew
 refine sched_call (by first | rfl | go_simp) 90 #[v3] (by first | kernel_rfl | go_simp) (edged_any w2 w3.drew v3 le HO3d (Nat.le_trans HNl.out.2.2.2 HNl.out.2.1)) ?_
 rintro e w4 ⟨rfl, o4⟩
 have hlt2 : ∀ j ∈ [s, w.heap.size], j < w2.heap.size := fun j hj => by
  rcases List.mem_cons.1 hj with rfl | hj
  ·exact Nat.lt_of_lt_of_le HH.out.2.2.2.2 (HF.out.1.thenNo HO2.out.fr).size
  ·rw [List.mem_singleton.1 hj]; exact Nat.lt_of_lt_of_le (lt_of_block HF.out.2) HO2.out.fr.size
 have a4 : AgC [s, w.heap.size] w3.drew w4 := AgC.mk fun b hb => (o4.fr.block b (hlt2 b hb) (fun e => e)).trans (HO3d.fr.block b (hlt2 b hb) (fun e => e)).symm
 refine ⟨_, rfl, a4, ?_⟩
 have ha := HO2.out.ahead HF.out.1
 obtain ⟨Ha, Ja, hha⟩ := ha.ex
 obtain ⟨Hb, Jb, hhb⟩ := o4.ex
 obtain ⟨a2, e2, rfl⟩ := ownsRow_slice hha.row
 obtain ⟨a3, e3, rfl⟩ := ownsRow_slice hhb.row
 have HHA := hid (⟨ha, hha, o4, hhb⟩ : _ ∧ _ ∧ _ ∧ _)
 have HLM := hid (show (le.map WrD.mark).length = le.length from List.length_map _)
 generalize (le.map WrD.mark).length = k at *
 clear ha hha hhb
 repeat (refine sched_quiet (fun K hK => ?_); go_simp; refine hK _ ?_; clear hK K)
 refine sched_loud (wpList_app rfl (.tmp 37) (.tmp 39) 85 rfl 89 _ 9 112 Tryz.underlying85 infoWr (by kernel_rfl) (by decide) (.slice a2 ln.length e2) ln.length (Ha.flatMap wrcell) rfl (fd_owns HHA.out.2.1.row o4.fr) (.slice a3 k e3) k (Hb.flatMap wrcell) rfl (by have h0 := HHA.out.2.2.2.row; rw [List.length_map, ← HLM.out] at h0; exact Rd.of_owns h0 (fun u hu => wrcell_one u hu)) (by have := HNl.out; have := HLM.out; unfold maxLen; omega) (by have := HNl.out; have := HLM.out; omega) ?_)
 intro v5 w5 o5 f5 b5 _
 have hva : ∀ j ∈ [s, w.heap.size], ¬ (Value.slice a2 ln.length e2).ownBlock = some j := fun j hj e => by
  have h1 := HO2.out.blk j e
  have h2 : j < w1.heap.size := by
   rcases List.mem_cons.1 hj with rfl | hj
   ·exact Nat.lt_of_lt_of_le HH.out.2.2.2.2 HF.out.1.size
   ·rw [List.mem_singleton.1 hj]; exact lt_of_block HF.out.2
  omega
 refine sched_on (a4.fr f5 (fun j hj => ⟨(hsc j hj).1, hva j hj⟩)) ?_
 have HR := hid (WrsO.cat HHA.out.1 HHA.out.2.1 HHA.out.2.2.1 HHA.out.2.2.2 (by rw [List.length_map, ← HLM.out]; exact o5) f5 b5)
 clear o4 a4 hva o5 f5 b5 c2'' s1' s2'' hsc
 repeat (refine sched_quiet (fun K hK => ?_); go_simp; refine hK _ ?_; clear hK K)
 refine sched_nil ?_
 go_wp2_with fail
 refine bodyPost_ret (v := .tuple #[.int .i64 (n : Int), .int .i64 (m : Int), v5]) ?_ rfl ⟨v5, rfl, HR.out⟩
 simp [results, Tryz.f37, go_sem]
end Go.Proofs.YthadcdoepoglkaaGreatDoor
namespace Go.Proofs.YthadcdoepoglkaaGreatDoor
open Go.RowKit Go.Lig
def costW (d : WrD) : Nat := d.n.L.length + d.n.Q.length + if d.edge then 2 else 0
def leastTo (l : List WrD) (i : Nat) : Nat := l.length + ((l.take i).map costW).sum
def leastW (l : List WrD) : Nat := leastTo l l.length
theorem leastTo_succ {l : List WrD} {i : Nat} {d : WrD} (h : l[i]? = some d) : leastTo l (i + 1) = leastTo l i + costW d := by
 unfold leastTo
 rw [List.take_add_one, h, Option.toList_some, List.map_append, List.sum_append]
 simp [Nat.add_assoc]
theorem costs_le {l : List WrD} {B : Nat} (h : ∀ d ∈ l, costW d ≤ B) : ∀ i, ((l.take i).map costW).sum ≤ B * i
 | 0 => by simp
 | i + 1 => by
  have ih := costs_le h i
  by_cases hi : i < l.length
  ·have hd := List.getElem?_eq_getElem hi
   rw [List.take_add_one, hd, Option.toList_some, List.map_append, List.sum_append]
   have := h _ (List.mem_of_getElem? hd)
   have e : (([l[i]] : List WrD).map costW).sum = costW l[i] := by simp
   rw [e, Nat.mul_succ]
   omega
  ·rw [List.take_of_length_le (by omega)]
   rw [List.take_of_length_le (by omega)] at ih
   rw [Nat.mul_succ]
   omega
set_option maxRecDepth 100000 in
set_option maxHeartbeats 2000000 in
theorem least_any (w : World) (ρ : Nat → Option Pt) (s : Nat) (A : Ad) (M : PSt) (F : Nat) (h : StAt w ρ s A M F) :
  Calls Tryz.prog 13 #[.pointer (some ⟨s, 0, none⟩)] w fun e w' => e = .returned (.int .i64 (leastW (imgM M) : Int)) ∧ Fr No w w' := by
 have HI := hid (image_any w ρ s A M F h)
 have h1 := h.nlen
 have h2 := h.elen
 have hl : (imgM M).length ≤ 2000 := by
  have a1 := wrsN_len (fun i => (lastN M i).isSome) (fun i => lastN M i) M.N.length
  have a2 := wrsE_len (fun i => (lastE M i).isSome) (fun i => lastE M i) M.E.length
  unfold imgM imgN imgE
  rw [List.length_append, List.length_map]
  omega
 generalize imgM M = l at *
 generalize (M.N.length : Int) = mn at *
 generalize (M.E.length : Int) = me at *
 obtain ⟨n, hn⟩ : ∃ n, l.length = n := ⟨_, rfl⟩
 have HNe := hid hn
 have HW : Hid (leastW l = leastTo l n) := hid (by unfold leastW; rw [hn])
 rw [HW.out]
 have H0 : Hid (leastTo l 0 = n) := hid (by unfold leastTo; simp [hn])
 rw [hn] at hl
 clear h h1 h2 hn
 go_enter Tryz.func13, Tryz.ntmps13
 go_wp2_with (go_at_call 37; refine HI.out.mono ?_; rintro e w1 ⟨v1, rfl, o1⟩; obtain ⟨H, J, hh⟩ := o1.ex; obtain ⟨av, cv, rfl⟩ := ownsRow_slice hh.row; have H1 := hid (⟨o1.fr, hh⟩ : _ ∧ _); rw [HNe.out]; clear o1 hh)
 go_loopw [6, 19] (fun vn vi wr => ∃ i : Nat, i ≤ n ∧ vn = .int .i64 (leastTo l i : Int) ∧ vi = .int .i64 (i : Int) ∧ Hid (Fr No w1 wr)) (fun _ vi _ => n - (intOf vi).toNat)
 case atStart => exact ⟨0, Nat.zero_le _, by rw [H0.out], rfl, Fr.refl _ _⟩
 case round =>
  obtain ⟨i, hi, rfl, rfl, HF⟩ := hrel
  by_cases hlt : i < n
  ·obtain ⟨d, hd⟩ : ∃ d, l[i]? = some d := ⟨l[i]'(by have := HNe.out; omega), List.getElem?_eq_getElem _⟩
   obtain ⟨x, hx⟩ : ∃ x, H[i]? = some x := ⟨H[i]'(by have := H1.out.2.len; have := HNe.out; omega), List.getElem?_eq_getElem _⟩
   have hin := H1.out.2.ins i x d hx hd
   have hrow := fd_owns H1.out.2.row HF.out
   rw [HNe.out] at hrow
   obtain ⟨g, cur, rfl, -, -⟩ := owns_at hrow (by omega)
   have g0 : ∀ t, t < 9 → (H.flatMap wrcell)[i * 9 + t]? = (wrcell x)[t]? := fun t ht => flat_get (f := wrcell) (m := 9) (fun _ => rfl) _ _ _ hx t ht
   have gc : ∀ t u, t < 9 → (wrcell x)[t]? = some u → wr.cell? ⟨g, i * 9 + t, none⟩ = some u := fun t u ht hu => owns_cell hrow rfl (by rw [g0 t ht]; exact hu)
   have y0 := gc 0 _ (by decide) rfl
   have y1 := gc 1 _ (by decide) rfl
   have y2 := gc 2 _ (by decide) rfl
   have y3 := gc 3 _ (by decide) rfl
   have y4 := gc 4 _ (by decide) rfl
   have y5 := gc 5 _ (by decide) rfl
   have y6 := gc 6 _ (by decide) rfl
   have y7 := gc 7 _ (by decide) rfl
   have y8 := gc 8 _ (by decide) rfl
   rw [Nat.add_zero] at y0
   have hsl := hin.n.l.rd
   have hsp := hin.n.p.rd
   obtain ⟨_, _, e1, -⟩ := rd_len hsl
   obtain ⟨-, q1, -⟩ := Value.slice.inj e1
   obtain ⟨_, _, e2, -⟩ := rd_len hsp
   obtain ⟨-, q2, -⟩ := Value.slice.inj e2
   have hfew := hin.n.few
   have HS := hid (leastTo_succ hd)
   have hsm : leastTo l i ≤ 5000000000 := by
    have : ((l.take i).map costW).sum ≤ 2000002 * i := costs_le (fun z hz => by
     obtain ⟨j, hj, rfl⟩ := List.getElem_of_mem hz
     have := (H1.out.2.ins j (H[j]'(by have := H1.out.2.len; omega)) l[j] (List.getElem?_eq_getElem _) (List.getElem?_eq_getElem hj)).n.few
     unfold costW
     split <;> omega) i
    unfold leastTo
    have := HNe.out
    omega
   have hed : x.edge = d.edge := hin.edge
   rw [q1] at y3
   rw [q2] at y4
   rw [hed] at y0
   unfold costW at HS
   clear hin hrow g0 gc hsl hsp e1 e2 q1 q2 hed hd hx
   obtain ⟨a, ha⟩ : ∃ a, d.n.L.length = a := ⟨_, rfl⟩
   obtain ⟨b, hb⟩ : ∃ b, d.n.Q.length = b := ⟨_, rfl⟩
   rw [ha, hb] at HS hfew
   rw [ha] at y3
   rw [hb] at y4
   obtain ⟨z, hz⟩ : ∃ z, leastTo l i = z := ⟨_, rfl⟩
   rw [hz] at HS hsm ⊢
   obtain ⟨w2, hw2⟩ : ∃ w2, wr.alloc (.cells #[.bool d.edge, .int .i64 x.id, .bool x.gone, .slice x.n.l.a a x.n.l.c, .slice x.n.p.a b x.n.p.c, .int .i64 x.e.from_, .int .i64 x.e.to_, .string x.e.type, .float .f64 x.e.w] 89) = w2 := ⟨_, rfl⟩
   have hbx := heap1 wr (.cells #[.bool d.edge, .int .i64 x.id, .bool x.gone, .slice x.n.l.a a x.n.l.c, .slice x.n.p.a b x.n.p.c, .int .i64 x.e.from_, .int .i64 x.e.to_, .string x.e.type, .float .f64 x.e.w] 89)
   have F2 := hid (show Fr No w1 w2 by rw [← hw2]; exact HF.out.alloc _)
   rw [hw2] at hbx
   obtain ⟨z0, z1, z2, z3, z4, z5, z6, z7, z8⟩ := cells9 hbx
   have hw1 : wrap64 ((a : Int) + (b : Int)) = (a : Int) + (b : Int) := by unfold wrap64; omega
   have hw3 : wrap64 ((z : Int) + ((a : Int) + (b : Int))) = (z : Int) + ((a : Int) + (b : Int)) := by unfold wrap64; omega
   have hw4 : wrap64 ((z : Int) + ((a : Int) + (b : Int)) + 2) = (z : Int) + ((a : Int) + (b : Int)) + 2 := by unfold wrap64; omega
   have hw5 : wrap64 ((i : Int) + 1) = (i : Int) + 1 := by unfold wrap64; omega
   clear hbx ha hb hz
   cases hde : d.edge with
   | true =>
    rw [hde] at HS y0 z0
    simp only [↓reduceIte] at HS
    clear hde
    go_wp2_with fail
    go_roundw
    case rel => exact ⟨i + 1, by omega, by rw [HS.out]; push_cast; first | rfl | (congr 1; omega), by first | rfl | go_num, by exact HF.out.alloc _⟩
    case measure => simp [intOf]; omega
   | false =>
    rw [hde] at HS y0 z0
    simp only [Bool.false_eq_true, ↓reduceIte] at HS
    clear hde
    go_wp2_with fail
    go_roundw
    case rel => exact ⟨i + 1, by omega, by rw [HS.out]; push_cast; first | rfl | (congr 1; omega), by first | rfl | go_num, by exact HF.out.alloc _⟩
    case measure => simp [intOf]; omega
  ·obtain rfl : i = n := by omega
   go_wp2_with fail
   go_ret
   exact ⟨rfl, H1.out.1.thenNo HF.out⟩
theorem x_least {S : Nat → Prop} {w0 w : World} {s : Nat} {p : PF} (h : OwG S w0 w s p) : Calls Tryz.prog 13 #[.pointer (some ⟨s, 0, none⟩)] w fun e w' => e = .returned (.int .i64 (leastW (imgM p.1) : Int)) ∧ Fr No w w' := by
 obtain ⟨ρ, A, h1, h2⟩ := h.ex
 exact least_any w ρ s A p.1 p.2 h1
end Go.Proofs.YthadcdoepoglkaaGreatDoor
