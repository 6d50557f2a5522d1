/- The walks of package drum, fourth part: Write. -/
import Derived.Test.YtggahnipmlihlaaDrumC
import Derived.Test.YtggahnipmlihlaaSched
namespace Go.Proofs.Ytggahnipmlihlaa
open Go.RowKit Go.Lig

theorem _root_.Go.Lig.Rd.frameE {w w' : World} {S : Nat → Prop} {v : Value} {n size : Nat} {xs : List Value} (h : Rd w v n size xs) (hf : Fr S w w') (hn : ∀ k, slBlock v = some k → xs ≠ [] → ¬ S k) : Rd w' v n size xs := by
  cases hx : xs with
  | nil =>
    subst hx
    obtain ⟨ao, c, rfl, hl, h0, _, r⟩ := h
    exact ⟨ao, c, rfl, hl, h0, fun _ _ j u hu => (by simp at hu), r⟩
  | cons x l => exact hx ▸ h.frame hf (fun k hk => hn k hk (by rw [hx]; exact List.cons_ne_nil _ _))
theorem rd_block {w : World} {v : Value} {n size : Nat} {xs : List Value} (h : Rd w v n size xs) {k : Nat} (hk : slBlock v = some k) (hn : xs ≠ []) : k < w.heap.size := by
  obtain ⟨ao, c, rfl, hl, h0, h1, r⟩ := h
  cases xs with
  | nil => exact absurd rfl hn
  | cons x l =>
    cases ao with
    | none => cases hk
    | some ad =>
      obtain rfl : ad.block = k := Option.some.inj hk
      have := World.block_lt_of_cell? w _ (h1 ad rfl 0 x rfl)
      have hb : (ad.add 0).block = ad.block := by unfold Addr.add; split <;> rfl
      rwa [hb] at this

def Dr.put (D : Dr) (i : Nat) (l : List UInt8) : Dr := { D with now := lay D.now i (pad l), wait := D.wait ++ [⟨i, pad l⟩] }
def Dr.doWrite (D : Dr) (i : Int) (l : List UInt8) : Int × Dr :=
  if D.alive then (if i < 0 ∨ (D.n : Int) ≤ i ∨ 64 < l.length then (1, D.tick) else (0, D.tick.put i.toNat l)) else (9, D.tick)

theorem write_nil (w : World) (i : Int) (pv : Value) : Calls Try.prog 13 #[.pointer none, .int .i64 i, pv] w fun e w' => e = .returned (.int .i64 9) ∧ w = w' := by
  go_enter Try.func13, Try.ntmps13
  go_wp2_with (go_at_call 27; refine (lives_nil _).mono ?_; rintro e w' ⟨rfl, rfl⟩)
  go_ret
  exact ⟨rfl, rfl⟩
theorem write_dead (w : World) (S : Nat → Prop) (b : Nat) (D : Dr) (h : DrumAt w S b D) (i : Int) (pv : Value) (ha : D.alive = false) :
    Calls Try.prog 13 #[.pointer (some ⟨b, 0, none⟩), .int .i64 i, pv] w fun e w' => e = .returned (.int .i64 9) ∧ DrumAt w' S b D.tick ∧ Fr S w w' := by
  have HL := hid (ha ▸ lives_any w S b D h)
  clear ha h
  go_enter Try.func13, Try.ntmps13
  go_wp2_with (go_at_call 27; refine HL.out.mono ?_; rintro e w1 ⟨rfl, h1, h2⟩)
  go_ret
  exact ⟨rfl, h1, h2⟩
theorem write_low (w : World) (S : Nat → Prop) (b : Nat) (D : Dr) (h : DrumAt w S b D) (i : Int) (pv : Value) (ha : D.alive = true) (hi : i < 0) :
    Calls Try.prog 13 #[.pointer (some ⟨b, 0, none⟩), .int .i64 i, pv] w fun e w' => e = .returned (.int .i64 1) ∧ DrumAt w' S b D.tick ∧ Fr S w w' := by
  have HL := hid (ha ▸ lives_any w S b D h)
  clear ha h
  go_enter Try.func13, Try.ntmps13
  go_wp2_with (go_at_call 27; refine HL.out.mono ?_; rintro e w1 ⟨rfl, h1, h2⟩)
  go_ret
  exact ⟨rfl, h1, h2⟩
theorem write_high (w : World) (S : Nat → Prop) (b : Nat) (D : Dr) (h : DrumAt w S b D) (i : Int) (pv : Value) (ha : D.alive = true) (hi0 : ¬ i < 0) (hi : (D.tick.n : Int) ≤ i) :
    Calls Try.prog 13 #[.pointer (some ⟨b, 0, none⟩), .int .i64 i, pv] w fun e w' => e = .returned (.int .i64 1) ∧ DrumAt w' S b D.tick ∧ Fr S w w' := by
  have HL := hid (ha ▸ lives_any w S b D h)
  clear ha h
  generalize D.tick = D1 at *
  go_enter Try.func13, Try.ntmps13
  go_wp2_with (go_at_call 27; refine HL.out.mono ?_; rintro e w1 ⟨rfl, h1, h2⟩; obtain ⟨bg, bn, vw, g0, g1, g2, g3, s1, s2, s3, e1, e2, e3⟩ := h1.body; obtain ⟨c0, c1, c2, c3, c4⟩ := cells5 g0; have H := hid (⟨h1, h2⟩ : _ ∧ _); clear h1 h2 g0 g1 g2 g3 s1 s2 s3 e1 e2 e3 c0 c2 c3 c4)
  go_ret
  exact ⟨rfl, H.out.1, H.out.2⟩
theorem write_long (w : World) (S : Nat → Prop) (b : Nat) (D : Dr) (h : DrumAt w S b D) (i : Int) (ao : Option Addr) (m c : Nat) (ha : D.alive = true) (hi0 : ¬ i < 0) (hi : i < (D.tick.n : Int)) (hm : 64 < m) :
    Calls Try.prog 13 #[.pointer (some ⟨b, 0, none⟩), .int .i64 i, .slice ao m c] w fun e w' => e = .returned (.int .i64 1) ∧ DrumAt w' S b D.tick ∧ Fr S w w' := by
  have HL := hid (ha ▸ lives_any w S b D h)
  clear ha h
  generalize D.tick = D1 at *
  go_enter Try.func13, Try.ntmps13
  go_wp2_with (go_at_call 27; refine HL.out.mono ?_; rintro e w1 ⟨rfl, h1, h2⟩; obtain ⟨bg, bn, vw, g0, g1, g2, g3, s1, s2, s3, e1, e2, e3⟩ := h1.body; obtain ⟨c0, c1, c2, c3, c4⟩ := cells5 g0; have H := hid (⟨h1, h2⟩ : _ ∧ _); clear h1 h2 g0 g1 g2 g3 s1 s2 s3 e1 e2 e3 c0 c2 c3 c4)
  go_ret
  exact ⟨rfl, H.out.1, H.out.2⟩
theorem info59 : (Try.prog.info? 59).map (fun i => (i.zero, i.size, i.bytes)) = some (some (.agg (.int .i64 0 :: List.replicate 64 (.int .u8 0)).toArray), 65, 72) := by kernel_rfl
theorem zeros64 : List.replicate 64 (Value.int .u8 0) = bs (fun _ => 0) 64 := by kernel_rfl
theorem size5 : (Try.prog.info? 5).map (·.size) = some 1 := by kernel_rfl
theorem built59 (i : Int) : Try.prog.built 59 [(0, .int .i64 i)] = some (.int .i64 i :: bs (fun _ => 0) 64).toArray := by kernel_rfl
theorem bs_pad (l : List UInt8) (h : l.length ≤ 64) : l.map u8v ++ (bs (fun _ => 0) 64).drop l.length = bs (pad l) 64 := by
  apply List.ext_getElem?
  intro j
  rw [List.getElem?_append, List.length_map]
  split
  · rename_i hj
    rw [bs_get _ _ _ (by omega), List.getElem?_map, List.getElem?_eq_getElem hj]
    simp [pad, List.getD, hj]
  · rename_i hj
    rw [List.getElem?_drop, show l.length + (j - l.length) = j by omega]
    by_cases hj2 : j < 64
    · rw [bs_get _ _ _ hj2, bs_get _ _ _ hj2]
      simp [pad, List.getD, List.getElem?_eq_none (show l.length ≤ j by omega)]
    · rw [List.getElem?_eq_none (by simp [bs_length]; omega), List.getElem?_eq_none (by simp [bs_length]; omega)]

theorem lay_cells (f : Nat → UInt8) (n i : Nat) (hi : i < n) (p : Nat → UInt8) :
    (bs f (64 * n)).take (i * 64) ++ bs p 64 ++ (bs f (64 * n)).drop (i * 64 + (bs p 64).length) = bs (lay f i p) (64 * n) := by
  apply List.ext_getElem?
  intro j
  rw [bs_length, List.append_assoc, List.getElem?_append, List.length_take, bs_length, Nat.min_eq_left (by omega)]
  split
  · rename_i hj
    rw [List.getElem?_take_of_lt hj, bs_get _ _ _ (by omega), bs_get _ _ _ (by omega)]
    simp only [lay]
    rw [if_neg (by omega)]
  · rename_i hj
    rw [List.getElem?_append, bs_length]
    split
    · rename_i hj2
      rw [bs_get _ _ _ (by omega), bs_get _ _ _ (by omega)]
      simp only [lay]
      rw [if_pos (by omega), show j - 64 * i = j - i * 64 by omega]
    · rename_i hj2
      rw [List.getElem?_drop, show i * 64 + 64 + (j - i * 64 - 64) = j by omega]
      by_cases hj3 : j < 64 * n
      · rw [bs_get _ _ _ hj3, bs_get _ _ _ hj3]
        simp only [lay]
        rw [if_neg (by omega)]
      · rw [List.getElem?_eq_none (by simp [bs_length]; omega), List.getElem?_eq_none (by simp [bs_length]; omega)]
theorem size57 : (Try.prog.info? 57).map (·.size) = some 64 := by kernel_rfl
theorem one_cons (i : Int) (f : Nat → UInt8) : ∀ u ∈ (Value.int .i64 i :: bs f 64), u.oneCell' = true := by
  intro u hu
  rcases List.mem_cons.1 hu with rfl | hu
  · rfl
  · exact bs_one _ _ u hu
/-- the local w behind copy(w.p[:], p). -/
theorem cells_after (i : Int) (l : List UInt8) (m : Nat) (hl : l.length = m) (hm : m ≤ 64) :
    (Value.int .i64 i :: bs (fun _ => 0) 64).take 1 ++ (l.map u8v).take (min m 64 * 1) ++ (Value.int .i64 i :: bs (fun _ => 0) 64).drop (1 + min m 64 * 1) = .int .i64 i :: bs (pad l) 64 := by
  rw [Nat.min_eq_left hm, Nat.mul_one, List.take_of_length_le (l := l.map u8v) (by simp [hl]), Nat.add_comm 1 m]
  show [Value.int .i64 i] ++ l.map u8v ++ (bs (fun _ => 0) 64).drop m = _
  rw [← bs_pad l (by omega), hl]
  rfl

set_option maxRecDepth 100000 in
set_option maxHeartbeats 400000 in
theorem write_live (w : World) (S : Nat → Prop) (b : Nat) (D : Dr) (h : DrumAt w S b D) (i : Nat) (ao : Option Addr) (m c : Nat) (l : List UInt8) (hrd : Rd w (.slice ao m c) m 1 (l.map u8v)) (hS : ∀ k, slBlock (.slice ao m c) = some k → l.map u8v ≠ [] → ¬ S k)
    (ha : D.alive = true) (hi : i < D.tick.n) (hm : m ≤ 64) (hw : D.tick.wait.length ≤ 1000000000) :
    Calls Try.prog 13 #[.pointer (some ⟨b, 0, none⟩), .int .i64 (i : Int), .slice ao m c] w fun e w' => e = .returned (.int .i64 0) ∧ DrumAt w' (Gr S w w') b (D.tick.put i l) ∧ Fr S w w' := by
  have HL := hid (ha ▸ lives_any w S b D h)
  clear ha h
  have hlm : l.length = m := by
    obtain ⟨_, _, _, hl, _⟩ := hrd
    simpa using hl
  have H0 := hid (⟨hrd, hS, hlm⟩ : _ ∧ _ ∧ _)
  clear hrd hS hlm
  generalize D.tick = D1 at *
  go_enter Try.func13, Try.ntmps13
  go_wp2_with (first | (go_at_call 27; refine HL.out.mono ?_; rintro e w1 ⟨rfl, h1, h2⟩; obtain ⟨bg, bn, vw, g0, g1, g2, g3, s1, s2, s3, e1, e2, e3⟩ := h1.body; obtain ⟨c0, c1, c2, c3, c4⟩ := cells5 g0; have H := hid (⟨h1, h2, g0, g1, g2, g3, s1, s2, s3, e1, e2, e3⟩ : _ ∧ _ ∧ _ ∧ _ ∧ _ ∧ _ ∧ _ ∧ _ ∧ _ ∧ _ ∧ _ ∧ _); clear h1 h2 g0 g1 g2 g3 s1 s2 s3 e1 e2 e3 c0 c3 c4) | (refine wpList_build' rfl 59 [(0, .tmp 29)] rfl [(0, .int .i64 (i : Int))] rfl _ (built59 _) ?_) | (refine wpList_local rfl rfl 59 7 (.tmp 30) rfl rfl rfl _ 65 72 info59 rfl (fun _ => rfl) _ (fun _ => rfl) (.int .i64 (i : Int) :: bs (fun _ => 0) 64) rfl (by simp [bs_length]) (one_cons _ _) ?_; intro w2 k2 f2 z2; have K2 := hid (⟨k2, f2, z2⟩ : _ ∧ _ ∧ _); clear k2 f2 z2) | (refine wpList_copyO rfl (.tmp 32) (.tmp 33) 29 29 rfl 5 1 Try.underlying29 size5 w1.heap.size 1 64 64 (.slice ao m c) m (l.map u8v) rfl rfl ((H0.out.1.frameE H.out.2.1 H0.out.2.1).frame K2.out.2.1 (fun _ _ e => e)) (.int .i64 (i : Int) :: bs (fun _ => 0) 64) 59 K2.out.1 (by simp [bs_length]) ?_; rw [cells_after _ _ _ H0.out.2.2 hm]; intro w3 k3; have K3 := hid k3; clear k3))
  obtain ⟨h1, h2, g0, g1, g2, g3, s1, s2, s3, e1, e2, e3⟩ := H.out
  obtain ⟨k2, f2, z2⟩ := K2.out
  have k3 := K3.out.at_
  have hfr : Fr No w1 w3 := f2.trans K3.out.fr (fun k hk e => by omega)
  have hB : S w1.heap.size → False := fun e => Nat.lt_irrefl _ (h1.bound _ e)
  have q0 := hfr.keep g0 (fun e => e)
  have q1 := hfr.keep g1 (fun e => e)
  have q2 := hfr.keep g2 (fun e => e)
  have q3 := hfr.owns g3 (fun _ _ e => e)
  have hz3 : w3.heap.size = w1.heap.size + 1 := K3.out.size.trans z2
  have HF := hid (⟨q0, q1, q2, q3, k3, hfr, hB⟩ : _ ∧ _ ∧ _ ∧ _ ∧ _ ∧ _ ∧ _)
  obtain ⟨c0, c1, c2, c3, c4⟩ := cells5 q0
  clear h1 h2 g0 g1 g2 g3 s1 s2 s3 e1 e2 e3 k2 f2 z2 k3 hfr hB q0 q1 q2 q3 c0 c3 c4 K2 K3
  generalize w1.heap.size = B at *
  obtain ⟨PA, hPA⟩ : ∃ PA, PA = (bs (pad l) 64).toArray := ⟨_, rfl⟩
  have hld : ∀ wx : World, wx.heap = w3.heap → (Instr.loadAt 57 (.pointer (some ⟨B, 1, none⟩))).run Try.prog wx = .ok (.agg PA) wx := by
    intro wx hx
    rw [hPA]
    refine run_load_seg 57 _ Try.underlying57 rfl (bs (pad l) 64) (by rw [bs_length]; kernel_rfl) _ (fun j v hj => ?_)
    rw [Addr.add_mid, World.cell?, hx]
    have hk := HF.out.2.2.2.2.1
    simp [hk, Nat.add_comm 1 j, hj]
  have HPA := hid hPA
  clear hPA
  have hld1 := hld w3.drew rfl
  clear hld
  have HLD := hid hld1
  clear hld1
  refine wp_region_still_tail 8 (by kernel_rfl) (by kernel_rfl) ?_
  simp only [List.take_succ_cons, List.take_zero, List.drop_succ_cons, List.drop_zero]
  repeat (first | (refine wpStill_load rfl 57 (.tmp 40) rfl ⟨B, 1, none⟩ rfl (.agg PA) HLD.out ?_) | still_step)
  refine wpStill_nil ?_
  refine wpList_storeO rfl 57 (.tmp 42) (.tmp 41) rfl bn (i * 64) rfl (bs D1.now (64 * D1.n)) 57 (bs (pad l) 64) (congrArg Value.agg HPA.out) (by rw [bs_length]; exact size57) HF.out.2.2.1 (by rw [bs_length, bs_length]; omega) (bs_one _ _) ?_
  rw [lay_cells D1.now D1.n i hi (pad l)]
  intro w4 p4
  have H4 := hid p4
  obtain ⟨q0, q1, q2, q3, k3, hfr, hB⟩ := HF.out
  obtain ⟨h1, h2, g0, g1, g2, g3, s1, s2, s3, e1, e2, e3⟩ := H.out
  have r0 : w4.heap[b]? = _ := p4.keep q0 e2
  have r1 : w4.heap[bg]? = _ := p4.keep q1 e3
  have hBn : B ≠ bn := fun e => hB (e ▸ s2)
  have hBb : B ≠ b := fun e => hB (e ▸ h1.own)
  have r4 : w4.heap[B]? = _ := p4.keep k3 hBn
  have r3 : w4.ownsRow 0 59 65 vw D1.wait.length (wcells D1.wait) := p4.fr.owns q3 (fun k hk => (s3 k hk).2.2.2)
  have HG := hid (⟨r0, r1, r3, r4, hBn, hBb⟩ : _ ∧ _ ∧ _ ∧ _ ∧ _ ∧ _)
  obtain ⟨c0, c1, c2, c3, c4⟩ := cells5 r0
  have hz := freeAll r0
  clear p4 q0 q1 q2 q3 k3 hfr hB h1 h2 g0 g1 g2 g3 s1 s2 s3 e1 e2 e3 r0 r1 hBn hBb r4 r3 c0 c1 c3 c4 HLD HPA
  go_wp2
  have hB4 : B < w4.heap.size := lt_of_block HG.out.2.2.2.1
  have hb4 : b < w4.heap.size := lt_of_block HG.out.1
  refine wp_region_sched (by kernel_rfl) 10 [6, 7, 10] [0, 1, 2, 3, 4, 5, 6, 7, 8, 9, 10] (AgC [b, B] w4.drew) (by kernel_rfl) (AgC.refl _ _) ?_
  simp only [List.map_cons, List.map_nil, List.contains_cons, List.contains_nil, Nat.reduceBEq, Bool.or_false, Bool.or_true, nth_zero, nth_succ]
  have HLW : Hid (∀ w', AgC [b, B] w4.drew w' → (Instr.loadAt 59 (.pointer (some ⟨B, 0, none⟩))).run Try.prog w' = .ok (.agg (.int .i64 (i : Int) :: bs (pad l) 64).toArray) w') := by
    rintro w' ⟨u, rfl⟩
    refine run_load_seg 59 _ Try.underlying59 rfl _ (by rw [List.length_cons, bs_length]; kernel_rfl) _ (fun j v hj => ?_)
    rw [Addr.add_mid, cellOf (heap_agr u (w := w4.drew) HG.out.2.2.2.1 (by simp))]
    simpa using hj
  repeat (first | (refine sched_load rfl 59 (.tmp 7) rfl ⟨B, 0, none⟩ rfl (.agg (.int .i64 (i : Int) :: bs (pad l) 64).toArray) HLW.out ?_) | (refine sched_quiet (fun K hK => ?_); go_simp; refine hK _ ?_; clear hK K))
  have hLs : ∀ k ∈ [b, B], k < w4.drew.heap.size ∧ ¬ No k := by
    intro k hk
    rcases List.mem_cons.1 hk with rfl | hk
    · exact ⟨hb4, fun e => e⟩
    · rw [List.mem_singleton.1 hk]; exact ⟨hB4, fun e => e⟩
  -- []write{w}
  refine sched_loud (wpList_buildSlice1 rfl 53 59 (.tmp 48) rfl _ 65 72 Try.underlying53 info59 (by decide) (by decide) (.agg (.int .i64 (i : Int) :: bs (pad l) 64).toArray) rfl (by simp [Value.cells, bs_length]) ?_)
  intro w5 p5
  have ha1 : AgC [b, B] w4.drew w5 := (AgC.refl _ _).fr p5.fr hLs
  refine sched_on ha1 ?_
  -- append
  have hf5 : Fr No w4 w5 := (Fr.refl No w4).drew.thenNo p5.fr
  have hown5 := hf5.owns HG.out.2.2.1 (fun _ _ e => e)
  have hnewrow : w5.heap[w4.heap.size]? = some (.cells (.int .i64 (i : Int) :: bs (pad l) 64).toArray 59 (0, 0)) := p5.at_
  have hz5 : w5.heap.size = w4.heap.size + 1 := p5.size
  clear p5
  refine sched_loud (wpList_app rfl (.tmp 47) (.tmp 49) 53 rfl 59 _ 65 72 Try.underlying53 info59 rfl (by decide) vw D1.wait.length (wcells D1.wait) rfl hown5 _ 1 (.int .i64 (i : Int) :: bs (pad l) 64) rfl (Rd.block hnewrow 1 65 1 (by simp [bs_length]) (one_cons _ _) (Nat.le_refl _) (by simp [maxLen])) (by unfold maxLen; omega) (by omega) ?_)
  intro v' w6 own6 f6 n6 _
  have H6 := hid (⟨hnewrow, hf5, hz5, own6, f6, n6⟩ : _ ∧ _ ∧ _ ∧ _ ∧ _ ∧ _)
  have hvb : ∀ k ∈ [b, B], k < w4.drew.heap.size ∧ ¬ (vw.ownBlock = some k) := by
    intro k hk
    have hs3 := H.out.2.2.2.2.2.2.2.2.1
    rcases List.mem_cons.1 hk with rfl | hk
    · exact ⟨hb4, fun e => (hs3 _ e).2.1 rfl⟩
    · rw [List.mem_singleton.1 hk]; exact ⟨hB4, fun e => HF.out.2.2.2.2.2.2 (hs3 _ e).1⟩
  refine sched_on (ha1.fr f6 hvb) ?_
  have r6 : w6.heap[b]? = _ := f6.keep (hf5.keep HG.out.1 (fun e => e)) (hvb b (by simp)).2
  have HR6 := hid r6
  obtain ⟨av, cv, rfl⟩ := ownsRow_slice own6
  clear hnewrow hown5 hf5 hz5 own6 f6 n6 hvb r6
  repeat (refine sched_quiet (fun K hK => ?_); go_simp; refine hK _ ?_; clear hK K)
  refine sched_loud (wpList_store1 rfl 53 (.tmp 52) (.tmp 50) rfl b 2 rfl _ _ (.slice av (D1.wait.length + 1) cv) rfl (by kernel_rfl) HR6.out (by simp) rfl ?_)
  intro w7 p7
  refine sched_last ?_
  refine sched_nil ?_
  have HP7 := hid p7
  clear p7
  go_wp2
  go_ret
  obtain ⟨h1, h2, g0, g1, g2, g3, s1, s2, s3, e1, e2, e3⟩ := H.out
  obtain ⟨q0, q1, q2, q3, k3, f13, hBS⟩ := HF.out
  obtain ⟨r0, r1, r3, r4, hBn, hBb⟩ := HG.out
  obtain ⟨_, f45, z5, own6, f56, n6⟩ := H6.out
  have p4 := H4.out
  have p7 := HP7.out
  have f34 : Fr (fun k => k = bn) w3 w4 := (Fr.refl (fun k => k = bn) w3).drew.thenS p4.fr
  have hb1 := h1.bound
  -- sizes
  have z1 : w.heap.size ≤ w1.heap.size := h2.size
  have z3 : w1.heap.size ≤ w3.heap.size := f13.size
  have z4 : w3.heap.size ≤ w4.heap.size := f34.size
  have z6 := f56.size
  have z7 := p7.size
  have vwS : ∀ k, vw.ownBlock = some k → S k := fun k hk => (s3 k hk).1
  have fr7 : Fr S w w7 := by
    have a1 : Fr S w w3 := h2.thenNo f13
    have a2 : Fr S w w4 := a1.trans f34 (fun k _ e => by rw [e]; exact s2)
    have a3 : Fr S w w5 := a2.thenNo f45
    have a4 : Fr S w w6 := a3.trans f56 (fun k _ e => vwS k e)
    exact a4.trans p7.fr (fun k _ e => by rw [e]; exact h1.own)
  have keep1 : ∀ k o, S k → k ≠ b → k ≠ bn → vw.ownBlock ≠ some k → w1.heap[k]? = some o → w7.heap[k]? = some o := fun k o _ n1 n2 n3 hk =>
    p7.keep (f56.keep (f45.keep (f34.keep (f13.keep hk (fun e => e)) n2) (fun e => e)) n3) n1
  have t0 := p7.at_
  have t1 : w7.heap[bg]? = _ := keep1 bg _ s1 (Ne.symm e1) e3 (fun e => (s3 _ e).2.2.1 rfl) g1
  have t2 : w7.heap[bn]? = _ := p7.keep (f56.keep (f45.keep p4.at_ (fun e => e)) (fun e => (s3 _ e).2.2.2 rfl)) (Ne.symm e2)
  have ob : ∀ k, (Value.slice av (D1.wait.length + 1) cv).ownBlock = some k → vw.ownBlock = some k ∨ w5.heap.size ≤ k := n6
  have hbS := hb1 b h1.own
  have hgS := hb1 bg s1
  have hnS := hb1 bn s2
  have ne7 : ∀ k, (Value.slice av (D1.wait.length + 1) cv).ownBlock = some k → k ≠ b ∧ k ≠ bg ∧ k ≠ bn := by
    intro k hk
    rcases ob k hk with e | e
    · exact (s3 k e).2
    · exact ⟨by omega, by omega, by omega⟩
  have t3 := p7.fr.owns own6 (fun k hk => (ne7 k hk).1)
  refine ⟨rfl, ⟨h1.n_le, h1.fuse_lo, h1.fuse_hi, ?_, ?_, .inl h1.own, bg, bn, .slice av (D1.wait.length + 1) cv, by simpa [Dr.put] using t0, by simpa [Dr.put] using t1, by simpa [Dr.put] using t2, ?_, .inl s1, .inl s2, ?_, e1, e2, e3⟩, fr7⟩
  · intro x hx
    rcases List.mem_append.1 hx with hx | hx
    · exact h1.wait_lt x hx
    · rw [List.mem_singleton.1 hx]; exact hi
  · intro k hk
    rcases hk with hk | hk
    · have := hb1 k hk
      omega
    · exact hk.2
  · have ew : wcells (D1.put i l).wait = wcells D1.wait ++ (.int .i64 (i : Int) :: bs (pad l) 64) := by simp [Dr.put, wcells, wcell]
    have el : (D1.put i l).wait.length = D1.wait.length + 1 := by simp [Dr.put]
    rw [ew, el]
    exact t3
  · intro k hk
    refine ⟨?_, ne7 k hk⟩
    rcases ob k hk with e | e
    · exact .inl (vwS k e)
    · exact .inr ⟨by omega, by have := (t3.lt k hk).2; exact this⟩

theorem write_any (w : World) (S : Nat → Prop) (b : Nat) (D : Dr) (h : DrumAt w S b D) (i : Int) (pv : Value) (l : List UInt8) (hrd : Rd w pv l.length 1 (l.map u8v)) (hS : ∀ k, slBlock pv = some k → l.map u8v ≠ [] → ¬ S k) (hw : D.wait.length ≤ 1000000000) :
    Calls Try.prog 13 #[.pointer (some ⟨b, 0, none⟩), .int .i64 i, pv] w fun e w' => e = .returned (.int .i64 (D.doWrite i l).1) ∧ DrumAt w' (Gr S w w') b (D.doWrite i l).2 ∧ Fr S w w' := by
  have ht : D.tick.wait = D.wait := by unfold Dr.tick; split <;> rfl
  have up : ∀ (k : Int) (e : Ending) (w' : World), e = .returned (.int .i64 k) ∧ DrumAt w' S b D.tick ∧ Fr S w w' → e = .returned (.int .i64 k) ∧ DrumAt w' (Gr S w w') b D.tick ∧ Fr S w w' := fun k e w' ⟨a1, a2, a3⟩ =>
    ⟨a1, a2.mono (fun k hk => .inl hk) (fun k hk => by rcases hk with hk | hk; exact a2.bound k hk; exact hk.2), a3⟩
  cases ha : D.alive
  · simp only [Dr.doWrite, ha, Bool.false_eq_true, if_false]
    exact (write_dead w S b D h i pv ha).mono (up 9)
  · have hn : D.tick.n = D.n := by unfold Dr.tick; split <;> rfl
    simp only [Dr.doWrite, ha, if_true]
    obtain ⟨ao, c, rfl, _⟩ := id hrd
    by_cases h1 : i < 0
    · rw [if_pos (.inl h1)]
      exact (write_low w S b D h i _ ha h1).mono (up 1)
    · by_cases h2 : (D.n : Int) ≤ i
      · rw [if_pos (.inr (.inl h2))]
        exact (write_high w S b D h i _ ha h1 (by rw [hn]; exact h2)).mono (up 1)
      · by_cases h3 : 64 < l.length
        · rw [if_pos (.inr (.inr h3))]
          exact (write_long w S b D h i ao l.length c ha h1 (by rw [hn]; omega) h3).mono (up 1)
        · rw [if_neg (by omega)]
          obtain ⟨k, rfl⟩ := Int.eq_ofNat_of_zero_le (by omega : 0 ≤ i)
          rw [Int.toNat_natCast]
          exact write_live w S b D h k ao l.length c l hrd hS ha (by rw [hn]; omega) (by omega) (by rw [ht]; exact hw)
end Go.Proofs.Ytggahnipmlihlaa
