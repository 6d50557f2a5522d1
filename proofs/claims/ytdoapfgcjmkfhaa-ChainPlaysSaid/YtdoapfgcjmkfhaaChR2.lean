/- The reference's lists: Add, Cut. -/
import Derived.Test.YtdoapfgcjmkfhaaChR
namespace Go.Proofs.Ytdoapfgcjmkfhaa
open Go.RowKit Go.Lig

theorem icells_length (I : List (Int × Int)) : (icells I).length = I.length * 2 := flat_len (f := icell) (m := 2) (fun _ => rfl) I
theorem RL.done {w w3 w4 : World} {T : Nat → Prop} {b : Nat} {I' : List (Int × Int)} {v : Value} (hT : T b) (hb : b < w.heap.size) (f : Fr (fun q => q = b) w w3) (p : Put b #[v] 34 w3 w4)
    (o : w3.ownsRow 0 54 2 v I'.length (icells I')) (hv : ∀ k, v.ownBlock = some k → w.heap.size ≤ k) :
    RL w4 (fun q => q = b ∨ v.ownBlock = some q) b I' ∧ Fr T w w4 ∧ ∀ q, (q = b ∨ v.ownBlock = some q) → T q ∨ w.heap.size ≤ q := by
  have hne : ∀ k, v.ownBlock = some k → k ≠ b := fun k hk e => by have := hv k hk; omega
  refine ⟨⟨⟨v, p.at_, p.fr.owns o hne, fun k hk => ⟨.inr hk, hne k hk⟩⟩, .inl rfl, fun k hk => ?_⟩, (f.trans p.fr (fun _ _ e => e)).mono (fun k _ e => e ▸ hT), fun q hq => ?_⟩
  · have hz := p.fr.size
    have hz2 := f.size
    rcases hk with rfl | hk
    · omega
    · have := (o.lt k hk).2
      omega
  · rcases hq with rfl | hq
    · exact .inl hT
    · exact .inr (hv q hq)
set_option maxHeartbeats 1000000 in
theorem radd_new (w : World) (T : Nat → Prop) (b : Nat) (I : List (Int × Int)) (h : RL w T b I) (k x : Int) (hn : (k, x) ∉ I) (hl : I.length ≤ 1000000) :
    Calls Try.prog 17 #[.pointer (some ⟨b, 0, none⟩), .int .i64 k, .int .i64 x] w fun e w' => e = .returned (.bool true) ∧ ∃ T', RL w' T' b ((k, x) :: I) ∧ Fr T w w' ∧ ∀ q, T' q → T q ∨ w.heap.size ≤ q := by
  have HA := hid (rat_any w T b I h k x hl)
  rw [atI_none I k x hn] at HA
  obtain ⟨v, h1, h2, h3⟩ := h.ex
  have c0 := cells1 h1
  have hb := h.bound b h.root
  have H := hid (⟨h, h1, h2, h3, hb⟩ : _ ∧ _ ∧ _ ∧ _ ∧ _)
  obtain ⟨ao, co, rfl⟩ := ownsRow_slice h2
  clear h h1 h2 h3 hb
  go_enter Try.func17, Try.ntmps17
  go_wp2_with (first | (go_at_call 23; refine HA.out.mono ?_; rintro e w' ⟨rfl, rfl⟩) | (refine wpList_buildSlice1 rfl 32 54 (.tmp 15) rfl _ 2 16 Try.underlying32 infoItem (by decide) (by decide) (.agg #[.int .i64 k, .int .i64 x]) rfl rfl ?_; intro w2 p2; have q2 := cells1 (p2.keep H.out.2.1); have P2 := hid (show New (icell (k, x)).toArray 54 w w2 from p2); clear p2) | (refine wpList_app rfl (.tmp 16) (.tmp 20) 32 rfl 54 (.agg #[.int .i64 0, .int .i64 0]) 2 16 Try.underlying32 infoItem rfl (by decide) (.slice (some ⟨w.heap.size, 0, none⟩) 1 1) 1 (icell (k, x)) rfl (P2.out.own1 rfl) (.slice ao I.length co) I.length (icells I) rfl (Rd.of_owns (fd_owns H.out.2.2.1 P2.out.fr) (icells_one I)) (by unfold maxLen; omega) (by omega) ?_; rintro v3 w3 o3 f3 b3 -; obtain ⟨a3, c3, rfl⟩ := ownsRow_slice o3; have hg3 := f3.keep (P2.out.keep H.out.2.1) (fun e => by have := Option.some.inj (show some w.heap.size = some b from e); have := H.out.2.2.2.2; omega); have q3 := cells1 hg3; have z3 := freeAll hg3; have f03 := P2.out.fr.trans f3 (fun q hq e => by have := Option.some.inj (show some w.heap.size = some q from e); omega); have O3 := hid (⟨o3, f03, b3, hg3⟩ : _ ∧ _ ∧ _ ∧ _); clear o3 f3 b3 hg3 f03))
  go_ret
  obtain ⟨o3, f03, b3, hg3⟩ := O3.out
  obtain ⟨r1, r2, r3⟩ := RL.done (I' := (k, x) :: I) (v := .slice a3 (1 + I.length) c3) H.out.1.root H.out.2.2.2.2 (f03.mono (fun _ _ e => e.elim)) (Put.cell (k := 0) hg3) (by simpa [icells, Nat.add_comm] using o3) (fun q hq => by
    rcases b3 q hq with e | e
    · have := Option.some.inj (show some w.heap.size = some q from e); omega
    · have := P2.out.size; omega)
  exact ⟨rfl, _, r1, r2, r3⟩
set_option maxHeartbeats 1000000 in
theorem radd_old (w : World) (T : Nat → Prop) (b : Nat) (I : List (Int × Int)) (h : RL w T b I) (k x : Int) (hn : (k, x) ∈ I) (hl : I.length ≤ 1000000) :
    Calls Try.prog 17 #[.pointer (some ⟨b, 0, none⟩), .int .i64 k, .int .i64 x] w fun e w' => e = .returned (.bool false) ∧ w = w' := by
  have HA := hid (rat_any w T b I h k x hl)
  obtain ⟨i, hi, -⟩ := atI_some I k x hn
  rw [hi] at HA
  clear h hi
  have hp : (0 : Int) ≤ (i : Int) := by omega
  go_enter Try.func17, Try.ntmps17
  go_wp2_with (go_at_call 23; refine HA.out.mono ?_; rintro e w' ⟨rfl, rfl⟩)
  go_ret
  exact ⟨rfl, rfl⟩
theorem radd_any (w : World) (T : Nat → Prop) (b : Nat) (I : List (Int × Int)) (h : RL w T b I) (k x : Int) (hl : I.length ≤ 1000000) :
    Calls Try.prog 17 #[.pointer (some ⟨b, 0, none⟩), .int .i64 k, .int .i64 x] w fun e w' => e = .returned (.bool (decide ((k, x) ∉ I))) ∧ ∃ T', RL w' T' b (addI I k x) ∧ Fr T w w' ∧ ∀ q, T' q → T q ∨ w.heap.size ≤ q := by
  by_cases hin : (k, x) ∈ I
  · refine (radd_old w T b I h k x hin hl).mono ?_
    rintro e w' ⟨rfl, rfl⟩
    rw [addI, if_pos hin]
    exact ⟨by rw [decide_eq_false (not_not_intro hin)], T, h, Fr.refl _ _, fun q hq => .inl hq⟩
  · rw [show decide ((k, x) ∉ I) = true from decide_eq_true hin, addI, if_neg hin]
    exact radd_new w T b I h k x hin hl
theorem rcut_not (w : World) (T : Nat → Prop) (b : Nat) (I : List (Int × Int)) (h : RL w T b I) (k x : Int) (hn : (k, x) ∉ I) (hl : I.length ≤ 1000000) :
    Calls Try.prog 18 #[.pointer (some ⟨b, 0, none⟩), .int .i64 k, .int .i64 x] w fun e w' => e = .returned (.bool false) ∧ w = w' := by
  have HA := hid (rat_any w T b I h k x hl)
  rw [atI_none I k x hn] at HA
  clear h
  go_enter Try.func18, Try.ntmps18
  go_wp2_with (go_at_call 23; refine HA.out.mono ?_; rintro e w' ⟨rfl, rfl⟩)
  go_ret
  exact ⟨rfl, rfl⟩
theorem cut_split {I : List (Int × Int)} (hn : I.Nodup) {k x : Int} {i : Nat} (hi : I[i]? = some (k, x)) : cutI I k x = I.take i ++ I.drop (i + 1) := by
  have hlt := (List.getElem?_eq_some_iff.1 hi).1
  have he : I = I.take i ++ (k, x) :: I.drop (i + 1) := by
    have h1 : I[i] = (k, x) := (List.getElem?_eq_some_iff.1 hi).2
    rw [← h1, ← List.drop_eq_getElem_cons hlt, List.take_append_drop]
  have hn' := hn
  rw [he] at hn'
  have h' := List.nodup_append.1 hn'
  have h1 : (k, x) ∉ I.take i := fun e => h'.2.2 _ e _ (by simp) rfl
  have h2 : (k, x) ∉ I.drop (i + 1) := (List.nodup_cons.1 h'.2.1).1
  unfold cutI
  rw [he, List.filter_append, List.filter_cons]
  have e1 : ((I.take i).filter fun p => !(p == (k, x))) = I.take i := List.filter_eq_self.2 (fun p hp => by
    have : p ≠ (k, x) := fun e => h1 (e ▸ hp)
    simp [this])
  have e2 : ((I.drop (i + 1)).filter fun p => !(p == (k, x))) = I.drop (i + 1) := List.filter_eq_self.2 (fun p hp => by
    have : p ≠ (k, x) := fun e => h2 (e ▸ hp)
    simp [this])
  rw [← he, e1, e2]
  simp
theorem icells_take (I : List (Int × Int)) (i : Nat) : (icells I).take (i * 2) = icells (I.take i) := by
  unfold icells
  induction I generalizing i with
  | nil => simp
  | cons p I ih =>
    cases i with
    | zero => simp
    | succ i =>
      rw [List.take_succ_cons, List.flatMap_cons, List.flatMap_cons, ← ih i, Nat.succ_mul]
      show List.take (i * 2 + 2) (_ :: _ :: _) = _ :: _ :: _
      rfl
theorem icells_drop (I : List (Int × Int)) (i : Nat) : (icells I).drop (i * 2) = icells (I.drop i) := by
  unfold icells
  induction I generalizing i with
  | nil => simp
  | cons p I ih =>
    cases i with
    | zero => simp
    | succ i =>
      rw [List.drop_succ_cons, List.flatMap_cons, ← ih i, Nat.succ_mul]
      show List.drop (i * 2 + 2) (_ :: _ :: _) = _
      rfl
set_option maxRecDepth 100000 in
set_option maxHeartbeats 2000000 in
theorem rcut_in (w : World) (T : Nat → Prop) (b : Nat) (I : List (Int × Int)) (h : RL w T b I) (hnd : I.Nodup) (k x : Int) (hn : (k, x) ∈ I) (hl : I.length ≤ 1000000) :
    Calls Try.prog 18 #[.pointer (some ⟨b, 0, none⟩), .int .i64 k, .int .i64 x] w fun e w' => e = .returned (.bool true) ∧ ∃ T', RL w' T' b (cutI I k x) ∧ Fr T w w' ∧ ∀ q, T' q → T q ∨ w.heap.size ≤ q := by
  have HA := hid (rat_any w T b I h k x hl)
  obtain ⟨i, hi, hix, -⟩ := atI_some I k x hn
  have hlt := (List.getElem?_eq_some_iff.1 hix).1
  rw [hi] at HA
  rw [cut_split hnd hix]
  obtain ⟨v, h1, h2, h3⟩ := h.ex
  have c0 := cells1 h1
  have hb := h.bound b h.root
  have hrd := Rd.of_owns h2 (icells_one I)
  obtain ⟨va, hva, ra, ba⟩ := Rd.upto (P := Try.prog) hrd Try.underlying32 sizeItem i (by omega)
  obtain ⟨vb, hvb, rb, bb⟩ := Rd.from_ (P := Try.prog) hrd Try.underlying32 sizeItem (i + 1) (by omega)
  have hvb' : ∀ w' : World, (Instr.slice 32 v (some (.int .i64 ((i : Int) + 1))) none none).run Try.prog w' = .ok vb w' := fun w' => hvb w'
  rw [icells_take] at ra
  rw [icells_drop] at rb
  have hbs : ∀ q, slBlock v = some q → q ≠ b := fun q hq => by
    refine (h3 q ?_).2
    rcases h2.2 with ⟨rfl, _⟩ | ⟨g, cap, cur, rfl, _⟩
    · cases hq
    · simpa [slBlock, Value.ownBlock] using hq
  have hbl : ∀ q, slBlock v = some q → q < w.heap.size := fun q hq => by
    refine (h2.lt q ?_).2
    rcases h2.2 with ⟨rfl, _⟩ | ⟨g, cap, cur, rfl, _⟩
    · cases hq
    · simpa [slBlock, Value.ownBlock] using hq
  obtain ⟨ao, co, rfl⟩ := ownsRow_slice h2
  obtain ⟨aa, ca, rfl, -⟩ := id ra
  obtain ⟨ab, cb, rfl, -⟩ := id rb
  have H := hid (⟨h, h1, hb, hva, ra, hvb', rb, hbs, hbl, ba, bb⟩ : _ ∧ _ ∧ _ ∧ _ ∧ _ ∧ _ ∧ _ ∧ _ ∧ _ ∧ _ ∧ _)
  have hp : (0 : Int) ≤ (i : Int) := by omega
  have hw1 : IntKind.i64.wrap ((i : Int) + 1) = (i : Int) + 1 := IntWalk.i64_in _ (by omega)
  clear h h1 h2 h3 hrd hva ra ba hvb rb bb hvb' hbs hbl hi hix hn hnd
  go_enter Try.func18, Try.ntmps18
  go_wp2_with (first | (go_at_call 23; refine HA.out.mono ?_; rintro e w' ⟨rfl, rfl⟩) | fail)
  have hbd : b < w.drew.heap.size := hb
  refine wp_region_sched (by kernel_rfl) 19 [1, 8, 16, 19] [0, 2, 3, 4, 5, 6, 7, 9, 10, 11, 12, 13, 14, 15, 1, 8, 16, 17, 18, 19] (AgC [b] w.drew) (by kernel_rfl) (AgC.refl _ _) ?_
  simp only [List.map_cons, List.map_nil, List.contains_cons, List.contains_nil, Nat.reduceBEq, Bool.or_false, Bool.or_true, nth_zero, nth_succ]
  repeat (first | (refine sched_slice rfl 32 54 Try.underlying32 (.tmp 19) none (some (.tmp 20)) rfl (.slice ao I.length co) rfl none (some (.int .i64 (i : Int))) rfl rfl (.slice aa i ca) H.out.2.2.2.1 ?_) | (refine sched_slice rfl 32 54 Try.underlying32 (.tmp 26) (some (.tmp 28)) none rfl (.slice ao I.length co) rfl (some (.int .i64 ((i : Int) + 1))) none rfl rfl (.slice ab (I.length - (i + 1)) cb) H.out.2.2.2.2.2.1 ?_) | (refine sched_quiet (fun K hK => ?_); go_simp; refine hK _ ?_; clear hK K))
  refine sched_loud (wpList_buildSlice0 rfl 32 54 rfl _ 2 16 Try.underlying32 infoItem ?_)
  intro w1 p1
  have hL : ∀ (U : Nat → Prop), ¬ U b → ∀ j ∈ [b], j < w.drew.heap.size ∧ ¬ U j := fun U hU j hj => by rw [List.mem_singleton.1 hj]; exact ⟨hbd, hU⟩
  have a1 := (AgC.refl [b] w.drew).fr p1.fr (hL No id)
  refine sched_on a1 ?_
  have f1 : Fr No w w1 := (Fr.refl No w).drew.thenNo p1.fr
  have z1 : w1.heap.size = w.heap.size + 1 := p1.size
  have ra1 : Rd w1 (.slice aa i ca) i 2 (icells (I.take i)) := H.out.2.2.2.2.1.frame f1 (fun _ _ e => e)
  refine sched_loud (wpList_app rfl (.tmp 15) (.tmp 21) 32 rfl 54 (.agg #[.int .i64 0, .int .i64 0]) 2 16 Try.underlying32 infoItem rfl (by decide) (.slice (some ⟨w.heap.size, 0, none⟩) 0 0) 0 [] rfl p1.own0 (.slice aa i ca) i (icells (I.take i)) rfl ra1 (by unfold maxLen; omega) (by omega) ?_)
  intro v2 w2 o2 f2 b2 _
  have a2 := a1.fr f2 (hL _ (fun e => by have := Option.some.inj e; simp at this; omega))
  refine sched_on a2 ?_
  simp only [Nat.zero_add, List.nil_append] at o2
  have f12 : Fr No w w2 := f1.trans f2 (fun q hq e => by have := Option.some.inj e; simp at this; omega)
  have hv2 : ∀ q, v2.ownBlock = some q → w.heap.size ≤ q := fun q hq => by
    rcases b2 q hq with e | e
    · have := Option.some.inj e; simp at this; omega
    · omega
  have rb2 : Rd w2 (.slice ab (I.length - (i + 1)) cb) (I.length - (i + 1)) 2 (icells (I.drop (i + 1))) := H.out.2.2.2.2.2.2.1.frame f12 (fun _ _ e => e)
  refine sched_loud (wpList_app rfl (.tmp 22) (.tmp 29) 32 rfl 54 (.agg #[.int .i64 0, .int .i64 0]) 2 16 Try.underlying32 infoItem rfl (by decide) v2 i (icells (I.take i)) rfl o2 (.slice ab (I.length - (i + 1)) cb) (I.length - (i + 1)) (icells (I.drop (i + 1))) rfl rb2 (by unfold maxLen; omega) (by omega) ?_)
  intro v3 w3 o3 f3 b3 _
  have f03 : Fr No w w3 := f12.trans f3 (fun q hq e => by have := hv2 q e; omega)
  refine sched_on (a2.fr f3 (hL _ (fun e => by have := hv2 b e; omega))) ?_
  have hg3 := f03.keep H.out.2.1 (fun e => e)
  have hv3 : ∀ q, v3.ownBlock = some q → w.heap.size ≤ q := fun q hq => by
    rcases b3 q hq with e | e
    · exact hv2 q e
    · have := f12.size; omega
  obtain ⟨a3, c3, rfl⟩ := ownsRow_slice o3
  have O3 := hid (⟨o3, f03, hv3, hg3⟩ : _ ∧ _ ∧ _ ∧ _)
  clear o3 f3 b3 hg3 f03 hv3 hv2 o2 f2 b2 a1 a2 f1 f12 ra1 rb2 p1 z1 hL
  repeat (refine sched_quiet (fun K hK => ?_); go_simp; refine hK _ ?_; clear hK K)
  refine sched_loud (wpList_store1 rfl 32 (.tmp 32) (.tmp 30) rfl b 0 rfl _ _ (.slice a3 (i + (I.length - (i + 1))) c3) rfl (by kernel_rfl) O3.out.2.2.2 (by simp) rfl ?_)
  intro w4 p4
  obtain ⟨r1, r2, r3⟩ := RL.done (T := T) (I' := I.take i ++ I.drop (i + 1)) (v := .slice a3 (i + (I.length - (i + 1))) c3) H.out.1.root H.out.2.2.1 (O3.out.2.1.mono (fun _ _ e => e.elim)) p4 (by
    have o3 := O3.out.1
    have e1 : (I.take i ++ I.drop (i + 1)).length = i + (I.length - (i + 1)) := by rw [List.length_append, List.length_take, List.length_drop]; omega
    have e2 : icells (I.take i ++ I.drop (i + 1)) = icells (I.take i) ++ icells (I.drop (i + 1)) := by unfold icells; rw [List.flatMap_append]
    rw [e1, e2]
    exact o3) O3.out.2.2.1
  have R4 := hid (⟨r1, r2, r3⟩ : _ ∧ _ ∧ _)
  clear r1 r2 r3 p4
  refine sched_last ?_
  refine sched_nil ?_
  go_wp2
  go_ret
  exact ⟨rfl, _, R4.out.1, R4.out.2.1, R4.out.2.2⟩
theorem rcut_any (w : World) (T : Nat → Prop) (b : Nat) (I : List (Int × Int)) (h : RL w T b I) (hnd : I.Nodup) (k x : Int) (hl : I.length ≤ 1000000) :
    Calls Try.prog 18 #[.pointer (some ⟨b, 0, none⟩), .int .i64 k, .int .i64 x] w fun e w' => e = .returned (.bool (decide ((k, x) ∈ I))) ∧ ∃ T', RL w' T' b (cutI I k x) ∧ Fr T w w' ∧ ∀ q, T' q → T q ∨ w.heap.size ≤ q := by
  by_cases hin : (k, x) ∈ I
  · rw [decide_eq_true hin]
    exact rcut_in w T b I h hnd k x hin hl
  · refine (rcut_not w T b I h k x hin hl).mono ?_
    rintro e w' ⟨rfl, rfl⟩
    have ec : cutI I k x = I := List.filter_eq_self.2 (fun p hp => by
      have : p ≠ (k, x) := fun e => hin (e ▸ hp)
      simp [this])
    rw [ec]
    exact ⟨by rw [decide_eq_false hin], T, h, Fr.refl _ _, fun q hq => .inl hq⟩
end Go.Proofs.Ytdoapfgcjmkfhaa
