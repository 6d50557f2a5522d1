/- The reference's drum: Crash. -/
import Derived.Test.YtggahnipmlihlaaRefO
namespace Go.Proofs.Ytggahnipmlihlaa
open Go.RowKit Go.Lig

/-- a cell of an owned row is turned. -/
theorem owns_put {w w' : World} {base : Nat} {e : TypeId} {g c n : Nat} {xs : List Value} (h : w.ownsRow base e 1 (.slice (some ⟨g, 0, none⟩) n c) n xs) {cur : Array Value} (hg : w.heap[g]? = some (.cells cur e (0, 0))) {k : Nat} {v : Value}
    (p : Put g (cur.setIfInBounds k v) e w w') : w'.ownsRow base e 1 (.slice (some ⟨g, 0, none⟩) n c) n (xs.set k v) := by
  obtain ⟨hl, ⟨e', _⟩ | ⟨g', cap, cur', e', hb, hg', hnc, hcm, hcs, ht⟩⟩ := h
  · cases e'
  · simp only [Value.slice.injEq, Option.some.injEq, Addr.mk.injEq, and_true, true_and] at e'
    obtain ⟨rfl, rfl⟩ := e'
    rw [hg] at hg'
    obtain rfl : cur = cur' := by simpa using hg'
    refine ⟨by simpa using hl, .inr ⟨g, c, _, rfl, hb, p.at_, hnc, hcm, by simpa using hcs, ?_⟩⟩
    rw [Array.toList_setIfInBounds, List.take_set, ht]
theorem owns_cell2 {w : World} {base : Nat} {e : TypeId} {size g : Nat} {c n : Nat} {xs : List Value} (h : w.ownsRow base e size (.slice (some ⟨g, 0, none⟩) n c) n xs) {j : Nat} {u : Value} (hj : xs[j]? = some u) : w.cell? ⟨g, j, none⟩ = some u := owns_cell h rfl hj
theorem rcrashTo_len (R : RDr) (keep : List Bool) : ∀ k, (R.crashTo keep k).length = R.old.length
  | 0 => rfl
  | k + 1 => by
    have ih := rcrashTo_len R keep k
    simp only [RDr.crashTo]
    split
    · rw [List.length_set, ih]
    · exact ih
theorem rcrashTo_yes {R : RDr} {keep : List Bool} {k : Nat} {x : Nat × List UInt8} (hx : R.wait[k]? = some x) (hk : keep[k]? = some true) : R.crashTo keep (k + 1) = (R.crashTo keep k).set x.1 x.2 := by simp [RDr.crashTo, hx, hk]
theorem rcrashTo_no {R : RDr} {keep : List Bool} {k : Nat} (hk : keep[k]? ≠ some true) : R.crashTo keep (k + 1) = R.crashTo keep k := by
  simp only [RDr.crashTo]
  split
  · rename_i h1 h2; exact absurd h2 hk
  · rfl
structure CrMid (w wr : World) (s : Value) (xs : List (List UInt8)) : Prop where
  row : wr.ownsRow 0 9 1 s xs.length (xs.map strv)
  blk : ∀ j, s.ownBlock = some j → w.heap.size ≤ j
  fr : Fr No w wr
theorem built_drum (vo vs : Value) (h1 : vo.oneCell' = true) (h2 : vs.oneCell' = true) : Try.prog.built 42 [(0, vo), (1, vs), (3, .int .i64 (-1))] = some #[vo, vs, .slice none 0 0, .int .i64 (-1), .bool false] := by
  cases vo <;> first | (cases h1; done) | skip
  all_goals (cases vs <;> first | (cases h2; done) | kernel_rfl)
set_option maxRecDepth 100000 in
set_option maxHeartbeats 1000000 in
theorem rcrash_any (w : World) (T : Nat → Prop) (b : Nat) (R : RDr) (h : RefAt w T b R) (kv : Value) (keep : List Bool) (hk : Rd w kv keep.length 1 (keep.map Value.bool)) (hold : R.old.length ≤ 1000000) (hw : ∀ x ∈ R.wait, x.1 < R.old.length) :
    Calls Try.prog 21 #[.pointer (some ⟨b, 0, none⟩), kv] w fun e w' => ∃ b', e = .returned (.pointer (some ⟨b', 0, none⟩)) ∧ RefAt w' (Gr No w w') b' (R.crash keep) ∧ Fr No w w' := by
  obtain ⟨vo, vs, vw, g0, g1, g2, g3, s1, s2, s3⟩ := h.body
  obtain ⟨ao, co, rfl⟩ := ownsRow_slice g1
  obtain ⟨aw, cw, rfl⟩ := ownsRow_slice g3
  obtain ⟨ak, ck, rfl, hkl63⟩ := rd_len hk
  obtain ⟨c0, c1, c2, c3, c4⟩ := cells5 g0
  have ca := (cells5 (hold' (o := .cells #[] 9) g0)).1
  have H := hid (⟨h, g0, g1, g3, hk, hw⟩ : _ ∧ _ ∧ _ ∧ _ ∧ _ ∧ _)
  clear h g0 g1 g2 g3 s1 s2 s3 c1 c3 c4 hw
  go_enter Try.func21, Try.ntmps21
  go_wp2_with (at_builtin; go_must (refine wpList_app rfl (.tmp 7) (.tmp 11) 39 rfl 9 (.string ByteArray.empty) 1 16 Try.underlying39 infoStr rfl (by decide) _ 0 [] rfl (World.ownsRow_made w #[] 0 (Nat.zero_le _) (Nat.zero_le _) rfl) (.slice ao R.old.length co) R.old.length (R.old.map strv) rfl ((Rd.of_owns H.out.2.2.1 (strv_one _)).frame ((Fr.refl No w).alloc _) (fun _ _ e => e)) (by unfold maxLen; omega) (by omega) ?_; rintro vn w2 o2 f2 b2 -; simp only [Nat.zero_add, List.nil_append] at o2; obtain ⟨an, cn, rfl⟩ := ownsRow_slice o2; have hf : Fr No w w2 := ((Fr.refl No w).alloc _).trans f2 (fun k hk e => by have := Option.some.inj (show some w.heap.size = some k from e); omega); have hm : CrMid w w2 (.slice an R.old.length cn) R.old := ⟨o2, fun k hk => (by rcases b2 k hk with e | e; (have := Option.some.inj (show some w.heap.size = some k from e); omega); (simp at e; omega)), hf⟩; have N2 := hid hm; clear o2 f2 b2 hf hm))
  go_loopw [6] (fun v wr => ∃ k : Nat, k ≤ R.wait.length ∧ k ≤ keep.length ∧ v = .int .i64 (k : Int) ∧ Hid (CrMid w wr (.slice an R.old.length cn) (R.crashTo keep k))) (fun v _ => R.wait.length - (intOf v).toNat)
  case atStart => exact ⟨0, Nat.zero_le _, Nat.zero_le _, rfl, N2.out⟩
  case round =>
    obtain ⟨k, hkw, hkk, rfl, hm⟩ := hrel
    have m0 := hm.out.fr.keep H.out.2.1 (fun e => e)
    obtain ⟨d0, d1, d2, d3, d4⟩ := cells5 m0
    have HM0 := hid m0
    clear m0 d0 d1 d3 d4
    by_cases hlt : k < R.wait.length
    · by_cases hltk : k < keep.length
      · obtain ⟨x, hx⟩ : ∃ x, R.wait[k]? = some x := ⟨_, List.getElem?_eq_getElem hlt⟩
        obtain ⟨kb, hkb⟩ : ∃ kb, keep[k]? = some kb := ⟨_, List.getElem?_eq_getElem hltk⟩
        obtain ⟨ka, ko, cc', hkv, hkc0⟩ := keep_cell H.out.2.2.2.2.1 hkb
        obtain ⟨rfl, _, rfl⟩ := (by simpa using hkv : ak = some ⟨ka, ko, none⟩ ∧ True ∧ ck = cc')
        have hkc := hkc0 wr hm.out.fr
        have HX := hid (⟨hx, hkb⟩ : _ ∧ _)
        clear hkc0 hkv hx hkb
        cases kb
        · go_wp2_with fail
          go_roundw
          case rel => exact ⟨k + 1, by omega, by omega, by go_num, by rw [rcrashTo_no (by rw [HX.out.2]; simp)]; exact hm.out⟩
          case measure => simp [intOf]; omega
        · have hro := fd_owns H.out.2.2.2.1 hm.out.fr
          obtain ⟨gw, _, rfl, -, hgwb, -⟩ := owns_at hro (by omega)
          have y0 : wr.cell? ⟨gw, k * 2, none⟩ = some (.int .i64 (x.1 : Int)) := owns_cell2 hro (by rw [← Nat.add_zero (k * 2), flat_get (f := rcell) (m := 2) (fun _ => rfl) _ k x HX.out.1 0 (by decide)]; rfl)
          have y1 : wr.cell? ⟨gw, k * 2 + 1, none⟩ = some (strv x.2) := owns_cell2 hro (by rw [flat_get (f := rcell) (m := 2) (fun _ => rfl) _ k x HX.out.1 1 (by decide)]; rfl)
          have hxo : x.1 < R.old.length := H.out.2.2.2.2.2 x (List.mem_of_getElem? HX.out.1)
          have hbl : b < wr.heap.size := lt_of_block HM0.out
          have hgl : gw < wr.heap.size := lt_of_block hgwb
          clear hro hgwb
          have hrw : wr.ownsRow 0 9 1 (.slice an R.old.length cn) R.old.length ((R.crashTo keep k).map strv) := by have := hm.out.row; rwa [rcrashTo_len] at this
          obtain ⟨gn, curn, rfl, -, hgn, hcn, hcs, -⟩ := owns_at hrw (by omega)
          have HR := hid (⟨hrw, hgn⟩ : _ ∧ _)
          clear hrw hgn
          go_wp2_with fail
          refine wp_region_sched (by kernel_rfl) 18 [18] [0, 1, 2, 3, 4, 5, 6, 7, 8, 9, 10, 11, 12, 13, 14, 15, 16, 17, 18] (AgC [b, gw] wr.drew) (by kernel_rfl) (AgC.refl _ _) ?_
          simp only [List.map_cons, List.map_nil, List.contains_cons, List.contains_nil, Nat.reduceBEq, Bool.or_false, nth_zero, nth_succ]
          repeat (refine sched_quiet (fun K hK => ?_); go_simp; refine hK _ ?_; clear hK K)
          refine sched_loud (wpList_store1 rfl 9 (.tmp 49) (.tmp 48) rfl gn x.1 rfl _ _ (strv x.2) rfl (by kernel_rfl) HR.out.2 (by omega) rfl ?_)
          intro w8 p8
          refine sched_last ?_
          refine sched_nil ?_
          have p8' : Put gn (curn.setIfInBounds x.1 (strv x.2)) 9 wr w8 := ⟨p8.at_, (Fr.refl _ wr).drew.thenS p8.fr, p8.size⟩
          have h8 : CrMid w w8 (.slice (some ⟨gn, 0, none⟩) R.old.length cn) (R.crashTo keep (k + 1)) := by
            refine ⟨?_, hm.out.blk, hm.out.fr.trans p8'.fr (fun j hj e => by have := hm.out.blk gn rfl; omega)⟩
            rw [rcrashTo_len, rcrashTo_yes HX.out.1 HX.out.2, List.map_set]
            exact owns_put HR.out.1 HR.out.2 p8'
          have H8 := hid h8
          clear h8 p8 p8'
          go_wp2
          go_roundw
          case rel => exact ⟨k + 1, by omega, by omega, by go_num, H8.out⟩
          case measure => simp [intOf]; omega
      · have hmin : Hid (min R.wait.length keep.length = k) := hid (by omega)
        have hrw : wr.ownsRow 0 9 1 (.slice an R.old.length cn) R.old.length ((R.crashTo keep k).map strv) := by have := hm.out.row; rwa [rcrashTo_len] at this
        have HR := hid hrw
        clear hrw
        go_wp2_with (first | (at_builtin; go_must (refine wpList_app rfl (.tmp 50) (.tmp 51) 39 rfl 9 (.string ByteArray.empty) 1 16 Try.underlying39 infoStr rfl (by decide) _ 0 [] rfl (World.ownsRow_made wr #[] 0 (Nat.zero_le _) (Nat.zero_le _) rfl) (.slice an R.old.length cn) R.old.length ((R.crashTo keep k).map strv) rfl ((Rd.of_owns HR.out (strv_one _)).frame ((Fr.refl No wr).alloc _) (fun _ _ e => e)) (by unfold maxLen; omega) (by omega) ?_; rintro vn w3 o3 f3 b3 -; simp only [Nat.zero_add, List.nil_append] at o3; obtain ⟨ad, cd, rfl⟩ := ownsRow_slice o3; have hf3 : Fr No wr w3 := ((Fr.refl No wr).alloc _).trans f3 (fun k hk e => by have := Option.some.inj (show some wr.heap.size = some k from e); omega); have hb3 : ∀ j, (Value.slice ad R.old.length cd).ownBlock = some j → wr.heap.size ≤ j := fun j hj => (by rcases b3 j hj with e | e; (have := Option.some.inj (show some wr.heap.size = some j from e); omega); (simp at e; omega)); have N3 := hid (⟨o3, hf3, hb3⟩ : _ ∧ _ ∧ _); clear o3 f3 b3 hf3 hb3)) | (refine wpList_build' rfl 42 [(0, .tmp 52), (1, .tmp 53), (3, .const (.int .i64 (-1)))] rfl [(0, .slice ad R.old.length cd), (1, .slice an R.old.length cn), (3, .int .i64 (-1))] rfl _ (built_drum _ _ rfl rfl) ?_))
        go_ret
        obtain ⟨o3, f3, b3⟩ := N3.out
        have hz3 := f3.size
        have hzr := hm.out.fr.size
        have fw := (hm.out.fr.thenNo f3).alloc (.cells #[.slice ad R.old.length cd, .slice an R.old.length cn, .slice none 0 0, .int .i64 (-1), .bool false] 42)
        have row3 := f3.owns HR.out (fun _ _ e => e)
        have hlen := rcrashTo_len R keep k
        refine ⟨w3.heap.size, rfl, ?_, fw⟩
        have hcr : R.crash keep = { old := R.crashTo keep k, S := R.crashTo keep k, wait := [], left := -1, dead := false } := by rw [RDr.crash, hmin.out]
        rw [hcr]
        refine ⟨(by decide : (-1 : Int) ≤ -1), (by decide : (-1 : Int) ≤ 9223372036854775807), fun j hj => by rcases hj with hj | hj; exact hj.elim; exact hj.2, .inr ⟨by omega, by simp⟩, .slice ad R.old.length cd, .slice an R.old.length cn, .slice none 0 0, heap1 w3 _, by simpa [hlen] using o3.alloc _, by simpa [hlen] using row3.alloc _, World.ownsRow_nil _ _ _ _, ?_, ?_, fun j hj => (by cases hj)⟩
        · intro j hj
          have h1 := b3 j hj
          have h2 := (o3.lt j hj).2
          exact ⟨.inr ⟨by omega, by simp; omega⟩, by omega⟩
        · intro j hj
          have h1 := hm.out.blk j hj
          have h2 := (HR.out.lt j hj).2
          exact ⟨.inr ⟨h1, by simp; omega⟩, by omega, fun e => by have := b3 j e; omega⟩
    · have hmin : Hid (min R.wait.length keep.length = k) := hid (by omega)
      have hrw : wr.ownsRow 0 9 1 (.slice an R.old.length cn) R.old.length ((R.crashTo keep k).map strv) := by have := hm.out.row; rwa [rcrashTo_len] at this
      have HR := hid hrw
      clear hrw
      go_wp2_with (first | (at_builtin; go_must (refine wpList_app rfl (.tmp 50) (.tmp 51) 39 rfl 9 (.string ByteArray.empty) 1 16 Try.underlying39 infoStr rfl (by decide) _ 0 [] rfl (World.ownsRow_made wr #[] 0 (Nat.zero_le _) (Nat.zero_le _) rfl) (.slice an R.old.length cn) R.old.length ((R.crashTo keep k).map strv) rfl ((Rd.of_owns HR.out (strv_one _)).frame ((Fr.refl No wr).alloc _) (fun _ _ e => e)) (by unfold maxLen; omega) (by omega) ?_; rintro vn w3 o3 f3 b3 -; simp only [Nat.zero_add, List.nil_append] at o3; obtain ⟨ad, cd, rfl⟩ := ownsRow_slice o3; have hf3 : Fr No wr w3 := ((Fr.refl No wr).alloc _).trans f3 (fun k hk e => by have := Option.some.inj (show some wr.heap.size = some k from e); omega); have hb3 : ∀ j, (Value.slice ad R.old.length cd).ownBlock = some j → wr.heap.size ≤ j := fun j hj => (by rcases b3 j hj with e | e; (have := Option.some.inj (show some wr.heap.size = some j from e); omega); (simp at e; omega)); have N3 := hid (⟨o3, hf3, hb3⟩ : _ ∧ _ ∧ _); clear o3 f3 b3 hf3 hb3)) | (refine wpList_build' rfl 42 [(0, .tmp 52), (1, .tmp 53), (3, .const (.int .i64 (-1)))] rfl [(0, .slice ad R.old.length cd), (1, .slice an R.old.length cn), (3, .int .i64 (-1))] rfl _ (built_drum _ _ rfl rfl) ?_))
      go_ret
      obtain ⟨o3, f3, b3⟩ := N3.out
      have hz3 := f3.size
      have hzr := hm.out.fr.size
      have fw := (hm.out.fr.thenNo f3).alloc (.cells #[.slice ad R.old.length cd, .slice an R.old.length cn, .slice none 0 0, .int .i64 (-1), .bool false] 42)
      have row3 := f3.owns HR.out (fun _ _ e => e)
      have hlen := rcrashTo_len R keep k
      refine ⟨w3.heap.size, rfl, ?_, fw⟩
      have hcr : R.crash keep = { old := R.crashTo keep k, S := R.crashTo keep k, wait := [], left := -1, dead := false } := by rw [RDr.crash, hmin.out]
      rw [hcr]
      refine ⟨(by decide : (-1 : Int) ≤ -1), (by decide : (-1 : Int) ≤ 9223372036854775807), fun j hj => by rcases hj with hj | hj; exact hj.elim; exact hj.2, .inr ⟨by omega, by simp⟩, .slice ad R.old.length cd, .slice an R.old.length cn, .slice none 0 0, heap1 w3 _, by simpa [hlen] using o3.alloc _, by simpa [hlen] using row3.alloc _, World.ownsRow_nil _ _ _ _, ?_, ?_, fun j hj => (by cases hj)⟩
      · intro j hj
        have h1 := b3 j hj
        have h2 := (o3.lt j hj).2
        exact ⟨.inr ⟨by omega, by simp; omega⟩, by omega⟩
      · intro j hj
        have h1 := hm.out.blk j hj
        have h2 := (HR.out.lt j hj).2
        exact ⟨.inr ⟨h1, by simp; omega⟩, by omega, fun e => by have := b3 j e; omega⟩
end Go.Proofs.Ytggahnipmlihlaa
