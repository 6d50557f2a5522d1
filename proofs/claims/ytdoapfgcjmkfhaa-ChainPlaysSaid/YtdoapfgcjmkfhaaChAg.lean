/- ChainAgain: the plain law, the walk. -/
import Derived.Test.YtdoapfgcjmkfhaaChMa
import Derived.IntWalk
namespace Go.Proofs.Ytdoapfgcjmkfhaa
open Go.RowKit Go.Lig

/-- list 4 alone; the one that was put last is at its head -/
structure AgI (l : List Int) (i : Nat) (I : List (Int × Int)) : Prop where
  all : ∀ p ∈ I, p.1 = 4
  head : ∀ x, 0 < i → l[i - 1]? = some x → (ids I 4).head? = some x
theorem again_step {l : List Int} {i : Nat} {I : List (Int × Int)} (h : AgI l i I) {x : Int} (hx : l[i]? = some x) :
    decide ((4, x) ∉ cutI I 4 x) = true ∧ AgI l (i + 1) (addI (cutI I 4 x) 4 x) ∧ ∃ r, ids (addI (cutI I 4 x) 4 x) 4 = x :: r := by
  have h1 : ¬ (4, x) ∈ cutI I 4 x := by unfold cutI; simp
  have h2 : addI (cutI I 4 x) 4 x = (4, x) :: cutI I 4 x := by unfold addI; rw [if_neg h1]
  have h3 : ids ((4, x) :: cutI I 4 x) 4 = x :: ids (cutI I 4 x) 4 := ids_cons_same _ _ _
  refine ⟨decide_eq_true h1, ⟨fun p hp => ?_, fun y _ hy => ?_⟩, ids (cutI I 4 x) 4, by rw [h2, h3]⟩
  · rw [h2] at hp
    rcases List.mem_cons.1 hp with rfl | hp
    · rfl
    · exact h.all p (List.mem_filter.1 hp).1
  · rw [Nat.add_sub_cancel, hx] at hy
    obtain rfl := Option.some.inj hy
    rw [h2, h3]
    rfl
set_option maxRecDepth 100000 in
set_option maxHeartbeats 1000000 in
theorem again_in (W : World) (lv : Value) (l : List Int) (hl : Rd W lv l.length 1 (l.map iv)) (hk : ∀ x ∈ l, keyOk x) (h1 : 1 ≤ l.length) (h2 : l.length ≤ 100) :
    Calls Try.prog 8 #[lv] W fun e w' => e = .returned (.bool true) ∧ Fr No W w' := by
  obtain ⟨ao, co, rfl, -⟩ := rd_len hl
  obtain ⟨x0, hx0⟩ : ∃ x, l[0]? = some x := ⟨_, List.getElem?_eq_getElem (by omega)⟩
  obtain ⟨lb, lo, c', hlv, -⟩ := hl.at1 (k := 0) (u := iv x0) (by simp [hx0])
  obtain ⟨rfl, rfl⟩ : ao = some ⟨lb, lo, none⟩ ∧ co = c' := by simpa using hlv
  have hcell : ∀ (i : Nat) (x : Int) (w' : World), l[i]? = some x → Fr No W w' → w'.cell? ⟨lb, lo + i, none⟩ = some (.int .i64 x) := fun i x w' hx hf => by
    obtain ⟨lb', lo', c', hlv', hc⟩ := hl.at1 (k := i) (u := iv x) (by simp [hx])
    simp only [Value.slice.injEq, Option.some.injEq, Addr.mk.injEq, and_true, true_and] at hlv'
    obtain ⟨⟨rfl, rfl⟩, -⟩ := hlv'
    exact hc w' hf
  have hblk : lb < W.heap.size := by
    have := World.block_lt_of_cell? W _ (hcell 0 x0 W hx0 (Fr.refl _ _))
    exact this
  have HL := hid (⟨hcell, hk, hblk⟩ : _ ∧ (∀ x ∈ l, keyOk x) ∧ _)
  clear hl hk hcell hlv hblk hx0
  have t1 : ¬ (l.length : Int) < 1 := by omega
  have t2 : ¬ (100 : Int) < (l.length : Int) := by omega
  go_enter Try.func8, Try.ntmps8
  go_wp2_with fail
  refine (new_cw (Fr.refl No _)).mono ?_
  rintro e w1 ⟨c, S1, rfl, c1, f1, n1⟩
  have H1 := hid c1
  clear c1 f1 n1 t1 t2
  go_wp2_with fail
  go_loopw [4] (fun vi wr => ∃ (i : Nat), i ≤ l.length ∧ vi = .int .i64 (i : Int) ∧ Hid (∃ S I, CW W wr S c I i ∧ AgI l i I)) (fun vi _ => l.length - (intOf vi).toNat)
  case atStart => exact ⟨0, Nat.zero_le _, rfl, S1, [], H1.out, ⟨fun _ h => (by cases h), fun _ h => (by omega)⟩⟩
  case round =>
    obtain ⟨i, hi, rfl, hR⟩ := hrel
    obtain ⟨S, I, hL, hA⟩ := hR.out
    have HC := hid (⟨hL, hA⟩ : _ ∧ _)
    clear hR hL hA
    by_cases hlt : i < l.length
    · obtain ⟨x, hx⟩ : ∃ x, l[i]? = some x := ⟨_, List.getElem?_eq_getElem hlt⟩
      have hxk := HL.out.2.1 x (List.mem_of_getElem? hx)
      have HX := hid (⟨hx, hxk⟩ : _ ∧ keyOk x)
      have ST := hid (again_step HC.out.2 hx)
      have e0 : wr.cell? ⟨lb, lo + i, none⟩ = some (.int .i64 x) := HL.out.1 i x wr hx HC.out.1.fr
      clear hx hxk
      go_wp2_with fail
      refine (cut_cw HC.out.1 4 x rfl HX.out.2 (by omega) _ rfl).mono ?_
      rintro e w2 ⟨rfl, h2', f2⟩
      have H2 := hid h2'
      have e2 : w2.cell? ⟨lb, lo + i, none⟩ = some (.int .i64 x) := HL.out.1 i x w2 HX.out.1 h2'.fr
      clear h2' f2 e0
      go_wp2_with fail
      refine (add_cw H2.out 4 x rfl HX.out.2 (by omega) true ST.out.1).mono ?_
      rintro e w3 ⟨S3, rfl, h3', f3, n3⟩
      have H3 := hid h3'
      clear h3' f3 n3 e2
      go_wp2_with fail
      refine (walk_cw H3.out 4 rfl (by omega)).mono ?_
      rintro e w4 ⟨v4, rfl, o4⟩
      obtain ⟨r, hr⟩ := ST.out.2.2
      rw [hr] at o4
      obtain ⟨a4, c4, rfl⟩ := ownsRow_slice o4.row
      obtain ⟨g, cur, rfl, -, hg, -⟩ := owns_at o4.row (by simp)
      have hc4 : w4.cell? ⟨g, 0, none⟩ = some (.int .i64 x) := owns_cell o4.row rfl rfl
      have H4 := hid (H3.out.nextNo o4.fr)
      have e4 : w4.cell? ⟨lb, lo + i, none⟩ = some (.int .i64 x) := HL.out.1 i x w4 HX.out.1 H4.out.fr
      have hn4 : (((x :: r).length : Nat) : Int) = ((r.length + 1 : Nat) : Int) := by simp
      have hne : ((((r.length + 1 : Nat) : Int)) == 0) = false := by rw [beq_eq_false_iff_ne]; omega
      have hne2 : (((r.length : Int) + 1) == 0) = false := by rw [beq_eq_false_iff_ne]; omega
      have HR := hid hr
      have hlb4 : lb < w4.heap.size := by have := HL.out.2.2; have := H4.out.fr.size; omega
      clear o4 hg hr hn4
      go_wp2_with fail
      refine wp_region_sched (by kernel_rfl) 22 [19] [0, 1, 2, 3, 4, 5, 6, 7, 8, 9, 10, 11, 12, 13, 14, 15, 16, 17, 18, 19, 20, 21] (AgC [g, lb] w4.drew) (by kernel_rfl) (AgC.refl _ _) ?_
      simp only [List.map_cons, List.map_nil, List.contains_cons, List.contains_nil, Nat.reduceBEq, Bool.or_false, Bool.or_true, nth_zero, nth_succ]
      repeat (refine sched_quiet (fun K hK => ?_); go_simp; refine hK _ ?_; clear hK K)
      refine sched_call (by first | rfl | go_simp) 21 #[.pointer (some ⟨c, 0, none⟩), .int .i64 4, .int .i64 x] (by first | kernel_rfl | go_simp) (has_cw (H4.out.nextNo (Fr.refl No w4).drew) 4 x rfl HX.out.2 true (decide_eq_true (by rw [HR.out]; simp))) ?_
      rintro e w5 ⟨rfl, rfl⟩
      refine ⟨_, rfl, AgC.refl _ _, ?_⟩
      repeat (refine sched_quiet (fun K hK => ?_); go_simp; refine hK _ ?_; clear hK K)
      refine sched_nil ?_
      go_wp2_with fail
      have H6 := hid (H4.out.nextNo (Fr.refl No w4).drew)
      clear hc4 e4 hne hne2
      go_roundw
      case rel => exact ⟨i + 1, by omega, by go_num, S3, _, H6.out, ST.out.2.1⟩
      case measure => simp [intOf]; omega
    · obtain rfl : i = l.length := by omega
      clear hlt
      obtain ⟨n, hn⟩ : ∃ n, l.length = n + 1 := ⟨l.length - 1, by omega⟩
      obtain ⟨x, hx⟩ : ∃ x, l[n]? = some x := ⟨_, List.getElem?_eq_getElem (by omega)⟩
      have hhd := HC.out.2.head x (by omega) (by rw [hn]; exact hx)
      obtain ⟨r, hr⟩ : ∃ r, ids I 4 = x :: r := by
        cases hI : ids I 4 with
        | nil => rw [hI] at hhd; cases hhd
        | cons y r => rw [hI] at hhd; exact ⟨r, by rw [Option.some.inj hhd]⟩
      have HX := hid (⟨hx, hr, hn⟩ : _ ∧ _ ∧ _)
      rw [hn]
      have hn1 : n < 1000000 := by omega
      clear hx hhd hr hn h1 h2 hi
      go_wp2_with fail
      refine (back_cw HC.out.1 4 rfl (by have := HX.out.2.2; omega)).mono ?_
      rintro e w4 ⟨v4, rfl, o4⟩
      have hlen : (ids I 4).reverse.length = r.length + 1 := by rw [HX.out.2.1]; simp
      have hlast : (ids I 4).reverse[r.length]? = some x := by rw [HX.out.2.1, List.reverse_cons, List.getElem?_append_right (by simp)]; simp
      have hIl := all_len HC.out.2.all
      have hIb := HC.out.1.len
      have hr1 : r.length < 1000000 := by rw [HX.out.2.1, List.length_cons] at hIl; have := HX.out.2.2; omega
      have o4r := o4.row
      rw [hlen] at o4r
      obtain ⟨a4, c4, rfl⟩ := ownsRow_slice o4r
      obtain ⟨g, cur, rfl, -, hg, -⟩ := owns_at o4r (by omega)
      have hc4 : w4.cell? ⟨g, r.length, none⟩ = some (.int .i64 x) := owns_cell o4r rfl (by rw [List.getElem?_map, hlast]; rfl)
      have H4 := hid (HC.out.1.nextNo o4.fr)
      have e4 : w4.cell? ⟨lb, lo + n, none⟩ = some (.int .i64 x) := HL.out.1 _ x w4 HX.out.1 H4.out.fr
      have HI : Hid ((I.length : Int) = (r.length : Int) + 1) := hid (by rw [HX.out.2.1, List.length_cons] at hIl; omega)
      have hp : (0 : Int) < (r.length : Int) + 1 := by omega
      have HB := hid (⟨lt_of_block hg, by have := HL.out.2.2; have := H4.out.fr.size; omega⟩ : g < w4.heap.size ∧ lb < w4.heap.size)
      have hw1 : IntKind.i64.wrap ((r.length : Nat) : Int) = ((r.length : Nat) : Int) := IntWalk.i64_in _ (by omega)
      have hw2 : IntKind.i64.wrap ((n : Nat) : Int) = ((n : Nat) : Int) := IntWalk.i64_in _ (by omega)
      have hp2 : ((r.length : Nat) : Int) < ((r.length : Nat) : Int) + 1 := by omega
      have hp3 : ((n : Nat) : Int) < ((n : Nat) : Int) + 1 := by omega
      clear o4 o4r hg hlen hlast hIl hIb
      go_wp2_with fail
      refine wp_region_sched (by kernel_rfl) 29 [3, 26] [0, 1, 2, 3, 4, 5, 6, 7, 8, 9, 10, 11, 12, 13, 14, 15, 16, 17, 18, 19, 20, 21, 22, 23, 24, 25, 26, 27, 28] (AgC [g, lb] w4.drew) (by kernel_rfl) (AgC.refl _ _) ?_
      simp only [List.map_cons, List.map_nil, List.contains_cons, List.contains_nil, Nat.reduceBEq, Bool.or_false, Bool.or_true, nth_zero, nth_succ]
      repeat (refine sched_quiet (fun K hK => ?_); go_simp; refine hK _ ?_; clear hK K)
      refine sched_call (by first | rfl | go_simp) 20 #[.pointer (some ⟨c, 0, none⟩)] (by first | kernel_rfl | go_simp) (len_cw (H4.out.nextNo (Fr.refl No w4).drew) ((r.length : Int) + 1) HI.out) ?_
      rintro e w5 ⟨rfl, rfl⟩
      refine ⟨_, rfl, AgC.refl _ _, ?_⟩
      repeat (refine sched_quiet (fun K hK => ?_); go_simp; refine hK _ ?_; clear hK K)
      refine sched_call (by first | rfl | go_simp) 16 #[] (by first | kernel_rfl | go_simp) (known_any _) ?_
      rintro e w5 ⟨rfl, f5⟩
      refine ⟨_, rfl, (AgC.refl _ _).fr f5 (fun j hj => ⟨by rcases List.mem_cons.1 hj with rfl | hj; exact HB.out.1; rw [List.mem_singleton.1 hj]; exact HB.out.2, fun e => e⟩), ?_⟩
      have HF := hid ((H4.out.fr.drew).thenNo f5)
      clear f5
      repeat (refine sched_quiet (fun K hK => ?_); go_simp; refine hK _ ?_; clear hK K)
      refine sched_nil ?_
      go_wp2_with fail
      go_ret
      exact ⟨rfl, HF.out⟩
theorem again_any (W : World) (lv : Value) (l : List Int) (hl : Rd W lv l.length 1 (l.map iv)) (hk : ∀ x ∈ l, keyOk x) :
    Calls Try.prog 8 #[lv] W fun e w' => e = .returned (.bool true) ∧ Fr No W w' := by
  by_cases h1 : (l.length : Int) < 1
  · obtain ⟨ao, co, rfl, -⟩ := rd_len hl
    clear hl hk
    go_enter Try.func8, Try.ntmps8
    go_wp2
    go_ret
    exact ⟨rfl, Fr.refl _ _⟩
  by_cases h2 : (100 : Int) < (l.length : Int)
  · obtain ⟨ao, co, rfl, -⟩ := rd_len hl
    clear hl hk
    go_enter Try.func8, Try.ntmps8
    go_wp2
    go_ret
    exact ⟨rfl, Fr.refl _ _⟩
  exact again_in W lv l hl hk (by omega) (by omega)
end Go.Proofs.Ytdoapfgcjmkfhaa
