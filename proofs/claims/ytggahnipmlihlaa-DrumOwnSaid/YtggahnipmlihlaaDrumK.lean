/- DrumOwn: what is handed in is neither kept nor changed, what is read is new memory; a nil Drum is dead. -/
import Derived.Test.YtggahnipmlihlaaDrumJ
namespace Go.Proofs.Ytggahnipmlihlaa
open Go.RowKit Go.Lig

theorem own_out (W : World) (ao : Option Addr) (n c : Nat) (h : n < 1 ∨ 64 < n) : Calls Try.prog 9 #[.slice ao n c] W fun e w' => e = .returned (.bool true) ∧ W = w' := by
  by_cases h0 : (n : Int) < 1
  · clear h
    go_enter Try.func9, Try.ntmps9
    go_wp2
    go_ret
    exact ⟨rfl, rfl⟩
  · have h1 : (64 : Int) < (n : Int) := by omega
    clear h
    go_enter Try.func9, Try.ntmps9
    go_wp2
    go_ret
    exact ⟨rfl, rfl⟩

theorem own_take (g : Nat → UInt8) (l : List UInt8) (h : l.length ≤ 64) : (sec (lay g 0 (pad l)) 0).take l.length = l.map u8v := by
  apply List.ext_getElem?
  intro j
  rw [List.getElem?_take]
  split
  · rename_i hj
    rw [sec, bs_get _ _ _ (by omega)]
    simp only [lay, Nat.mul_zero, Nat.zero_add, Nat.zero_le, true_and, Nat.sub_zero]
    rw [if_pos (by omega)]
    simp [pad, hj]
  · rename_i hj
    rw [List.getElem?_eq_none (by simp; omega)]
/-- the head of an owned slice, read. -/
theorem rd_head {w : World} {base : Nat} {e : TypeId} {g c n : Nat} {xs : List Value} (h : w.ownsRow base e 1 (.slice (some ⟨g, 0, none⟩) n c) n xs) (h1 : ∀ u ∈ xs, u.oneCell' = true) (m : Nat) (hm : m ≤ n) : Rd w (.slice (some ⟨g, 0, none⟩) m c) m 1 (xs.take m) := by
  have hl : xs.length = n := by simpa using h.1
  have hcap : n ≤ c ∧ c ≤ maxLen := by
    rcases h.2 with ⟨e, _⟩ | ⟨g', cap, cur, e, _, _, hnc, hcm, _⟩
    · cases e
    · simp only [Value.slice.injEq] at e
      obtain ⟨_, _, rfl⟩ := e
      exact ⟨hnc, hcm⟩
  refine ⟨some ⟨g, 0, none⟩, c, rfl, by simp; omega, fun e => (by cases e), fun ad e j u hj => ?_, fun u hu => h1 u (List.mem_of_mem_take hu), by omega, hcap.2⟩
  obtain rfl := Option.some.inj e
  rw [List.getElem?_take] at hj
  split at hj
  · exact h.cells (g := g) rfl j u hj
  · cases hj

set_option maxRecDepth 100000 in
set_option maxHeartbeats 4000000 in
theorem own_in (W : World) (pv : Value) (l : List UInt8) (hl : Rd W pv l.length 1 (l.map u8v)) (h1 : 1 ≤ l.length) (h64 : l.length ≤ 64) :
    Calls Try.prog 9 #[pv] W fun e w' => e = .returned (.bool true) ∧ Fr No W w' := by
  obtain ⟨x, hx⟩ : ∃ x, l[0]? = some x := ⟨_, List.getElem?_eq_getElem (by omega)⟩
  obtain ⟨lb, lo, c, rfl, hlc⟩ := hl.at1 (k := 0) (u := u8v x) (by simp [hx])
  have HL := hid (⟨hl, hlc, hx⟩ : _ ∧ _ ∧ _)
  have h1' : ¬ (l.length : Int) < 1 := by omega
  have h64' : ¬ (64 : Int) < (l.length : Int) := by omega
  clear hl hlc hx
  go_enter Try.func9, Try.ntmps9
  go_wp2_with (first | (go_at_call 11; refine (new_as (Fr.refl No _) _ 1 rfl).mono ?_; rintro e w1 ⟨b, S, rfl, hd1, f1⟩; have H1 := hid hd1; clear hd1 f1) | (at_builtin; refine wpList_app rfl (.tmp 19) (.tmp 20) 29 rfl 5 (.int .u8 0) 1 1 Try.underlying29 info5 rfl (by decide) _ 0 [] rfl (World.ownsRow_made w1 #[] 0 (Nat.zero_le _) (Nat.zero_le _) rfl) _ l.length (l.map u8v) rfl (HL.out.1.frame (H1.out.fr.alloc _) (fun _ _ e => e)) (by unfold maxLen; omega) (by omega) ?_; intro vi w2 o2 f2 b2 n2; have H2 := hid (⟨o2, f2, b2⟩ : _ ∧ _ ∧ _); clear o2 f2 b2 n2))
  obtain ⟨o2, f2, b2⟩ := H2.out
  simp only [Nat.zero_add, List.nil_append] at o2
  obtain ⟨ai, ci, rfl⟩ := ownsRow_slice o2
  obtain ⟨gi, _, hai, -⟩ := owns_at o2 (by omega)
  subst hai
  have hbS := H1.out.at_.bound
  have hgi : w1.heap.size ≤ gi := by
    rcases b2 gi rfl with e | e
    · have := Option.some.inj (show some w1.heap.size = some gi from e); omega
    · simp at e; omega
  have hf12 : Fr No w1 w2 := ((Fr.refl No w1).alloc _).trans f2 (fun k hk e => by have := Option.some.inj (show some w1.heap.size = some k from e); omega)
  have hgi2 : gi < w2.heap.size := (o2.lt gi rfl).2
  have hrd2 : Rd w2 (.slice (some ⟨gi, 0, none⟩) l.length ci) l.length 1 (l.map u8v) := Rd.of_owns o2 (fun u hu => by simp only [List.mem_map] at hu; obtain ⟨_, _, rfl⟩ := hu; rfl)
  have H2' := hid (⟨H1.out.nextNo hf12, hrd2, o2, hgi, hgi2, hbS⟩ : _ ∧ _ ∧ _ ∧ _ ∧ _ ∧ _)
  clear o2 f2 b2 hf12 hrd2 hbS hgi hgi2 H2
  go_wp2_with fail
  refine (write_in H2'.out.1 (live_new 1) 0 (by decide) _ l h64 H2'.out.2.1 (fun q hq e => by simp [slBlock] at hq; have := H2'.out.2.2.2.2.2 q e; have := H2'.out.2.2.2.1; omega) (by decide)).mono ?_
  rintro e w3 ⟨S3, rfl, h3, f3, s3⟩
  have hgS : ¬ S gi := fun e => by have := H2'.out.2.2.2.2.2 gi e; have := H2'.out.2.2.2.1; omega
  have hgS3 : ¬ S3 gi := fun e => by rcases s3 gi e with e | e; exact hgS e; have := H2'.out.2.2.2.2.1; omega
  have o3 := f3.owns H2'.out.2.2.1 (fun k hk e => by simp [Value.ownBlock] at hk; subst hk; exact hgS e)
  obtain ⟨gi', cur, e', _, hblk, hlc, hcs, _⟩ := owns_at o3 (by omega)
  obtain rfl : gi' = gi := by simpa using e'.symm
  have hc0 : w3.cell? ⟨gi', 0, none⟩ = some (.int .u8 (x.toNat : Int)) := owns_cell o3 rfl (by simp [HL.out.2.2]; rfl)
  have hz := freeAll hblk
  have H3 := hid (⟨h3, hgS3, H2'.out.2.2.2.1⟩ : _ ∧ _ ∧ _)
  clear h3 f3 s3 hgS hgS3 o3 hblk hcs e' hlc
  go_wp2_with fail
  have f4 : ∀ V, Fr (fun k => k = gi') w3 (w3.setCell ⟨gi', 0, none⟩ V) := fun V => (Fr.refl (fun k => k = gi') w3).setCell (p := ⟨gi', 0, none⟩) V (fun _ => rfl)
  have h4 : ∀ V, DW W (w3.setCell ⟨gi', 0, none⟩ V) S3 b ((Dr.new 1).put 0 l) := fun V => H3.out.1.next (f4 V) (fun k hk e => H3.out.2.1 (e ▸ hk)) (fun k e => by have := H1.out.fr.size; have := H3.out.2.2; omega)
  have H4 := hid h4
  clear f4 h4 hc0 hz
  refine (read_in _ S3 b _ (H4.out _).at_ 0 (by show 0 < 1; decide)).mono ?_
  rintro e w5 ⟨vb, rfl, o5, n5, b5, f5⟩
  obtain ⟨ab, cb, rfl⟩ := ownsRow_slice o5
  obtain ⟨gb, curb, hab, _, hblkb, hcb, hcsb, _⟩ := owns_at o5 (by decide)
  subst hab
  have h5 := (H4.out _).nextNo f5
  have hgb : ¬ S3 gb := fun e => absurd ((H4.out _).at_.bound gb e) (Nat.not_lt.2 (b5 gb rfl))
  have hgbW : W.heap.size ≤ gb := by have h6 := b5 gb rfl; exact Nat.le_trans (H4.out _).fr.size h6
  have hb0 : w5.cell? ⟨gb, 0, none⟩ = some (.int .u8 (x.toNat : Int)) := owns_cell o5 rfl (by
    rw [sec, bs_get _ _ _ (by decide)]
    have : (pad l) 0 = x := by simp [pad, HL.out.2.2]
    simp only [Dr.put, lay]
    rw [if_pos (by decide)]
    show some (u8v (pad l 0)) = _
    rw [this]
    rfl)
  have hzb := freeAll hblkb
  have hrb : Rd w5 (.slice (some ⟨gb, 0, none⟩) l.length cb) l.length 1 (l.map u8v) := by
    have := rd_head o5 (bs_one _ _) l.length h64
    rwa [show sec ((Dr.new 1).put 0 l).now 0 = sec (lay (fun _ => 0) 0 (pad l)) 0 from rfl, own_take _ l h64] at this
  have hrp : Rd w5 (.slice (some ⟨lb, lo, none⟩) l.length c) l.length 1 (l.map u8v) := HL.out.1.frame h5.fr (fun _ _ e => e)
  have H5 := hid (⟨h5, hgb, hgbW, hrb, hrp⟩ : _ ∧ _ ∧ _ ∧ _ ∧ _)
  have hgb5 : gb < w5.heap.size := lt_of_block hblkb
  clear o5 n5 b5 f5 h5 hgb hgbW hrb hrp hblkb hcsb
  go_wp2_with fail
  -- region 10
  have hrbd : Rd w5.drew (.slice (some ⟨gb, 0, none⟩) l.length cb) l.length 1 (l.map u8v) := H5.out.2.2.2.1.frame ((Fr.refl No _).drew) (fun _ _ e => e)
  have hrpd : Rd w5.drew (.slice (some ⟨lb, lo, none⟩) l.length c) l.length 1 (l.map u8v) := H5.out.2.2.2.2.frame ((Fr.refl No _).drew) (fun _ _ e => e)
  have hgcb : l.length ≤ cb := by omega
  have HR := hid (⟨hrbd, hrpd⟩ : _ ∧ _)
  clear hrbd hrpd
  refine wp_region_sched (by kernel_rfl) 15 [] [0, 1, 2, 3, 4, 5, 6, 7, 8, 9, 10, 11, 12, 13, 14] (AgC [gb, lb] w5.drew) (by kernel_rfl) (AgC.refl _ _) ?_
  simp only [List.map_cons, List.map_nil, List.contains_nil, nth_zero, nth_succ]
  repeat (refine sched_quiet (fun K hK => ?_); go_simp; refine hK _ ?_; clear hK K)
  refine sched_conv (by go_simp) 29 9 (.tmp 41) rfl (.slice (some ⟨gb, 0, none⟩) l.length cb) rfl (strv l) (fun w' hw' => run_strOf Try.underlying29 Try.underlying5 Try.underlying9 (rd_agc HR.out.1 hw' (by simp [slBlock]))) ?_
  repeat (refine sched_quiet (fun K hK => ?_); go_simp; refine hK _ ?_; clear hK K)
  refine sched_conv (by go_simp) 29 9 (.tmp 43) rfl (.slice (some ⟨lb, lo, none⟩) l.length c) rfl (strv l) (fun w' hw' => run_strOf Try.underlying29 Try.underlying5 Try.underlying9 (rd_agc HR.out.2 hw' (by simp [slBlock]))) ?_
  simp only [strv]
  repeat (refine sched_quiet (fun K hK => ?_); go_simp; refine hK _ ?_; clear hK K)
  refine sched_nil ?_
  go_wp2_with fail
  have f6 : ∀ V, Fr (fun k => k = gb) w5 (w5.drew.setCell ⟨gb, 0, none⟩ V) := fun V => ((Fr.refl (fun k => k = gb) w5).drew).setCell (p := ⟨gb, 0, none⟩) V (fun _ => rfl)
  have h6 : ∀ V, DW W (w5.drew.setCell ⟨gb, 0, none⟩ V) S3 b ((Dr.new 1).put 0 l) := fun V => H5.out.1.next (f6 V) (fun k hk e => H5.out.2.1 (e ▸ hk)) (fun k e => by have := H5.out.2.2.1; omega)
  have H6 := hid h6
  clear f6 h6 hb0 hzb
  refine (read_in _ S3 b _ (H6.out _).at_ 0 (by show 0 < 1; decide)).mono ?_
  rintro e w7 ⟨vc, rfl, o7, n7, b7, f7⟩
  obtain ⟨ac, cc, rfl⟩ := ownsRow_slice o7
  obtain ⟨gc, curc, hac, _, hblkc, hcc, hcsc, _⟩ := owns_at o7 (by decide)
  subst hac
  have hf7 := ((H6.out _).nextNo f7).fr
  have hgcc : l.length ≤ cc := by omega
  have hgl7 : gc < w7.heap.size ∧ lb < w7.heap.size := ⟨lt_of_block hblkc, World.block_lt_of_cell? w7 _ (HL.out.2.1 w7 hf7)⟩
  have hrc : Rd w7.drew (.slice (some ⟨gc, 0, none⟩) l.length cc) l.length 1 (l.map u8v) := by
    have := rd_head o7 (bs_one _ _) l.length h64
    rw [show sec ((Dr.new 1).put 0 l).now 0 = sec (lay (fun _ => 0) 0 (pad l)) 0 from rfl, own_take _ l h64] at this
    exact this.frame ((Fr.refl No _).drew) (fun _ _ e => e)
  have hrp7 : Rd w7.drew (.slice (some ⟨lb, lo, none⟩) l.length c) l.length 1 (l.map u8v) := HL.out.1.frame hf7.drew (fun _ _ e => e)
  have H7 := hid (⟨hf7, hrc, hrp7⟩ : _ ∧ _ ∧ _)
  clear o7 n7 b7 f7 hf7 hrc hrp7 hblkc hcsc
  go_wp2_with (go_at_call 24; refine (fuse_nil _ _).mono ?_; rintro e w' ⟨rfl, rfl⟩)
  refine wp_region_sched (by kernel_rfl) 47 [18, 23, 28, 33, 35, 38, 44] [0, 1, 2, 3, 4, 5, 6, 7, 8, 9, 10, 11, 12, 13, 14, 15, 16, 17, 18, 19, 20, 21, 22, 23, 24, 25, 26, 27, 28, 29, 30, 31, 32, 34, 37, 33, 35, 36, 38, 39, 40, 41, 42, 43, 44, 45, 46] (AgC [gc, lb] w7.drew) (by kernel_rfl) (AgC.refl _ _) ?_
  simp only [List.map_cons, List.map_nil, List.contains_cons, List.contains_nil, Nat.reduceBEq, Bool.or_false, Bool.or_true, nth_zero, nth_succ]
  repeat (refine sched_quiet (fun K hK => ?_); go_simp; refine hK _ ?_; clear hK K)
  refine sched_conv (by go_simp) 29 9 (.tmp 65) rfl (.slice (some ⟨gc, 0, none⟩) l.length cc) rfl (strv l) (fun w' hw' => run_strOf Try.underlying29 Try.underlying5 Try.underlying9 (rd_agc H7.out.2.1 hw' (by simp [slBlock]))) ?_
  repeat (refine sched_quiet (fun K hK => ?_); go_simp; refine hK _ ?_; clear hK K)
  refine sched_conv (by go_simp) 29 9 (.tmp 67) rfl (.slice (some ⟨lb, lo, none⟩) l.length c) rfl (strv l) (fun w' hw' => run_strOf Try.underlying29 Try.underlying5 Try.underlying9 (rd_agc H7.out.2.2 hw' (by simp [slBlock]))) ?_
  simp only [strv]
  repeat (refine sched_quiet (fun K hK => ?_); go_simp; refine hK _ ?_; clear hK K)
  refine sched_call (by go_simp) 13 #[.pointer none, .int .i64 0, .slice (some ⟨lb, lo, none⟩) l.length c] (by first | kernel_rfl | go_simp) (write_nil _ _ _) ?_
  rintro e w' ⟨rfl, rfl⟩
  refine ⟨_, rfl, AgC.refl _ _, ?_⟩
  repeat (refine sched_quiet (fun K hK => ?_); go_simp; refine hK _ ?_; clear hK K)
  refine sched_call (by go_simp) 15 #[.pointer none] (by first | kernel_rfl | go_simp) (sync_nil _) ?_
  rintro e w' ⟨rfl, rfl⟩
  refine ⟨_, rfl, AgC.refl _ _, ?_⟩
  repeat (refine sched_quiet (fun K hK => ?_); go_simp; refine hK _ ?_; clear hK K)
  refine sched_call (by go_simp) 17 #[.pointer none, .slice none 0 0] (by first | kernel_rfl | go_simp) (crash_nil _ _) ?_
  rintro e w' ⟨rfl, rfl⟩
  refine ⟨_, rfl, AgC.refl _ _, ?_⟩
  repeat (refine sched_quiet (fun K hK => ?_); go_simp; refine hK _ ?_; clear hK K)
  refine sched_call (by go_simp) 23 #[.pointer none] (by first | kernel_rfl | go_simp) (len_nil _) ?_
  rintro e w' ⟨rfl, rfl⟩
  refine ⟨_, rfl, AgC.refl _ _, ?_⟩
  repeat (refine sched_quiet (fun K hK => ?_); go_simp; refine hK _ ?_; clear hK K)
  refine sched_call (by go_simp) 18 #[.pointer none] (by first | kernel_rfl | go_simp) (waiting_nil _) ?_
  rintro e w' ⟨rfl, rfl⟩
  refine ⟨_, rfl, AgC.refl _ _, ?_⟩
  repeat (refine sched_quiet (fun K hK => ?_); go_simp; refine hK _ ?_; clear hK K)
  refine sched_call (by go_simp) 19 #[.pointer none, .int .i64 0] (by first | kernel_rfl | go_simp) (read_nil _ _) ?_
  rintro e w' ⟨rfl, rfl⟩
  refine ⟨_, rfl, AgC.refl _ _, ?_⟩
  repeat (refine sched_quiet (fun K hK => ?_); go_simp; refine hK _ ?_; clear hK K)
  simp only [show IntKind.i64.wrap (IntKind.i64.wrap 0) = 0 from by kernel_rfl]
  refine sched_call (by go_simp) 22 #[] (by first | kernel_rfl | go_simp) (known_any _) ?_
  rintro e w' ⟨rfl, hf⟩
  refine ⟨_, rfl, (AgC.refl _ _).fr hf (by simp only [List.mem_cons, List.not_mem_nil, or_false]; intro k hk; rcases hk with hk | hk <;> subst hk; exact ⟨hgl7.1, id⟩; exact ⟨hgl7.2, id⟩), ?_⟩
  repeat (refine sched_quiet (fun K hK => ?_); go_simp; refine hK _ ?_; clear hK K)
  refine sched_nil ?_
  have HF := hid (H7.out.1.drew.thenNo hf)
  clear hf
  go_wp2
  go_ret
  exact ⟨rfl, HF.out⟩

theorem own_any (W : World) (pv : Value) (l : List UInt8) (hl : Rd W pv l.length 1 (l.map u8v)) :
    Calls Try.prog 9 #[pv] W fun e w' => e = .returned (.bool true) ∧ Fr No W w' := by
  by_cases h : l.length < 1 ∨ 64 < l.length
  · obtain ⟨ao, c, rfl, -⟩ := rd_len hl
    exact (own_out W ao _ c h).mono fun e w' ⟨h1, h2⟩ => ⟨h1, h2 ▸ Fr.refl _ _⟩
  · exact own_in W pv l hl (by omega) (by omega)
end Go.Proofs.Ytggahnipmlihlaa
