/- The reference's drum: Sync, Read, New. -/
import Derived.Test.YtggahnipmlihlaaRefM
namespace Go.Proofs.Ytggahnipmlihlaa
open Go.RowKit Go.Lig

theorem infoStr : (Try.prog.info? 9).map (fun i => (i.zero, i.size, i.bytes)) = some (some (.string ByteArray.empty), 1, 16) := by kernel_rfl
theorem ref_close {w w' : World} {T : Nat → Prop} {b : Nat} {R : RDr} {vo vs vw : Value} (l1 : -1 ≤ R.left) (l2 : R.left ≤ 9223372036854775807) (hf : Fr T w w') (hT : ∀ k, T k → k < w'.heap.size) (own : T b)
    (hb : w'.heap[b]? = some (.cells #[vo, vs, vw, .int .i64 R.left, .bool R.dead] 42 (0, 0)))
    (o1 : w'.ownsRow 0 9 1 vo R.old.length (R.old.map strv)) (o2 : w'.ownsRow 0 9 1 vs R.S.length (R.S.map strv)) (o3 : w'.ownsRow 0 61 2 vw R.wait.length (R.wait.flatMap rcell))
    (s1 : ∀ k, vo.ownBlock = some k → (T k ∨ w.heap.size ≤ k) ∧ k ≠ b) (s2 : ∀ k, vs.ownBlock = some k → (T k ∨ w.heap.size ≤ k) ∧ k ≠ b ∧ vo.ownBlock ≠ some k)
    (s3 : ∀ k, vw.ownBlock = some k → (T k ∨ w.heap.size ≤ k) ∧ k ≠ b ∧ vo.ownBlock ≠ some k ∧ vs.ownBlock ≠ some k) : RefAt w' (Gr T w w') b R := by
  have up : ∀ {v : Value} {e : TypeId} {size n : Nat} {xs : List Value}, w'.ownsRow 0 e size v n xs → ∀ k, v.ownBlock = some k → (T k ∨ w.heap.size ≤ k) → Gr T w w' k := fun o k hk h => by
    rcases h with h | h
    · exact .inl h
    · exact .inr ⟨h, (o.lt k hk).2⟩
  exact ⟨l1, l2, fun k hk => by rcases hk with hk | hk; exact hT k hk; exact hk.2, .inl own, vo, vs, vw, hb, o1, o2, o3, fun k hk => ⟨up o1 k hk (s1 k hk).1, (s1 k hk).2⟩, fun k hk => ⟨up o2 k hk (s2 k hk).1, (s2 k hk).2⟩, fun k hk => ⟨up o3 k hk (s3 k hk).1, (s3 k hk).2⟩⟩

set_option maxRecDepth 100000 in
set_option maxHeartbeats 1000000 in
theorem rsync_live (w : World) (T : Nat → Prop) (b : Nat) (R : RDr) (h : RefAt w T b R) (hS : R.S.length ≤ 1000000) (hd : R.tick.dead = false) :
    Calls Try.prog 16 #[.pointer (some ⟨b, 0, none⟩)] w fun e w' => e = .returned (.int .i64 0) ∧ RefAt w' (Gr T w w') b R.tick.sync ∧ Fr T w w' := by
  have HA := hid (ralive_any w T b R h)
  have hS1 : R.tick.S.length ≤ 1000000 := hS
  rw [hd] at HA
  clear h hS hd
  generalize R.tick = R1 at *
  go_enter Try.func16, Try.ntmps16
  go_wp2_with (first | (go_at_call 28; refine HA.out.mono ?_; rintro e w1 ⟨rfl, h1, f1⟩; obtain ⟨vo, vs, vw, g0, g1, g2, g3, s1, s2, s3⟩ := h1.body; obtain ⟨ax, cs, rfl⟩ := ownsRow_slice g2; obtain ⟨c0, c1, c2, c3, c4⟩ := cells5 g0; have ca := (cells5 (hold' (o := .cells #[] 9) g0)).2.1; have H := hid (⟨h1, f1, g0, g1, g2, g3, s1, s2, s3⟩ : _ ∧ _ ∧ _ ∧ _ ∧ _ ∧ _ ∧ _ ∧ _ ∧ _); clear h1 f1 g0 g1 g2 g3 s1 s2 s3 c0 c2 c3 c4) | (at_builtin; go_must (refine wpList_app rfl (.tmp 7) (.tmp 11) 39 rfl 9 (.string ByteArray.empty) 1 16 Try.underlying39 infoStr rfl (by decide) _ 0 [] rfl (World.ownsRow_made w1 #[] 0 (Nat.zero_le _) (Nat.zero_le _) rfl) (.slice ax R1.S.length cs) R1.S.length (R1.S.map strv) rfl ((Rd.of_owns H.out.2.2.2.2.1 (strv_one _)).frame ((Fr.refl No w1).alloc _) (fun _ _ e => e)) (by unfold maxLen; omega) (by omega) ?_; rintro vn w2 o2 f2 b2 -; simp only [Nat.zero_add, List.nil_append] at o2; obtain ⟨an, cn, rfl⟩ := ownsRow_slice o2; have hf : Fr No w1 w2 := ((Fr.refl No w1).alloc _).trans f2 (fun k hk e => by have := Option.some.inj (show some w1.heap.size = some k from e); omega); have k0 := hf.keep H.out.2.2.1 (fun e => e); obtain ⟨d0, d1, d2, d3, d4⟩ := cells5 k0; have hz := freeAll k0; have N2 := hid (⟨o2, hf, b2, k0⟩ : _ ∧ _ ∧ _ ∧ _); clear o2 f2 b2 hf k0 d1 d3 d4)))
  go_ret
  obtain ⟨h1, f1, g0, g1, g2, g3, s1, s2, s3⟩ := H.out
  obtain ⟨o2, hf, b2, k0⟩ := N2.out
  generalize hw3 : (w2.setCell ⟨b, 0, none⟩ (.slice an R1.S.length cn)).setCell ⟨b, 2, none⟩ (.slice none 0 0) = w3
  have fb : Fr (fun k => k = b) w2 w3 := hw3 ▸ ((Fr.refl (fun k => k = b) w2).setCell (p := ⟨b, 0, none⟩) _ (fun _ => rfl)).setCell (p := ⟨b, 2, none⟩) _ (fun _ => rfl)
  have t0 : w3.heap[b]? = _ := hw3 ▸ hset (k := 2) (v := .slice none 0 0) (hset (k := 0) (v := .slice an R1.S.length cn) k0)
  have hn : ∀ k, (Value.slice an R1.S.length cn).ownBlock = some k → w1.heap.size ≤ k := fun k hk => by
    rcases b2 k hk with e | e
    · have := Option.some.inj (show some w1.heap.size = some k from e); omega
    · simp at e; omega
  have hb1 := h1.bound b h1.own
  have fr : Fr T w w3 := (f1.thenNo hf).trans fb (fun k _ e => e ▸ h1.own)
  have hz1 := f1.size
  have hz2 := hf.size
  have hz3 := fb.size
  refine ⟨rfl, ref_close (vo := .slice an R1.S.length cn) (vs := .slice ax R1.S.length cs) (vw := .slice none 0 0) h1.left_lo h1.left_hi fr (fun k hk => by have := h1.bound k hk; omega) h1.own (by simpa [RDr.sync] using t0) (fb.owns o2 (fun k hk e => by have := hn k hk; omega)) (fb.owns (hf.owns g2 (fun _ _ e => e)) (fun k hk => (s2 k hk).2.1)) (World.ownsRow_nil _ _ _ _) (fun k hk => ⟨.inr (by have := hn k hk; omega), by have := hn k hk; omega⟩) (fun k hk => ⟨.inl (s2 k hk).1, (s2 k hk).2.1, fun e => by have := hn k e; have := h1.bound k (s2 k hk).1; omega⟩) (fun k hk => by cases hk), fr⟩
theorem rsync_dead (w : World) (T : Nat → Prop) (b : Nat) (R : RDr) (h : RefAt w T b R) (hd : R.tick.dead = true) :
    Calls Try.prog 16 #[.pointer (some ⟨b, 0, none⟩)] w fun e w' => e = .returned (.int .i64 9) ∧ RefAt w' T b R.tick ∧ Fr T w w' := by
  have HA := hid (ralive_any w T b R h)
  rw [hd] at HA
  clear h hd
  generalize R.tick = R1 at *
  go_enter Try.func16, Try.ntmps16
  go_wp2_with (go_at_call 28; refine HA.out.mono ?_; rintro e w1 ⟨rfl, h1, f1⟩; have H := hid (⟨h1, f1⟩ : _ ∧ _); clear h1 f1)
  go_ret
  exact ⟨rfl, H.out.1, H.out.2⟩
theorem RefAt.up {w w' : World} {T : Nat → Prop} {b : Nat} {R : RDr} (h : RefAt w' T b R) : RefAt w' (Gr T w w') b R := h.mono (fun k hk => .inl hk) (fun k hk => by rcases hk with hk | hk; exact h.bound k hk; exact hk.2)
theorem rsync_any (w : World) (T : Nat → Prop) (b : Nat) (R : RDr) (h : RefAt w T b R) (hS : R.S.length ≤ 1000000) :
    Calls Try.prog 16 #[.pointer (some ⟨b, 0, none⟩)] w fun e w' => e = .returned (.int .i64 R.doSync.1) ∧ RefAt w' (Gr T w w') b R.doSync.2 ∧ Fr T w w' := by
  unfold RDr.doSync
  cases hd : R.tick.dead
  · simp only [Bool.false_eq_true, if_false]
    exact rsync_live w T b R h hS hd
  · simp only [if_true]
    exact (rsync_dead w T b R h hd).mono fun e w' ⟨h1, h2, h3⟩ => ⟨h1, h2.up, h3⟩

/-! ### Read -/
theorem rread_out (w : World) (T : Nat → Prop) (b : Nat) (R : RDr) (h : RefAt w T b R) (i : Int) (hi : i < 0 ∨ (R.S.length : Int) ≤ i) :
    Calls Try.prog 31 #[.pointer (some ⟨b, 0, none⟩), .int .i64 i] w fun e w' => e = .returned (.slice none 0 0) ∧ w = w' := by
  obtain ⟨vo, vs, vw, g0, g1, g2, g3, s1, s2, s3⟩ := h.body
  obtain ⟨ax, cs, rfl⟩ := ownsRow_slice g2
  obtain ⟨c0, c1, c2, c3, c4⟩ := cells5 g0
  clear h g0 g1 g2 g3 s1 s2 s3 c0 c2 c3 c4
  by_cases h0 : i < 0
  · clear hi
    go_enter Try.func31, Try.ntmps31
    go_wp2
    go_ret
    exact ⟨rfl, rfl⟩
  · have h1 : (R.S.length : Int) ≤ i := by omega
    clear hi
    go_enter Try.func31, Try.ntmps31
    go_wp2
    go_ret
    exact ⟨rfl, rfl⟩
/-- []byte(s): a new row that reads as the string. -/
theorem wpList_bytesOf {P : Program} {ops : Array Oper} {rest : List Oper} {o : Oper} {a : Act} {w : World} {Q : Exit → Act → World → Prop} (hgd : o.guard = none) (src e dst : TypeId) (x : Operand) (ho : o.op = .convert src dst x)
    (hs : P.underlying src = some .string) (hd : P.underlying dst = some (.slice e)) (he : P.underlying e = some (.int .u8)) (l : List UInt8) (hx : a.eval x = strv l) (hl : l.length ≤ 1000000)
    (h : ∀ c w', Fr No w w' → Rd w' (.slice (some ⟨w.heap.size, 0, none⟩) l.length c) l.length 1 (l.map u8v) → wpList P ops Q rest (a.put o.dst (.slice (some ⟨w.heap.size, 0, none⟩) l.length c)) w') : wpList P ops Q (o :: rest) a w := by
  have hsz : (⟨l.toArray⟩ : ByteArray).size = l.length := by simp [ByteArray.size]
  have hr := run_bytes_of_string (P := P) w src dst e ⟨l.toArray⟩ hs hd he
  rw [hsz] at hr
  refine wpList_run hgd (v := .slice (some ⟨w.heap.size, 0, none⟩) l.length (grownCap w l.length 0 e)) (w' := w.drew.alloc (.cells (bytesRow ⟨l.toArray⟩ (grownCap w l.length 0 e)) e ((bytesRow ⟨l.toArray⟩ (grownCap w l.length 0 e)).size, (bytesRow ⟨l.toArray⟩ (grownCap w l.length 0 e)).size + 1))) (by simp [execOp, ho, hx, strv, hr, Result.andThen]) (h _ _ ((Fr.refl No w).drew.alloc _) ?_)
  refine ⟨some ⟨w.heap.size, 0, none⟩, grownCap w l.length 0 e, rfl, by simp, fun e => (by cases e), fun ad e j u hu => ?_, fun u hu => ?_, grownCap_ge _ _ _ _, grownCap_le_maxLen _ _ _ _ (by unfold maxLen; omega)⟩
  · obtain rfl := Option.some.inj e
    have hj : j < l.length := by
      have := (List.getElem?_eq_some_iff.1 hu).1
      simpa using this
    rw [Addr.add_mid, Nat.zero_add]
    refine (cellOf (b := w.heap.size) (heap1 w.drew _) j).trans ?_
    rw [bytesRow, Array.getElem?_append_left (by simpa using hj)]
    simpa [u8v] using hu
  · simp only [List.mem_map] at hu
    obtain ⟨_, _, rfl⟩ := hu
    rfl
set_option maxHeartbeats 1000000 in
theorem rread_in (w : World) (T : Nat → Prop) (b : Nat) (R : RDr) (h : RefAt w T b R) (i : Nat) (s : List UInt8) (hi : R.S[i]? = some s) (hs : s.length ≤ 1000000) :
    Calls Try.prog 31 #[.pointer (some ⟨b, 0, none⟩), .int .i64 (i : Int)] w fun e w' => ∃ a c, e = .returned (.slice a s.length c) ∧ Rd w' (.slice a s.length c) s.length 1 (s.map u8v) ∧ Fr No w w' := by
  have hlt : i < R.S.length := (List.getElem?_eq_some_iff.1 hi).1
  obtain ⟨vo, vs, vw, g0, g1, g2, g3, s1, s2, s3⟩ := h.body
  obtain ⟨ax, cs, rfl⟩ := ownsRow_slice g2
  obtain ⟨gs, _, rfl, -⟩ := owns_at g2 (by omega)
  have hc := owns_cell g2 rfl (j := i) (u := strv s) (by rw [List.getElem?_map, hi]; rfl)
  obtain ⟨c0, c1, c2, c3, c4⟩ := cells5 g0
  clear h g0 g1 g2 g3 s1 s2 s3 c0 c2 c3 c4 hi
  go_enter Try.func31, Try.ntmps31
  go_wp2_with (refine wpList_bytesOf rfl 9 5 29 (.tmp 22) rfl Try.underlying9 Try.underlying29 Try.underlying5 s rfl hs ?_; intro c2 w2 f2 r2; have N2 := hid (⟨r2, f2⟩ : _ ∧ _); clear f2 r2)
  go_ret
  exact ⟨_, _, rfl, N2.out⟩
end Go.Proofs.Ytggahnipmlihlaa
