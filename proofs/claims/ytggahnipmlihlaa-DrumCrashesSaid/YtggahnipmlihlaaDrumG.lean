/- A drum that the law itself made: contracts as the laws use them; 'known'. -/
import Derived.Test.YtggahnipmlihlaaDrumF
import Derived.Test.YtggahnipmlihlaaLawF
namespace Go.Proofs.Ytggahnipmlihlaa
open Go.RowKit Go.Lig

/-- A drum of the call's own: made since W. -/
structure DW (W w : World) (S : Nat → Prop) (b : Nat) (D : Dr) : Prop where
  at_ : DrumAt w S b D
  fr : Fr No W w
  new : ∀ k, S k → W.heap.size ≤ k
theorem DW.next {W w w' : World} {S T : Nat → Prop} {b : Nat} {D : Dr} (h : DW W w S b D) (hf : Fr T w w') (hd : ∀ k, S k → ¬ T k) (hT : ∀ k, T k → W.heap.size ≤ k) : DW W w' S b D :=
  ⟨h.at_.frame hf hd, h.fr.trans hf (fun k hk e => by have := hT k e; omega), h.new⟩
theorem DW.nextNo {W w w' : World} {S : Nat → Prop} {b : Nat} {D : Dr} (h : DW W w S b D) (hf : Fr No w w') : DW W w' S b D := h.next hf (fun _ _ e => e) (fun _ e => e.elim)
theorem DW.grow {W w w' : World} {S : Nat → Prop} {b : Nat} {D D' : Dr} (h : DW W w S b D) (h' : DrumAt w' (Gr S w w') b D') (hf : Fr S w w') : DW W w' (Gr S w w') b D' :=
  ⟨h', h.fr.trans hf (fun k hk e => by have := h.new k e; omega), fun k hk => by rcases hk with hk | hk; exact h.new k hk; have := h.fr.size; omega⟩
theorem DW.same {W w w' : World} {S : Nat → Prop} {b : Nat} {D D' : Dr} (h : DW W w S b D) (h' : DrumAt w' S b D') (hf : Fr S w w') : DW W w' S b D' :=
  ⟨h', h.fr.trans hf (fun k hk e => by have := h.new k e; omega), h.new⟩

/-- no fuse, not dead -/
structure Live (D : Dr) : Prop where
  dead : D.dead = false
  fuse : D.fuse = -1
theorem Live.alive {D : Dr} (h : Live D) : D.alive = true := by simp [Dr.alive, h.dead, h.fuse]
theorem Live.tick {D : Dr} (h : Live D) : D.tick = D := by
  obtain ⟨h1, h2⟩ := h
  cases D
  simp only at h1 h2
  subst h1 h2
  rfl
theorem live_new (n : Nat) : Live (Dr.new n) := ⟨rfl, rfl⟩
theorem Live.put {D : Dr} (h : Live D) (i : Nat) (l : List UInt8) : Live (D.put i l) := ⟨h.dead, h.fuse⟩
theorem Live.sync {D : Dr} (h : Live D) : Live D.sync := ⟨h.dead, h.fuse⟩
theorem live_crash (D : Dr) (k : List Bool) : Live (D.crash k) := ⟨rfl, rfl⟩

theorem new_dw {W w : World} (hW : Fr No W w) (n : Int) : Calls Try.prog 11 #[.int .i64 n] w fun e w' => ∃ b S, e = .returned (.pointer (some ⟨b, 0, none⟩)) ∧ DW W w' S b (Dr.new (clampN n)) ∧ Fr No w w' ∧ ∀ k, S k → w.heap.size ≤ k :=
  (new_any w n).mono fun e w' ⟨b, he, h1, h2⟩ => ⟨b, _, he, ⟨h1, hW.thenNo h2, fun k hk => by rcases hk with hk | hk; exact hk.elim; have := hW.size; omega⟩, h2, fun k hk => by rcases hk with hk | hk; exact hk.elim; exact hk.1⟩
theorem crash_dw {W w : World} {S : Nat → Prop} {b : Nat} {D : Dr} (h : DW W w S b D) (kv : Value) (keep : List Bool) (hk : Rd w kv keep.length 1 (keep.map Value.bool)) (hlen : D.wait.length ≤ 1000000000) :
    Calls Try.prog 17 #[.pointer (some ⟨b, 0, none⟩), kv] w fun e w' => ∃ b' S', e = .returned (.pointer (some ⟨b', 0, none⟩)) ∧ DW W w' S' b' (D.crash keep) ∧ DW W w' S b D ∧ Fr No w w' ∧ ∀ k, S' k → w.heap.size ≤ k :=
  (crash_any w S b D h.at_ kv keep hk hlen).mono fun e w' ⟨b', he, h1, h2⟩ => ⟨b', _, he, ⟨h1, h.fr.thenNo h2, fun k hk => by rcases hk with hk | hk; exact hk.elim; have := h.fr.size; omega⟩, h.nextNo h2, h2, fun k hk => by rcases hk with hk | hk; exact hk.elim; exact hk.1⟩
/-- a write of a sector that is there, to a live drum -/
theorem write_in {W w : World} {S : Nat → Prop} {b : Nat} {D : Dr} (h : DW W w S b D) (hl : Live D) (i : Nat) (hi : i < D.n) (pv : Value) (l : List UInt8) (h64 : l.length ≤ 64) (hrd : Rd w pv l.length 1 (l.map u8v)) (hS : ∀ k, slBlock pv = some k → ¬ S k) (hw : D.wait.length ≤ 1000000000) :
    Calls Try.prog 13 #[.pointer (some ⟨b, 0, none⟩), .int .i64 (i : Int), pv] w fun e w' => ∃ S', e = .returned (.int .i64 0) ∧ DW W w' S' b (D.put i l) ∧ Fr S w w' ∧ ∀ k, S' k → S k ∨ w.heap.size ≤ k := by
  refine (write_any w S b D h.at_ i pv l hrd (fun k hk _ => hS k hk) hw).mono fun e w' ⟨he, h1, h2⟩ => ?_
  have hd : D.doWrite i l = (0, D.put i l) := by
    simp only [Dr.doWrite, hl.alive, hl.tick, if_true]
    rw [if_neg (by omega)]
    rfl
  rw [hd] at he h1
  exact ⟨_, he, h.grow h1 h2, h2, fun k hk => by rcases hk with hk | hk; exact .inl hk; exact .inr hk.1⟩
theorem sync_in {W w : World} {S : Nat → Prop} {b : Nat} {D : Dr} (h : DW W w S b D) (hl : Live D) :
    Calls Try.prog 15 #[.pointer (some ⟨b, 0, none⟩)] w fun e w' => e = .returned (.int .i64 0) ∧ DW W w' S b D.sync ∧ Fr S w w' := by
  refine (sync_live w S b D h.at_ hl.alive).mono fun e w' ⟨he, h1, h2⟩ => ?_
  rw [hl.tick] at h1
  exact ⟨he, h.same h1 h2, h2⟩

/-! ### known -/
theorem run_convert_same (g n c : Nat) (cs : Array Value) (w : World) (hg : w.heap[g]? = some (.cells cs 5 (0, 0))) :
    (convert 29 29 (.slice (some ⟨g, 0, none⟩) n c)).run Try.prog w = .ok (.slice (some ⟨g, 0, none⟩) n c) (w.freeze ⟨g, cs.size, none⟩ 1) := by
  simp [convert, run_underlying Try.underlying29, run_underlying Try.underlying5, markStringish, shape, freeze, World.shape?, hg, Sem.run]
theorem freeze_fr {S : Nat → Prop} (w : World) (a : Addr) (n : Nat) (h : S a.block) : Fr S w (w.freeze a n) := by
  unfold World.freeze
  split
  · exact Fr.refl _ _
  · exact ⟨rfl, rfl, rfl, by simp, fun k _ hn => by simp only [Array.getElem?_modify]; rw [if_neg (fun e => hn (by rw [← e]; exact h))]⟩
theorem freeze_cell (w : World) (a b : Addr) (n : Nat) : (w.freeze a n).cell? b = w.cell? b := by
  unfold World.freeze
  split
  · rfl
  · simp only [World.cell?, Array.getElem?_modify]
    by_cases h : a.block = b.block
    · rw [if_pos h]
      cases w.heap[b.block]? with
      | none => rfl
      | some o => cases o <;> rfl
    · rw [if_neg h]
theorem rd_freeze {w : World} {v : Value} {n size : Nat} {xs : List Value} (h : Rd w v n size xs) (a : Addr) (m : Nat) : Rd (w.freeze a m) v n size xs := by
  obtain ⟨ao, c, rfl, hl, h0, h1, r⟩ := h
  exact ⟨ao, c, rfl, hl, h0, fun ad e j u hu => by rw [freeze_cell]; exact h1 ad e j u hu, r⟩
theorem wpList_convert_same {ops : Array Oper} {rest : List Oper} {o : Oper} {a : Act} {w : World} {Q : Exit → Act → World → Prop} (hgd : o.guard = none) (x : Operand) (ho : o.op = .convert 29 29 x)
    (g n c : Nat) (cs : Array Value) (hx : a.eval x = .slice (some ⟨g, 0, none⟩) n c) (hg : w.heap[g]? = some (.cells cs 5 (0, 0)))
    (h : ∀ w', (∀ v m size xs, Rd w v m size xs → Rd w' v m size xs) → Fr (fun k => k = g) w w' → w'.heap.size = w.heap.size → wpList Try.prog ops Q rest (a.put o.dst (.slice (some ⟨g, 0, none⟩) n c)) w') : wpList Try.prog ops Q (o :: rest) a w := by
  refine wpList_run hgd ?_ (h (w.freeze ⟨g, cs.size, none⟩ 1) (fun v m size xs hr => rd_freeze hr _ _) (freeze_fr w _ _ rfl) (by unfold World.freeze; simp))
  simp [execOp, ho, hx, run_convert_same g n c cs w hg, Result.andThen]

theorem byte_one (x : UInt8) : ∀ u ∈ [u8v x], u.oneCell' = true := by simp [u8v, Value.oneCell']
theorem bool_one (x : Bool) : ∀ u ∈ [Value.bool x], u.oneCell' = true := by simp [Value.oneCell']
theorem info4 : (Try.prog.info? 4).map (fun i => (i.zero, i.size, i.bytes)) = some (some (.bool false), 1, 1) := by kernel_rfl

theorem fd_owns {w w' : World} {base : Nat} {e : TypeId} {size : Nat} {v : Value} {n : Nat} {xs : List Value} (h : w.ownsRow base e size v n xs) (hf : Fr No w w') : w'.ownsRow base e size v n xs := hf.owns h (fun _ _ e => e)
/-- an owned slice with an element: where it lies. -/
theorem owns_at {w : World} {base : Nat} {e : TypeId} {size : Nat} {a : Option Addr} {c n : Nat} {xs : List Value} (h : w.ownsRow base e size (.slice a n c) n xs) (hn : 0 < n) : ∃ g cur, a = some ⟨g, 0, none⟩ ∧ base ≤ g ∧ w.heap[g]? = some (.cells cur e (0, 0)) ∧ n ≤ c ∧ cur.size = c * size ∧ cur.toList.take (n * size) = xs := by
  rcases h.2 with ⟨_, e⟩ | ⟨g, cap, cur, e, hb, hg, hnc, hcm, hcs, ht⟩
  · omega
  · simp only [Value.slice.injEq] at e
    obtain ⟨rfl, -, rfl⟩ := e
    exact ⟨g, cur, rfl, hb, hg, hnc, hcs, ht⟩
theorem owns_cell {w : World} {base : Nat} {e : TypeId} {size : Nat} {a : Option Addr} {c n : Nat} {xs : List Value} (h : w.ownsRow base e size (.slice a n c) n xs) {g : Nat} (ha : a = some ⟨g, 0, none⟩) {j : Nat} {u : Value} (hj : xs[j]? = some u) : w.cell? ⟨g, j, none⟩ = some u := by
  subst ha
  have := h.cells (g := g) rfl j u hj
  rwa [Addr.add_mid, Nat.zero_add] at this

set_option maxRecDepth 100000 in
set_option maxHeartbeats 1000000 in
theorem known_any (W : World) : Calls Try.prog 22 #[] W fun e w' => e = .returned (.bool true) ∧ Fr No W w' := by
  go_enter Try.func22, Try.ntmps22
  go_wp2_with (first | (go_at_call 11; refine (new_dw (Fr.refl No _) _).mono ?_; rintro e w1 ⟨b, S, rfl, h1, f1, n1⟩; have H1 := hid (⟨h1, f1, n1⟩ : _ ∧ _ ∧ _); clear h1 f1 n1) | (refine wpList_buildSlice1 rfl 29 5 (.const (.int .u8 97)) rfl _ 1 1 Try.underlying29 info5 (by decide) (by decide) (.int .u8 97) rfl rfl ?_; intro w2 p2; have P2 := hid p2; clear p2) | (refine wpList_convert_same rfl (.tmp 13) rfl w1.heap.size 1 1 _ rfl P2.out.at_ ?_; intro w3 r3 f3 z3; have R3 := hid (⟨r3, f3, z3⟩ : _ ∧ _ ∧ _); clear r3 f3 z3))
  have hS : ∀ k, S k → k < w1.heap.size := H1.out.1.at_.bound
  have hf13 : Fr No w1 w3 := P2.out.fr.trans R3.out.2.1 (fun k hk e => by omega)
  have hd3 : DW W w3 S b (Dr.new 2) := H1.out.1.nextNo hf13
  have hr3 : Rd w3 (.slice (some ⟨w1.heap.size, 0, none⟩) 1 1) 1 1 ([97].map u8v) := R3.out.1 _ _ _ _ (Rd.block (cs := [97].map u8v) P2.out.at_ 1 1 1 rfl (byte_one 97) (Nat.le_refl _) (by simp [maxLen]))
  refine (write_in hd3 (live_new 2) 0 (by decide) _ [97] (by decide) hr3 (fun k hk e => by simp [slBlock] at hk; have := hS k e; omega) (by decide)).mono ?_
  rintro e w4 ⟨S4, rfl, h4, f4, -⟩
  have H4 := hid (⟨h4, f4⟩ : _ ∧ _)
  clear h4 f4 hr3 hd3 hf13 hS
  go_wp2_with fail
  refine (sync_in H4.out.1 ((live_new 2).put 0 [97])).mono ?_
  rintro e w5 ⟨rfl, h5, f5⟩
  have H5 := hid h5
  clear h5 f5
  go_wp2_with (first | (refine wpList_buildSlice1 rfl 29 5 (.const (.int .u8 98)) rfl _ 1 1 Try.underlying29 info5 (by decide) (by decide) (.int .u8 98) rfl rfl ?_; intro w6 p6; have P6 := hid p6; clear p6) | (refine wpList_convert_same rfl (.tmp 19) rfl w5.heap.size 1 1 _ rfl P6.out.at_ ?_; intro w7 r7 f7 z7; have R7 := hid (⟨r7, f7, z7⟩ : _ ∧ _ ∧ _); clear r7 f7 z7))
  have hf57 : Fr No w5 w7 := P6.out.fr.trans R7.out.2.1 (fun k hk e => by omega)
  have hd7 := H5.out.nextNo hf57
  have hr7 : Rd w7 (.slice (some ⟨w5.heap.size, 0, none⟩) 1 1) 1 1 ([98].map u8v) := R7.out.1 _ _ _ _ (Rd.block (cs := [98].map u8v) P6.out.at_ 1 1 1 rfl (byte_one 98) (Nat.le_refl _) (by simp [maxLen]))
  refine (write_in hd7 (((live_new 2).put 0 [97]).sync) 0 (by decide) _ [98] (by decide) hr7 (fun k hk e => by simp [slBlock] at hk; have := H5.out.at_.bound k e; omega) (by decide)).mono ?_
  rintro e w8 ⟨S8, rfl, h8, f8, -⟩
  have H8 := hid h8
  clear h8 f8 hr7 hd7 hf57
  go_wp2_with fail
  refine (crash_dw H8.out (.slice none 0 0) [] (Rd.nil _ _) (by decide)).mono ?_
  rintro e w9 ⟨bx, Sx, rfl, hx, hd9, f9, nx⟩
  have H9 := hid (⟨hx, hd9, f9⟩ : _ ∧ _ ∧ _)
  clear hx hd9 f9 nx
  go_wp2_with (refine wpList_buildSlice1 rfl 23 4 (.const (.bool true)) rfl _ 1 1 Try.underlying23 info4 (by decide) (by decide) (.bool true) rfl rfl ?_; intro wa pa; have PA := hid pa; clear pa)
  have hda := H9.out.2.1.nextNo PA.out.fr
  refine (crash_dw hda _ [true] (Rd.block (cs := [true].map Value.bool) PA.out.at_ 1 1 1 rfl (bool_one true) (Nat.le_refl _) (by simp [maxLen])) (by decide)).mono ?_
  rintro e wb ⟨bw, Sy, rfl, hy, hdb, fb, ny⟩
  have HB := hid (⟨(H9.out.1.nextNo PA.out.fr).nextNo fb, hy, hdb, fb⟩ : _ ∧ _ ∧ _ ∧ _)
  clear hy hdb fb ny hda
  go_wp2_with fail
  refine (read_in wb Sx bx _ HB.out.1.at_ 0 (by decide)).mono ?_
  rintro e wc ⟨vp, rfl, op, np, bp, fc⟩
  obtain ⟨ap, cp, rfl⟩ := ownsRow_slice op
  have HC := hid (⟨op, fc, bp⟩ : _ ∧ _ ∧ _)
  clear op np bp fc
  go_wp2_with fail
  refine (read_in wc Sy bw _ (HB.out.2.1.nextNo HC.out.2.1).at_ 0 (by decide)).mono ?_
  rintro e wd ⟨vq, rfl, oq, nq, bq, fd⟩
  obtain ⟨aq, cq, rfl⟩ := ownsRow_slice oq
  have HD := hid (⟨oq, fd, bq⟩ : _ ∧ _ ∧ _)
  clear oq nq bq fd
  have op' := fd_owns HC.out.1 HD.out.2.1
  obtain ⟨gp, _, hap, -⟩ := owns_at op' (by decide)
  obtain ⟨gq, _, haq, -⟩ := owns_at HD.out.1 (by decide)
  have cp0 : wd.cell? ⟨gp, 0, none⟩ = some (.int .u8 97) := owns_cell op' hap (j := 0) (by kernel_rfl)
  have cq0 : wd.cell? ⟨gq, 0, none⟩ = some (.int .u8 98) := owns_cell HD.out.1 haq (j := 0) (by kernel_rfl)
  subst hap haq
  have HW := hid ((HB.out.2.2.1.nextNo HC.out.2.1).nextNo HD.out.2.1)
  have HF := hid (HW.out.fr)
  clear op'
  go_wp2_with (go_at_call 18; refine (waiting_any _ _ _ _ HW.out.at_).mono ?_; rintro e w' ⟨rfl, rfl⟩)
  go_ret
  exact ⟨rfl, HF.out⟩

/-! ### Arguments -/
section
variable {H : Type} {enc : TypeId × Value → H} {W : World}
theorem u8_of {m : Int} (h : (Lit.int .u8 m).wf = true) : ∃ x : UInt8, Value.int .u8 m = u8v x := by
  have hb := bounds_u8 h
  refine ⟨UInt8.ofNat m.toNat, ?_⟩
  unfold u8v
  congr 1
  rw [UInt8.toNat_ofNat']
  omega
theorem rd_bytes {v : Value} {d : DataW H} {p : List MemPlace} (hv : v.cells.toList = [v]) (h : DataW.Trod enc Try.prog W 0 (fun _ => true) true 29 v d p) : ∃ l : List UInt8, Rd W v l.length 1 (l.map u8v) :=
  rd_slice1 u8v (fun _ => rfl) Try.underlying29 (by kernel_rfl) (fun n v y h => by
    obtain ⟨m, e, -, hw⟩ := DataW.trod_int Try.underlying5 h
    obtain ⟨x, hx⟩ := u8_of hw
    exact ⟨x, by rw [← hx]; simpa using e⟩) hv h
theorem rd_bools {v : Value} {d : DataW H} {p : List MemPlace} (hv : v.cells.toList = [v]) (h : DataW.Trod enc Try.prog W 0 (fun _ => true) true 23 v d p) : ∃ l : List Bool, Rd W v l.length 1 (l.map Value.bool) :=
  rd_slice1 Value.bool (fun _ => rfl) Try.underlying23 (by kernel_rfl) (fun n v y h => by
    obtain ⟨m, e, -⟩ := DataW.trod_bool Try.underlying4 h
    exact ⟨m, by simpa using e⟩) hv h
end
end Go.Proofs.Ytggahnipmlihlaa
