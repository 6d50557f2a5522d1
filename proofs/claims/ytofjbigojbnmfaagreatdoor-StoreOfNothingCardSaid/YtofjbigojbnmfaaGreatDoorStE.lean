/- The plain store: grows, AddNode. -/
import Derived.Test.YtofjbigojbnmfaaGreatDoorStD
namespace Go.Proofs.YtofjbigojbnmfaaGreatDoor
open Go.RowKit Go.Lig

def growM (M : PSt) : PSt := { M with N := M.N ++ [[]] }
theorem infoPC : (Tryz.prog.info? 79).map (fun i => (i.zero, i.size, i.bytes)) = some (some (.pointer none), 1, 8) := by kernel_rfl
theorem infoEn : (Tryz.prog.info? 146).map (fun i => (i.zero, i.size, i.bytes)) = some (some (.slice none 0 0), 1, 24) := by kernel_rfl
theorem own_turn_or {ρ : Nat → Option Pt} {p : Pt} {T : Nat → Prop} {b : Nat} (h : Go.Lig.Own (turn ρ p T) b) : T b ∨ Go.Lig.Own ρ b := by
  unfold Go.Lig.Own turn at h
  by_cases h1 : T b
  · exact .inl h1
  · rw [if_neg h1] at h
    split at h
    · exact absurd rfl h
    · exact .inr h
/-- the store one node larger -/
theorem grow_at {w w1 w2 w3 w4 w5 w6 w7 : World} {ρ : Nat → Option Pt} {s c n1 n2 : Nat} {A : Ad} {M : PSt} {p1 p2 : Option Addr} (h : StAt w ρ s A M) (hs : M.N.length < 1000000)
    (k1 : CellAt w1 (fun b => b = c) c []) (f1 : Fr No w w1) (hc : w.heap.size ≤ c) (f2 : Fr No w1 w2)
    (o3 : w3.ownsRow 0 79 1 (.slice p1 (M.N.length + 1) n1) (M.N.length + 1) (ptrs A.x M.N.length ++ [.pointer (some ⟨c, 0, none⟩)])) (f3 : Fr (fun k => A.nv.ownBlock = some k) w2 w3) (b3 : ∀ k, (Value.slice p1 (M.N.length + 1) n1).ownBlock = some k → A.nv.ownBlock = some k ∨ w2.heap.size ≤ k)
    (q4 : Put s #[.pointer (some ⟨A.c, 0, none⟩), .slice p1 (M.N.length + 1) n1, .slice none 0 0, .slice none 0 0, .pointer (some ⟨A.o, 0, none⟩), .pointer (some ⟨A.i, 0, none⟩), .map (some A.m), A.ev] 74 w3 w4) (f5 : Fr No w4 w5)
    (o6 : w6.ownsRow 0 146 1 (.slice p2 (M.N.length + 1) n2) (M.N.length + 1) (nils M.N.length ++ [.slice none 0 0])) (f6 : Fr (fun k => A.ev.ownBlock = some k) w5 w6) (b6 : ∀ k, (Value.slice p2 (M.N.length + 1) n2).ownBlock = some k → A.ev.ownBlock = some k ∨ w5.heap.size ≤ k)
    (q7 : Put s #[.pointer (some ⟨A.c, 0, none⟩), .slice p1 (M.N.length + 1) n1, .slice none 0 0, .slice none 0 0, .pointer (some ⟨A.o, 0, none⟩), .pointer (some ⟨A.i, 0, none⟩), .map (some A.m), .slice p2 (M.N.length + 1) n2] 74 w6 w7) :
    ∃ ρ' A', StAt w7 ρ' s A' (growM M) ∧ Gone (Go.Lig.Own ρ) w (Go.Lig.Own ρ') w7 ∧ w.heap.size < w7.heap.size := by
  have hcl : c < w1.heap.size := k1.bound c rfl
  have z2 := f2.size
  have z3 := f3.size
  have z4 := q4.fr.size
  have z5 := f5.size
  have z6 := f6.size
  have z7 := q7.fr.size
  have z1 := f1.size
  have hsl := h.lt
  -- the parts
  let T1 : Nat → Prop := fun b => b = c
  let T2 : Nat → Prop := fun k => (Value.slice p1 (M.N.length + 1) n1).ownBlock = some k
  let T3 : Nat → Prop := fun k => (Value.slice p2 (M.N.length + 1) n2).ownBlock = some k
  have g1 : Grown w (At ρ (.node M.N.length)) T1 := fun b hb => .inr (by have : b = c := hb; omega)
  have bd1 : ∀ b, turn ρ (.node M.N.length) T1 b ≠ none → b < w2.heap.size := bound_turn h.bound (by omega) (fun b hb => by have : b = c := hb; omega)
  have a1 : ∀ q : Pt, q ≠ .node M.N.length → At (turn ρ (.node M.N.length) T1) q = At ρ q := fun q hq => at_turn_other hq g1 h.bound
  have hnl : ∀ k, A.nv.ownBlock = some k → k < w.heap.size := fun k hk => h.bound k (by rw [show ρ k = some .nrow from h.nblk k hk]; simp)
  have hel : ∀ k, A.ev.ownBlock = some k → k < w.heap.size := fun k hk => h.bound k (by rw [show ρ k = some .erow from h.eblk k hk]; simp)
  have g2 : Grown w2 (At (turn ρ (.node M.N.length) T1) .nrow) T2 := fun b hb => by
    rw [a1 .nrow (by simp)]
    exact (b3 b hb).imp (h.nblk b) id
  have bd2 : ∀ b, turn (turn ρ (.node M.N.length) T1) .nrow T2 b ≠ none → b < w5.heap.size := bound_turn bd1 (by omega) (fun b hb => by have := (o3.lt b hb).2; omega)
  have a2 : ∀ q : Pt, q ≠ .nrow → At (turn (turn ρ (.node M.N.length) T1) .nrow T2) q = At (turn ρ (.node M.N.length) T1) q := fun q hq => at_turn_other hq g2 bd1
  have g3 : Grown w5 (At (turn (turn ρ (.node M.N.length) T1) .nrow T2) .erow) T3 := fun b hb => by
    rw [a2 .erow (by simp), a1 .erow (by simp)]
    exact (b6 b hb).imp (h.eblk b) id
  have bd3 : ∀ b, turn (turn (turn ρ (.node M.N.length) T1) .nrow T2) .erow T3 b ≠ none → b < w7.heap.size := bound_turn bd2 (by omega) (fun b hb => by have := (o6.lt b hb).2; omega)
  have a3 : ∀ q : Pt, q ≠ .erow → At (turn (turn (turn ρ (.node M.N.length) T1) .nrow T2) .erow T3) q = At (turn (turn ρ (.node M.N.length) T1) .nrow T2) q := fun q hq => at_turn_other hq g3 bd2
  have aq : ∀ q : Pt, q ≠ .erow → q ≠ .nrow → q ≠ .node M.N.length → At (turn (turn (turn ρ (.node M.N.length) T1) .nrow T2) .erow T3) q = At ρ q := fun q e1 e2 e3 => by rw [a3 q e1, a2 q e2, a1 q e3]
  have anr : At (turn (turn (turn ρ (.node M.N.length) T1) .nrow T2) .erow T3) .nrow = T2 := by rw [a3 .nrow (by simp), at_turn_same]
  have aer : At (turn (turn (turn ρ (.node M.N.length) T1) .nrow T2) .erow T3) .erow = T3 := at_turn_same _ _ _
  have anode : At (turn (turn (turn ρ (.node M.N.length) T1) .nrow T2) .erow T3) (.node M.N.length) = T1 := by rw [a3 _ (by simp), a2 _ (by simp), at_turn_same]
  -- the frame
  let S : Nat → Prop := fun k => k = s ∨ A.nv.ownBlock = some k ∨ A.ev.ownBlock = some k
  have fr : Fr S w w7 := by
    have e1 : Fr S w w2 := (f1.thenNo f2).mono (fun _ _ e => e.elim)
    have e2 := e1.thenS (f3.mono (S' := S) (fun k _ e => .inr (.inl e)))
    have e3 := e2.thenS (q4.fr.mono (S' := S) (fun k _ e => .inl e))
    have e4 := e3.thenS (f5.mono (S' := S) (fun _ _ e => e.elim))
    have e5 := e4.thenS (f6.mono (S' := S) (fun k _ e => .inr (.inr e)))
    exact e5.thenS (q7.fr.mono (S' := S) (fun k _ e => .inl e))
  have sq : ∀ q : Pt, q ≠ .root → q ≠ .nrow → q ≠ .erow → ∀ b, At ρ q b → ¬ S b := fun q e1 e2 e3 b hb hs' => by
    rcases hs' with rfl | hs' | hs'
    · exact at_apart e1 b hb h.root
    · exact at_apart e2 b hb (h.nblk b hs')
    · exact at_apart e3 b hb (h.eblk b hs')
  have hsn : ∀ k, T2 k → k ≠ s := fun k hk e => by
    subst e
    rcases b3 k hk with e | e
    · exact at_apart (p := Pt.nrow) (q := Pt.root) (by simp) k h.root (h.nblk k e)
    · omega
  have hse : ∀ k, T3 k → k ≠ s := fun k hk e => by
    subst e
    rcases b6 k hk with e | e
    · exact at_apart (p := Pt.erow) (q := Pt.root) (by simp) k h.root (h.eblk k e)
    · omega
  have hne : ∀ k, T2 k → ¬ A.ev.ownBlock = some k := fun k hk e => by
    rcases b3 k hk with e1 | e1
    · exact at_apart (p := Pt.erow) (q := Pt.nrow) (by simp) k (h.nblk k e1) (h.eblk k e)
    · have := hel k e; omega
  have o7 : w7.ownsRow 0 79 1 (.slice p1 (M.N.length + 1) n1) (M.N.length + 1) (ptrs A.x M.N.length ++ [.pointer (some ⟨c, 0, none⟩)]) :=
    q7.fr.owns (f6.owns (f5.owns (q4.fr.owns o3 (fun k hk => hsn k hk)) (fun _ _ e => e)) hne) (fun k hk => hsn k hk)
  have hlen : (growM M).N.length = M.N.length + 1 := by simp [growM]
  have hx : ptrs (fun i => if i = M.N.length then c else A.x i) (M.N.length + 1) = ptrs A.x M.N.length ++ [.pointer (some ⟨c, 0, none⟩)] := by
    rw [ptrs_succ]
    simp only [if_true]
    congr 1
    unfold ptrs
    refine List.map_congr_left (fun i hi => ?_)
    have hi' : ¬ i = M.N.length := by have := List.mem_range.1 hi; omega
    simp only [if_neg hi']
  have kc : CellAt w7 T1 c [] := k1.frame (f2.thenNo (Fr.refl No w2) |>.mono (S' := S) (fun _ _ e => e.elim) |>.thenS (f3.mono (S' := S) (fun k _ e => .inr (.inl e))) |>.thenS (q4.fr.mono (S' := S) (fun k _ e => .inl e)) |>.thenS (f5.mono (S' := S) (fun _ _ e => e.elim)) |>.thenS (f6.mono (S' := S) (fun k _ e => .inr (.inr e))) |>.thenS (q7.fr.mono (S' := S) (fun k _ e => .inl e))) (fun k hk hS => by
    have hkc : k = c := hk
    rcases hS with e | e | e
    · omega
    · have := hnl k e; omega
    · have := hel k e; omega)
  refine ⟨turn (turn (turn ρ (.node M.N.length) T1) .nrow T2) .erow T3, { A with nv := .slice p1 (M.N.length + 1) n1, ev := .slice p2 (M.N.length + 1) n2, x := fun i => if i = M.N.length then c else A.x i }, ?_, ⟨fr.mono (fun k _ e => ?_), fun b hb => ?_⟩, by omega⟩
  · refine ⟨by rw [aq .root (by simp) (by simp) (by simp)]; exact h.root, bd3, q7.at_, by rw [aq .clock (by simp) (by simp) (by simp)]; exact h.clock.frame fr (sq .clock (by simp) (by simp) (by simp)), ?_, fun k hk => by rw [anr]; exact hk, ?_, fun k hk => by rw [aer]; exact hk, fun i L hL => ?_, h.out.frame fr (fun b hb => sq .out (by simp) (by simp) (by simp) b (h.oblk b hb)), fun b hb => by rw [aq .out (by simp) (by simp) (by simp)]; exact h.oblk b hb, h.inn.frame fr (fun b hb => sq .inn (by simp) (by simp) (by simp) b (h.iblk b hb)), fun b hb => by rw [aq .inn (by simp) (by simp) (by simp)]; exact h.iblk b hb, fr.keep h.index (sq .index (by simp) (by simp) (by simp) _ h.mblk), by rw [aq .index (by simp) (by simp) (by simp)]; exact h.mblk, fun L hL y hy => ?_, by rw [hlen]; omega⟩
    · rw [hlen]
      simp only []
      rw [hx]
      exact o7
    · rw [hlen]
      have e : nils (M.N.length + 1) = nils M.N.length ++ [.slice none 0 0] := by simp [nils, List.replicate_succ']
      rw [e]
      exact q7.fr.owns o6 (fun k hk => hse k hk)
    · by_cases e : i = M.N.length
      · subst e
        rw [anode]
        have : (growM M).N[M.N.length]? = some [] := by simp [growM]
        rw [this] at hL
        obtain rfl := Option.some.inj hL
        simp only [if_true]
        exact kc
      · have hi : i < M.N.length := by have := (List.getElem?_eq_some_iff.1 hL).1; omega
        have e2 : (growM M).N[i]? = M.N[i]? := by simp [growM, List.getElem?_append_left hi]
        rw [e2] at hL
        have hne' : Pt.node i ≠ .node M.N.length := fun e' => e (by injection e')
        rw [aq _ (by simp) (by simp) hne']
        simp only [if_neg e]
        exact (h.cell i L hL).frame fr (sq _ (by simp) (by simp) (by simp))
    · rcases List.mem_append.1 (show L ∈ M.N ++ [[]] from hL) with h1 | h1
      · exact h.plain L h1 y hy
      · rw [List.mem_singleton.1 h1] at hy; cases hy
  · rcases e with rfl | e | e
    · exact at_own _ h.root
    · exact at_own _ (h.nblk k e)
    · exact at_own _ (h.eblk k e)
  · rcases own_turn_or hb with e3 | hb3
    · rcases b6 b e3 with e | e
      · exact .inl (at_own _ (h.eblk b e))
      · exact .inr (by omega)
    · rcases own_turn_or hb3 with e2 | hb2
      · rcases b3 b e2 with e | e
        · exact .inl (at_own _ (h.nblk b e))
        · exact .inr (by omega)
      · rcases own_turn_or hb2 with e1 | hb1
        · exact .inr (by have : b = c := e1; omega)
        · exact .inl hb1
set_option maxRecDepth 100000 in
set_option maxHeartbeats 4000000 in
theorem grows_any (w : World) (ρ : Nat → Option Pt) (s : Nat) (A : Ad) (M : PSt) (h : StAt w ρ s A M) (hs : M.N.length < 1000000) :
    Calls Tryz.prog 35 #[.pointer (some ⟨s, 0, none⟩), .int .i64 ((M.N.length : Int) + 1), .int .i64 0] w fun e w' => e = .returned (.tuple #[]) ∧ ∃ ρ' A', StAt w' ρ' s A' (growM M) ∧ Gone (Go.Lig.Own ρ) w (Go.Lig.Own ρ') w' := by
  have HH := hid h
  obtain ⟨a1, c1, hnv⟩ := ownsRow_slice h.nrow
  obtain ⟨a2, c2, hev⟩ := ownsRow_slice h.erow
  have HV := hid (⟨hnv, hev⟩ : _ ∧ _)
  have HN := hid hs
  clear h hnv hev hs
  go_enter Tryz.func35, Tryz.ntmps35
  go_wp2_with fail
  go_loopw [] (fun wr => (wr = w) ∨ ((∃ ρ' A', StAt wr ρ' s A' (growM M) ∧ Gone (Go.Lig.Own ρ) w (Go.Lig.Own ρ') wr) ∧ w.heap.size < wr.heap.size)) (fun wr => w.heap.size + 1 - wr.heap.size)
  case atStart => exact .inl rfl
  case round =>
    rcases hrel with rfl | ⟨⟨ρ', A', h', g'⟩, hz⟩
    · obtain ⟨hnv, hev⟩ := HV.out
      have hheap := HH.out.heap
      rw [hnv, hev] at hheap
      have hcs := cellOf hheap
      have x1 := hcs 1
      simp at x1
      have hO1 := HH.out.nrow
      have hO2 := HH.out.erow
      rw [hnv] at hO1
      rw [hev] at hO2
      have hb1 : ∀ k, (Value.slice a1 M.N.length c1).ownBlock = some k → k ≠ s := fun k hk e => by
        subst e
        exact at_apart (p := Pt.nrow) (q := Pt.root) (by simp) k HH.out.root (HH.out.nblk k (by rw [hnv]; exact hk))
      have hb2 : ∀ k, (Value.slice a2 M.N.length c2).ownBlock = some k → k ≠ s := fun k hk e => by
        subst e
        exact at_apart (p := Pt.erow) (q := Pt.root) (by simp) k HH.out.root (HH.out.eblk k (by rw [hev]; exact hk))
      have hb3 : ∀ k, (Value.slice a2 M.N.length c2).ownBlock = some k → ¬ (Value.slice a1 M.N.length c1).ownBlock = some k := fun k hk e => at_apart (p := Pt.nrow) (q := Pt.erow) (by simp) k (HH.out.eblk k (by rw [hev]; exact hk)) (HH.out.nblk k (by rw [hnv]; exact e))
      have HO := hid (⟨hheap, hO1, hO2, hb1, hb2, hb3⟩ : _ ∧ _ ∧ _ ∧ _ ∧ _ ∧ _)
      have hsl := HH.out.lt
      generalize hNe : M.N.length = n at *
      have HNe := hid hNe
      clear hNe hheap hcs hO1 hO2 hb1 hb2 hb3 hnv hev
      go_wp2_with fail
      refine wp_region_sched (by kernel_rfl) 10 [5, 6, 7, 10] [0, 1, 2, 3, 4, 5, 6, 7, 8, 9, 10] (AgC [s] wr.drew) (by kernel_rfl) (AgC.refl _ _) ?_
      simp only [List.map_cons, List.map_nil, List.contains_cons, List.contains_nil, nth_zero, nth_succ, Nat.reduceBEq, Bool.false_or, Bool.or_false, Bool.or_true, Bool.true_or]
      repeat (refine sched_quiet (fun K hK => ?_); go_simp; refine hK _ ?_; clear hK K)
      refine sched_call (by first | rfl | go_simp) 91 #[] (by first | kernel_rfl | go_simp) (celnew_any _) ?_
      rintro e w1 ⟨c, rfl, k1, f1, hc⟩
      have hsc : ∀ (U : Nat → Prop), ¬ U s → ∀ j ∈ [s], j < wr.drew.heap.size ∧ ¬ U j := fun U hU j hj => by rw [List.mem_singleton.1 hj]; exact ⟨hsl, hU⟩
      have a1' := (AgC.refl [s] wr.drew).fr f1 (hsc No (fun e => e))
      refine ⟨_, rfl, a1', ?_⟩
      refine sched_loud (wpList_buildSlice1 rfl 69 79 (.tmp 18) rfl _ 1 8 Tryz.underlying69 infoPC (by decide) (by decide) (.pointer (some ⟨c, 0, none⟩)) rfl rfl ?_)
      intro w2 p2
      have p2' : New [Value.pointer (some ⟨c, 0, none⟩)].toArray 79 w1 w2 := p2
      have a2' := a1'.fr p2.fr (hsc No (fun e => e))
      refine sched_on a2' ?_
      refine sched_loud (wpList_app rfl (.tmp 17) (.tmp 19) 69 rfl 79 _ 1 8 Tryz.underlying69 infoPC rfl (by decide) (.slice a1 n c1) n (ptrs A.x n) rfl (fd_owns (fd_owns (w := wr.drew) HO.out.2.1 f1) p2.fr) (.slice (some ⟨w1.heap.size, 0, none⟩) 1 1) 1 [.pointer (some ⟨c, 0, none⟩)] rfl (Rd.block p2'.at_ 1 1 1 rfl (by simp [Value.oneCell']) (Nat.le_refl _) (by simp [maxLen])) (by have := HN.out; unfold maxLen; omega) (by have := HN.out; omega) ?_)
      intro v3 w3 o3 f3 b3 _
      have hcv : ¬ (Value.slice a1 n c1).ownBlock = some s := fun e => HO.out.2.2.2.1 s e rfl
      refine sched_on (a2'.fr f3 (hsc _ hcv)) ?_
      have hg3 := f3.keep (p2.keep (f1.keep (w := wr.drew) HO.out.1 (fun e => e))) hcv
      obtain ⟨p3, n3, rfl⟩ := ownsRow_slice o3
      have H3 := hid (⟨k1, (Fr.refl No wr).drew.thenNo f1, hc, p2.fr, o3, f3, b3, hg3⟩ : _ ∧ _ ∧ _ ∧ _ ∧ _ ∧ _ ∧ _ ∧ _)
      clear k1 f1 hc p2 p2' a2' a1' o3 f3 b3 hg3 hcv hsc
      repeat (refine sched_quiet (fun K hK => ?_); go_simp; refine hK _ ?_; clear hK K)
      refine sched_loud (wpList_store1 rfl 69 (.tmp 22) (.tmp 20) rfl s 1 rfl _ _ (.slice p3 (n + 1) n3) rfl (by kernel_rfl) H3.out.2.2.2.2.2.2.2 (by simp) rfl ?_)
      intro w4 q4
      have Q4 := hid (show Put s #[.pointer (some ⟨A.c, 0, none⟩), .slice p3 (n + 1) n3, .slice none 0 0, .slice none 0 0, .pointer (some ⟨A.o, 0, none⟩), .pointer (some ⟨A.i, 0, none⟩), .map (some A.m), .slice a2 n c2] 74 w3 w4 from q4)
      clear q4
      refine sched_last ?_
      refine sched_nil ?_
      have O2 : Hid (w4.ownsRow 0 146 1 (.slice a2 n c2) n (nils n)) := hid (Q4.out.fr.owns (H3.out.2.2.2.2.2.1.owns (fd_owns (fd_owns HO.out.2.2.1 H3.out.2.1) H3.out.2.2.2.1) HO.out.2.2.2.2.2) HO.out.2.2.2.2.1)
      have x7 := cellOf Q4.out.at_ 7
      simp at x7
      go_wp2_with (first | (refine wpList_buildSlice1 rfl 72 146 (.const (.slice none 0 0)) rfl _ 1 24 Tryz.underlying72 infoEn (by decide) (by decide) (.slice none 0 0) rfl rfl ?_; intro w5 p5; have P5 := hid (⟨p5.fr, show w5.heap[w4.heap.size]? = some (.cells [Value.slice none 0 0].toArray 146 (0, 0)) from p5.at_⟩ : _ ∧ _); clear p5) | (refine wpList_app rfl (.tmp 27) (.tmp 28) 72 rfl 146 _ 1 24 Tryz.underlying72 infoEn rfl (by decide) (.slice a2 n c2) n (nils n) rfl (fd_owns O2.out P5.out.1) (.slice (some ⟨w4.heap.size, 0, none⟩) 1 1) 1 [.slice none 0 0] rfl (Rd.block P5.out.2 1 1 1 rfl (by simp [Value.oneCell']) (Nat.le_refl _) (by simp [maxLen])) (by have := HN.out; unfold maxLen; omega) (by have := HN.out; omega) ?_; intro v6 w6 o6 f6 b6 _; have hcv : ¬ (Value.slice a2 n c2).ownBlock = some s := (fun e => HO.out.2.2.2.2.1 s e rfl); have hg6 := f6.keep (P5.out.1.keep Q4.out.at_ (fun e => e)) hcv; obtain ⟨p6, n6, rfl⟩ := ownsRow_slice o6; have H6 := hid (⟨o6, f6, b6, hg6⟩ : _ ∧ _ ∧ _ ∧ _); clear o6 f6 b6 hg6 hcv) | (refine wpList_store1 rfl 72 (.tmp 31) (.tmp 29) rfl s 7 rfl _ _ (.slice p6 (n + 1) n6) rfl (by kernel_rfl) H6.out.2.2.2 (by simp) rfl ?_; intro w7 q7; have Q7 := hid (show Put s #[.pointer (some ⟨A.c, 0, none⟩), .slice p3 (n + 1) n3, .slice none 0 0, .slice none 0 0, .pointer (some ⟨A.o, 0, none⟩), .pointer (some ⟨A.i, 0, none⟩), .map (some A.m), .slice p6 (n + 1) n6] 74 w6 w7 from q7); clear q7))
      have HD : Hid ((∃ ρ' A', StAt w7 ρ' s A' (growM M) ∧ Gone (Go.Lig.Own ρ) wr (Go.Lig.Own ρ') w7) ∧ wr.heap.size < w7.heap.size) := hid (by
        have hn := HNe.out
        subst hn
        obtain ⟨k1, f1, hc, p2f, o3, f3, b3, -⟩ := H3.out
        obtain ⟨o6, f6, b6, -⟩ := H6.out
        obtain ⟨hnv, hev⟩ := HV.out
        rw [← hnv] at f3 b3
        rw [← hev] at f6 b6
        have q4 := Q4.out
        rw [← hev] at q4
        obtain ⟨ρ', A', r1, r2, r3⟩ := grow_at HH.out HN.out k1 f1 hc p2f o3 f3 b3 q4 P5.out.1 o6 f6 b6 Q7.out
        exact ⟨⟨ρ', A', r1, r2⟩, r3⟩)
      go_roundw
      case rel =>
        (repeat apply Exists.intro)
        exact ⟨.inr HD.out, rfl⟩
      case measure =>
        have := HD.out.2
        omega
    · obtain ⟨-, y1, -⟩ := h'.cells
      obtain ⟨b1, d1, hnv'⟩ := ownsRow_slice h'.nrow
      have hl : (growM M).N.length = M.N.length + 1 := by simp [growM]
      rw [hnv', hl] at y1
      obtain ⟨-, -, y2, -⟩ := h'.cells
      have HD := hid (⟨⟨ρ', A', h', g'⟩, hz⟩ : (∃ ρ' A', StAt wr ρ' s A' (growM M) ∧ Gone (Go.Lig.Own ρ) w (Go.Lig.Own ρ') wr) ∧ _)
      generalize M.N.length = n at *
      clear h' g' hz hnv' hl
      obtain ⟨wo, hwo⟩ : ∃ wo : World, wo = wr := ⟨_, rfl⟩
      go_wp2_with fail
      go_loopw [] (fun wr => wr = wo) (fun _ => 0)
      case atStart => exact hwo.symm
      case round =>
        subst hrel
        subst hwo
        go_wp2_with fail
        go_end0
        exact ⟨rfl, HD.out.1⟩
end Go.Proofs.YtofjbigojbnmfaaGreatDoor
