/- A part of the proof: contracts of functions of the program, for the row's text. -/
import Derived.Test.YtfaapjcgmjjheaaGreatDoorK27
import Derived.Test.YtfaapjcgmjjheaaGreatDoorK20
import Derived.Test.YtfaapjcgmjjheaaGreatDoorK16
import Derived.Test.YtfaapjcgmjjheaaGreatDoorK26
import Derived.Test.YtfaapjcgmjjheaaGreatDoorK02
import Derived.Test.YtfaapjcgmjjheaaGreatDoorTrm
namespace Go.Proofs.YtfaapjcgmjjheaaGreatDoor
open Go.RowKit Go.Lig

section
variable (w : World) (ρ : Nat → Option Pt) (s : Nat) (A : Ad) (M : PSt) (F : Nat) (h : StAt w ρ s A M F) (t : Int) (la pa : Option Addr) (ln lc pn pc : Nat)
include h
theorem setnode_dead (hl : M.K.live t = false) (id : Int) :
    Calls Tryz.prog 23 #[.pointer (some ⟨s, 0, none⟩), .int .i64 t, .int .i64 id, .agg #[.slice la ln lc, .slice pa pn pc]] w fun e w' => e = .returned (.int .i64 5) ∧ Fr No w w' := by
  have hb := heap1 w (.cells #[.slice la ln lc, .slice pa pn pc] 32)
  have hfr : Fr No w (w.alloc (.cells #[.slice la ln lc, .slice pa pn pc] 32)) := (Fr.refl No w).alloc _
  have HI := hid (islive_any _ ρ s A M F (h.frame hfr) t)
  rw [hl] at HI
  have HF := hid hfr
  clear h hl hb hfr
  go_enter Tryz.func23, Tryz.ntmps23
  go_wp2_with (go_at_call 32; refine HI.out.mono ?_; rintro e w1 ⟨rfl, rfl⟩)
  go_ret
  exact ⟨rfl, HF.out⟩
variable (hl : M.K.live t = true)
include hl
theorem setnode_bad (id : Int) (hi : ∀ u, Fr No w u → Calls Tryz.prog 45 #[.agg #[.slice la ln lc, .slice pa pn pc]] u fun e w' => e = .returned (.bool false) ∧ Fr No u w') :
    Calls Tryz.prog 23 #[.pointer (some ⟨s, 0, none⟩), .int .i64 t, .int .i64 id, .agg #[.slice la ln lc, .slice pa pn pc]] w fun e w' => e = .returned (.int .i64 1) ∧ Fr No w w' := by
  have hb := heap1 w (.cells #[.slice la ln lc, .slice pa pn pc] 32)
  have hfr : Fr No w (w.alloc (.cells #[.slice la ln lc, .slice pa pn pc] 32)) := (Fr.refl No w).alloc _
  have HI := hid (islive_any _ ρ s A M F (h.frame hfr) t)
  rw [hl] at HI
  have HS := hid (hi _ hfr)
  have HF := hid hfr
  obtain ⟨c0, c1⟩ := cells2 hb
  clear h hl hb hfr hi
  go_enter Tryz.func23, Tryz.ntmps23
  go_wp2_with (first | (go_at_call 32; refine HI.out.mono ?_; rintro e w1 ⟨rfl, rfl⟩) | (go_at_call 45; refine HS.out.mono ?_; rintro e w1 ⟨rfl, f1⟩; have F1 := hid f1; clear f1))
  go_ret
  exact ⟨rfl, HF.out.thenNo F1.out⟩
variable (hi : ∀ u, Fr No w u → Calls Tryz.prog 45 #[.agg #[.slice la ln lc, .slice pa pn pc]] u fun e w' => e = .returned (.bool true) ∧ Fr No u w')
include hi
theorem setnode_none (id : Int) (hn : readN M t id = none) :
    Calls Tryz.prog 23 #[.pointer (some ⟨s, 0, none⟩), .int .i64 t, .int .i64 id, .agg #[.slice la ln lc, .slice pa pn pc]] w fun e w' => e = .returned (.int .i64 4) ∧ Fr No w w' := by
  have hb := heap1 w (.cells #[.slice la ln lc, .slice pa pn pc] 32)
  have hfr : Fr No w (w.alloc (.cells #[.slice la ln lc, .slice pa pn pc] 32)) := (Fr.refl No w).alloc _
  have HI := hid (islive_any _ ρ s A M F (h.frame hfr) t)
  rw [hl] at HI
  have HS := hid (hi _ hfr)
  have HF := hid hfr
  have HH := hid h
  have HN := hid hn
  obtain ⟨c0, c1⟩ := cells2 hb
  clear h hl hb hfr hi hn
  go_enter Tryz.func23, Tryz.ntmps23
  go_wp2_with (first | (go_at_call 32; refine HI.out.mono ?_; rintro e w1 ⟨rfl, rfl⟩) | (go_at_call 45; refine HS.out.mono ?_; rintro e w1 ⟨rfl, f1⟩; have F1 := hid (HF.out.thenNo f1); clear f1) | (go_at_call 33; refine (reads_any _ ρ s A M F (HH.out.frame F1.out) t id).mono ?_; rintro e w2 ⟨rfl, f2⟩; rw [HN.out]; have F2 := hid (F1.out.thenNo f2); clear f2))
  go_ret
  exact ⟨rfl, F2.out⟩
variable (k : Nat) (d0 : NodeD) (hv : readN M t ((k : Int) + 1) = some d0) (hk : k < M.N.length)
include hv hk
set_option maxRecDepth 100000 in
set_option maxHeartbeats 1000000 in
theorem setnode_clash (hc : mayB M t 0 [(k : Int) + 1] = true) (M1 : PSt) (G0 : Nat) (ht : UndoTo t M1 G0 { M with K := M.K.abort t } F 0 ∧ G0 + 3000 < 1000000) :
    Calls Tryz.prog 23 #[.pointer (some ⟨s, 0, none⟩), .int .i64 t, .int .i64 ((k : Int) + 1), .agg #[.slice la ln lc, .slice pa pn pc]] w fun e w' => e = .returned (.int .i64 6) ∧ TurnsA w ρ s A (undoEs t M1 M1.E.length) (G0 + 2 * M1.E.length) w' := by
  have HC := hid (⟨hc, ht⟩ : _ ∧ _)
  clear hc ht
  obtain ⟨id, hid0⟩ : ∃ id : Int, (k : Int) + 1 = id := ⟨_, rfl⟩
  have hb := heap1 w (.cells #[.slice la ln lc, .slice pa pn pc] 32)
  have hfr : Fr No w (w.alloc (.cells #[.slice la ln lc, .slice pa pn pc] 32)) := (Fr.refl No w).alloc _
  have HI := hid (islive_any _ ρ s A M F (h.frame hfr) t)
  rw [hl] at HI
  have HL := hid hl
  have HS := hid (hi _ hfr)
  have HF := hid hfr
  have HH := hid h
  have HId := hid hid0
  have HKk := hid hk
  rw [hid0] at hv ⊢
  have HN := hid hv
  have HB := hid hb
  have HZ := hid (lt_of_block hb)
  obtain ⟨c0, c1⟩ := cells2 hb
  clear h hl hb hfr hi hv hk hid0
  go_enter Tryz.func23, Tryz.ntmps23
  go_wp2_with (first | (go_at_call 32; refine HI.out.mono ?_; rintro e w1 ⟨rfl, rfl⟩) | (go_at_call 45; refine HS.out.mono ?_; rintro e w1 ⟨rfl, f1⟩; have F1 := hid (HF.out.thenNo f1); have G1 := hid f1; clear f1) | (go_at_call 33; refine (reads_any _ ρ s A M F (HH.out.frame F1.out) t id).mono ?_; rintro e w2 ⟨rfl, f2⟩; rw [HN.out]; have F2 := hid (F1.out.thenNo f2); have G2 := hid (G1.out.thenNo f2); clear f2))
  have f4 : Fr No w (w2.alloc (.cells #[.int .i64 id] 3)) := F2.out.alloc _
  have g4 : Fr No _ (w2.alloc (.cells #[.int .i64 id] 3)) := G2.out.alloc _
  have hb4 := heap1 w2 (.cells #[.int .i64 id] 3)
  have F4 := hid f4
  have G4 := hid g4
  have B4 := hid (show (w2.alloc (.cells #[.int .i64 id] 3)).heap[w2.heap.size]? = some (.cells [iv id].toArray 3 (0, 0)) from hb4)
  generalize w2.alloc (.cells #[.int .i64 id] 3) = w4 at *
  clear f4 g4 hb4 c0 c1
  refine (may_any _ ρ s A M F (HH.out.frame F4.out) t 0 HL.out (.slice (some ⟨w2.heap.size, 0, none⟩) 1 1) [id] (Rd.block B4.out 1 1 1 rfl (by simp [iv, Value.oneCell']) (Nat.le_refl _) (by simp [maxLen])) (by simp) M1 G0 (fun _ => HC.out.2)).mono ?_
  have hcc : mayB M t 0 [id] = true := by rw [← HId.out]; exact HC.out.1
  rintro e w7 ⟨rfl, -, h7⟩
  have G7 := hid (TurnsA.trans (Gone.no F4.out) (h7 hcc))
  rw [hcc, show errN true = 6 from rfl]
  clear h7 hcc
  go_wp2_with fail
  go_ret
  exact ⟨rfl, G7.out⟩
set_option maxRecDepth 100000 in
set_option maxHeartbeats 1000000 in
theorem setnode_ok (d : NodeD) (hd : NodeOf w (.slice la ln lc) (.slice pa pn pc) d) (hd1 : d.L.length ≤ 1000000) (hd2 : d.Q.length ≤ 1000000) (hc : mayB M t 0 [(k : Int) + 1] = false) (M' : PSt) (F' : Nat) (hF1 : F < 1000000) (hfind : FindsTo (putM M t k d false) M' (F + 1) F' k) :
    Calls Tryz.prog 23 #[.pointer (some ⟨s, 0, none⟩), .int .i64 t, .int .i64 ((k : Int) + 1), .agg #[.slice la ln lc, .slice pa pn pc]] w fun e w' => e = .returned (.int .i64 0) ∧ TurnsA w ρ s A M' F' w' := by
  have HC := hid (⟨hc, hfind, hF1⟩ : _ ∧ _ ∧ _)
  have HD := hid (⟨hd, hd1, hd2⟩ : _ ∧ _ ∧ _)
  clear hc hfind hF1 hd hd1 hd2
  obtain ⟨id, hid0⟩ : ∃ id : Int, (k : Int) + 1 = id := ⟨_, rfl⟩
  have hb := heap1 w (.cells #[.slice la ln lc, .slice pa pn pc] 32)
  have hfr : Fr No w (w.alloc (.cells #[.slice la ln lc, .slice pa pn pc] 32)) := (Fr.refl No w).alloc _
  have HI := hid (islive_any _ ρ s A M F (h.frame hfr) t)
  rw [hl] at HI
  have HL := hid hl
  have HS := hid (hi _ hfr)
  have HF := hid hfr
  have HH := hid h
  have HId := hid hid0
  have HKk := hid hk
  rw [hid0] at hv ⊢
  have HN := hid hv
  have HB := hid hb
  have HZ := hid (lt_of_block hb)
  obtain ⟨c0, c1⟩ := cells2 hb
  clear h hl hb hfr hi hv hk hid0
  go_enter Tryz.func23, Tryz.ntmps23
  go_wp2_with (first | (go_at_call 32; refine HI.out.mono ?_; rintro e w1 ⟨rfl, rfl⟩) | (go_at_call 45; refine HS.out.mono ?_; rintro e w1 ⟨rfl, f1⟩; have F1 := hid (HF.out.thenNo f1); have G1 := hid f1; clear f1) | (go_at_call 33; refine (reads_any _ ρ s A M F (HH.out.frame F1.out) t id).mono ?_; rintro e w2 ⟨rfl, f2⟩; rw [HN.out]; have F2 := hid (F1.out.thenNo f2); have G2 := hid (G1.out.thenNo f2); clear f2))
  have f4 : Fr No w (w2.alloc (.cells #[.int .i64 id] 3)) := F2.out.alloc _
  have g4 : Fr No _ (w2.alloc (.cells #[.int .i64 id] 3)) := G2.out.alloc _
  have hb4 := heap1 w2 (.cells #[.int .i64 id] 3)
  have F4 := hid f4
  have G4 := hid g4
  have B4 := hid (show (w2.alloc (.cells #[.int .i64 id] 3)).heap[w2.heap.size]? = some (.cells [iv id].toArray 3 (0, 0)) from hb4)
  generalize w2.alloc (.cells #[.int .i64 id] 3) = w4 at *
  clear f4 g4 hb4 c0 c1
  refine (may_any _ ρ s A M F (HH.out.frame F4.out) t 0 HL.out (.slice (some ⟨w2.heap.size, 0, none⟩) 1 1) [id] (Rd.block B4.out 1 1 1 rfl (by simp [iv, Value.oneCell']) (Nat.le_refl _) (by simp [maxLen])) (by simp) M F (fun e => by rw [← HId.out, HC.out.1] at e; cases e)).mono ?_
  have hcc : mayB M t 0 [id] = false := by rw [← HId.out]; exact HC.out.1
  rintro e w7 ⟨rfl, h7, -⟩
  have F7 := hid (F4.out.thenNo (h7 hcc))
  obtain ⟨c0, c1⟩ := cells2 ((G4.out.thenNo (h7 hcc)).keep HB.out (fun e => e))
  rw [hcc, show errN false = 0 from rfl]
  clear h7 hcc
  go_wp2_with fail
  rw [← HId.out]
  refine (puts_any _ ρ s A M F (HH.out.frame F7.out) t k HKk.out la pa ln lc pn pc d (HD.out.1.frame F7.out) HD.out.2.1 HD.out.2.2 false HC.out.2.2 M' F' HC.out.2.1).mono ?_
  rintro e w8 ⟨rfl, t8⟩
  have T8 := hid (TurnsA.trans (Gone.no F7.out) t8)
  clear t8 c0 c1
  go_wp2_with fail
  go_ret
  exact ⟨rfl, T8.out⟩
end
end Go.Proofs.YtfaapjcgmjjheaaGreatDoor

namespace Go.Proofs.YtfaapjcgmjjheaaGreatDoor
open Go.RowKit Go.Lig

theorem wpList_mraw {P : Program} {ops : Array Oper} {rest : List Oper} {o : Oper} {a : Act} {w : World} {Q : Exit → Act → World → Prop} (hgd : o.guard = none) (t : TypeId) (ho : o.op = .makeMap t none)
    (hQ : wpList P ops Q rest (a.put o.dst (.map (some w.heap.size))) (w.alloc (.map #[] 0))) : wpList P ops Q (o :: rest) a w :=
  wpList_run hgd (v := .map (some w.heap.size)) (w' := w.alloc (.map #[] 0)) (by
    have hr : (Instr.makeMap t none).run P w = .ok (.map (some w.heap.size)) (w.alloc (.map #[] 0)) := rfl
    simp [execOp, ho, hr, Result.andThen]) hQ
def newPt (s c m : Nat) (r r' : Nat → Option Role) (b : Nat) : Option Pt :=
  if b = s then some .root else if b = c then some .clock else if b = m then some .index else if (r b).isSome then some .out else if (r' b).isSome then some .inn else none
theorem newPt_clock {s c m : Nat} {r r' : Nat → Option Role} (h : c ≠ s) : At (newPt s c m r r') .clock = fun b => b = c := by
  funext b
  refine propext ⟨fun e => ?_, fun e => ?_⟩
  · unfold At newPt at e
    by_cases h1 : b = s
    · simp [h1] at e
    · by_cases h2 : b = c
      · exact h2
      · exfalso
        rw [if_neg h1, if_neg h2] at e
        split at e
        · cases e
        · split at e
          · cases e
          · split at e <;> cases e
  · subst e
    simp [At, newPt, h]
theorem newPt_some {s c m : Nat} {r r' : Nat → Option Role} {b : Nat} (h : newPt s c m r r' b ≠ none) : b = s ∨ b = c ∨ b = m ∨ r b ≠ none ∨ r' b ≠ none := by
  unfold newPt at h
  by_cases h1 : b = s
  · exact .inl h1
  · by_cases h2 : b = c
    · exact .inr (.inl h2)
    · by_cases h3 : b = m
      · exact .inr (.inr (.inl h3))
      · rw [if_neg h1, if_neg h2, if_neg h3] at h
        by_cases h4 : (r b).isSome
        · exact .inr (.inr (.inr (.inl (by intro e; rw [e] at h4; cases h4))))
        · rw [if_neg h4] at h
          by_cases h5 : (r' b).isSome
          · exact .inr (.inr (.inr (.inr (by intro e; rw [e] at h5; cases h5))))
          · rw [if_neg h5] at h
            exact absurd rfl h
theorem newPt_of {s c m : Nat} {r r' : Nat → Option Role} {p : Pt} {b : Nat} (h : At (newPt s c m r r') p b) : p = .root ∨ p = .clock ∨ p = .index ∨ p = .out ∨ p = .inn := by
  unfold At newPt at h
  split at h
  · exact .inl (Option.some.inj h).symm
  · split at h
    · exact .inr (.inl (Option.some.inj h).symm)
    · split at h
      · exact .inr (.inr (.inl (Option.some.inj h).symm))
      · split at h
        · exact .inr (.inr (.inr (.inl (Option.some.inj h).symm)))
        · split at h
          · exact .inr (.inr (.inr (.inr (Option.some.inj h).symm)))
          · cases h
def emptyM : PSt := ⟨⟨[], 0⟩, [], [], [], [], [], [], []⟩
theorem stnew_any (w : World) : Calls Tryz.prog 26 #[] w fun e w' => ∃ s ρ A, e = .returned (.pointer (some ⟨s, 0, none⟩)) ∧ StAt w' ρ s A emptyM 0 ∧ Fr No w w' ∧ ∀ b, ρ b ≠ none → w.heap.size ≤ b := by
  go_enter Tryz.func26, Tryz.ntmps26
  go_wp2_with fail
  refine (clknew_any _).mono ?_
  rintro e w1 ⟨c, rfl, k1, f1, n1⟩
  have H1 := hid (⟨k1, f1, n1⟩ : _ ∧ _ ∧ _)
  clear k1 f1 n1
  go_wp2_with fail
  refine (chnew_any _).mono ?_
  rintro e w2 ⟨o, B, r, rfl, k2, f2, n2⟩
  have H2 := hid (⟨k2, f2, n2⟩ : _ ∧ _ ∧ _)
  clear k2 f2 n2
  go_wp2_with fail
  refine (chnew_any _).mono ?_
  rintro e w3 ⟨i, B', r', rfl, k3, f3, n3⟩
  have H3 := hid (⟨k3, f3, n3⟩ : _ ∧ _ ∧ _)
  clear k3 f3 n3
  go_wp2_with (refine wpList_mraw rfl 66 rfl ?_)
  go_ret
  have hfa : Fr No w3 (w3.alloc (.map #[] 0)) := (Fr.refl No w3).alloc _
  obtain ⟨k1, f1, n1⟩ := H1.out
  obtain ⟨k2, f2, n2⟩ := H2.out
  obtain ⟨k3, f3, n3⟩ := H3.out
  have b1 := k1.bound c rfl
  have z1 := f1.size
  have z2 := f2.size
  have z3 := f3.size
  have hb2 := k2.bound
  have hb3 := k3.bound
  have hout : ∀ b, r b ≠ none → At (newPt (w3.heap.size + 1) c w3.heap.size r r') .out b := fun b hb => by
    have h1 := hb2 b hb
    have h2 := n2 b hb
    have h4 : (r b).isSome = true := by cases e : r b with | none => exact absurd e hb | some _ => rfl
    show newPt _ _ _ _ _ _ = _
    unfold newPt
    rw [if_neg (by omega), if_neg (by omega), if_neg (by omega), if_pos h4]
  have hinn : ∀ b, r' b ≠ none → At (newPt (w3.heap.size + 1) c w3.heap.size r r') .inn b := fun b hb => by
    have h1 := hb3 b hb
    have h2 := n3 b hb
    have h4 : (r' b).isSome = true := by cases e : r' b with | none => exact absurd e hb | some _ => rfl
    have h5 : ¬ (r b).isSome = true := fun e => by
      have h6 : r b ≠ none := by intro e'; rw [e'] at e; cases e
      have := hb2 b h6
      omega
    show newPt _ _ _ _ _ _ = _
    unfold newPt
    rw [if_neg (by omega), if_neg (by omega), if_neg (by omega), if_neg h5, if_pos h4]
  have hidx : At (newPt (w3.heap.size + 1) c w3.heap.size r r') .index w3.heap.size := by
    show newPt _ _ w3.heap.size _ _ w3.heap.size = _
    unfold newPt
    rw [if_neg (by omega), if_neg (by omega), if_pos rfl]
  have hsz : ((w3.alloc (.map #[] 0)).alloc (.cells #[.pointer (some ⟨c, 0, none⟩), .slice none 0 0, .slice none 0 0, .slice none 0 0, .pointer (some ⟨o, 0, none⟩), .pointer (some ⟨i, 0, none⟩), .map (some w3.heap.size), .slice none 0 0] 69)).heap.size = w3.heap.size + 2 := by simp
  refine ⟨_, newPt (w3.heap.size + 1) c w3.heap.size r r', ⟨c, o, i, w3.heap.size, .slice none 0 0, .slice none 0 0, .slice none 0 0, .slice none 0 0, fun _ => 0, fun _ => 0⟩, rfl, ⟨fun b hb => ?_, fun q => ?_⟩, ((f1.thenNo f2).thenNo f3).thenNo (hfa.alloc _), ?_⟩
  · simp only [hp_alloc, Array.size_push]
    rcases newPt_some hb with h1 | h1 | h1 | h1 | h1
    · omega
    · omega
    · omega
    · have := hb2 b h1; omega
    · have := hb3 b h1; omega
  · cases q with
    | root => exact ⟨by simp [At, newPt], (heap2 w3 _ _).2⟩
    | clock =>
      rw [newPt_clock (by omega)]
      exact ⟨k1.frame ((f2.thenNo f3).thenNo (hfa.alloc _)) (fun _ _ e => e), Nat.le_refl _, Int.le_refl _⟩
    | nrow => exact ⟨World.ownsRow_nil _ _ _ _, (fun k e => by cases e), Nat.zero_le _⟩
    | edrow => exact ⟨World.ownsRow_nil _ _ _ _, (fun k e => by cases e), Nat.zero_le _⟩
    | erow => exact ⟨⟨⟨[], rfl, World.ownsRow_nil _ _ _ _, fun i hv l e => by simp at e⟩, fun k e => (by cases e), fun l hl => (by cases hl)⟩, rfl⟩
    | enrow => exact ⟨World.ownsRow_nil _ _ _ _, (fun k e => by cases e), rfl, fun p hp => by cases hp⟩
    | out => exact ⟨⟨B, r, 0, k2.frame (f3.thenNo (hfa.alloc _)) (fun _ _ e => e), hout, Nat.le_refl _⟩, Nat.le_refl _⟩
    | inn => exact ⟨⟨B', r', 0, k3.frame (hfa.alloc _) (fun _ _ e => e), hinn, Nat.le_refl _⟩, Nat.le_refl _⟩
    | index =>
      refine ⟨⟨fun b => if b = w3.heap.size then some .mp else none, fun _ => 0, by simp [At], ?_, fun j key l e => by simp [emptyM] at e, fun b hb => ?_⟩, fun p hp => by cases hp⟩
      · exact (MapS.made w3 Tryz.prog 9).frame ((Fr.refl No _).alloc _) (fun e => e)
      · by_cases e : b = w3.heap.size
        · subst e
          exact ⟨hidx, by rw [hsz]; omega⟩
        · simp [e] at hb
    | imm => trivial
    | node i => exact fun L hL => by simp [emptyM] at hL
    | edge i => exact fun L hL => by simp [emptyM] at hL
  · intro b hb
    rcases newPt_some hb with h1 | h1 | h1 | h1 | h1
    · omega
    · omega
    · omega
    · have := n2 b h1; omega
    · have := n3 b h1; omega
end Go.Proofs.YtfaapjcgmjjheaaGreatDoor

namespace Go.Proofs.YtfaapjcgmjjheaaGreatDoor
open Go.RowKit Go.Lig

/-- what AddNode leaves -/
def addM (M : PSt) (t : Int) (d : NodeD) : PSt := findsM (putM (growN M) t M.N.length d false) M.N.length
/-- what a touch leaves -/
def touM (M : PSt) (t : Int) (k : Nat) : PSt := findsM (putM M t k ((readN M t ((k : Int) + 1)).getD NodeD.none) false) k
def dA : NodeD := ⟨[⟨#[97]⟩], []⟩
def mB : PSt := { emptyM with K := emptyM.K.begins }
def mN1 : PSt := addM mB 1 dA
def mN2 : PSt := addM mN1 1 NodeD.none
def mT : PSt := touM (touM mN2 1 0) 1 1
def mE : PSt := tieM (growE mT) 1 0 ⟨1, 2, ⟨#[101]⟩, 0⟩ false
def mTwo : PSt := { mE with K := mE.K.commit 1 }
theorem mB_live : mB.K.live 1 = true := by kernel_rfl
theorem mN1_live : mN1.K.live 1 = true := by kernel_rfl
theorem mN2_live : mN2.K.live 1 = true := by kernel_rfl
theorem mN2_r1 : readN mN2 1 1 = some dA := by kernel_rfl
theorem mN2_r2 : readN mN2 1 2 = some NodeD.none := by kernel_rfl
theorem mN2_may : mayB mN2 1 0 [1, 2] = false := by kernel_rfl
theorem mTwo_n : mTwo.N.length = 2 := by kernel_rfl
theorem mTwo_e : mTwo.E.length = 1 := by kernel_rfl
theorem mTwo_x : mTwo.X.length = 1 := by kernel_rfl
end Go.Proofs.YtfaapjcgmjjheaaGreatDoor

namespace Go.Proofs.YtfaapjcgmjjheaaGreatDoor
open Go.RowKit Go.Lig Go.Shelf Go.Lib

def ltrs : List UInt8 := [97, 98, 99, 100, 101, 102, 103, 104, 105, 106, 107, 108, 109, 110, 111, 112, 113, 114, 115, 116, 117, 118, 119, 120, 121, 122]
def isNameB (s : ByteArray) : Bool := decide (s.size ≠ 0) && (decide (s.size ≤ 8) && decide (Lib.trimS s.data.toList ltrs = []))
theorem trim_any (w : World) (s : ByteArray) (hs : s.size ≤ 9223372036854775807) : Calls Tryz.prog 129 #[.string s, .string ⟨#[97, 98, 99, 100, 101, 102, 103, 104, 105, 106, 107, 108, 109, 110, 111, 112, 113, 114, 115, 116, 117, 118, 119, 120, 121, 122]⟩] w fun e w' => e = .returned (.string ⟨(Lib.trimS s.data.toList ltrs).toArray⟩) ∧ Fr No w w' := by
  have hcon := Any.strings_Trim_laid layTrim (by kernel_rfl) s ⟨#[97, 98, 99, 100, 101, 102, 103, 104, 105, 106, 107, 108, 109, 110, 111, 112, 113, 114, 115, 116, 117, 118, 119, 120, 121, 122]⟩ w hs (by decide) (ascii_of_all (by decide))
  exact hcon.mono fun e w' h => ⟨h.1, Fr.of_below h.2⟩
theorem isin_any (w : World) (n lo hi : Int) : Calls Tryz.prog 92 #[.int .i64 n, .int .i64 lo, .int .i64 hi] w fun e w' => e = .returned (.bool (decide (lo ≤ n ∧ n ≤ hi))) ∧ w = w' := by
  by_cases h1 : lo ≤ n
  · by_cases h2 : n ≤ hi
    · rw [decide_eq_true (⟨h1, h2⟩ : _ ∧ _)]
      go_enter Tryz.func92, Tryz.ntmps92
      go_wp2
      go_ret
      exact ⟨rfl, rfl⟩
    · rw [decide_eq_false (fun h : lo ≤ n ∧ n ≤ hi => h2 h.2)]
      go_enter Tryz.func92, Tryz.ntmps92
      go_wp2
      go_ret
      exact ⟨rfl, rfl⟩
  · rw [decide_eq_false (fun h : lo ≤ n ∧ n ≤ hi => h1 h.1)]
    go_enter Tryz.func92, Tryz.ntmps92
    go_wp2
    go_ret
    exact ⟨rfl, rfl⟩
theorem loop_len (s : ByteArray) : ∀ (n i : Nat) (r : List UInt8), s.size - i = n → (ByteArray.toList.loop s i r).length = r.length + n
  | 0, i, r, h => by
    rw [ByteArray.toList.loop.eq_1, if_neg (by omega)]
    simp
  | n + 1, i, r, h => by
    rw [ByteArray.toList.loop.eq_1, if_pos (by omega), loop_len s n (i + 1) _ (by omega)]
    simp
    omega
theorem toList_len (s : ByteArray) : s.toList.length = s.size := by
  have := loop_len s s.size 0 [] (by omega)
  simpa [ByteArray.toList] using this
theorem toList_ne {s : ByteArray} (h : ¬ s.size = 0) : ¬ s.toList = [] := fun e => h (by rw [← toList_len, e]; rfl)
theorem toList_nil {s : ByteArray} (h : s.size = 0) : s.toList = [] := List.length_eq_zero_iff.1 (by rw [toList_len, h])
theorem isname_any (w : World) (s : ByteArray) (hs : s.size ≤ 9223372036854775807) : Calls Tryz.prog 93 #[.string s] w fun e w' => e = .returned (.bool (isNameB s)) ∧ Fr No w w' := by
  by_cases h1 : s.size = 0
  · have hb : isNameB s = false := by simp [isNameB, h1]
    have h3 := toList_nil h1
    rw [hb]
    clear h1 hb
    go_enter Tryz.func93, Tryz.ntmps93
    go_wp2
    go_ret
    exact ⟨rfl, Fr.refl _ _⟩
  · by_cases h2 : s.size ≤ 8
    · have HT := hid (trim_any w s hs)
      have hb : isNameB s = decide (Lib.trimS s.data.toList ltrs = []) := by simp [isNameB, h1, h2]
      have h3 := toList_ne h1
      rw [hb]
      generalize Lib.trimS s.data.toList ltrs = r at *
      clear hb h1
      go_enter Tryz.func93, Tryz.ntmps93
      go_wp2_with (go_at_call 129; refine HT.out.mono ?_; rintro e w' ⟨rfl, f1⟩; have F1 := hid f1; clear f1)
      go_ret
      refine ⟨?_, F1.out⟩
      have h4 : s.toList.isEmpty = false := by simpa using h3
      cases r with
      | nil => simp [h4]
      | cons _ _ => simp
    · have hb : isNameB s = false := by simp [isNameB, h2]
      have h3 := toList_ne h1
      have h4 : ¬ (s.size : Int) ≤ 8 := by omega
      rw [hb]
      clear hb h1 h2
      go_enter Tryz.func93, Tryz.ntmps93
      go_wp2
      go_ret
      exact ⟨rfl, Fr.refl _ _⟩
theorem weight_of (w : World) (x : Value) (b : Bool) (h : ∀ u : World, Sem.run Tryz.prog (binOp BinOp.geq 41 x (.float FloatKind.f64 0)) u = .ok (.bool b) u) : Calls Tryz.prog 94 #[x] w fun e w' => e = .returned (.bool b) ∧ w = w' := by
  go_enter Tryz.func94, Tryz.ntmps94
  go_wp2
  go_ret
  exact ⟨rfl, rfl⟩
theorem weight_zero (w : World) : Calls Tryz.prog 94 #[.float FloatKind.f64 0] w fun e w' => e = .returned (.bool true) ∧ w = w' := weight_of w _ _ (fun u => by kernel_rfl)
theorem isedge_ok (w : World) (p q : Int) (s : ByteArray) (x : Value) (hp : 1 ≤ p ∧ p ≤ 24) (hq : 1 ≤ q ∧ q ≤ 24) (hs : isNameB s = true) (hl : s.size ≤ 9223372036854775807) (h1 : x.oneCell' = true) (hx : ∀ u : World, Calls Tryz.prog 94 #[x] u fun e w' => e = .returned (.bool true) ∧ u = w') :
    Calls Tryz.prog 47 #[.agg #[.int .i64 p, .int .i64 q, .string s, x]] w fun e w' => e = .returned (.bool true) ∧ Fr No w w' := by
  have HS : Hid (∀ u : World, Calls Tryz.prog 93 #[.string s] u fun e w' => e = .returned (.bool true) ∧ Fr No u w') := hid (fun u => by have := isname_any u s hl; rwa [hs] at this)
  have HX := hid hx
  have hb := heap1 w (.cells #[.int .i64 p, .int .i64 q, .string s, x] 43)
  obtain ⟨c0, c1, c2, c3⟩ := cells4 hb
  have hf : Hid (Fr No w (w.alloc (.cells #[.int .i64 p, .int .i64 q, .string s, x] 43))) := hid ((Fr.refl No w).alloc _)
  clear hx
  go_enter Tryz.func47, Tryz.ntmps47
  go_wp2_with (first | (go_at_call 92; refine (isin_any _ _ _ _).mono ?_; rintro e w' ⟨rfl, rfl⟩; rw [decide_eq_true (by first | exact hp | exact hq)]) | (go_at_call 93; refine (HS.out _).mono ?_; rintro e w2 ⟨rfl, f2⟩; have F2 := hid (hf.out.thenNo f2); have c4 := (cells4 (f2.keep hb (fun e => e))).2.2.2; clear f2) | (go_at_call 94; refine (HX.out _).mono ?_; rintro e w3 ⟨rfl, rfl⟩))
  go_ret
  exact ⟨rfl, F2.out⟩
end Go.Proofs.YtfaapjcgmjjheaaGreatDoor

namespace Go.Proofs.YtfaapjcgmjjheaaGreatDoor
open Go.RowKit Go.Lig

theorem arenames_nil (w : World) : Calls Tryz.prog 89 #[.slice none 0 0, .int .i64 3] w fun e w' => e = .returned (.bool true) ∧ w = w' := by
  go_enter Tryz.func89, Tryz.ntmps89
  go_wp2
  go_loopw [9] (fun vi wr => vi = .int .i64 0 ∧ wr = w) (fun _ _ => 0)
  case atStart => exact ⟨rfl, rfl⟩
  case round =>
    obtain ⟨rfl, rfl⟩ := hrel
    go_wp2
    go_ret
    exact ⟨rfl, rfl⟩
set_option maxHeartbeats 1000000 in
theorem isnode_nil (w : World) : Calls Tryz.prog 45 #[.agg #[.slice none 0 0, .slice none 0 0]] w fun e w' => e = .returned (.bool true) ∧ Fr No w w' := by
  have hb := heap1 w (.cells #[.slice none 0 0, .slice none 0 0] 32)
  have hf : Fr No w (w.alloc (.cells #[.slice none 0 0, .slice none 0 0] 32)) := (Fr.refl No w).alloc _
  go_enter Tryz.func45, Tryz.ntmps45
  go_wp2_with fail
  generalize w.alloc (.cells #[.slice none 0 0, .slice none 0 0] 32) = w2 at *
  obtain ⟨c0, c1⟩ := cells2 hb
  have HF := hid hf
  clear hf hb
  go_loopw [3, 9] (fun v3 vi wr => v3 = .slice none 0 0 ∧ vi = .int .i64 0 ∧ wr = w2) (fun _ _ _ => 0)
  case atStart => exact ⟨rfl, rfl, rfl⟩
  case round =>
    obtain ⟨rfl, rfl, rfl⟩ := hrel
    go_wp2_with (go_at_call 89; refine (arenames_nil _).mono ?_; rintro e w' ⟨rfl, rfl⟩)
    go_ret
    exact ⟨rfl, HF.out⟩
set_option maxRecDepth 100000 in
set_option maxHeartbeats 1000000 in
theorem arenames_one (w : World) (b o : Nat) (c : Nat) (s : ByteArray) (hs : isNameB s = true) (h0 : ∀ u, Fr No w u → u.cell? ⟨b, o, none⟩ = some (.string s)) (hsz : s.size ≤ 9223372036854775807) : Calls Tryz.prog 89 #[.slice (some ⟨b, o, none⟩) 1 c, .int .i64 3] w fun e w' => e = .returned (.bool true) ∧ Fr No w w' := by
  have HN := hid (fun u => isname_any u s hsz)
  have H0 := hid h0
  have HS := hid hs
  clear h0 hs
  go_enter Tryz.func89, Tryz.ntmps89
  go_wp2_with fail
  go_loopw [9] (fun vi wr => ∃ i : Nat, i ≤ 1 ∧ vi = .int .i64 (i : Int) ∧ Hid (Fr No w wr)) (fun vi _ => 1 - (intOf vi).toNat)
  case atStart => exact ⟨0, by omega, rfl, Fr.refl _ _⟩
  case round =>
    obtain ⟨i, hi, rfl, HF⟩ := hrel
    by_cases h1 : i = 0
    · subst h1
      have y0 := H0.out wr HF.out
      go_wp2_with (go_at_call 93; refine (HN.out _).mono ?_; rintro e w2 ⟨rfl, f2⟩; rw [HS.out]; have F2 := hid (HF.out.thenNo f2); clear f2)
      exact ⟨⟨1, by omega, rfl, F2.out⟩, by simp [intOf]⟩
    · obtain rfl : i = 1 := by omega
      go_wp2_with fail
      go_ret
      exact ⟨rfl, HF.out⟩
set_option maxRecDepth 100000 in
set_option maxHeartbeats 1000000 in
theorem isnode_one (w : World) (b o c : Nat) (s : ByteArray) (hs : isNameB s = true) (h0 : ∀ u, Fr No w u → u.cell? ⟨b, o, none⟩ = some (.string s)) (hsz : s.size ≤ 9223372036854775807) : Calls Tryz.prog 45 #[.agg #[.slice (some ⟨b, o, none⟩) 1 c, .slice none 0 0]] w fun e w' => e = .returned (.bool true) ∧ Fr No w w' := by
  have hb := heap1 w (.cells #[.slice (some ⟨b, o, none⟩) 1 c, .slice none 0 0] 32)
  have hf : Fr No w (w.alloc (.cells #[.slice (some ⟨b, o, none⟩) 1 c, .slice none 0 0] 32)) := (Fr.refl No w).alloc _
  have H0 := hid h0
  go_enter Tryz.func45, Tryz.ntmps45
  go_wp2_with fail
  generalize w.alloc (.cells #[.slice (some ⟨b, o, none⟩) 1 c, .slice none 0 0] 32) = w2 at *
  obtain ⟨c0, c1⟩ := cells2 hb
  have HF := hid hf
  clear hf hb h0
  go_loopw [3, 9] (fun v3 vi wr => v3 = .slice none 0 0 ∧ vi = .int .i64 0 ∧ wr = w2) (fun _ _ _ => 0)
  case atStart => exact ⟨rfl, rfl, rfl⟩
  case round =>
    obtain ⟨rfl, rfl, rfl⟩ := hrel
    go_wp2_with (first | (go_at_call_of 89 (Value.slice none 0 0); refine (arenames_nil _).mono ?_; rintro e w' ⟨rfl, rfl⟩) | (go_at_call 89; refine (arenames_one _ b o c s hs (fun u hu => H0.out u (HF.out.thenNo hu)) hsz).mono ?_; rintro e w3 ⟨rfl, f3⟩; have F3 := hid (HF.out.thenNo f3); clear f3))
    go_ret
    exact ⟨rfl, F3.out⟩
end Go.Proofs.YtfaapjcgmjjheaaGreatDoor

namespace Go.Proofs.YtfaapjcgmjjheaaGreatDoor
open Go.RowKit Go.Lig

theorem finds_at {M : PSt} {k : Nat} {l : List IxR} {L : List (Ver NodeD)} (F n : Nat) (hl : M.Y[k]? = some l) (hL : M.N[k]? = some L) (hn : l.length + 2 * costV L = n) (hF : F + n < 999990) : FindsTo M (findsM M k) F (F + n) k := by
  have := finds_any (k := k) l hl L hL F (by omega)
  rw [show F + l.length + 2 * costV L = F + n by omega] at this
  exact this
theorem f_n1 : FindsTo (putM (growN mB) 1 mB.N.length dA false) mN1 2 4 mB.N.length := finds_at (l := []) (L := ((putM (growN mB) 1 mB.N.length dA false).N[mB.N.length]?.getD [])) 2 2 (by kernel_rfl) (by kernel_rfl) (by kernel_rfl) (by decide)
theorem f_n2 : FindsTo (putM (growN mN1) 1 mN1.N.length NodeD.none false) mN2 5 5 mN1.N.length := finds_at (l := []) (L := ((putM (growN mN1) 1 mN1.N.length NodeD.none false).N[mN1.N.length]?.getD [])) 5 0 (by kernel_rfl) (by kernel_rfl) (by kernel_rfl) (by decide)
theorem f_t1 : FindsTo (putM mN2 1 0 dA false) (touM mN2 1 0) 6 9 0 := finds_at (M := putM mN2 1 0 dA false) (l := ((putM mN2 1 0 dA false).Y[0]?.getD [])) (L := ((putM mN2 1 0 dA false).N[0]?.getD [])) 6 3 (by kernel_rfl) (by kernel_rfl) (by kernel_rfl) (by decide)
theorem f_t2 : FindsTo (putM (touM mN2 1 0) 1 1 NodeD.none false) mT 10 10 1 := finds_at (M := putM (touM mN2 1 0) 1 1 NodeD.none false) (l := ((putM (touM mN2 1 0) 1 1 NodeD.none false).Y[1]?.getD [])) (L := ((putM (touM mN2 1 0) 1 1 NodeD.none false).N[1]?.getD [])) 10 0 (by kernel_rfl) (by kernel_rfl) (by kernel_rfl) (by decide)
theorem touch_two : TouchTo 1 mT 10 mN2 5 [1, 2] :=
  TouchTo.put (k := 0) (d := dA) (by decide) (by kernel_rfl) (by decide) f_t1 (TouchTo.put (k := 1) (d := NodeD.none) (by decide) (by kernel_rfl) (by decide) f_t2 TouchTo.nil)
end Go.Proofs.YtfaapjcgmjjheaaGreatDoor

namespace Go.Proofs.YtfaapjcgmjjheaaGreatDoor
open Go.RowKit Go.Lig

/-- the store's blocks are new, all else stands -/
structure Nu (w w' : World) (ρ : Nat → Option Pt) : Prop where
  fr : Fr No w w'
  lo : ∀ b, Go.Lig.Own ρ b → w.heap.size ≤ b
theorem Nu.next {w w1 w2 : World} {ρ ρ' : Nat → Option Pt} (h : Nu w w1 ρ) (g : Gone (Go.Lig.Own ρ) w1 (Go.Lig.Own ρ') w2) : Nu w w2 ρ' :=
  ⟨h.fr.trans g.fr (fun k hk E => absurd hk (Nat.not_lt.2 (h.lo k E))), fun b hb => by
    rcases g.gr b hb with h1 | h1
    · exact h.lo b h1
    · exact Nat.le_trans h.fr.size h1⟩
theorem Nu.nextNo {w w1 w2 : World} {ρ : Nat → Option Pt} (h : Nu w w1 ρ) (g : Fr No w1 w2) : Nu w w2 ρ := ⟨h.fr.thenNo g, h.lo⟩
theorem isnA : isNameB ⟨#[97]⟩ = true := by kernel_rfl
theorem isnE : isNameB ⟨#[101]⟩ = true := by kernel_rfl
set_option maxRecDepth 100000 in
set_option maxHeartbeats 2000000 in
theorem two_any (w : World) : Calls Tryz.prog 9 #[] w fun e w' => ∃ s ρ A, e = .returned (.pointer (some ⟨s, 0, none⟩)) ∧ StAt w' ρ s A mTwo 14 ∧ Nu w w' ρ := by
  go_enter Tryz.func9, Tryz.ntmps9
  go_wp2_with fail
  refine (stnew_any _).mono ?_
  rintro e w1 ⟨s, ρ, A, rfl, h1, f1, n1⟩
  have H1 := hid (⟨h1, Nu.mk f1 n1⟩ : _ ∧ _)
  clear h1 f1 n1
  go_wp2_with fail
  refine (stbegin_any _ ρ s A emptyM 0 H1.out.1 (by decide) (by decide)).mono ?_
  rintro e w2 ⟨rfl, ρ2, h2, g2⟩
  rw [show ((emptyM.K.l.length + 1 : Nat) : Int) = 1 from rfl]
  have H2 := hid (⟨h2, H1.out.2.next g2⟩ : StAt w2 ρ2 s A mB 1 ∧ _)
  clear h2 g2
  go_wp2_with fail
  have f3 : Fr No w2 (w2.alloc (.cells #[.string ⟨#[97]⟩] 9)) := (Fr.refl No w2).alloc _
  have b3 := heap1 w2 (.cells #[.string ⟨#[97]⟩] 9)
  have hs3 := H2.out.1.frame f3
  have hn3 := H2.out.2.nextNo f3
  have HB2 := hid H2.out.1.bound
  generalize w2.alloc (.cells #[.string ⟨#[97]⟩] 9) = w3 at *
  refine (addnode_ok w3 ρ2 s A mB 1 hs3 1 (some ⟨w2.heap.size, 0, none⟩) none 1 1 0 0 mB_live (fun u hu => isnode_one u w2.heap.size 0 1 ⟨#[97]⟩ isnA (fun x hx => cells1 (hx.keep (hu.keep b3 (fun e => e)) (fun e => e))) (by decide)) dA ⟨Rd.block (cs := [.string ⟨#[97]⟩]) b3 1 1 1 rfl (by simp [Value.oneCell']) (Nat.le_refl _) (by simp [maxLen]), Rd.nil _ _, (fun q hq => by cases hq), (fun x hx => by
    rw [List.mem_singleton.1 hx]; decide)⟩ (by decide) (by decide) (fun k hk _ E => by
      obtain rfl : w2.heap.size = k := Option.some.inj hk
      exact Nat.lt_irrefl _ (HB2.out _ E)) (fun k hk => by cases hk) (by decide) (by decide) mN1 4 f_n1).mono ?_
  rintro e w4 ⟨rfl, ρ4, A4, h4, g4⟩
  rw [show ((mB.N.length : Nat) : Int) + 1 = 1 from rfl]
  have H4 := hid (⟨h4, hn3.next g4⟩ : _ ∧ _)
  clear h4 g4 hs3 hn3 b3 f3
  go_wp2_with fail
  refine (addnode_ok w4 ρ4 s A4 mN1 4 H4.out.1 1 none none 0 0 0 0 mN1_live (fun u _ => isnode_nil u) NodeD.none (NodeOf.none _) (by decide) (by decide) (fun k hk => by cases hk) (fun k hk => by cases hk) (by rw [show mN1.N.length = 1 by kernel_rfl]; decide) (by decide) mN2 5 f_n2).mono ?_
  rintro e w5 ⟨rfl, ρ5, A5, h5, g5⟩
  have H5 := hid (⟨h5, H4.out.2.next g5⟩ : _ ∧ _)
  clear h5 g5
  go_wp2_with fail
  refine (addedge_ok w5 ρ5 s A5 mN2 5 H5.out.1 1 1 2 ⟨#[101]⟩ 0 mN2_live (fun u _ => isedge_ok u 1 2 ⟨#[101]⟩ (.float .f64 0) (by decide) (by decide) isnE (by decide) rfl (fun u => weight_zero u)) (by rw [mN2_r1]; rfl) (by rw [mN2_r2]; rfl) (by rw [show mN2.E.length = 0 by kernel_rfl]; decide) mN2_may mT 10 touch_two (by decide) ⟨key_small (n := 1) (by decide), key_small (n := 2) (by decide)⟩).mono ?_
  rintro e w6 ⟨rfl, ρ6, A6, h6, g6⟩
  rw [show mN2.E.length = 0 by kernel_rfl] at h6
  have H6 := hid (⟨h6, H5.out.2.next g6⟩ : StAt w6 ρ6 s A6 mE 13 ∧ _)
  clear h6 g6
  go_wp2_with (go_at_call 13; refine (stcommit_any _ ρ6 s A6 mE 13 H6.out.1 1 (by kernel_rfl) (by decide)).mono ?_; rintro e w7 ⟨rfl, ρ7, h7, g7⟩; have H7 := hid (⟨h7, H6.out.2.next g7⟩ : StAt w7 ρ7 s A6 mTwo 14 ∧ _); clear h7 g7)
  go_ret
  exact ⟨s, ρ7, A6, rfl, H7.out⟩
end Go.Proofs.YtfaapjcgmjjheaaGreatDoor

namespace Go.Proofs.YtfaapjcgmjjheaaGreatDoor
open Go.RowKit Go.Lig

def kA : PSt := { emptyM with K := emptyM.K.begins }
def kB : PSt := addM kA 1 NodeD.none
def kC : PSt := { kB with K := kB.K.commit 1 }
def kD : PSt := { kC with K := kC.K.begins }
def kE : PSt := { kD with K := kD.K.begins }
def kF : PSt := findsM (putM kE 2 0 NodeD.none true) 0
def kG : PSt := findsM (undoNM { kF with K := kF.K.abort 3 } 3 0) 0
def kH : PSt := undoEs 3 kG kG.E.length
theorem g_b : FindsTo (putM (growN kA) 1 kA.N.length NodeD.none false) kB 2 2 kA.N.length := finds_at (l := []) (L := ((putM (growN kA) 1 kA.N.length NodeD.none false).N[kA.N.length]?.getD [])) 2 0 (by kernel_rfl) (by kernel_rfl) (by kernel_rfl) (by decide)
theorem g_f : FindsTo (putM kE 2 0 NodeD.none true) kF 6 6 0 := finds_at (M := putM kE 2 0 NodeD.none true) (l := []) (L := ((putM kE 2 0 NodeD.none true).N[0]?.getD [])) 6 0 (by kernel_rfl) (by kernel_rfl) (by kernel_rfl) (by decide)
theorem g_g : FindsTo (undoNM { kF with K := kF.K.abort 3 } 3 0) kG 6 6 0 := finds_at (M := undoNM { kF with K := kF.K.abort 3 } 3 0) (l := []) (L := ((undoNM { kF with K := kF.K.abort 3 } 3 0).N[0]?.getD [])) 6 0 (by kernel_rfl) (by kernel_rfl) (by kernel_rfl) (by decide)
theorem undo_known : UndoTo 3 kG 6 { kF with K := kF.K.abort 3 } 6 0 := UndoTo.step (by decide) g_g (UndoTo.done (by decide))
theorem kE_r : readN kE 2 1 = some NodeD.none := by kernel_rfl
theorem kE_o : outM kE 2 1 = [] ∧ inM kE 2 1 = [] := ⟨by kernel_rfl, by kernel_rfl⟩
theorem kE_m : mayB kE 2 0 [1] = false := by kernel_rfl
theorem kF_l : kF.K.live 3 = true := by kernel_rfl
theorem kF_r : readN kF 3 1 = some NodeD.none := by kernel_rfl
theorem kF_m : mayB kF 3 0 [1, 1] = true := by kernel_rfl
theorem kH_c : kH.K.count = 1 := by kernel_rfl
end Go.Proofs.YtfaapjcgmjjheaaGreatDoor

namespace Go.Proofs.YtfaapjcgmjjheaaGreatDoor
open Go.RowKit Go.Lig

set_option maxRecDepth 100000 in
set_option maxHeartbeats 4000000 in
theorem known_any (w : World) : Calls Tryz.prog 16 #[] w fun e w' => e = .returned (.bool true) ∧ Fr No w w' := by
  go_enter Tryz.func16, Tryz.ntmps16
  go_wp2_with fail
  refine (stnew_any _).mono ?_
  rintro e w1 ⟨s, ρ, A, rfl, h1, f1, n1⟩
  have H1 := hid (⟨h1, Nu.mk f1 n1⟩ : _ ∧ _)
  clear h1 f1 n1
  go_wp2_with fail
  refine (stbegin_any _ ρ s A emptyM 0 H1.out.1 (by decide) (by decide)).mono ?_
  rintro e w2 ⟨rfl, ρ2, h2, g2⟩
  rw [show ((emptyM.K.l.length + 1 : Nat) : Int) = 1 from rfl]
  have H2 := hid (⟨h2, H1.out.2.next g2⟩ : StAt w2 ρ2 s A kA 1 ∧ _)
  clear h2 g2
  go_wp2_with fail
  refine (addnode_ok w2 ρ2 s A kA 1 H2.out.1 1 none none 0 0 0 0 (by kernel_rfl) (fun u _ => isnode_nil u) NodeD.none (NodeOf.none _) (by decide) (by decide) (fun k hk => by cases hk) (fun k hk => by cases hk) (by decide) (by decide) kB 2 g_b).mono ?_
  rintro e w3 ⟨rfl, ρ3, A3, h3, g3⟩
  rw [show ((kA.N.length : Nat) : Int) + 1 = 1 from rfl]
  have H3 := hid (⟨h3, H2.out.2.next g3⟩ : _ ∧ _)
  clear h3 g3
  go_wp2_with fail
  refine (stcommit_any _ ρ3 s A3 kB 2 H3.out.1 1 (by kernel_rfl) (by decide)).mono ?_
  rintro e w4 ⟨rfl, ρ4, h4, g4⟩
  have H4 := hid (⟨h4, H3.out.2.next g4⟩ : StAt w4 ρ4 s A3 kC 3 ∧ _)
  clear h4 g4
  go_wp2_with fail
  refine (stbegin_any _ ρ4 s A3 kC 3 H4.out.1 (by rw [show kC.K.count = 0 by kernel_rfl]; decide) (by decide)).mono ?_
  rintro e w5 ⟨rfl, ρ5, h5, g5⟩
  rw [show kC.K.l.length = 1 by kernel_rfl]
  have H5 := hid (⟨h5, H4.out.2.next g5⟩ : StAt w5 ρ5 s A3 kD 4 ∧ _)
  clear h5 g5
  go_wp2_with fail
  refine (stbegin_any _ ρ5 s A3 kD 4 H5.out.1 (by rw [show kD.K.count = 1 by kernel_rfl]; decide) (by decide)).mono ?_
  rintro e w6 ⟨rfl, ρ6, h6, g6⟩
  rw [show kD.K.l.length = 2 by kernel_rfl]
  have H6 := hid (⟨h6, H5.out.2.next g6⟩ : StAt w6 ρ6 s A3 kE 5 ∧ _)
  clear h6 g6
  go_wp2_with fail
  refine (dropnode_ok _ ρ6 s A3 kE 5 H6.out.1 2 (by kernel_rfl) 0 NodeD.none kE_r (by rw [show kE.N.length = 1 by kernel_rfl]; decide) (by decide) kE_o kE_m kF 6 (by decide) g_f).mono ?_
  rintro e w7 ⟨rfl, ρ7, h7, g7⟩
  have H7 := hid (⟨h7, H6.out.2.next g7⟩ : _ ∧ _)
  clear h7 g7
  go_wp2_with fail
  refine (addedge_clash _ ρ7 s A3 kF 6 H7.out.1 3 1 1 ⟨#[101]⟩ 0 kF_l (fun u _ => isedge_ok u 1 1 ⟨#[101]⟩ (.float .f64 0) (by decide) (by decide) isnE (by decide) rfl (fun u => weight_zero u)) (by rw [kF_r]; rfl) (by rw [kF_r]; rfl) (by rw [show kF.E.length = 0 by kernel_rfl]; decide) kF_m kG 6 undo_known (by decide)).mono ?_
  rintro e w8 ⟨rfl, ρ8, h8, g8⟩
  have H8 := hid (⟨h8, H7.out.2.next g8⟩ : StAt w8 ρ8 s A3 kH _ ∧ _)
  clear h8 g8
  go_wp2_with (go_at_call 44; refine (stlive_any _ ρ8 s A3 kH _ H8.out.1).mono ?_; rintro e w9 ⟨rfl, f9⟩; rw [kH_c]; have F9 := hid (H8.out.2.fr.thenNo f9); clear f9)
  go_ret
  exact ⟨rfl, F9.out⟩
end Go.Proofs.YtfaapjcgmjjheaaGreatDoor
