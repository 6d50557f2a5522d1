/- A part of the proof: contracts of functions of the program, for the row's text. -/
import Derived.Test.YtibfpkfpmkghhaaGreatDoorJ16
namespace Go.Proofs.YtibfpkfpmkghhaaGreatDoor
open Go.RowKit Go.Lig

section
variable {w w' : World} {ρ : Nat → Option Pt} {s : Nat} {A : Ad} {M : PSt} {F F' : Nat} {T' : Nat → Prop}
/-- a node's turn -/
theorem StAt.node_ (h : StAt w ρ s A M F) {k : Nat} {L' : List (Ver NodeD)} (hk : k < M.N.length) (kc : NCell w' T' (At ρ .imm) (A.x k) L') (f : Fr (At ρ (.node k)) w w') (g : Grown w (At ρ (.node k)) T') (hF : F ≤ F') (hl : L'.length ≤ F') : TurnsA w ρ s A { M with N := M.N.set k L' } F' w' := by
  have t : Trn w w' ρ (.node k) T' := ⟨f, g, kc.bound⟩
  refine ⟨_, (h.more hF).upd t (by simp) (fun L hL => ?_) (fun q hq R hr => ?_), gone_turn t⟩
  · rw [show ({ M with N := M.N.set k L' } : PSt).N[k]? = some L' from List.getElem?_set_self hk] at hL
    obtain rfl := Option.some.inj hL
    exact ⟨kc, hl⟩
  · cases q with
    | nrow => exact ⟨by simpa using hr.1, hr.2.1, by simpa using hr.2.2⟩
    | erow => exact ⟨hr.1, by simpa using hr.2⟩
    | node i =>
      intro L hL
      have hne : k ≠ i := fun e => hq (by rw [e])
      rw [show ({ M with N := M.N.set k L' } : PSt).N[i]? = M.N[i]? from List.getElem?_set_ne hne] at hL
      exact hr L hL
    | _ => exact hr
theorem StAt.edge_ (h : StAt w ρ s A M F) {k : Nat} {L' : List (Ver EdgeV)} (hk : k < M.E.length) (kc : Ec.CellAt w' T' (A.z k) L') (f : Fr (At ρ (.edge k)) w w') (g : Grown w (At ρ (.edge k)) T') (hF : F ≤ F') (hl : L'.length ≤ F') : TurnsA w ρ s A { M with E := M.E.set k L' } F' w' := by
  have t : Trn w w' ρ (.edge k) T' := ⟨f, g, kc.bound⟩
  refine ⟨_, (h.more hF).upd t (by simp) (fun L hL => ?_) (fun q hq R hr => ?_), gone_turn t⟩
  · rw [show ({ M with E := M.E.set k L' } : PSt).E[k]? = some L' from List.getElem?_set_self hk] at hL
    obtain rfl := Option.some.inj hL
    exact ⟨kc, hl⟩
  · cases q with
    | edrow => exact ⟨by simpa using hr.1, hr.2.1, by simpa using hr.2.2⟩
    | enrow => exact ⟨hr.1, hr.2.1, by simpa using hr.2.2⟩
    | edge i =>
      intro L hL
      have hne : k ≠ i := fun e => hq (by rw [e])
      rw [show ({ M with E := M.E.set k L' } : PSt).E[i]? = M.E[i]? from List.getElem?_set_ne hne] at hL
      exact hr L hL
    | _ => exact hr
theorem StAt.out_ (h : StAt w ρ s A M F) {O' : List (Int × Int)} (kc : ChP w' T' A.o O' F') (f : Fr (At ρ .out) w w') (g : Grown w (At ρ .out) T') (hb : ∀ b, T' b → b < w'.heap.size) (hF : F ≤ F') : TurnsA w ρ s A { M with O := O' } F' w' := by
  have t : Trn w w' ρ .out T' := ⟨f, g, hb⟩
  refine ⟨_, (h.more hF).upd t (by simp) kc (fun q hq R hr => ?_), gone_turn t⟩
  cases q <;> first | exact hr | exact absurd rfl hq
theorem StAt.inn_ (h : StAt w ρ s A M F) {O' : List (Int × Int)} (kc : ChP w' T' A.i O' F') (f : Fr (At ρ .inn) w w') (g : Grown w (At ρ .inn) T') (hb : ∀ b, T' b → b < w'.heap.size) (hF : F ≤ F') : TurnsA w ρ s A { M with I := O' } F' w' := by
  have t : Trn w w' ρ .inn T' := ⟨f, g, hb⟩
  refine ⟨_, (h.more hF).upd t (by simp) kc (fun q hq R hr => ?_), gone_turn t⟩
  cases q <;> first | exact hr | exact absurd rfl hq
theorem Turns.then {M1 M2 : PSt} {F1 F2 : Nat} {w1 w2 : World} (t : Turns w ρ s M1 F1 w1) (h : ∀ ρ1 A1, StAt w1 ρ1 s A1 M1 F1 → Turns w1 ρ1 s M2 F2 w2) : Turns w ρ s M2 F2 w2 := by
  obtain ⟨ρ1, A1, h1, g1⟩ := t
  obtain ⟨ρ2, A2, h2, g2⟩ := h ρ1 A1 h1
  exact ⟨ρ2, A2, h2, g1.trans g2⟩
end
/-- behind a write of a node -/
def putM (M : PSt) (t : Int) (k : Nat) (d : NodeD) (g : Bool) : PSt := { M with N := M.N.set k (writeV M.K t d g (M.N[k]?.getD [])) }
set_option maxRecDepth 100000 in
set_option maxHeartbeats 4000000 in
theorem puts_any (w : World) (ρ : Nat → Option Pt) (s : Nat) (A : Ad) (M : PSt) (F : Nat) (h : StAt w ρ s A M F) (t : Int) (k : Nat) (hk : k < M.N.length) (la pa : Option Addr) (ln lc pn pc : Nat) (d : NodeD) (hd : NodeOf w (.slice la ln lc) (.slice pa pn pc) d) (hd1 : d.L.length ≤ 1000000) (hd2 : d.Q.length ≤ 1000000)
    (gone : Bool) (hF : F < 1000000) (M' : PSt) (F' : Nat) (hfind : FindsTo (putM M t k d gone) M' (F + 1) F' k) :
    Calls Tryz.prog 47 #[.pointer (some ⟨s, 0, none⟩), .int .i64 t, .int .i64 ((k : Int) + 1), .agg #[.slice la ln lc, .slice pa pn pc], .bool gone] w fun e w' => e = .returned (.tuple #[]) ∧ TurnsA w ρ s A M' F' w' := by
  have hb := heap1 w (.cells #[.slice la ln lc, .slice pa pn pc] 31)
  have hf : Fr No w (w.alloc (.cells #[.slice la ln lc, .slice pa pn pc] 31)) := (Fr.refl No w).alloc _
  obtain ⟨L, hL⟩ : ∃ L, M.N[k]? = some L := ⟨_, List.getElem?_eq_getElem hk⟩
  have HFi := hid hfind
  have HD := hid (⟨hd, hd1, hd2⟩ : _ ∧ _ ∧ _)
  clear hfind hd hd1 hd2
  go_enter Tryz.func47, Tryz.ntmps47
  go_wp2_with fail
  generalize w.alloc (.cells #[.slice la ln lc, .slice pa pn pc] 31) = w1 at *
  have h1 := h.frame hf
  obtain ⟨x0, -⟩ := h1.cells
  obtain ⟨c0, c1⟩ := cells2 hb
  have HH := hid (⟨h1, hf, hL, hk, hF⟩ : _ ∧ _ ∧ _ ∧ _ ∧ _)
  have HB := hid (⟨lt_of_block hb, h1.lt⟩ : w.heap.size < w1.heap.size ∧ s < w1.heap.size)
  clear h h1 hf hb hL hk hF
  refine wp_region_sched (by kernel_rfl) 11 [2, 9, 11] [0, 1, 3, 4, 5, 6, 7, 8, 10, 2, 9, 11] (AgC [w.heap.size, s] w1.drew) (by kernel_rfl) (AgC.refl _ _) ?_
  simp only [List.map_cons, List.map_nil, List.contains_cons, List.contains_nil, nth_zero, nth_succ, Nat.reduceBEq, Bool.or_false, Bool.or_true]
  repeat (refine sched_quiet (fun K hK => ?_); go_simp; refine hK _ ?_; clear hK K)
  refine sched_call (by first | rfl | go_simp) 51 #[.pointer (some ⟨s, 0, none⟩), .int .i64 ((k : Int) + 1)] (by first | kernel_rfl | go_simp) (node_any _ ρ s A M F (HH.out.1.frame (Fr.refl No w1).drew) _) ?_
  rintro e w2 ⟨rfl, rfl⟩
  refine ⟨_, rfl, AgC.refl _ _, ?_⟩
  rw [ndP_some A M k HH.out.2.2.2.1]
  repeat (refine sched_quiet (fun K hK => ?_); go_simp; refine hK _ ?_; clear hK K)
  refine sched_call (by first | rfl | go_simp) 70 #[.agg #[.slice la ln lc, .slice pa pn pc]] (by first | kernel_rfl | go_simp) (copied_any _ _ _ _ _ _ _ d (HD.out.1.frame HH.out.2.1.drew) HD.out.2.1 HD.out.2.2) ?_
  rintro e w3 ⟨la', ln', lc', pa', pn', pc', rfl, o3⟩
  refine ⟨_, rfl, (AgC.refl _ _).fr o3.l.fr (fun j hj => ⟨by rcases List.mem_cons.1 hj with rfl | hj; exact HB.out.1; rw [List.mem_singleton.1 hj]; exact HB.out.2, fun e => e⟩), ?_⟩
  have hni := o3.nodeIn HD.out.1.ok HD.out.1.ls HD.out.2
  have h3 := (HH.out.1.frame (Fr.refl No w1).drew).addImm o3.l.fr (J := fun b => w1.drew.heap.size ≤ b ∧ b < w3.heap.size) (fun b hb => hb)
  have g3 := (Gone.no (U := Go.Lig.Own ρ) HH.out.2.1.drew).trans (gone_imm (ρ := ρ) o3.l.fr (J := fun b => w1.drew.heap.size ≤ b ∧ b < w3.heap.size) (fun b hb => hb))
  have hi3 : ∀ b, (w1.drew.heap.size ≤ b ∧ b < w3.heap.size) → At (turn ρ .imm (fun b => At ρ .imm b ∨ (w1.drew.heap.size ≤ b ∧ b < w3.heap.size))) .imm b := fun b hb => by rw [at_turn_same]; exact .inr hb
  have hni3 := hni.mono hi3
  generalize turn ρ .imm (fun b => At ρ .imm b ∨ (w1.drew.heap.size ≤ b ∧ b < w3.heap.size)) = ρ3 at *
  obtain ⟨gk, hck, -⟩ := h3.clock.row
  have hc3 := h3.ncell HH.out.2.2.1
  have hL1 := (h3.at_ (.node k) L HH.out.2.2.1).2
  have H3 := hid (⟨h3, g3, hni3, hck, hc3, hL1⟩ : _ ∧ _ ∧ _ ∧ _ ∧ _ ∧ _)
  clear o3 hni h3 g3 hi3 hni3 hck hc3 hL1
  repeat (refine sched_quiet (fun K hK => ?_); go_simp; refine hK _ ?_; clear hK K)
  refine sched_callL (by first | rfl | go_simp) 108 #[.pointer (some ⟨A.x k, 0, none⟩), .pointer (some ⟨A.c, 0, none⟩), .int .i64 t, .agg #[.slice la' ln' lc', .slice pa' pn' pc'], .bool gone] (by first | kernel_rfl | go_simp) (H3.out.2.2.2.2.1.write A.c gk M.K H3.out.2.2.2.1 H3.out.1.clock.small.1 (by have := H3.out.2.2.2.2.2; have := HH.out.2.2.2.2; omega) t ⟨⟨la', ln', lc'⟩, ⟨pa', pn', pc'⟩⟩ d gone (at_apart (by simp)) H3.out.2.2.1) ?_
  rintro e w4 ⟨rfl, T', k4, f4, g4⟩
  refine ⟨_, rfl, ?_⟩
  have hM : putM M t k d gone = { M with N := M.N.set k (writeV M.K t d gone L) } := by unfold putM; rw [HH.out.2.2.1]; rfl
  have t4 := H3.out.1.node_ (F' := F + 1) HH.out.2.2.2.1 k4 f4 g4 (Nat.le_succ _) (Nat.le_trans (writeV_len _ _ _ _ _) (Nat.succ_le_succ H3.out.2.2.2.2.2))
  rw [← hM] at t4
  have T4 := hid t4
  clear k4 f4 g4 hM t4
  refine sched_nil ?_
  obtain ⟨ρ4, h4, g4⟩ := T4.out
  have G4 := hid (H3.out.2.1.trans g4)
  have H4 := hid h4
  clear h4 g4
  go_wp2_with (go_at_call 59; refine (HFi.out w4 ρ4 s A H4.out).mono ?_; rintro e w5 ⟨rfl, h5⟩; have H5 := hid h5; clear h5)
  go_end0
  obtain ⟨ρ5, h5, g5⟩ := H5.out
  exact ⟨rfl, ρ5, h5, G4.out.trans g5⟩
end Go.Proofs.YtibfpkfpmkghhaaGreatDoor

namespace Go.Proofs.YtibfpkfpmkghhaaGreatDoor
open Go.RowKit Go.Lig

theorem own_turn_or {ρ : Nat → Option Pt} {p : Pt} {T : Nat → Prop} {b : Nat} (h : Go.Lig.Own (turn ρ p T) b) : T b ∨ Go.Lig.Own ρ b := by
  unfold Go.Lig.Own turn at h
  by_cases h1 : T b
  · exact .inl h1
  · rw [if_neg h1] at h
    split at h
    · exact absurd rfl h
    · exact .inr h
/-- what is written when a row grows twice -/
def Gs (s : Nat) (va vb : Value) : Nat → Prop := fun k => k = s ∨ va.ownBlock = some k ∨ vb.ownBlock = some k
structure Grow (w w1 w7 : World) (ρ ρ' : Nat → Option Pt) (s c : Nat) (pa pb pn : Pt) (va vb v3 v6 : Value) : Prop where
  bound : ∀ b, ρ' b ≠ none → b < w7.heap.size
  other : ∀ q : Pt, q ≠ pa → q ≠ pb → q ≠ pn → At ρ' q = At ρ q
  ra : At ρ' pa = fun k => v3.ownBlock = some k
  rb : At ρ' pb = fun k => v6.ownBlock = some k
  rn : At ρ' pn = fun b => b = c
  gone : Gone (Go.Lig.Own ρ) w (Go.Lig.Own ρ') w7
  fr : Fr (Gs s va vb) w w7
  fr1 : Fr (Gs s va vb) w1 w7
  nc : ¬ Gs s va vb c
  apart : ∀ q : Pt, q ≠ .root → q ≠ pa → q ≠ pb → ∀ b, At ρ q b → ¬ Gs s va vb b
theorem grow_raw {w w1 w2 w3 w4 w5 w6 w7 : World} {ρ : Nat → Option Pt} {s : Nat} {A : Ad} {M : PSt} {F : Nat} (h : StAt w ρ s A M F) (hroot : At ρ .root s) (pa pb pn : Pt) (h1 : pa ≠ .root) (h2 : pb ≠ .root) (h4 : pa ≠ pb) (h5 : pn ≠ pa) (h6 : pn ≠ pb)
    {va vb v3 v6 : Value} (hva : ∀ k, va.ownBlock = some k → At ρ pa k) (hvb : ∀ k, vb.ownBlock = some k → At ρ pb k) {c : Nat} (f1 : Fr No w w1) (hc : w.heap.size ≤ c) (hcl : c < w1.heap.size) (f2 : Fr No w1 w2)
    {e3 : TypeId} {z3 n3 : Nat} {xs3 : List Value} (o3 : w3.ownsRow 0 e3 z3 v3 n3 xs3) (f3 : Fr (fun k => va.ownBlock = some k) w2 w3) (b3 : ∀ k, v3.ownBlock = some k → va.ownBlock = some k ∨ w2.heap.size ≤ k)
    {cs4 cs7 : Array Value} {ts : TypeId} (q4 : Put s cs4 ts w3 w4) (f5 : Fr No w4 w5)
    {e6 : TypeId} {z6 n6 : Nat} {xs6 : List Value} (o6 : w6.ownsRow 0 e6 z6 v6 n6 xs6) (f6 : Fr (fun k => vb.ownBlock = some k) w5 w6) (b6 : ∀ k, v6.ownBlock = some k → vb.ownBlock = some k ∨ w5.heap.size ≤ k) (q7 : Put s cs7 ts w6 w7) :
    ∃ ρ', Grow w w1 w7 ρ ρ' s c pa pb pn va vb v3 v6 ∧ w7.ownsRow 0 e3 z3 v3 n3 xs3 ∧ w7.ownsRow 0 e6 z6 v6 n6 xs6 := by
  have z2 := f2.size
  have z3' := f3.size
  have z4 := q4.fr.size
  have z5 := f5.size
  have z6' := f6.size
  have z7 := q7.fr.size
  have z1 := f1.size
  have hsl := h.rho hroot
  let T1 : Nat → Prop := fun b => b = c
  let T2 : Nat → Prop := fun k => v3.ownBlock = some k
  let T3 : Nat → Prop := fun k => v6.ownBlock = some k
  have hnl : ∀ k, va.ownBlock = some k → k < w.heap.size := fun k hk => h.rho (hva k hk)
  have hel : ∀ k, vb.ownBlock = some k → k < w.heap.size := fun k hk => h.rho (hvb k hk)
  have g1 : Grown w (At ρ pn) T1 := fun b hb => .inr (by have : b = c := hb; omega)
  have bd1 : ∀ b, turn ρ pn T1 b ≠ none → b < w2.heap.size := bound_turn h.bound (by omega) (fun b hb => by have : b = c := hb; omega)
  have a1 : ∀ q : Pt, q ≠ pn → At (turn ρ pn T1) q = At ρ q := fun q hq => at_turn_other hq g1 h.bound
  have g2 : Grown w2 (At (turn ρ pn T1) pa) T2 := fun b hb => by
    rw [a1 pa (fun e => h5 e.symm)]
    exact (b3 b hb).imp (hva b) id
  have bd2 : ∀ b, turn (turn ρ pn T1) pa T2 b ≠ none → b < w5.heap.size := bound_turn bd1 (by omega) (fun b hb => by have := (o3.lt b hb).2; omega)
  have a2 : ∀ q : Pt, q ≠ pa → At (turn (turn ρ pn T1) pa T2) q = At (turn ρ pn T1) q := fun q hq => at_turn_other hq g2 bd1
  have g3 : Grown w5 (At (turn (turn ρ pn T1) pa T2) pb) T3 := fun b hb => by
    rw [a2 pb (fun e => h4 e.symm), a1 pb (fun e => h6 e.symm)]
    exact (b6 b hb).imp (hvb b) id
  have bd3 : ∀ b, turn (turn (turn ρ pn T1) pa T2) pb T3 b ≠ none → b < w7.heap.size := bound_turn bd2 (by omega) (fun b hb => by have := (o6.lt b hb).2; omega)
  have a3 : ∀ q : Pt, q ≠ pb → At (turn (turn (turn ρ pn T1) pa T2) pb T3) q = At (turn (turn ρ pn T1) pa T2) q := fun q hq => at_turn_other hq g3 bd2
  have fS : ∀ {a b : World}, Fr No a b → Fr (Gs s va vb) a b := fun f => f.mono (fun _ _ e => e.elim)
  have fr1 : Fr (Gs s va vb) w1 w7 := (((((fS f2).thenS (f3.mono (fun k _ e => .inr (.inl e)))).thenS (q4.fr.mono (fun k _ e => .inl e))).thenS (fS f5)).thenS (f6.mono (fun k _ e => .inr (.inr e)))).thenS (q7.fr.mono (fun k _ e => .inl e))
  have hap : ∀ q : Pt, q ≠ .root → q ≠ pa → q ≠ pb → ∀ b, At ρ q b → ¬ Gs s va vb b := fun q e1 e2 e3 b hb hs' => by
    rcases hs' with rfl | hs' | hs'
    · exact at_apart e1 b hb hroot
    · exact at_apart e2 b hb (hva b hs')
    · exact at_apart e3 b hb (hvb b hs')
  have hsn : ∀ k, T2 k → k ≠ s := fun k hk e => by
    subst e
    rcases b3 k hk with e | e
    · exact at_apart (p := pa) (q := Pt.root) (fun e => h1 e.symm) k hroot (hva k e)
    · omega
  have hse : ∀ k, T3 k → k ≠ s := fun k hk e => by
    subst e
    rcases b6 k hk with e | e
    · exact at_apart (p := pb) (q := Pt.root) (fun e => h2 e.symm) k hroot (hvb k e)
    · omega
  have hne : ∀ k, T2 k → ¬ vb.ownBlock = some k := fun k hk e => by
    rcases b3 k hk with e1 | e1
    · exact at_apart h4 k (hva k e1) (hvb k e)
    · have := hel k e; omega
  refine ⟨turn (turn (turn ρ pn T1) pa T2) pb T3, ⟨bd3, fun q e1 e2 e3 => by rw [a3 q e2, a2 q e1, a1 q e3], by rw [a3 pa h4, at_turn_same], at_turn_same _ _ _, by rw [a3 pn h6, a2 pn h5, at_turn_same], ⟨((fS f1).thenS fr1).mono (fun k _ e => ?_), fun b hb => ?_⟩, (fS f1).thenS fr1, fr1, fun e => ?_, hap⟩, ?_, ?_⟩
  · rcases e with rfl | e | e
    · exact at_own _ hroot
    · exact at_own _ (hva k e)
    · exact at_own _ (hvb k e)
  · rcases own_turn_or hb with e3 | hb3
    · rcases b6 b e3 with e | e
      · exact .inl (at_own _ (hvb b e))
      · exact .inr (by omega)
    · rcases own_turn_or hb3 with e2 | hb2
      · rcases b3 b e2 with e | e
        · exact .inl (at_own _ (hva b e))
        · exact .inr (by omega)
      · rcases own_turn_or hb2 with e1 | hb1
        · exact .inr (by have : b = c := e1; omega)
        · exact .inl hb1
  · rcases e with rfl | e | e
    · omega
    · have := hnl c e; omega
    · have := hel c e; omega
  · exact q7.fr.owns (f6.owns (f5.owns (q4.fr.owns o3 (fun k hk => hsn k hk)) (fun _ _ e => e)) hne) (fun k hk => hsn k hk)
  · exact q7.fr.owns o6 (fun k hk => hse k hk)
def growN (M : PSt) : PSt := { M with N := M.N ++ [[]], Y := M.Y ++ [[]] }
def growE (M : PSt) : PSt := { M with E := M.E ++ [[]], D := M.D ++ [(0, 0)] }
theorem ptrs_grow (x : Nat → Nat) (n c : Nat) : ptrs (fun i => if i = n then c else x i) (n + 1) = ptrs x n ++ [.pointer (some ⟨c, 0, none⟩)] := by
  rw [ptrs_succ]
  simp only [if_true]
  congr 1
  unfold ptrs
  refine List.map_congr_left (fun i hi => ?_)
  have hi' : ¬ i = n := by have := List.mem_range.1 hi; omega
  simp only [if_neg hi']
theorem get_snoc {α : Type} {l : List α} {x y : α} {j : Nat} (h : (l ++ [x])[j]? = some y) : l[j]? = some y ∨ (j = l.length ∧ y = x) := by
  by_cases hj : j < l.length
  · rw [List.getElem?_append_left hj] at h
    exact .inl h
  · rw [List.getElem?_append_right (by omega)] at h
    have : j - l.length = 0 := by
      rcases Nat.eq_zero_or_pos (j - l.length) with e | e
      · exact e
      · rw [List.getElem?_eq_none (by simp; omega)] at h; cases h
    rw [this] at h
    exact .inr ⟨by omega, by simpa using h.symm⟩
theorem growN_at {w w1 w7 : World} {ρ ρ' : Nat → Option Pt} {s c : Nat} {A : Ad} {M : PSt} {F : Nat} {v3 v6 : Value} {hs : List Value} (h : StAt w ρ s A M F) (g : Grow w w1 w7 ρ ρ' s c .nrow .erow (.node M.N.length) A.nv A.ev v3 v6) (hlt : M.N.length < 1000)
    (k1 : NCell w1 (fun b => b = c) No c []) (o7 : w7.ownsRow 0 92 1 v3 (M.N.length + 1) (ptrs A.x M.N.length ++ [.pointer (some ⟨c, 0, none⟩)])) (o8 : w7.ownsRow 0 165 1 v6 (M.Y.length + 1) (hs ++ [.slice none 0 0]))
    (hh : hs.length = M.Y.length ∧ ∀ (i : Nat) (hv : Value) (l : List IxR), hs[i]? = some hv → M.Y[i]? = some l → RdI w (At ρ .imm) hv l.length 7 (l.flatMap ixcell)) (hr : w7.heap[s]? = some (.cells (rootCells { A with nv := v3, ev := v6 }) 80 (0, 0))) :
    StAt w7 ρ' s { A with nv := v3, ev := v6, x := fun i => if i = M.N.length then c else A.x i } (growN M) F := by
  have him : At ρ' .imm = At ρ .imm := g.other _ (by simp) (by simp) (by simp)
  have fi : ∀ b, At ρ .imm b → ¬ Gs s A.nv A.ev b := g.apart .imm (by simp) (by simp) (by simp)
  have old : ∀ q : Pt, q ≠ .root → q ≠ .nrow → q ≠ .erow → PartAt w7 (At ρ q) (At ρ .imm) s A M F q := fun q e1 e2 e3 => (h.at_ q).frame g.fr (g.apart q e1 e2 e3) fi
  refine ⟨g.bound, fun q => ?_⟩
  rw [him]
  cases q with
  | root => rw [g.other .root (by simp) (by simp) (by simp)]; exact ⟨(h.at_ .root).1, hr⟩
  | nrow =>
    rw [g.ra]
    refine ⟨?_, fun k hk => hk, ?_⟩
    · rw [show (growN M).N.length = M.N.length + 1 by simp [growN], ptrs_grow]
      exact o7
    · simp [growN]; omega
  | erow =>
    rw [g.rb]
    refine ⟨⟨⟨hs ++ [.slice none 0 0], by simp [growN, hh.1], by simpa [growN] using o8, fun i hv l e1 e2 => ?_⟩, fun k hk => hk, fun l hl y hy => ?_⟩, ?_⟩
    · rcases get_snoc (show (M.Y ++ [[]])[i]? = some l from e2) with e3 | ⟨e3, rfl⟩
      · have hi := (List.getElem?_eq_some_iff.1 e3).1
        rw [List.getElem?_append_left (by rw [hh.1]; exact hi)] at e1
        exact (hh.2 i hv l e1 e3).frame g.fr fi
      · rcases get_snoc e1 with e4 | ⟨e4, rfl⟩
        · have := (List.getElem?_eq_some_iff.1 e4).1
          have := hh.1
          omega
        · exact RdI.nil _ _ _
    · rcases List.mem_append.1 (show l ∈ M.Y ++ [[]] from hl) with e | e
      · exact (h.at_ .erow).1.one l e y hy
      · rw [List.mem_singleton.1 e] at hy; cases hy
    · have := (h.at_ .erow).2
      simp [growN, this]
  | node i =>
    intro L hL
    rcases get_snoc (show (M.N ++ [[]])[i]? = some L from hL) with e | ⟨rfl, rfl⟩
    · have hi := (List.getElem?_eq_some_iff.1 e).1
      have hne : Pt.node i ≠ .node M.N.length := fun e' => by injection e' with e'; omega
      rw [g.other _ (by simp) (by simp) hne]
      have := old (.node i) (by simp) (by simp) (by simp) L e
      simp only [show ¬ i = M.N.length by omega, if_false]
      exact this
    · rw [g.rn]
      simp only [if_true]
      exact ⟨(k1.frame g.fr1 (fun k hk => by subst hk; exact g.nc) (fun _ e => e.elim)).mono (fun _ e => e.elim), Nat.zero_le _⟩
  | clock => rw [g.other _ (by simp) (by simp) (by simp)]; exact old .clock (by simp) (by simp) (by simp)
  | edrow => rw [g.other _ (by simp) (by simp) (by simp)]; exact old .edrow (by simp) (by simp) (by simp)
  | enrow => rw [g.other _ (by simp) (by simp) (by simp)]; exact old .enrow (by simp) (by simp) (by simp)
  | out => rw [g.other _ (by simp) (by simp) (by simp)]; exact old .out (by simp) (by simp) (by simp)
  | inn => rw [g.other _ (by simp) (by simp) (by simp)]; exact old .inn (by simp) (by simp) (by simp)
  | index => rw [g.other _ (by simp) (by simp) (by simp)]; exact old .index (by simp) (by simp) (by simp)
  | imm => trivial
  | edge i => rw [g.other _ (by simp) (by simp) (by simp)]; exact old (.edge i) (by simp) (by simp) (by simp)
theorem growE_at {w w1 w7 : World} {ρ ρ' : Nat → Option Pt} {s c : Nat} {A : Ad} {M : PSt} {F : Nat} {v3 v6 : Value} (h : StAt w ρ s A M F) (g : Grow w w1 w7 ρ ρ' s c .edrow .enrow (.edge M.E.length) A.dv A.fv v3 v6) (hlt : M.E.length < 1000)
    (k1 : Ec.CellAt w1 (fun b => b = c) c []) (o7 : w7.ownsRow 0 100 1 v3 (M.E.length + 1) (ptrs A.z M.E.length ++ [.pointer (some ⟨c, 0, none⟩)])) (o8 : w7.ownsRow 0 181 2 v6 (M.D.length + 1) (ecells M.D ++ [.int .i64 0, .int .i64 0]))
    (hr : w7.heap[s]? = some (.cells (rootCells { A with dv := v3, fv := v6 }) 80 (0, 0))) :
    StAt w7 ρ' s { A with dv := v3, fv := v6, z := fun i => if i = M.E.length then c else A.z i } (growE M) F := by
  have him : At ρ' .imm = At ρ .imm := g.other _ (by simp) (by simp) (by simp)
  have fi : ∀ b, At ρ .imm b → ¬ Gs s A.dv A.fv b := g.apart .imm (by simp) (by simp) (by simp)
  have old : ∀ q : Pt, q ≠ .root → q ≠ .edrow → q ≠ .enrow → PartAt w7 (At ρ q) (At ρ .imm) s A M F q := fun q e1 e2 e3 => (h.at_ q).frame g.fr (g.apart q e1 e2 e3) fi
  refine ⟨g.bound, fun q => ?_⟩
  rw [him]
  cases q with
  | root => rw [g.other .root (by simp) (by simp) (by simp)]; exact ⟨(h.at_ .root).1, hr⟩
  | edrow =>
    rw [g.ra]
    refine ⟨?_, fun k hk => hk, ?_⟩
    · rw [show (growE M).E.length = M.E.length + 1 by simp [growE], ptrs_grow]
      exact o7
    · simp [growE]; omega
  | enrow =>
    rw [g.rb]
    refine ⟨?_, fun k hk => hk, ?_⟩
    · have e : ecells (growE M).D = ecells M.D ++ [.int .i64 0, .int .i64 0] := by simp [growE, ecells]
      rw [e, show (growE M).D.length = M.D.length + 1 by simp [growE]]
      exact o8
    · have := (h.at_ .enrow).2.2
      refine ⟨by simp [growE, this.1], fun p hp => ?_⟩
      rcases List.mem_append.1 (show p ∈ M.D ++ [(0, 0)] from hp) with e | e
      · exact this.2 p e
      · rw [List.mem_singleton.1 e]
        exact ⟨by show (Lit.int .i64 0).wf = true; decide, by show (Lit.int .i64 0).wf = true; decide⟩
  | edge i =>
    intro L hL
    rcases get_snoc (show (M.E ++ [[]])[i]? = some L from hL) with e | ⟨rfl, rfl⟩
    · have hi := (List.getElem?_eq_some_iff.1 e).1
      have hne : Pt.edge i ≠ .edge M.E.length := fun e' => by injection e' with e'; omega
      rw [g.other _ (by simp) (by simp) hne]
      have := old (.edge i) (by simp) (by simp) (by simp) L e
      simp only [show ¬ i = M.E.length by omega, if_false]
      exact this
    · rw [g.rn]
      simp only [if_true]
      exact ⟨k1.frame g.fr1 (fun k hk => by subst hk; exact g.nc), Nat.zero_le _⟩
  | clock => rw [g.other _ (by simp) (by simp) (by simp)]; exact old .clock (by simp) (by simp) (by simp)
  | nrow => rw [g.other _ (by simp) (by simp) (by simp)]; exact old .nrow (by simp) (by simp) (by simp)
  | erow => rw [g.other _ (by simp) (by simp) (by simp)]; exact old .erow (by simp) (by simp) (by simp)
  | out => rw [g.other _ (by simp) (by simp) (by simp)]; exact old .out (by simp) (by simp) (by simp)
  | inn => rw [g.other _ (by simp) (by simp) (by simp)]; exact old .inn (by simp) (by simp) (by simp)
  | index => rw [g.other _ (by simp) (by simp) (by simp)]; exact old .index (by simp) (by simp) (by simp)
  | imm => trivial
  | node i => rw [g.other _ (by simp) (by simp) (by simp)]; exact old (.node i) (by simp) (by simp) (by simp)
end Go.Proofs.YtibfpkfpmkghhaaGreatDoor
