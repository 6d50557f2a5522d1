/- The plain store as the laws use it; known. -/
import Derived.Test.YtofjbigojbnmfaaGreatDoorStL
namespace Go.Proofs.YtofjbigojbnmfaaGreatDoor
open Go.RowKit Go.Lig

/-- a store of the law's own, of blocks that are not W's -/
structure SW (W w : World) (s : Nat) (M : PSt) : Prop where
  ex : ∃ ρ A, StAt w ρ s A M ∧ ∀ b, ρ b ≠ none → W.heap.size ≤ b
  fr : Fr No W w
theorem SW.of {W w w' : World} {s : Nat} {M' : PSt} {ρ ρ' : Nat → Option Pt} {A' : Ad} (h : StAt w' ρ' s A' M') (g : Gone (Go.Lig.Own ρ) w (Go.Lig.Own ρ') w') (hb : ∀ b, ρ b ≠ none → W.heap.size ≤ b) (hf : Fr No W w) : SW W w' s M' := by
  refine ⟨⟨ρ', A', h, fun b hb' => ?_⟩, hf.trans g.fr (fun k hk e => ?_)⟩
  · rcases g.gr b hb' with h1 | h1
    · exact hb b h1
    · have := hf.size
      omega
  · have := hb k e
    omega
theorem SW.next {W w w' : World} {s : Nat} {M : PSt} (h : SW W w s M) (f : Fr No w w') : SW W w' s M := by
  obtain ⟨ρ, A, h1, h2⟩ := h.ex
  exact ⟨⟨ρ, A, h1.frame f, h2⟩, h.fr.thenNo f⟩
section
variable {W w : World} {s : Nat} {M : PSt}
theorem new_sw (hf : Fr No W w) : Calls Tryz.prog 5 #[] w fun e w' => ∃ s, e = .returned (.pointer (some ⟨s, 0, none⟩)) ∧ SW W w' s ⟨⟨[], 0⟩, []⟩ := by
  refine (stnew_any w).mono ?_
  rintro e w' ⟨s, ρ, A, rfl, h, f, hb⟩
  exact ⟨s, rfl, ⟨ρ, A, h, fun b h1 => Nat.le_trans hf.size (hb b h1)⟩, hf.thenNo f⟩
theorem begin_sw (h : SW W w s M) (hc : M.K.count < 4) (hs : M.K.l.length < 1000000) :
    Calls Tryz.prog 6 #[.pointer (some ⟨s, 0, none⟩)] w fun e w' => e = .returned (.tuple #[.int .i64 ((M.K.l.length + 1 : Nat) : Int), .int .i64 0]) ∧ SW W w' s { M with K := M.K.begins } := by
  obtain ⟨ρ, A, h1, h2⟩ := h.ex
  refine (stbegin_any w ρ s A M h1 hc hs).mono ?_
  rintro e w' ⟨rfl, ρ', h', g⟩
  exact ⟨rfl, SW.of h' g h2 h.fr⟩
theorem commit_sw (h : SW W w s M) (t : Int) (hl : M.K.live t = true) (hc : M.K.commits < 1000000) :
    Calls Tryz.prog 8 #[.pointer (some ⟨s, 0, none⟩), .int .i64 t] w fun e w' => e = .returned (.int .i64 0) ∧ SW W w' s { M with K := M.K.commit t } := by
  obtain ⟨ρ, A, h1, h2⟩ := h.ex
  refine (stcommit_any w ρ s A M h1 t hl hc).mono ?_
  rintro e w' ⟨rfl, ρ', h', g⟩
  exact ⟨rfl, SW.of h' g h2 h.fr⟩
theorem abort_sw (h : SW W w s M) (t : Int) (hl : M.K.live t = true) :
    Calls Tryz.prog 9 #[.pointer (some ⟨s, 0, none⟩), .int .i64 t] w fun e w' => e = .returned (.int .i64 0) ∧ SW W w' s (abortM t M) := by
  obtain ⟨ρ, A, h1, h2⟩ := h.ex
  refine (stabort_any w ρ s A M h1 t hl).mono ?_
  rintro e w' ⟨rfl, ρ', h', g⟩
  exact ⟨rfl, SW.of h' g h2 h.fr⟩
theorem live_sw (h : SW W w s M) :
    Calls Tryz.prog 29 #[.pointer (some ⟨s, 0, none⟩)] w fun e w' => e = .returned (.int .i64 (M.K.count : Int)) ∧ Fr No w w' := by
  obtain ⟨ρ, A, h1, h2⟩ := h.ex
  exact stlive_any w ρ s A M h1
theorem add_sw (h : SW W w s M) (t : Int) (hl : M.K.live t = true) (hf : M.N.length < 24) :
    Calls Tryz.prog 7 #[.pointer (some ⟨s, 0, none⟩), .int .i64 t, .agg #[.slice none 0 0, .slice none 0 0]] w fun e w' => e = .returned (.tuple #[.int .i64 ((M.N.length : Int) + 1), .int .i64 0]) ∧ SW W w' s (putM (growM M) t M.N.length false) := by
  obtain ⟨ρ, A, h1, h2⟩ := h.ex
  refine (addnode_ok w ρ s A M h1 t hl hf).mono ?_
  rintro e w' ⟨rfl, ρ', A', h', g⟩
  exact ⟨rfl, SW.of h' g h2 h.fr⟩
theorem full_sw (h : SW W w s M) (t : Int) (hl : M.K.live t = true) (hf : 24 ≤ M.N.length) :
    Calls Tryz.prog 7 #[.pointer (some ⟨s, 0, none⟩), .int .i64 t, .agg #[.slice none 0 0, .slice none 0 0]] w fun e w' => e = .returned (.tuple #[.int .i64 0, .int .i64 3]) ∧ Fr No w w' := by
  obtain ⟨ρ, A, h1, h2⟩ := h.ex
  exact addnode_full w ρ s A M h1 t hl hf
theorem drop_sw (h : SW W w s M) (t : Int) (k : Nat) (hk : k < M.N.length) (hl : M.K.live t = true) (hr : rdB M t ((k : Int) + 1) = true) (hc : clB M t ((k : Int) + 1) = false) (hL1 : (M.N[k]?.getD []).length < 1000000) :
    Calls Tryz.prog 19 #[.pointer (some ⟨s, 0, none⟩), .int .i64 t, .int .i64 ((k : Int) + 1)] w fun e w' => e = .returned (.int .i64 0) ∧ SW W w' s (putM M t k true) := by
  obtain ⟨ρ, A, h1, h2⟩ := h.ex
  refine (dropnode_ok w ρ s A M h1 t k hk hl hr hc hL1).mono ?_
  rintro e w' ⟨rfl, ρ', h', g⟩
  exact ⟨rfl, SW.of h' g h2 h.fr⟩
theorem clash_sw (h : SW W w s M) (t : Int) (k : Nat) (hk : k < M.N.length) (hk24 : k < 24) (hl : M.K.live t = true) (hr : rdB M t ((k : Int) + 1) = true) (hc : clB M t ((k : Int) + 1) = true) (c : ByteArray) (hn : isNameB c = true) (hcl : c.size ≤ 9223372036854775807) :
    Calls Tryz.prog 13 #[.pointer (some ⟨s, 0, none⟩), .int .i64 t, .agg #[.int .i64 ((k : Int) + 1), .int .i64 ((k : Int) + 1), .string c, .float FloatKind.f64 0]] w fun e w' => e = .returned (.tuple #[.int .i64 0, .int .i64 6]) ∧ SW W w' s (abortM t M) := by
  obtain ⟨ρ, A, h1, h2⟩ := h.ex
  refine (addedge_clash w ρ s A M h1 t k hk hk24 hl hr hc c hn hcl).mono ?_
  rintro e w' ⟨rfl, ρ', h', g⟩
  exact ⟨rfl, SW.of h' g h2 h.fr⟩
end
def kM0 : PSt := ⟨⟨[], 0⟩, []⟩
def kM1 : PSt := { kM0 with K := kM0.K.begins }
def kM2 : PSt := putM (growM kM1) 1 0 false
def kM3 : PSt := { kM2 with K := kM2.K.commit 1 }
def kM4 : PSt := { kM3 with K := kM3.K.begins }
def kM5 : PSt := { kM4 with K := kM4.K.begins }
def kM6 : PSt := putM kM5 2 0 true
def kM7 : PSt := abortM 3 kM6
set_option maxRecDepth 100000 in
theorem known_any (w : World) : Calls Tryz.prog 11 #[] w fun e w' => e = .returned (.bool true) ∧ Fr No w w' := by
  go_enter Tryz.func11, Tryz.ntmps11
  go_wp2_with (first
    | (go_at_call 5; refine (new_sw (Fr.refl No w)).mono ?_; rintro e w0 ⟨s, rfl, h0⟩; have H0 := hid (show SW w w0 s kM0 from h0); clear h0)
    | (go_at_call 6; refine (begin_sw H0.out (by decide) (by decide)).mono ?_; rintro e w1 ⟨rfl, h1⟩; have H1 := hid (show SW w w1 s kM1 from h1); clear h1; rw [show ((kM0.K.l.length + 1 : Nat) : Int) = 1 from rfl])
    | (go_at_call 7; refine (add_sw H1.out 1 (by decide) (by decide)).mono ?_; rintro e w2 ⟨rfl, h2⟩; have H2 := hid (show SW w w2 s kM2 from h2); clear h2; rw [show ((kM1.N.length : Int) + 1) = 1 from rfl])
    | (go_at_call 8; refine (commit_sw H2.out 1 (by decide) (by decide)).mono ?_; rintro e w3 ⟨rfl, h3⟩; have H3 := hid (show SW w w3 s kM3 from h3); clear h3)
    | (go_at_call 6; refine (begin_sw H3.out (by decide) (by decide)).mono ?_; rintro e w4 ⟨rfl, h4⟩; have H4 := hid (show SW w w4 s kM4 from h4); clear h4; rw [show ((kM3.K.l.length + 1 : Nat) : Int) = 2 from rfl])
    | (go_at_call 6; refine (begin_sw H4.out (by decide) (by decide)).mono ?_; rintro e w5 ⟨rfl, h5⟩; have H5 := hid (show SW w w5 s kM5 from h5); clear h5; rw [show ((kM4.K.l.length + 1 : Nat) : Int) = 3 from rfl])
    | (go_at_call 19; refine (drop_sw H5.out 2 0 (by decide) (by decide) (by decide) (by decide) (by decide)).mono ?_; rintro e w6 ⟨rfl, h6⟩; have H6 := hid (show SW w w6 s kM6 from h6); clear h6)
    | (go_at_call 13; refine (clash_sw H6.out 3 0 (by decide) (by decide) (by decide) (by decide) (by decide) ⟨#[101]⟩ (by decide) (by decide)).mono ?_; rintro e w7 ⟨rfl, h7⟩; have H7 := hid (show SW w w7 s kM7 from h7); clear h7)
    | (go_at_call 29; refine (live_sw H7.out).mono ?_; rintro e w8 ⟨rfl, f8⟩; have F8 := hid (H7.out.fr.thenNo f8); clear f8; rw [show ((kM7.K.count : Nat) : Int) = 1 from rfl]))
  go_ret
  exact ⟨rfl, F8.out⟩
end Go.Proofs.YtofjbigojbnmfaaGreatDoor
