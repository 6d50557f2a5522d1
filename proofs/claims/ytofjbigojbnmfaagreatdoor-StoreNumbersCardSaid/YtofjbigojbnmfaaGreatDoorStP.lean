/- The walk of StoreNumbers. -/
import Derived.Test.YtofjbigojbnmfaaGreatDoorStO
namespace Go.Proofs.YtofjbigojbnmfaaGreatDoor
open Go.RowKit Go.Lig

theorem keep_cell {w : World} {kv : Value} {keep : List Bool} (hk : Rd w kv keep.length 1 (keep.map Value.bool)) {k : Nat} {kb : Bool} (hkb : keep[k]? = some kb) :
    ∃ ka ko cc, kv = .slice (some ⟨ka, ko, none⟩) keep.length cc ∧ ∀ w', Fr No w w' → w'.cell? ⟨ka, ko + k, none⟩ = some (.bool kb) := hk.at1 (by simp [hkb])
section
variable {W w : World} {s : Nat} {M : PSt}
theorem nodes_sw (h : SW W w s M) (t : Int) (hl : M.K.live t = true) :
    Calls Tryz.prog 10 #[.pointer (some ⟨s, 0, none⟩), .int .i64 t] w fun e w' => ∃ v, e = .returned v ∧ OwnI w w' v (ndsTo M t M.N.length) := by
  obtain ⟨ρ, A, h1, h2⟩ := h.ex
  exact nodes_any w ρ s A M h1 t hl
/-- Begin, AddNode in one round -/
theorem round_begin {p : List Bool} (h : SW W w s M) (hp : NInv p M) (hs : p.length ≤ 40) :
    Calls Tryz.prog 6 #[.pointer (some ⟨s, 0, none⟩)] w fun e w' => e = .returned (.tuple #[.int .i64 ((p.length : Int) + 1), .int .i64 0]) ∧ SW W w' s { M with K := M.K.begins } := by
  have hlen := hp.len
  have h1 := begin_sw h (by rw [hp.count]; decide) (by omega)
  rw [hlen] at h1
  exact h1
theorem round_add {p : List Bool} (h : SW W w s { M with K := M.K.begins }) (hp : NInv p M) (hi : p.length < 24) :
    Calls Tryz.prog 7 #[.pointer (some ⟨s, 0, none⟩), .int .i64 ((p.length : Int) + 1), .agg #[.slice none 0 0, .slice none 0 0]] w fun e w' => e = .returned (.tuple #[.int .i64 ((p.length : Int) + 1), .int .i64 0]) ∧ SW W w' s (addM { M with K := M.K.begins } ((p.length : Int) + 1)) := by
  have hn := hp.nl
  have hlen := hp.len
  have hN : M.N.length = p.length := by omega
  have hlive := begins_live M.K
  rw [hlen] at hlive
  have h1 := add_sw h ((p.length : Int) + 1) hlive (by simp only; omega)
  have e : addM { M with K := M.K.begins } ((p.length : Int) + 1) = putM (growM { M with K := M.K.begins }) ((p.length : Int) + 1) M.N.length false := if_pos (by simp only; omega)
  rw [e]
  simp only [hN] at h1 ⊢
  exact h1
theorem round_full {p : List Bool} (h : SW W w s { M with K := M.K.begins }) (hp : NInv p M) (hi : 24 ≤ p.length) :
    Calls Tryz.prog 7 #[.pointer (some ⟨s, 0, none⟩), .int .i64 ((p.length : Int) + 1), .agg #[.slice none 0 0, .slice none 0 0]] w fun e w' => e = .returned (.tuple #[.int .i64 0, .int .i64 3]) ∧ SW W w' s (addM { M with K := M.K.begins } ((p.length : Int) + 1)) := by
  have hn := hp.nl
  have hlen := hp.len
  have hlive := begins_live M.K
  rw [hlen] at hlive
  have e : addM { M with K := M.K.begins } ((p.length : Int) + 1) = { M with K := M.K.begins } := if_neg (by simp only; omega)
  rw [e]
  exact (full_sw h ((p.length : Int) + 1) hlive (by simp only; omega)).mono fun e w' ⟨he, hf⟩ => ⟨he, h.next hf⟩
theorem round_commit {p : List Bool} (h : SW W w s (addM { M with K := M.K.begins } ((p.length : Int) + 1))) (hp : NInv p M) (hs : p.length ≤ 40) :
    Calls Tryz.prog 8 #[.pointer (some ⟨s, 0, none⟩), .int .i64 ((p.length : Int) + 1)] w fun e w' => e = .returned (.int .i64 0) ∧ SW W w' s (stepM M true) := by
  have hlen := hp.len
  have hlive := begins_live M.K
  rw [hlen] at hlive
  have h1 := commit_sw h ((p.length : Int) + 1) (by rw [addM_K]; exact hlive) (by rw [addM_K]; have := hp.cm; show M.K.commits < _; omega)
  refine h1.mono fun e w' ⟨he, hw⟩ => ⟨he, ?_⟩
  unfold stepM
  rw [hlen]
  exact hw
theorem round_abort {p : List Bool} (h : SW W w s (addM { M with K := M.K.begins } ((p.length : Int) + 1))) (hp : NInv p M) :
    Calls Tryz.prog 9 #[.pointer (some ⟨s, 0, none⟩), .int .i64 ((p.length : Int) + 1)] w fun e w' => e = .returned (.int .i64 0) ∧ SW W w' s (stepM M false) := by
  have hlen := hp.len
  have hlive := begins_live M.K
  rw [hlen] at hlive
  have h1 := abort_sw h ((p.length : Int) + 1) (by rw [addM_K]; exact hlive)
  refine h1.mono fun e w' ⟨he, hw⟩ => ⟨he, ?_⟩
  unfold stepM
  rw [hlen]
  exact hw
theorem round_nodes {p : List Bool} (h : SW W w s { M with K := M.K.begins }) (hp : NInv p M) :
    Calls Tryz.prog 10 #[.pointer (some ⟨s, 0, none⟩), .int .i64 ((p.length : Int) + 1)] w fun e w' => ∃ v, e = .returned v ∧ OwnI w w' v (tl p (min p.length 24)) := by
  have hlen := hp.len
  have hlive := begins_live M.K
  rw [hlen] at hlive
  have h1 := nodes_sw h ((p.length : Int) + 1) hlive
  rw [hp.reads, hp.nl] at h1
  exact h1
end
theorem tl_take (l : List Bool) (i m : Nat) (hm : m ≤ i) : tl (l.take i) m = tl l m := by
  unfold tl
  congr 1
  apply List.filter_congr
  intro j hj
  have := List.mem_range.1 hj
  rw [List.getElem?_take_of_lt (by omega)]
set_option maxRecDepth 100000 in
set_option maxHeartbeats 4000000 in
theorem numbers_in (W : World) (lv : Value) (l : List Bool) (hl : Rd W lv l.length 1 (l.map Value.bool)) (hlen : l.length ≤ 40) :
    Calls Tryz.prog 3 #[lv] W fun e w' => e = .returned (.bool true) ∧ Fr No W w' := by
  obtain ⟨ao, ca, rfl, -⟩ := rd_len hl
  have HL := hid (⟨hl, hlen⟩ : _ ∧ _)
  have hn : ¬ (40 : Int) < (l.length : Int) := by omega
  generalize hne : l.length = n at *
  have HNe := hid hne
  have hn40 : n ≤ 40 := hlen
  clear hl hlen hne
  go_enter Tryz.func3, Tryz.ntmps3
  go_wp2_with (go_at_call 5; refine (new_sw (Fr.refl No W)).mono ?_; rintro e w0 ⟨s, rfl, h0⟩; have H0 := hid (show SW W w0 s kM0 from h0); clear h0)
  go_loopw [4] (fun vi wr => ∃ (i : Nat), i ≤ n ∧ vi = .int .i64 (i : Int) ∧ Hid (∃ M, NInv (l.take i) M ∧ SW W wr s M)) (fun vi _ => n - (intOf vi).toNat)
  case atStart => exact ⟨0, Nat.zero_le _, rfl, _, NInv.zero, H0.out⟩
  case round =>
    obtain ⟨i, hi, rfl, HR⟩ := hrel
    by_cases hlt : i < n
    · obtain ⟨M, hM, hS⟩ := HR.out
      obtain ⟨b, hb⟩ : ∃ b, l[i]? = some b := ⟨_, List.getElem?_eq_getElem (by have := HNe.out; omega)⟩
      obtain ⟨ba, oa, ca', hva, hca⟩ := HL.out.1.at1 (k := i) (u := .bool b) (by simp [hb])
      obtain ⟨rfl, rfl⟩ : ao = some ⟨ba, oa, none⟩ ∧ ca = ca' := by simpa using hva
      have hpl : (l.take i).length = i := by rw [List.length_take]; have := HNe.out; omega
      have hw : wrap64 ((i : Int) + 1) = (i : Int) + 1 := by unfold wrap64; omega
      have hw2 : IntKind.i64.wrap ((i : Int) + 1) = (i : Int) + 1 := IntWalk.i64_in _ (by omega)
      have HB := hid (round_begin hS hM (by omega))
      have hstep : l.take (i + 1) = l.take i ++ [b] := by rw [List.take_add_one, hb]; rfl
      have HM := hid (⟨hM, hpl, hstep⟩ : _ ∧ _ ∧ _)
      rw [hpl] at HB
      have HC := hid hca
      have HI := hid (hM.step b)
      rw [← hstep] at HI
      clear hM hS hva hca hb hpl hstep HR
      by_cases h24 : i < 24
      · have h24' : (i : Int) < 24 := by omega
        cases b with
        | true =>
          go_wp2_with (first
            | (go_at_call 6; refine HB.out.mono ?_; rintro e w1 ⟨rfl, h1⟩; have H1 := hid h1; clear h1)
            | (go_at_call 7; have hadd := round_add H1.out HM.out.1 (by rw [HM.out.2.1]; exact h24); rw [HM.out.2.1] at hadd; refine hadd.mono ?_; clear hadd; rintro e w2 ⟨rfl, h2⟩; have H2 := hid h2; have c1 : w2.cell? ⟨ba, oa + i, none⟩ = some (.bool true) := HC.out w2 h2.fr; clear h2)
            | (go_at_call 8; have hco := round_commit (p := l.take i) (by rw [HM.out.2.1]; exact H2.out) HM.out.1 (by rw [HM.out.2.1]; omega); rw [HM.out.2.1] at hco; refine hco.mono ?_; clear hco; rintro e w3 ⟨rfl, h3⟩; have H3 := hid h3; clear h3))
          go_roundw
          case rel => exact ⟨i + 1, by omega, by go_num, _, HI.out, H3.out⟩
          case measure => simp [intOf]; omega
        | false =>
          go_wp2_with (first
            | (go_at_call 6; refine HB.out.mono ?_; rintro e w1 ⟨rfl, h1⟩; have H1 := hid h1; clear h1)
            | (go_at_call 7; have hadd := round_add H1.out HM.out.1 (by rw [HM.out.2.1]; exact h24); rw [HM.out.2.1] at hadd; refine hadd.mono ?_; clear hadd; rintro e w2 ⟨rfl, h2⟩; have H2 := hid h2; have c1 : w2.cell? ⟨ba, oa + i, none⟩ = some (.bool false) := HC.out w2 h2.fr; clear h2)
            | (go_at_call 9; have hco := round_abort (p := l.take i) (by rw [HM.out.2.1]; exact H2.out) HM.out.1; rw [HM.out.2.1] at hco; refine hco.mono ?_; clear hco; rintro e w3 ⟨rfl, h3⟩; have H3 := hid h3; clear h3))
          go_roundw
          case rel => exact ⟨i + 1, by omega, by go_num, _, HI.out, H3.out⟩
          case measure => simp [intOf]; omega
      · have h24' : ¬ (i : Int) < 24 := by omega
        cases b with
        | true =>
          go_wp2_with (first
            | (go_at_call 6; refine HB.out.mono ?_; rintro e w1 ⟨rfl, h1⟩; have H1 := hid h1; clear h1)
            | (go_at_call 7; have hadd := round_full H1.out HM.out.1 (by rw [HM.out.2.1]; omega); rw [HM.out.2.1] at hadd; refine hadd.mono ?_; clear hadd; rintro e w2 ⟨rfl, h2⟩; have H2 := hid h2; have c1 : w2.cell? ⟨ba, oa + i, none⟩ = some (.bool true) := HC.out w2 h2.fr; clear h2)
            | (go_at_call 8; have hco := round_commit (p := l.take i) (by rw [HM.out.2.1]; exact H2.out) HM.out.1 (by rw [HM.out.2.1]; omega); rw [HM.out.2.1] at hco; refine hco.mono ?_; clear hco; rintro e w3 ⟨rfl, h3⟩; have H3 := hid h3; clear h3))
          go_roundw
          case rel => exact ⟨i + 1, by omega, by go_num, _, HI.out, H3.out⟩
          case measure => simp [intOf]; omega
        | false =>
          go_wp2_with (first
            | (go_at_call 6; refine HB.out.mono ?_; rintro e w1 ⟨rfl, h1⟩; have H1 := hid h1; clear h1)
            | (go_at_call 7; have hadd := round_full H1.out HM.out.1 (by rw [HM.out.2.1]; omega); rw [HM.out.2.1] at hadd; refine hadd.mono ?_; clear hadd; rintro e w2 ⟨rfl, h2⟩; have H2 := hid h2; have c1 : w2.cell? ⟨ba, oa + i, none⟩ = some (.bool false) := HC.out w2 h2.fr; clear h2)
            | (go_at_call 9; have hco := round_abort (p := l.take i) (by rw [HM.out.2.1]; exact H2.out) HM.out.1; rw [HM.out.2.1] at hco; refine hco.mono ?_; clear hco; rintro e w3 ⟨rfl, h3⟩; have H3 := hid h3; clear h3))
          go_roundw
          case rel => exact ⟨i + 1, by omega, by go_num, _, HI.out, H3.out⟩
          case measure => simp [intOf]; omega
    · obtain rfl : i = n := by omega
      obtain ⟨M, hM, hS⟩ := HR.out
      have htk : l.take i = l := List.take_of_length_le (by have := HNe.out; omega)
      rw [htk] at hM
      have HB := hid (round_begin hS hM (by have := HNe.out; omega))
      rw [HNe.out] at HB
      have HM := hid hM
      clear hM hS htk HR
      go_wp2_with (first
        | (go_at_call 6; refine HB.out.mono ?_; rintro e w1 ⟨rfl, h1⟩; have H1 := hid h1; clear h1)
        | (go_at_call 10; have hno := round_nodes H1.out HM.out; rw [HNe.out] at hno; refine hno.mono ?_; clear hno; rintro e w2 ⟨v, rfl, o2⟩; obtain ⟨pa, pc, rfl⟩ := ownsRow_slice o2.row; have O2 := hid o2; have F2 := hid (H1.out.fr.thenNo o2.fr); clear o2))
      obtain ⟨m, hm⟩ : ∃ m, m = min i 24 := ⟨_, rfl⟩
      rw [← hm] at O2
      have HP := hid O2.out.rd
      have hql := tl_len l m
      rw [← hm]
      generalize hq : (tl l m).length = q at *
      have HQ := hid hq
      have HWo := hid hm
      have hm24 : m ≤ 24 := by omega
      have hmi : m ≤ i := by omega
      clear hm hq
      obtain ⟨wo, hwo⟩ : ∃ wo : World, wo = w2 := ⟨_, rfl⟩
      go_loopw [12, 13] (fun vn vj wr => ∃ (j r : Nat), j ≤ m ∧ r ≤ j ∧ vn = .int .i64 (r : Int) ∧ vj = .int .i64 (j : Int) ∧ wr = wo ∧ Hid (r = (tl l j).length)) (fun _ vj _ => m - (intOf vj).toNat)
      case atStart => exact ⟨0, 0, Nat.zero_le _, Nat.le_refl _, rfl, rfl, hwo.symm, rfl⟩
      case round =>
        obtain ⟨j, r, hj, hrj, rfl, rfl, rfl, HR⟩ := hrel
        subst hwo
        have hw : wrap64 ((j : Int) + 1) = (j : Int) + 1 := by unfold wrap64; omega
        have hw2 : IntKind.i64.wrap ((j : Int) + 1) = (j : Int) + 1 := IntWalk.i64_in _ (by omega)
        have hw3 : wrap64 ((r : Int) + 1) = (r : Int) + 1 := by unfold wrap64; omega
        by_cases hlt2 : j < m
        · have h1 : (j : Int) < (i : Int) := by omega
          have h2 : (j : Int) < 24 := by omega
          obtain ⟨b, hb⟩ : ∃ b, l[j]? = some b := ⟨_, List.getElem?_eq_getElem (by have := HNe.out; omega)⟩
          obtain ⟨ba, oa, ca', hva, hca⟩ := HL.out.1.at1 (k := j) (u := .bool b) (by simp [hb])
          obtain ⟨rfl, rfl⟩ : ao = some ⟨ba, oa, none⟩ ∧ ca = ca' := by simpa using hva
          have c1 : wr.cell? ⟨ba, oa + j, none⟩ = some (.bool b) := hca wr F2.out
          have hsucc := tl_succ l j
          rw [hb, Option.getD_some] at hsucc
          cases b with
          | false =>
            have HT := hid hsucc
            clear hva hca hb hsucc
            go_wp2_with fail
            go_roundw
            case rel => exact ⟨j + 1, r, by omega, by omega, rfl, by go_num, (by first | rfl | trivial), hid (by rw [HT.out]; simpa using HR.out)⟩
            case measure => simp [intOf]; omega
          | true =>
            have hat := tl_at hlt2 hb
            rw [← HR.out] at hat
            have hrq : r < q := by rw [← HQ.out]; exact (List.getElem?_eq_some_iff.1 hat).1
            obtain ⟨bp, op, cp, hvp, hcp⟩ := HP.out.at1 (k := r) (u := iv ((j : Int) + 1)) (by simp [hat])
            obtain ⟨rfl, rfl⟩ : pa = some ⟨bp, op, none⟩ ∧ pc = cp := by simpa [HQ.out] using hvp
            have c2 : wr.cell? ⟨bp, op + r, none⟩ = some (.int .i64 ((j : Int) + 1)) := hcp wr (Fr.refl _ _)
            have HT := hid hsucc
            have hnr : ¬ (q : Int) ≤ (r : Int) := by omega
            clear hva hca hb hsucc hat hvp hcp
            go_wp2_with fail
            go_roundw
            case rel => exact ⟨j + 1, r + 1, by omega, by omega, by go_num, by go_num, (by first | rfl | trivial), hid (by rw [HT.out, List.length_append, ← HR.out]; rfl)⟩
            case measure => simp [intOf]; omega
        · obtain rfl : j = m := by omega
          have hrq : r = q := by rw [HR.out, HQ.out]
          subst hrq
          have HK := hid (known_any wr)
          by_cases h1 : j < i
          · have h2 : ¬ (j : Int) < 24 := by have := HWo.out; omega
            have h3 : (j : Int) < (i : Int) := by omega
            go_wp2_with (go_at_call 11; refine HK.out.mono ?_; rintro e w5 ⟨rfl, f5⟩; have F5 := hid f5; clear f5)
            go_ret
            exact ⟨rfl, F2.out.thenNo F5.out⟩
          · have h3 : ¬ (j : Int) < (i : Int) := by omega
            go_wp2_with (go_at_call 11; refine HK.out.mono ?_; rintro e w5 ⟨rfl, f5⟩; have F5 := hid f5; clear f5)
            go_ret
            exact ⟨rfl, F2.out.thenNo F5.out⟩
theorem numbers_any (W : World) (lv : Value) (l : List Bool) (hl : Rd W lv l.length 1 (l.map Value.bool)) :
    Calls Tryz.prog 3 #[lv] W fun e w' => e = .returned (.bool true) ∧ Fr No W w' := by
  by_cases hlen : l.length ≤ 40
  · exact numbers_in W lv l hl hlen
  · obtain ⟨ao, ca, rfl, -⟩ := rd_len hl
    have hn : (40 : Int) < (l.length : Int) := by omega
    clear hl hlen
    go_enter Tryz.func3, Tryz.ntmps3
    go_wp2
    go_ret
    exact ⟨rfl, Fr.refl _ _⟩
end Go.Proofs.YtofjbigojbnmfaaGreatDoor
