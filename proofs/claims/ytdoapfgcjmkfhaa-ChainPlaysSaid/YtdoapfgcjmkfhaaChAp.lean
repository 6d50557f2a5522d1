/- ChainApart: the plain law, the walk. -/
import Derived.Test.YtdoapfgcjmkfhaaChAg
namespace Go.Proofs.Ytdoapfgcjmkfhaa
open Go.RowKit Go.Lig

/-- two of the law's own -/
structure Two (W w : World) (S T : Nat → Prop) (c d : Nat) (I J : List (Int × Int)) (m n : Nat) : Prop where
  hc : CW W w S c I m
  hd : CW W w T d J n
  dis : ∀ k, S k → ¬ T k
theorem Two.left {W w w' : World} {S S' T : Nat → Prop} {c d : Nat} {I I' J : List (Int × Int)} {m m' n : Nat} (h : Two W w S T c d I J m n) (h' : CW W w' S' c I' m') (hf : Fr S w w') (hs : ∀ q, S' q → S q ∨ w.heap.size ≤ q) : Two W w' S' T c d I' J m' n :=
  ⟨h', h.hd.next hf (fun k hk e => h.dis k e hk) h.hc.new, fun k hk e => by
    rcases hs k hk with h1 | h1
    · exact h.dis k h1 e
    · have := h.hd.at_.bound k e; omega⟩
theorem Two.right {W w w' : World} {S T T' : Nat → Prop} {c d : Nat} {I J J' : List (Int × Int)} {m n n' : Nat} (h : Two W w S T c d I J m n) (h' : CW W w' T' d J' n') (hf : Fr T w w') (hs : ∀ q, T' q → T q ∨ w.heap.size ≤ q) : Two W w' S T' c d I J' m n' :=
  ⟨h.hc.next hf (fun k hk e => h.dis k hk e) h.hd.new, h', fun k hk e => by
    rcases hs k e with h1 | h1
    · exact h.dis k hk h1
    · have := h.hc.at_.bound k hk; omega⟩
theorem Two.nextNo {W w w' : World} {S T : Nat → Prop} {c d : Nat} {I J : List (Int × Int)} {m n : Nat} (h : Two W w S T c d I J m n) (hf : Fr No w w') : Two W w' S T c d I J m n := ⟨h.hc.nextNo hf, h.hd.nextNo hf, h.dis⟩
structure ApI (I J : List (Int × Int)) : Prop where
  same : ids I 1 = ids J 1
  one : ∀ p ∈ J, p.1 = 1
  two : ∀ p ∈ I, p.1 = 1 ∨ p.1 = 2
theorem addI_mem {I : List (Int × Int)} {k x : Int} {p : Int × Int} (h : p ∈ addI I k x) : p = (k, x) ∨ p ∈ I := by
  unfold addI at h
  split at h
  · exact .inr h
  · exact List.mem_cons.1 h
theorem ids_addI_other (I : List (Int × Int)) (k x j : Int) (h : j ≠ k) : ids (addI I k x) j = ids I j := by
  unfold addI
  split
  · rfl
  · exact ids_cons_other I k x j h
theorem ApI.one_ {I : List (Int × Int)} (h : ApI I I) (x : Int) : ApI (addI I 1 x) (addI I 1 x) :=
  ⟨rfl, fun p hp => (addI_mem hp).elim (fun e => by rw [e]) (h.one p), fun p hp => (addI_mem hp).elim (fun e => .inl (by rw [e])) (h.two p)⟩
theorem ApI.add {I J : List (Int × Int)} (h : ApI I J) (x : Int) : ApI (addI I 2 x) J :=
  ⟨(ids_addI_other I 2 x 1 (by decide)).trans h.same, h.one, fun p hp => (addI_mem hp).elim (fun e => .inr (by rw [e])) (h.two p)⟩
theorem ApI.cut {I J : List (Int × Int)} (h : ApI I J) (x : Int) : ApI (cutI I 2 x) J :=
  ⟨(ids_cut_other I 2 x 1 (by decide)).trans h.same, h.one, fun p hp => h.two p (List.mem_filter.1 hp).1⟩
theorem two_len {I : List (Int × Int)} (h : ∀ p ∈ I, p.1 = 1 ∨ p.1 = 2) : (I.length : Int) = ((ids I 1).length : Int) + ((ids I 2).length : Int) := by
  induction I with
  | nil => rfl
  | cons p I ih =>
    have ih' := ih (fun q hq => h q (List.mem_cons_of_mem _ hq))
    obtain ⟨a, x⟩ := p
    rcases h (a, x) (by simp) with e | e
    · simp only at e
      subst e
      rw [ids_cons_same, ids_cons_other _ _ _ _ (by decide)]
      simp only [List.length_cons]
      omega
    · simp only at e
      subst e
      rw [ids_cons_same, ids_cons_other _ _ _ _ (by decide)]
      simp only [List.length_cons]
      omega
theorem ids_le (I : List (Int × Int)) (k : Int) : (ids I k).length ≤ I.length := by
  unfold ids
  rw [List.length_map]
  exact List.length_filter_le _ _
set_option maxRecDepth 100000 in
set_option maxHeartbeats 2000000 in
theorem apart_in (W : World) (av bv cv : Value) (la lb lc : List Int) (ha : Rd W av la.length 1 (la.map iv)) (hb : Rd W bv lb.length 1 (lb.map iv)) (hc : Rd W cv lc.length 1 (lc.map iv)) (ka : ∀ x ∈ la, keyOk x) (kb : ∀ x ∈ lb, keyOk x) (kc : ∀ x ∈ lc, keyOk x)
    (h1 : la.length ≤ 100) (h2 : lb.length ≤ 100) (h3 : lc.length ≤ 100) :
    Calls Try.prog 5 #[av, bv, cv] W fun e w' => e = .returned (.bool true) ∧ Fr No W w' := by
  obtain ⟨aa, ca, rfl, -⟩ := rd_len ha
  obtain ⟨ab, cb, rfl, -⟩ := rd_len hb
  obtain ⟨ac, cc, rfl, -⟩ := rd_len hc
  have HL := hid (⟨ha, hb, hc, ka, kb, kc⟩ : _ ∧ _ ∧ _ ∧ (∀ x ∈ la, keyOk x) ∧ (∀ x ∈ lb, keyOk x) ∧ (∀ x ∈ lc, keyOk x))
  have t1 : ¬ (100 : Int) < (la.length : Int) := by omega
  have t2 : ¬ (100 : Int) < (lb.length : Int) := by omega
  have t3 : ¬ (100 : Int) < (lc.length : Int) := by omega
  clear ha hb hc ka kb kc
  go_enter Try.func5, Try.ntmps5
  go_wp2_with fail
  refine (new_cw (Fr.refl No _)).mono ?_
  rintro e w1 ⟨c, S1, rfl, c1, f1, n1⟩
  have H1 := hid c1
  clear c1 f1 n1 t1 t2 t3
  go_wp2_with fail
  refine (new_cw H1.out.fr).mono ?_
  rintro e w2 ⟨d, T1, rfl, c2, f2, n2⟩
  have H2 := hid (⟨H1.out.nextNo f2, c2, fun k hk e => by have := H1.out.at_.bound k hk; have := n2 k e; omega⟩ : Two W w2 S1 T1 c d [] [] 0 0)
  clear c2 f2 n2
  go_wp2_with fail
  go_loopw [9] (fun vi wr => ∃ (i : Nat), i ≤ la.length ∧ vi = .int .i64 (i : Int) ∧ Hid (∃ S T I, Two W wr S T c d I I i i ∧ ApI I I)) (fun vi _ => la.length - (intOf vi).toNat)
  case atStart => exact ⟨0, Nat.zero_le _, rfl, S1, T1, [], H2.out, ⟨rfl, fun _ h => (by cases h), fun _ h => (by cases h)⟩⟩
  case round =>
    obtain ⟨i, hi, rfl, hR⟩ := hrel
    obtain ⟨S, T, I, hL, hA⟩ := hR.out
    have HC := hid (⟨hL, hA⟩ : _ ∧ _)
    clear hR hL hA
    by_cases hlt : i < la.length
    · obtain ⟨x, hx⟩ : ∃ x, la[i]? = some x := ⟨_, List.getElem?_eq_getElem hlt⟩
      obtain ⟨gb, go, c', hv, hcell⟩ := HL.out.1.at1 (k := i) (u := iv x) (by simp [hx])
      obtain ⟨rfl, rfl⟩ : aa = some ⟨gb, go, none⟩ ∧ ca = c' := by simpa using hv
      have HX := hid (⟨HL.out.2.2.2.1 x (List.mem_of_getElem? hx), hcell⟩ : keyOk x ∧ _)
      have e0 : wr.cell? ⟨gb, go + i, none⟩ = some (.int .i64 x) := hcell wr HC.out.1.hc.fr
      clear hx hv hcell
      go_wp2_with fail
      refine (add_cw HC.out.1.hc 1 x rfl HX.out.1 (by omega) _ rfl).mono ?_
      rintro e w3 ⟨S3, rfl, h3', f3, n3⟩
      have H3 := hid (HC.out.1.left h3' f3 n3)
      have e3 : w3.cell? ⟨gb, go + i, none⟩ = some (.int .i64 x) := HX.out.2 w3 h3'.fr
      clear h3' f3 n3 e0
      go_wp2_with fail
      refine (add_cw H3.out.hd 1 x rfl HX.out.1 (by omega) _ rfl).mono ?_
      rintro e w4 ⟨T4, rfl, h4', f4, n4⟩
      have H4 := hid (H3.out.right h4' f4 n4)
      clear h4' f4 n4 e3
      go_wp2_with fail
      go_roundw
      case rel => exact ⟨i + 1, by omega, by go_num, S3, T4, _, H4.out, HC.out.2.one_ x⟩
      case measure => simp [intOf]; omega
    · obtain rfl : i = la.length := by omega
      clear hlt hi
      obtain ⟨wo, rfl⟩ : ∃ wo : World, wo = wr := ⟨_, rfl⟩
      go_wp2_with fail
      go_loopw [10] (fun vi wr => ∃ (i : Nat), i ≤ lb.length ∧ vi = .int .i64 (i : Int) ∧ Hid (∃ S T I J, Two W wr S T c d I J (la.length + i) la.length ∧ ApI I J)) (fun vi _ => lb.length - (intOf vi).toNat)
      case atStart => exact ⟨0, Nat.zero_le _, rfl, S, T, I, I, HC.out.1, HC.out.2⟩
      case round =>
        obtain ⟨i, hi, rfl, hR⟩ := hrel
        obtain ⟨S5, T5, I5, J5, hL, hA⟩ := hR.out
        have H5 := hid (⟨hL, hA⟩ : _ ∧ _)
        clear hR hL hA
        by_cases hlt : i < lb.length
        · obtain ⟨x, hx⟩ : ∃ x, lb[i]? = some x := ⟨_, List.getElem?_eq_getElem hlt⟩
          obtain ⟨gb, go, c', hv, hcell⟩ := HL.out.2.1.at1 (k := i) (u := iv x) (by simp [hx])
          obtain ⟨rfl, rfl⟩ : ab = some ⟨gb, go, none⟩ ∧ cb = c' := by simpa using hv
          have HX := hid (HL.out.2.2.2.2.1 x (List.mem_of_getElem? hx) : keyOk x)
          have e0 : wr.cell? ⟨gb, go + i, none⟩ = some (.int .i64 x) := hcell wr H5.out.1.hc.fr
          clear hx hv hcell
          go_wp2_with fail
          refine (add_cw H5.out.1.hc 2 x rfl HX.out (by omega) _ rfl).mono ?_
          rintro e w6 ⟨S6, rfl, h6', f6, n6⟩
          have H6 := hid (H5.out.1.left h6' f6 n6)
          clear h6' f6 n6 e0
          go_wp2_with fail
          go_roundw
          case rel => exact ⟨i + 1, by omega, by go_num, S6, T5, _, J5, H6.out, H5.out.2.add x⟩
          case measure => simp [intOf]; omega
        · obtain rfl : i = lb.length := by omega
          clear hlt hi
          obtain ⟨wo2, rfl⟩ : ∃ wo : World, wo = wr := ⟨_, rfl⟩
          go_wp2_with fail
          go_loopw [11] (fun vi wr => ∃ (i : Nat), i ≤ lc.length ∧ vi = .int .i64 (i : Int) ∧ Hid (∃ S T I J, Two W wr S T c d I J (la.length + lb.length) la.length ∧ ApI I J)) (fun vi _ => lc.length - (intOf vi).toNat)
          case atStart => exact ⟨0, Nat.zero_le _, rfl, S5, T5, I5, J5, H5.out.1, H5.out.2⟩
          case round =>
            obtain ⟨i, hi, rfl, hR⟩ := hrel
            obtain ⟨S7, T7, I7, J7, hL, hA⟩ := hR.out
            have H7 := hid (⟨hL, hA⟩ : _ ∧ _)
            clear hR hL hA
            by_cases hlt : i < lc.length
            · obtain ⟨x, hx⟩ : ∃ x, lc[i]? = some x := ⟨_, List.getElem?_eq_getElem hlt⟩
              obtain ⟨gb, go, c', hv, hcell⟩ := HL.out.2.2.1.at1 (k := i) (u := iv x) (by simp [hx])
              obtain ⟨rfl, rfl⟩ : ac = some ⟨gb, go, none⟩ ∧ cc = c' := by simpa using hv
              have HX := hid (HL.out.2.2.2.2.2 x (List.mem_of_getElem? hx) : keyOk x)
              have e0 : wr.cell? ⟨gb, go + i, none⟩ = some (.int .i64 x) := hcell wr H7.out.1.hc.fr
              clear hx hv hcell
              go_wp2_with fail
              refine (cut_cw H7.out.1.hc 2 x rfl HX.out (by omega) _ rfl).mono ?_
              rintro e w6 ⟨rfl, h6', f6⟩
              have H6 := hid (H7.out.1.left h6' f6 (fun _ h => .inl h))
              clear h6' f6 e0
              go_wp2_with fail
              go_roundw
              case rel => exact ⟨i + 1, by omega, by go_num, S7, T7, _, J7, H6.out, H7.out.2.cut x⟩
              case measure => simp [intOf]; omega
            · obtain rfl : i = lc.length := by omega
              clear hlt hi
              have hlI := H7.out.1.hc.len
              have hlJ := H7.out.1.hd.len
              have hb1 := ids_le J7 1
              have hb2 := ids_le I7 2
              have h12 := two_len H7.out.2.two
              have h13 := H7.out.2.same
              rw [h13] at h12
              have HT := hid (⟨h12, h13⟩ : _ ∧ _)
              have hb3 : (ids J7 1).length ≤ 300 := by omega
              have hb4 : (ids I7 2).length ≤ 300 := by omega
              clear hlI hlJ hb1 hb2 h12 h13
              go_wp2_with fail
              refine (walk_cw H7.out.1.hc 1 rfl (by omega)).mono ?_
              rintro e w8 ⟨v8, rfl, o8⟩
              have H8 := hid o8
              clear o8
              go_wp2_with fail
              refine (walk_cw (H7.out.1.hd.nextNo H8.out.fr) 1 rfl (by omega)).mono ?_
              rintro e w9 ⟨v9, rfl, o9⟩
              have H9 := hid o9
              clear o9
              go_wp2_with fail
              refine (same_cw (H8.out.next H9.out.fr).rd H9.out.rd true (decide_eq_true HT.out.2)).mono ?_
              rintro e w10 ⟨rfl, f10⟩
              have H10 := hid (H7.out.1.nextNo ((H8.out.fr.thenNo H9.out.fr).thenNo f10))
              clear f10
              go_wp2_with fail
              refine (len_cw H10.out.hc _ HT.out.1).mono ?_
              rintro e w11 ⟨rfl, rfl⟩
              go_wp2_with fail
              refine (walk_cw H10.out.hd 1 rfl (by omega)).mono ?_
              rintro e w12 ⟨v12, rfl, o12⟩
              obtain ⟨a12, c12, rfl⟩ := ownsRow_slice o12.row
              have H12 := hid (H10.out.nextNo o12.fr)
              clear o12
              go_wp2_with fail
              refine (walk_cw H12.out.hc 2 rfl (by omega)).mono ?_
              rintro e w13 ⟨v13, rfl, o13⟩
              obtain ⟨a13, c13, rfl⟩ := ownsRow_slice o13.row
              have H13 := hid (H12.out.nextNo o13.fr)
              clear o13
              go_wp2_with fail
              refine (known_any _).mono ?_
              rintro e w14 ⟨rfl, f14⟩
              have H14 := hid (H13.out.hc.fr.thenNo f14)
              clear f14
              go_wp2_with fail
              go_ret
              exact ⟨rfl, H14.out⟩
theorem apart_any (W : World) (av bv cv : Value) (la lb lc : List Int) (ha : Rd W av la.length 1 (la.map iv)) (hb : Rd W bv lb.length 1 (lb.map iv)) (hc : Rd W cv lc.length 1 (lc.map iv)) (ka : ∀ x ∈ la, keyOk x) (kb : ∀ x ∈ lb, keyOk x) (kc : ∀ x ∈ lc, keyOk x) :
    Calls Try.prog 5 #[av, bv, cv] W fun e w' => e = .returned (.bool true) ∧ Fr No W w' := by
  by_cases h1 : (100 : Int) < (la.length : Int)
  · obtain ⟨aa, ca, rfl, -⟩ := rd_len ha
    obtain ⟨ab, cb, rfl, -⟩ := rd_len hb
    obtain ⟨ac, cc, rfl, -⟩ := rd_len hc
    clear ha hb hc ka kb kc
    go_enter Try.func5, Try.ntmps5
    go_wp2
    go_ret
    exact ⟨rfl, Fr.refl _ _⟩
  by_cases h2 : (100 : Int) < (lb.length : Int)
  · obtain ⟨aa, ca, rfl, -⟩ := rd_len ha
    obtain ⟨ab, cb, rfl, -⟩ := rd_len hb
    obtain ⟨ac, cc, rfl, -⟩ := rd_len hc
    clear ha hb hc ka kb kc
    go_enter Try.func5, Try.ntmps5
    go_wp2
    go_ret
    exact ⟨rfl, Fr.refl _ _⟩
  by_cases h3 : (100 : Int) < (lc.length : Int)
  · obtain ⟨aa, ca, rfl, -⟩ := rd_len ha
    obtain ⟨ab, cb, rfl, -⟩ := rd_len hb
    obtain ⟨ac, cc, rfl, -⟩ := rd_len hc
    clear ha hb hc ka kb kc
    go_enter Try.func5, Try.ntmps5
    go_wp2
    go_ret
    exact ⟨rfl, Fr.refl _ _⟩
  exact apart_in W av bv cv la lb lc ha hb hc ka kb kc (by omega) (by omega) (by omega)
end Go.Proofs.Ytdoapfgcjmkfhaa
