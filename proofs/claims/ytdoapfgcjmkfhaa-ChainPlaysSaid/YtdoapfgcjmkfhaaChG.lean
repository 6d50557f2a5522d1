/- Lists that the law itself made: contracts as the laws use them; known. -/
import Derived.Test.YtdoapfgcjmkfhaaChS
namespace Go.Proofs.Ytdoapfgcjmkfhaa
open Go.RowKit Go.Lig

/-- the lists at c, S their blocks -/
structure CS (w : World) (S : Nat → Prop) (c : Nat) (I : List (Int × Int)) (m : Nat) : Prop where
  ex : ∃ B ρ, ChAt w c I B ρ m ∧ ∀ b, ρ b ≠ none → S b
  bound : ∀ b, S b → b < w.heap.size
structure CW (W w : World) (S : Nat → Prop) (c : Nat) (I : List (Int × Int)) (m : Nat) : Prop where
  at_ : CS w S c I m
  fr : Fr No W w
  new : ∀ k, S k → W.heap.size ≤ k
  len : I.length ≤ m
theorem CW.next {W w w' : World} {S T : Nat → Prop} {c : Nat} {I : List (Int × Int)} {m : Nat} (h : CW W w S c I m) (hf : Fr T w w') (hd : ∀ k, S k → ¬ T k) (hT : ∀ k, T k → W.heap.size ≤ k) : CW W w' S c I m := by
  obtain ⟨B, ρ, ha, hs⟩ := h.at_.ex
  exact ⟨⟨⟨B, ρ, ha.frame hf (fun b hb => hd b (hs b hb)), hs⟩, fun b hb => Nat.lt_of_lt_of_le (h.at_.bound b hb) hf.size⟩, h.fr.trans hf (fun k hk e => by have := hT k e; omega), h.new, h.len⟩
theorem CW.nextNo {W w w' : World} {S : Nat → Prop} {c : Nat} {I : List (Int × Int)} {m : Nat} (h : CW W w S c I m) (hf : Fr No w w') : CW W w' S c I m := h.next hf (fun _ _ e => e) (fun _ e => e.elim)
theorem new_cw {W w : World} (hW : Fr No W w) : Calls Try.prog 9 #[] w fun e w' => ∃ c S, e = .returned (.pointer (some ⟨c, 0, none⟩)) ∧ CW W w' S c [] 0 ∧ Fr No w w' ∧ ∀ k, S k → w.heap.size ≤ k :=
  (chnew_any w).mono fun e w' ⟨c, B, ρ, he, h1, h2, h3⟩ => ⟨c, fun b => ρ b ≠ none, he, ⟨⟨⟨B, ρ, h1, fun _ h => h⟩, h1.bound⟩, hW.thenNo h2, fun k hk => Nat.le_trans hW.size (h3 k hk), Nat.le_refl _⟩, h2, h3⟩
theorem addI_len (I : List (Int × Int)) (k x : Int) : (addI I k x).length ≤ I.length + 1 := by
  unfold addI
  split
  · omega
  · simp
theorem add_cw {W w : World} {S : Nat → Prop} {c : Nat} {I : List (Int × Int)} {m : Nat} (h : CW W w S c I m) (k x : Int) (hk : keyOk k) (hx : keyOk x) (hm : m ≤ 1000000) (b : Bool) (hb : decide ((k, x) ∉ I) = b) :
    Calls Try.prog 10 #[.pointer (some ⟨c, 0, none⟩), .int .i64 k, .int .i64 x] w fun e w' => ∃ S', e = .returned (.bool b) ∧ CW W w' S' c (addI I k x) (m + 1) ∧ Fr S w w' ∧ ∀ q, S' q → S q ∨ w.heap.size ≤ q := by
  obtain ⟨B, ρ, ha, hs⟩ := h.at_.ex
  refine (add_any w c I B ρ m ha k x hk hx hm (Nat.le_trans h.len hm)).mono fun e w' ⟨he, B', ρ', h1, h2, h3⟩ => ⟨fun b => ρ' b ≠ none, by rw [he, hb], ⟨⟨⟨B', ρ', h1, fun _ h => h⟩, h1.bound⟩, h.fr.trans h2 (fun k hk e => by have := h.new k (hs k e); omega), fun q hq => ?_, Nat.le_trans (addI_len I k x) (by have := h.len; omega)⟩, h2.mono (fun q _ hq => hs q hq), fun q hq => ?_⟩
  · rcases h3 q hq with h4 | h4
    · exact h.new q (hs q h4)
    · exact Nat.le_trans h.fr.size h4
  · rcases h3 q hq with h4 | h4
    · exact .inl (hs q h4)
    · exact .inr h4
theorem cut_cw {W w : World} {S : Nat → Prop} {c : Nat} {I : List (Int × Int)} {m : Nat} (h : CW W w S c I m) (k x : Int) (hk : keyOk k) (hx : keyOk x) (hm : m ≤ 1000000) (b : Bool) (hb : decide ((k, x) ∈ I) = b) :
    Calls Try.prog 11 #[.pointer (some ⟨c, 0, none⟩), .int .i64 k, .int .i64 x] w fun e w' => e = .returned (.bool b) ∧ CW W w' S c (cutI I k x) m ∧ Fr S w w' := by
  obtain ⟨B, ρ, ha, hs⟩ := h.at_.ex
  exact (cut_any w c I B ρ m ha k x hk hx (Nat.le_trans h.len hm)).mono fun e w' ⟨he, h1, h2⟩ => ⟨by rw [he, hb], ⟨⟨⟨B, ρ, h1, hs⟩, fun q hq => Nat.lt_of_lt_of_le (h.at_.bound q hq) h2.size⟩, h.fr.trans h2 (fun k hk e => by have := h.new k (hs k e); omega), h.new, Nat.le_trans (List.length_filter_le _ _) h.len⟩, h2.mono (fun q _ hq => hs q hq)⟩
theorem walk_cw {W w : World} {S : Nat → Prop} {c : Nat} {I : List (Int × Int)} {m : Nat} (h : CW W w S c I m) (k : Int) (hk : keyOk k) (hm : m ≤ 1000000) :
    Calls Try.prog 13 #[.pointer (some ⟨c, 0, none⟩), .int .i64 k] w fun e w' => ∃ v, e = .returned v ∧ OwnI w w' v (ids I k) := by
  obtain ⟨B, ρ, ha, hs⟩ := h.at_.ex
  exact walk_any w c I B ρ m ha k hk (Nat.le_trans h.len hm)
theorem back_cw {W w : World} {S : Nat → Prop} {c : Nat} {I : List (Int × Int)} {m : Nat} (h : CW W w S c I m) (k : Int) (hk : keyOk k) (hm : m ≤ 1000000) :
    Calls Try.prog 14 #[.pointer (some ⟨c, 0, none⟩), .int .i64 k] w fun e w' => ∃ v, e = .returned v ∧ OwnI w w' v (ids I k).reverse := by
  obtain ⟨B, ρ, ha, hs⟩ := h.at_.ex
  exact back_any w c I B ρ m ha k hk (Nat.le_trans h.len hm)
theorem has_cw {W w : World} {S : Nat → Prop} {c : Nat} {I : List (Int × Int)} {m : Nat} (h : CW W w S c I m) (k x : Int) (hk : keyOk k) (hx : keyOk x) (b : Bool) (hb : decide (x ∈ ids I k) = b) :
    Calls Try.prog 21 #[.pointer (some ⟨c, 0, none⟩), .int .i64 k, .int .i64 x] w fun e w' => e = .returned (.bool b) ∧ w = w' := by
  obtain ⟨B, ρ, ha, hs⟩ := h.at_.ex
  exact (has_any w c I B ρ m ha k x hk hx).mono fun e w' ⟨he, hw⟩ => ⟨by rw [he, hb], hw⟩
theorem len_cw {W w : World} {S : Nat → Prop} {c : Nat} {I : List (Int × Int)} {m : Nat} (h : CW W w S c I m) (n : Int) (hn : (I.length : Int) = n) :
    Calls Try.prog 20 #[.pointer (some ⟨c, 0, none⟩)] w fun e w' => e = .returned (.int .i64 n) ∧ w = w' := by
  obtain ⟨B, ρ, ha, hs⟩ := h.at_.ex
  exact (len_any w c I B ρ m ha).mono fun e w' ⟨he, hw⟩ => ⟨by rw [he, hn], hw⟩
theorem same_cw {w : World} {av bv : Value} {la lb : List Int} (ha : Rd w av la.length 1 (la.map iv)) (hb : Rd w bv lb.length 1 (lb.map iv)) (b : Bool) (hd : decide (la = lb) = b) :
    Calls Try.prog 12 #[av, bv] w fun e w' => e = .returned (.bool b) ∧ Fr No w w' :=
  (same_any w av bv la lb ha hb).mono fun e w' ⟨he, hw⟩ => ⟨by rw [he, hd], hw⟩
theorem CS.ne {w : World} {S : Nat → Prop} {c : Nat} {I : List (Int × Int)} {m : Nat} (h : CS w S c I m) : True := trivial

set_option maxRecDepth 100000 in
set_option maxHeartbeats 1000000 in
theorem known_any (W : World) : Calls Try.prog 16 #[] W fun e w' => e = .returned (.bool true) ∧ Fr No W w' := by
  go_enter Try.func16, Try.ntmps16
  go_wp2_with fail
  refine (new_cw (Fr.refl No _)).mono ?_
  rintro e w1 ⟨c, S1, rfl, h1, f1, n1⟩
  have H1 := hid h1
  clear h1 f1 n1
  go_wp2_with fail
  refine (add_cw H1.out 1 5 rfl rfl (by decide) true (by decide)).mono ?_
  rintro e w2 ⟨S2, rfl, h2, -, -⟩
  have H2 := hid h2
  clear h2
  go_wp2_with fail
  refine (add_cw H2.out 1 7 rfl rfl (by decide) true (by decide)).mono ?_
  rintro e w3 ⟨S3, rfl, h3, -, -⟩
  have H3 := hid h3
  clear h3
  go_wp2_with fail
  refine (add_cw H3.out 1 5 rfl rfl (by decide) false (by decide)).mono ?_
  rintro e w4 ⟨S4, rfl, h4, -, -⟩
  have H4 := hid h4
  clear h4
  go_wp2_with fail
  refine (walk_cw H4.out 1 rfl (by decide)).mono ?_
  rintro e w5 ⟨v5, rfl, o5⟩
  have H5 := hid o5
  clear o5
  go_wp2_with fail
  refine (same_cw (lb := [7, 5]) (w := w5.alloc _) (H5.out.next ((Fr.refl No w5).alloc _)).rd (Rd.block (cs := [7, 5].map iv) (heap1 w5 _) 2 1 2 rfl (iv_one _) (Nat.le_refl _) (by simp [maxLen])) true (by decide)).mono ?_
  rintro e w6 ⟨rfl, f6⟩
  have H6 := hid (H4.out.nextNo ((H5.out.fr.alloc _).thenNo f6))
  clear f6
  go_wp2_with fail
  refine (back_cw H6.out 1 rfl (by decide)).mono ?_
  rintro e w7 ⟨v7, rfl, o7⟩
  have H7 := hid o7
  clear o7
  go_wp2_with fail
  refine (same_cw (lb := [5, 7]) (w := w7.alloc _) (H7.out.next ((Fr.refl No w7).alloc _)).rd (Rd.block (cs := [5, 7].map iv) (heap1 w7 _) 2 1 2 rfl (iv_one _) (Nat.le_refl _) (by simp [maxLen])) true (by decide)).mono ?_
  rintro e w8 ⟨rfl, f8⟩
  have H8 := hid ((H6.out.nextNo ((H7.out.fr.alloc _).thenNo f8)).fr)
  clear f8
  go_wp2_with fail
  go_ret
  exact ⟨rfl, H8.out⟩
end Go.Proofs.Ytdoapfgcjmkfhaa
