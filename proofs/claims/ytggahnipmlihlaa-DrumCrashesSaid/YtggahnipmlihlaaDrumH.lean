/- DrumBounds: the number of sectors, their size, noughts behind what is written. -/
import Derived.Test.YtggahnipmlihlaaDrumG
namespace Go.Proofs.Ytggahnipmlihlaa
open Go.RowKit Go.Lig

def fill7 (n k : Nat) : List Value := (List.range n).map fun j => u8v (if j < k then 7 else 0)
theorem fill7_zero (n : Nat) : List.replicate n (Value.int .u8 0) = fill7 n 0 := by
  apply List.ext_getElem <;> simp [fill7, u8v]
theorem fill7_step (n k : Nat) (h : k < n) : (fill7 n k).toArray.setIfInBounds k (.int .u8 7) = (fill7 n (k + 1)).toArray := by
  apply Array.ext_getElem?
  intro i
  rw [Array.getElem?_setIfInBounds]
  simp only [fill7, List.getElem?_toArray, List.getElem?_map, List.size_toArray, List.length_map, List.length_range]
  by_cases e : k = i
  · subst e
    rw [if_pos rfl, if_pos h, List.getElem?_range h]
    simp [u8v]
  · rw [if_neg e]
    by_cases h3 : i < n
    · rw [List.getElem?_range h3]
      simp only [Option.map_some]
      congr 2
      by_cases h4 : i < k
      · rw [if_pos h4, if_pos (by omega)]
      · rw [if_neg h4, if_neg (by omega)]
    · rw [List.getElem?_eq_none (by simp; omega)]
      rfl
theorem fill7_all (n : Nat) : fill7 n n = (List.replicate n (7 : UInt8)).map u8v := by
  apply List.ext_getElem
  · simp [fill7]
  · intro i h1 h2
    have : i < n := by simpa [fill7] using h1
    simp [fill7, this]
theorem fill7_get (n k j : Nat) (h : j < n) : (fill7 n k)[j]? = some (u8v (if j < k then 7 else 0)) := by simp [fill7, h]
theorem fill7_one (n k : Nat) : ∀ u ∈ fill7 n k, u.oneCell' = true := by
  intro u hu
  simp only [fill7, List.mem_map] at hu
  obtain ⟨j, _, rfl⟩ := hu
  rfl

theorem bounds_out (W : World) (n i size : Int) (h : size < 0 ∨ 200 < size) : Calls Try.prog 4 #[.int .i64 n, .int .i64 i, .int .i64 size] W fun e w' => e = .returned (.bool true) ∧ W = w' := by
  rcases h with h | h
  · go_enter Try.func4, Try.ntmps4
    go_wp2
    go_ret
    exact ⟨rfl, rfl⟩
  · have h0 : ¬ size < 0 := by omega
    go_enter Try.func4, Try.ntmps4
    go_wp2
    go_ret
    exact ⟨rfl, rfl⟩
theorem known_keeps {W w : World} (hf : Fr No W w) : Calls Try.prog 22 #[] w fun e w' => e = .returned (.bool true) ∧ Fr No W w' :=
  (known_any w).mono fun _ _ ⟨h1, h2⟩ => ⟨h1, hf.thenNo h2⟩
theorem new_as {W w : World} (hW : Fr No W w) (n : Int) (N : Nat) (hN : clampN n = N) : Calls Try.prog 11 #[.int .i64 n] w fun e w' => ∃ b S, e = .returned (.pointer (some ⟨b, 0, none⟩)) ∧ DW W w' S b (Dr.new N) ∧ Fr No w w' := by
  rw [← hN]
  exact (new_dw hW n).mono fun e w' ⟨b, S, h1, h2, h3, _⟩ => ⟨b, S, h1, h2, h3⟩
theorem len_as {w : World} {S : Nat → Prop} {b : Nat} {D : Dr} (h : DrumAt w S b D) (z : Int) (hz : (D.n : Int) = z) : Calls Try.prog 23 #[.pointer (some ⟨b, 0, none⟩)] w fun e w' => e = .returned (.int .i64 z) ∧ w = w' := by
  rw [← hz]
  exact len_any w S b D h
theorem waiting_as {w : World} {S : Nat → Prop} {b : Nat} {D : Dr} (h : DrumAt w S b D) (z : Int) (hz : (D.wait.length : Int) = z) : Calls Try.prog 18 #[.pointer (some ⟨b, 0, none⟩)] w fun e w' => e = .returned (.int .i64 z) ∧ w = w' := by
  rw [← hz]
  exact waiting_any w S b D h
/-- Write, its outcome given. -/
theorem write_as {W w : World} {S : Nat → Prop} {b : Nat} {D : Dr} (h : DW W w S b D) (i : Int) (pv : Value) (l : List UInt8) (hrd : Rd w pv l.length 1 (l.map u8v)) (hS : ∀ k, slBlock pv = some k → ¬ S k) (hw : D.wait.length ≤ 1000000000)
    (z : Int) (D' : Dr) (hz : D.doWrite i l = (z, D')) :
    Calls Try.prog 13 #[.pointer (some ⟨b, 0, none⟩), .int .i64 i, pv] w fun e w' => ∃ S', e = .returned (.int .i64 z) ∧ DW W w' S' b D' ∧ Fr S w w' ∧ ∀ k, S' k → S k ∨ w.heap.size ≤ k := by
  refine (write_any w S b D h.at_ i pv l hrd (fun k hk _ => hS k hk) hw).mono fun e w' ⟨he, h1, h2⟩ => ?_
  rw [hz] at he h1
  exact ⟨_, he, h.grow h1 h2, h2, fun k hk => by rcases hk with hk | hk; exact .inl hk; exact .inr hk.1⟩
theorem write_bad {D : Dr} (h : Live D) (i : Int) (l : List UInt8) (hb : i < 0 ∨ (D.n : Int) ≤ i ∨ 64 < l.length) : D.doWrite i l = (1, D) := by
  simp only [Dr.doWrite, h.alive, h.tick, if_true]
  rw [if_pos hb]
theorem write_good {D : Dr} (h : Live D) (i : Nat) (l : List UInt8) (hi : i < D.n) (hl : l.length ≤ 64) : D.doWrite i l = (0, D.put i l) := by
  simp only [Dr.doWrite, h.alive, h.tick, if_true]
  rw [if_neg (by omega)]
  rfl

set_option maxRecDepth 100000 in
set_option maxHeartbeats 2000000 in
theorem boundsMidA (W : World) (n i : Int) (sz : Nat) (h1 : 0 ≤ n) (h2 : n ≤ 200) (hs : sz ≤ 200) (hi : i < 0) : Calls Try.prog 4 #[.int .i64 n, .int .i64 i, .int .i64 (sz : Int)] W fun e w' => e = .returned (.bool true) ∧ Fr No W w' := by
  have hN : clampN n = n.toNat := by unfold clampN; omega
  have HN := hid hN
  clear hN
  have hs0 : ¬ (sz : Int) < 0 := by omega
  have hs1 : ¬ (200 : Int) < (sz : Int) := by omega
  go_enter Try.func4, Try.ntmps4
  go_wp2_with (first | (go_at_call 11; refine (new_as (Fr.refl No _) _ _ HN.out).mono ?_; rintro e w1 ⟨b, S, rfl, h1, f1⟩; have H1 := hid (⟨h1, f1⟩ : _ ∧ _); clear h1 f1) | (refine wpList_makeO rfl 29 5 (.tmp 28) (.tmp 28) rfl _ 1 1 Try.underlying29 info5 sz rfl rfl (by omega) (by omega) ?_; rw [made_one _ _ rfl, fill7_zero]; intro w2 p2; have P2 := hid p2; clear p2))
  go_loopw [10] (fun v wr => ∃ k : Nat, k ≤ sz ∧ v = .int .i64 (k : Int) ∧ Hid (wr.heap[w1.heap.size]? = some (.cells (fill7 sz k).toArray 5 (0, 0)) ∧ Fr No w1 wr)) (fun v _ => sz - (intOf v).toNat)
  case atStart => exact ⟨0, Nat.zero_le _, rfl, ⟨P2.out.at_, P2.out.fr⟩⟩
  case round =>
    obtain ⟨k, hk, rfl, hm⟩ := hrel
    by_cases hlt : k < sz
    · have hc : wr.cell? ⟨w1.heap.size, k, none⟩ = some (u8v (if k < k then 7 else 0)) := by rw [cellOf hm.out.1]; simpa using fill7_get sz k k hlt
      have hz := freeAll hm.out.1
      go_wp2
      go_roundw
      case rel =>
        refine ⟨k + 1, by omega, by go_num, ?_, ?_⟩
        · have := hset (k := k) (v := .int .u8 7) hm.out.1
          rw [fill7_step sz k hlt] at this
          exact this
        · exact hm.out.2.setCell (p := ⟨w1.heap.size, k, none⟩) _ (fun e => absurd e (Nat.lt_irrefl _))
      case measure => simp [intOf]; omega
    · obtain rfl : k = sz := by omega
      clear hlt
      have hrd : Rd wr (.slice (some ⟨w1.heap.size, 0, none⟩) k k) (List.replicate k (7 : UInt8)).length 1 ((List.replicate k (7 : UInt8)).map u8v) := by
        rw [← fill7_all, List.length_replicate]
        exact Rd.block hm.out.1 k 1 k (by simp [fill7]) (fill7_one k k) (Nat.le_refl _) (by unfold maxLen; omega)
      have HR := hid hrd
      have hdw := H1.out.1.nextNo hm.out.2
      have HD := hid hdw
      have hnS : ∀ q, slBlock (.slice (some ⟨w1.heap.size, 0, none⟩) k k) = some q → ¬ S q := fun q hq e => by
        simp [slBlock] at hq
        have := H1.out.1.at_.bound q e
        omega
      have HS := hid hnS
      clear hrd hdw hnS
      go_wp2_with (first | (go_at_call 13; refine (write_as HD.out _ _ _ HR.out HS.out (Nat.zero_le _) 1 _ (write_bad (live_new (n.toNat)) i _ (by rw [List.length_replicate]; show i < 0 ∨ ((n.toNat : Nat) : Int) ≤ i ∨ 64 < k; omega))).mono ?_; rintro e w3 ⟨S3, rfl, h3, f3, -⟩; have H3 := hid h3; clear h3 f3) | (go_at_call 23; refine (len_as H3.out.at_ n (by show ((n.toNat : Nat) : Int) = n; omega)).mono ?_; rintro e w' ⟨rfl, rfl⟩) | (go_at_call 18; refine (waiting_as H3.out.at_ 0 rfl).mono ?_; rintro e w' ⟨rfl, rfl⟩) | (go_at_call 22; refine (known_keeps H3.out.fr).mono ?_; rintro e w4 ⟨rfl, h4⟩; have H4 := hid h4; clear h4))
      go_ret
      exact ⟨rfl, H4.out⟩

set_option maxRecDepth 100000 in
set_option maxHeartbeats 2000000 in
theorem boundsMidB (W : World) (n i : Int) (sz : Nat) (h1 : 0 ≤ n) (h2 : n ≤ 200) (hs : sz ≤ 200) (hi0 : ¬ i < 0) (hi : n ≤ i) : Calls Try.prog 4 #[.int .i64 n, .int .i64 i, .int .i64 (sz : Int)] W fun e w' => e = .returned (.bool true) ∧ Fr No W w' := by
  have hN : clampN n = n.toNat := by unfold clampN; omega
  have HN := hid hN
  clear hN
  have hs0 : ¬ (sz : Int) < 0 := by omega
  have hs1 : ¬ (200 : Int) < (sz : Int) := by omega
  go_enter Try.func4, Try.ntmps4
  go_wp2_with (first | (go_at_call 11; refine (new_as (Fr.refl No _) _ _ HN.out).mono ?_; rintro e w1 ⟨b, S, rfl, h1, f1⟩; have H1 := hid (⟨h1, f1⟩ : _ ∧ _); clear h1 f1) | (refine wpList_makeO rfl 29 5 (.tmp 28) (.tmp 28) rfl _ 1 1 Try.underlying29 info5 sz rfl rfl (by omega) (by omega) ?_; rw [made_one _ _ rfl, fill7_zero]; intro w2 p2; have P2 := hid p2; clear p2))
  go_loopw [10] (fun v wr => ∃ k : Nat, k ≤ sz ∧ v = .int .i64 (k : Int) ∧ Hid (wr.heap[w1.heap.size]? = some (.cells (fill7 sz k).toArray 5 (0, 0)) ∧ Fr No w1 wr)) (fun v _ => sz - (intOf v).toNat)
  case atStart => exact ⟨0, Nat.zero_le _, rfl, ⟨P2.out.at_, P2.out.fr⟩⟩
  case round =>
    obtain ⟨k, hk, rfl, hm⟩ := hrel
    by_cases hlt : k < sz
    · have hc : wr.cell? ⟨w1.heap.size, k, none⟩ = some (u8v (if k < k then 7 else 0)) := by rw [cellOf hm.out.1]; simpa using fill7_get sz k k hlt
      have hz := freeAll hm.out.1
      go_wp2
      go_roundw
      case rel =>
        refine ⟨k + 1, by omega, by go_num, ?_, ?_⟩
        · have := hset (k := k) (v := .int .u8 7) hm.out.1
          rw [fill7_step sz k hlt] at this
          exact this
        · exact hm.out.2.setCell (p := ⟨w1.heap.size, k, none⟩) _ (fun e => absurd e (Nat.lt_irrefl _))
      case measure => simp [intOf]; omega
    · obtain rfl : k = sz := by omega
      clear hlt
      have hrd : Rd wr (.slice (some ⟨w1.heap.size, 0, none⟩) k k) (List.replicate k (7 : UInt8)).length 1 ((List.replicate k (7 : UInt8)).map u8v) := by
        rw [← fill7_all, List.length_replicate]
        exact Rd.block hm.out.1 k 1 k (by simp [fill7]) (fill7_one k k) (Nat.le_refl _) (by unfold maxLen; omega)
      have HR := hid hrd
      have hdw := H1.out.1.nextNo hm.out.2
      have HD := hid hdw
      have hnS : ∀ q, slBlock (.slice (some ⟨w1.heap.size, 0, none⟩) k k) = some q → ¬ S q := fun q hq e => by
        simp [slBlock] at hq
        have := H1.out.1.at_.bound q e
        omega
      have HS := hid hnS
      clear hrd hdw hnS
      go_wp2_with (first | (go_at_call 13; refine (write_as HD.out _ _ _ HR.out HS.out (Nat.zero_le _) 1 _ (write_bad (live_new (n.toNat)) i _ (by rw [List.length_replicate]; show i < 0 ∨ ((n.toNat : Nat) : Int) ≤ i ∨ 64 < k; omega))).mono ?_; rintro e w3 ⟨S3, rfl, h3, f3, -⟩; have H3 := hid h3; clear h3 f3) | (go_at_call 23; refine (len_as H3.out.at_ n (by show ((n.toNat : Nat) : Int) = n; omega)).mono ?_; rintro e w' ⟨rfl, rfl⟩) | (go_at_call 18; refine (waiting_as H3.out.at_ 0 rfl).mono ?_; rintro e w' ⟨rfl, rfl⟩) | (go_at_call 22; refine (known_keeps H3.out.fr).mono ?_; rintro e w4 ⟨rfl, h4⟩; have H4 := hid h4; clear h4))
      go_ret
      exact ⟨rfl, H4.out⟩

set_option maxRecDepth 100000 in
set_option maxHeartbeats 2000000 in
theorem boundsMidC (W : World) (n i : Int) (sz : Nat) (h1 : 0 ≤ n) (h2 : n ≤ 200) (hs : sz ≤ 200) (hi0 : ¬ i < 0) (hi : i < n) (h64 : ¬ (sz : Int) ≤ 64) : Calls Try.prog 4 #[.int .i64 n, .int .i64 i, .int .i64 (sz : Int)] W fun e w' => e = .returned (.bool true) ∧ Fr No W w' := by
  have hN : clampN n = n.toNat := by unfold clampN; omega
  have HN := hid hN
  clear hN
  have hs0 : ¬ (sz : Int) < 0 := by omega
  have hs1 : ¬ (200 : Int) < (sz : Int) := by omega
  have hb64 : decide ((sz : Int) ≤ 64) = false := by simp; omega
  go_enter Try.func4, Try.ntmps4
  go_wp2_with (first | (go_at_call 11; refine (new_as (Fr.refl No _) _ _ HN.out).mono ?_; rintro e w1 ⟨b, S, rfl, h1, f1⟩; have H1 := hid (⟨h1, f1⟩ : _ ∧ _); clear h1 f1) | (refine wpList_makeO rfl 29 5 (.tmp 28) (.tmp 28) rfl _ 1 1 Try.underlying29 info5 sz rfl rfl (by omega) (by omega) ?_; rw [made_one _ _ rfl, fill7_zero]; intro w2 p2; have P2 := hid p2; clear p2))
  go_loopw [10] (fun v wr => ∃ k : Nat, k ≤ sz ∧ v = .int .i64 (k : Int) ∧ Hid (wr.heap[w1.heap.size]? = some (.cells (fill7 sz k).toArray 5 (0, 0)) ∧ Fr No w1 wr)) (fun v _ => sz - (intOf v).toNat)
  case atStart => exact ⟨0, Nat.zero_le _, rfl, ⟨P2.out.at_, P2.out.fr⟩⟩
  case round =>
    obtain ⟨k, hk, rfl, hm⟩ := hrel
    by_cases hlt : k < sz
    · have hc : wr.cell? ⟨w1.heap.size, k, none⟩ = some (u8v (if k < k then 7 else 0)) := by rw [cellOf hm.out.1]; simpa using fill7_get sz k k hlt
      have hz := freeAll hm.out.1
      go_wp2
      go_roundw
      case rel =>
        refine ⟨k + 1, by omega, by go_num, ?_, ?_⟩
        · have := hset (k := k) (v := .int .u8 7) hm.out.1
          rw [fill7_step sz k hlt] at this
          exact this
        · exact hm.out.2.setCell (p := ⟨w1.heap.size, k, none⟩) _ (fun e => absurd e (Nat.lt_irrefl _))
      case measure => simp [intOf]; omega
    · obtain rfl : k = sz := by omega
      clear hlt
      have hrd : Rd wr (.slice (some ⟨w1.heap.size, 0, none⟩) k k) (List.replicate k (7 : UInt8)).length 1 ((List.replicate k (7 : UInt8)).map u8v) := by
        rw [← fill7_all, List.length_replicate]
        exact Rd.block hm.out.1 k 1 k (by simp [fill7]) (fill7_one k k) (Nat.le_refl _) (by unfold maxLen; omega)
      have HR := hid hrd
      have hdw := H1.out.1.nextNo hm.out.2
      have HD := hid hdw
      have hnS : ∀ q, slBlock (.slice (some ⟨w1.heap.size, 0, none⟩) k k) = some q → ¬ S q := fun q hq e => by
        simp [slBlock] at hq
        have := H1.out.1.at_.bound q e
        omega
      have HS := hid hnS
      clear hrd hdw hnS
      go_wp2_with (first | (go_at_call 13; refine (write_as HD.out _ _ _ HR.out HS.out (Nat.zero_le _) 1 _ (write_bad (live_new (n.toNat)) i _ (by rw [List.length_replicate]; show i < 0 ∨ ((n.toNat : Nat) : Int) ≤ i ∨ 64 < k; omega))).mono ?_; rintro e w3 ⟨S3, rfl, h3, f3, -⟩; have H3 := hid h3; clear h3 f3) | (go_at_call 23; refine (len_as H3.out.at_ n (by show ((n.toNat : Nat) : Int) = n; omega)).mono ?_; rintro e w' ⟨rfl, rfl⟩) | (go_at_call 18; refine (waiting_as H3.out.at_ 0 rfl).mono ?_; rintro e w' ⟨rfl, rfl⟩) | (go_at_call 22; refine (known_keeps H3.out.fr).mono ?_; rintro e w4 ⟨rfl, h4⟩; have H4 := hid h4; clear h4))
      go_ret
      exact ⟨rfl, H4.out⟩

set_option maxRecDepth 100000 in
set_option maxHeartbeats 2000000 in
theorem boundsLowA (W : World) (n i : Int) (sz : Nat) (h1 : n < 0) (hs : sz ≤ 200) (hi : i < 0) : Calls Try.prog 4 #[.int .i64 n, .int .i64 i, .int .i64 (sz : Int)] W fun e w' => e = .returned (.bool true) ∧ Fr No W w' := by
  have hN : clampN n = 0 := by unfold clampN; omega
  have HN := hid hN
  clear hN
  have hs0 : ¬ (sz : Int) < 0 := by omega
  have hs1 : ¬ (200 : Int) < (sz : Int) := by omega
  go_enter Try.func4, Try.ntmps4
  go_wp2_with (first | (go_at_call 11; refine (new_as (Fr.refl No _) _ _ HN.out).mono ?_; rintro e w1 ⟨b, S, rfl, h1, f1⟩; have H1 := hid (⟨h1, f1⟩ : _ ∧ _); clear h1 f1) | (refine wpList_makeO rfl 29 5 (.tmp 28) (.tmp 28) rfl _ 1 1 Try.underlying29 info5 sz rfl rfl (by omega) (by omega) ?_; rw [made_one _ _ rfl, fill7_zero]; intro w2 p2; have P2 := hid p2; clear p2))
  go_loopw [10] (fun v wr => ∃ k : Nat, k ≤ sz ∧ v = .int .i64 (k : Int) ∧ Hid (wr.heap[w1.heap.size]? = some (.cells (fill7 sz k).toArray 5 (0, 0)) ∧ Fr No w1 wr)) (fun v _ => sz - (intOf v).toNat)
  case atStart => exact ⟨0, Nat.zero_le _, rfl, ⟨P2.out.at_, P2.out.fr⟩⟩
  case round =>
    obtain ⟨k, hk, rfl, hm⟩ := hrel
    by_cases hlt : k < sz
    · have hc : wr.cell? ⟨w1.heap.size, k, none⟩ = some (u8v (if k < k then 7 else 0)) := by rw [cellOf hm.out.1]; simpa using fill7_get sz k k hlt
      have hz := freeAll hm.out.1
      go_wp2
      go_roundw
      case rel =>
        refine ⟨k + 1, by omega, by go_num, ?_, ?_⟩
        · have := hset (k := k) (v := .int .u8 7) hm.out.1
          rw [fill7_step sz k hlt] at this
          exact this
        · exact hm.out.2.setCell (p := ⟨w1.heap.size, k, none⟩) _ (fun e => absurd e (Nat.lt_irrefl _))
      case measure => simp [intOf]; omega
    · obtain rfl : k = sz := by omega
      clear hlt
      have hrd : Rd wr (.slice (some ⟨w1.heap.size, 0, none⟩) k k) (List.replicate k (7 : UInt8)).length 1 ((List.replicate k (7 : UInt8)).map u8v) := by
        rw [← fill7_all, List.length_replicate]
        exact Rd.block hm.out.1 k 1 k (by simp [fill7]) (fill7_one k k) (Nat.le_refl _) (by unfold maxLen; omega)
      have HR := hid hrd
      have hdw := H1.out.1.nextNo hm.out.2
      have HD := hid hdw
      have hnS : ∀ q, slBlock (.slice (some ⟨w1.heap.size, 0, none⟩) k k) = some q → ¬ S q := fun q hq e => by
        simp [slBlock] at hq
        have := H1.out.1.at_.bound q e
        omega
      have HS := hid hnS
      clear hrd hdw hnS
      go_wp2_with (first | (go_at_call 13; refine (write_as HD.out _ _ _ HR.out HS.out (Nat.zero_le _) 1 _ (write_bad (live_new (0)) i _ (by rw [List.length_replicate]; show i < 0 ∨ ((0 : Nat) : Int) ≤ i ∨ 64 < k; omega))).mono ?_; rintro e w3 ⟨S3, rfl, h3, f3, -⟩; have H3 := hid h3; clear h3 f3) | (go_at_call 23; refine (len_as H3.out.at_ 0 rfl).mono ?_; rintro e w' ⟨rfl, rfl⟩) | (go_at_call 18; refine (waiting_as H3.out.at_ 0 rfl).mono ?_; rintro e w' ⟨rfl, rfl⟩) | (go_at_call 22; refine (known_keeps H3.out.fr).mono ?_; rintro e w4 ⟨rfl, h4⟩; have H4 := hid h4; clear h4))
      go_ret
      exact ⟨rfl, H4.out⟩

set_option maxRecDepth 100000 in
set_option maxHeartbeats 2000000 in
theorem boundsLowB (W : World) (n i : Int) (sz : Nat) (h1 : n < 0) (hs : sz ≤ 200) (_ : ¬ i < 0) (hi : 0 ≤ i) : Calls Try.prog 4 #[.int .i64 n, .int .i64 i, .int .i64 (sz : Int)] W fun e w' => e = .returned (.bool true) ∧ Fr No W w' := by
  have hN : clampN n = 0 := by unfold clampN; omega
  have HN := hid hN
  clear hN
  have hs0 : ¬ (sz : Int) < 0 := by omega
  have hs1 : ¬ (200 : Int) < (sz : Int) := by omega
  go_enter Try.func4, Try.ntmps4
  go_wp2_with (first | (go_at_call 11; refine (new_as (Fr.refl No _) _ _ HN.out).mono ?_; rintro e w1 ⟨b, S, rfl, h1, f1⟩; have H1 := hid (⟨h1, f1⟩ : _ ∧ _); clear h1 f1) | (refine wpList_makeO rfl 29 5 (.tmp 28) (.tmp 28) rfl _ 1 1 Try.underlying29 info5 sz rfl rfl (by omega) (by omega) ?_; rw [made_one _ _ rfl, fill7_zero]; intro w2 p2; have P2 := hid p2; clear p2))
  go_loopw [10] (fun v wr => ∃ k : Nat, k ≤ sz ∧ v = .int .i64 (k : Int) ∧ Hid (wr.heap[w1.heap.size]? = some (.cells (fill7 sz k).toArray 5 (0, 0)) ∧ Fr No w1 wr)) (fun v _ => sz - (intOf v).toNat)
  case atStart => exact ⟨0, Nat.zero_le _, rfl, ⟨P2.out.at_, P2.out.fr⟩⟩
  case round =>
    obtain ⟨k, hk, rfl, hm⟩ := hrel
    by_cases hlt : k < sz
    · have hc : wr.cell? ⟨w1.heap.size, k, none⟩ = some (u8v (if k < k then 7 else 0)) := by rw [cellOf hm.out.1]; simpa using fill7_get sz k k hlt
      have hz := freeAll hm.out.1
      go_wp2
      go_roundw
      case rel =>
        refine ⟨k + 1, by omega, by go_num, ?_, ?_⟩
        · have := hset (k := k) (v := .int .u8 7) hm.out.1
          rw [fill7_step sz k hlt] at this
          exact this
        · exact hm.out.2.setCell (p := ⟨w1.heap.size, k, none⟩) _ (fun e => absurd e (Nat.lt_irrefl _))
      case measure => simp [intOf]; omega
    · obtain rfl : k = sz := by omega
      clear hlt
      have hrd : Rd wr (.slice (some ⟨w1.heap.size, 0, none⟩) k k) (List.replicate k (7 : UInt8)).length 1 ((List.replicate k (7 : UInt8)).map u8v) := by
        rw [← fill7_all, List.length_replicate]
        exact Rd.block hm.out.1 k 1 k (by simp [fill7]) (fill7_one k k) (Nat.le_refl _) (by unfold maxLen; omega)
      have HR := hid hrd
      have hdw := H1.out.1.nextNo hm.out.2
      have HD := hid hdw
      have hnS : ∀ q, slBlock (.slice (some ⟨w1.heap.size, 0, none⟩) k k) = some q → ¬ S q := fun q hq e => by
        simp [slBlock] at hq
        have := H1.out.1.at_.bound q e
        omega
      have HS := hid hnS
      clear hrd hdw hnS
      go_wp2_with (first | (go_at_call 13; refine (write_as HD.out _ _ _ HR.out HS.out (Nat.zero_le _) 1 _ (write_bad (live_new (0)) i _ (by rw [List.length_replicate]; show i < 0 ∨ ((0 : Nat) : Int) ≤ i ∨ 64 < k; omega))).mono ?_; rintro e w3 ⟨S3, rfl, h3, f3, -⟩; have H3 := hid h3; clear h3 f3) | (go_at_call 23; refine (len_as H3.out.at_ 0 rfl).mono ?_; rintro e w' ⟨rfl, rfl⟩) | (go_at_call 18; refine (waiting_as H3.out.at_ 0 rfl).mono ?_; rintro e w' ⟨rfl, rfl⟩) | (go_at_call 22; refine (known_keeps H3.out.fr).mono ?_; rintro e w4 ⟨rfl, h4⟩; have H4 := hid h4; clear h4))
      go_ret
      exact ⟨rfl, H4.out⟩

set_option maxRecDepth 100000 in
set_option maxHeartbeats 2000000 in
theorem boundsHighA (W : World) (n i : Int) (sz : Nat) (h1 : 200 < n) (hs : sz ≤ 200) (hi : i < 0) : Calls Try.prog 4 #[.int .i64 n, .int .i64 i, .int .i64 (sz : Int)] W fun e w' => e = .returned (.bool true) ∧ Fr No W w' := by
  have hN : clampN n = 200 := by unfold clampN; omega
  have HN := hid hN
  clear hN
  have hs0 : ¬ (sz : Int) < 0 := by omega
  have hs1 : ¬ (200 : Int) < (sz : Int) := by omega
  go_enter Try.func4, Try.ntmps4
  go_wp2_with (first | (go_at_call 11; refine (new_as (Fr.refl No _) _ _ HN.out).mono ?_; rintro e w1 ⟨b, S, rfl, h1, f1⟩; have H1 := hid (⟨h1, f1⟩ : _ ∧ _); clear h1 f1) | (refine wpList_makeO rfl 29 5 (.tmp 28) (.tmp 28) rfl _ 1 1 Try.underlying29 info5 sz rfl rfl (by omega) (by omega) ?_; rw [made_one _ _ rfl, fill7_zero]; intro w2 p2; have P2 := hid p2; clear p2))
  go_loopw [10] (fun v wr => ∃ k : Nat, k ≤ sz ∧ v = .int .i64 (k : Int) ∧ Hid (wr.heap[w1.heap.size]? = some (.cells (fill7 sz k).toArray 5 (0, 0)) ∧ Fr No w1 wr)) (fun v _ => sz - (intOf v).toNat)
  case atStart => exact ⟨0, Nat.zero_le _, rfl, ⟨P2.out.at_, P2.out.fr⟩⟩
  case round =>
    obtain ⟨k, hk, rfl, hm⟩ := hrel
    by_cases hlt : k < sz
    · have hc : wr.cell? ⟨w1.heap.size, k, none⟩ = some (u8v (if k < k then 7 else 0)) := by rw [cellOf hm.out.1]; simpa using fill7_get sz k k hlt
      have hz := freeAll hm.out.1
      go_wp2
      go_roundw
      case rel =>
        refine ⟨k + 1, by omega, by go_num, ?_, ?_⟩
        · have := hset (k := k) (v := .int .u8 7) hm.out.1
          rw [fill7_step sz k hlt] at this
          exact this
        · exact hm.out.2.setCell (p := ⟨w1.heap.size, k, none⟩) _ (fun e => absurd e (Nat.lt_irrefl _))
      case measure => simp [intOf]; omega
    · obtain rfl : k = sz := by omega
      clear hlt
      have hrd : Rd wr (.slice (some ⟨w1.heap.size, 0, none⟩) k k) (List.replicate k (7 : UInt8)).length 1 ((List.replicate k (7 : UInt8)).map u8v) := by
        rw [← fill7_all, List.length_replicate]
        exact Rd.block hm.out.1 k 1 k (by simp [fill7]) (fill7_one k k) (Nat.le_refl _) (by unfold maxLen; omega)
      have HR := hid hrd
      have hdw := H1.out.1.nextNo hm.out.2
      have HD := hid hdw
      have hnS : ∀ q, slBlock (.slice (some ⟨w1.heap.size, 0, none⟩) k k) = some q → ¬ S q := fun q hq e => by
        simp [slBlock] at hq
        have := H1.out.1.at_.bound q e
        omega
      have HS := hid hnS
      clear hrd hdw hnS
      go_wp2_with (first | (go_at_call 13; refine (write_as HD.out _ _ _ HR.out HS.out (Nat.zero_le _) 1 _ (write_bad (live_new (200)) i _ (by rw [List.length_replicate]; show i < 0 ∨ ((200 : Nat) : Int) ≤ i ∨ 64 < k; omega))).mono ?_; rintro e w3 ⟨S3, rfl, h3, f3, -⟩; have H3 := hid h3; clear h3 f3) | (go_at_call 23; refine (len_as H3.out.at_ 200 rfl).mono ?_; rintro e w' ⟨rfl, rfl⟩) | (go_at_call 18; refine (waiting_as H3.out.at_ 0 rfl).mono ?_; rintro e w' ⟨rfl, rfl⟩) | (go_at_call 22; refine (known_keeps H3.out.fr).mono ?_; rintro e w4 ⟨rfl, h4⟩; have H4 := hid h4; clear h4))
      go_ret
      exact ⟨rfl, H4.out⟩

set_option maxRecDepth 100000 in
set_option maxHeartbeats 2000000 in
theorem boundsHighB (W : World) (n i : Int) (sz : Nat) (h1 : 200 < n) (hs : sz ≤ 200) (hi0 : ¬ i < 0) (hi : 200 ≤ i) : Calls Try.prog 4 #[.int .i64 n, .int .i64 i, .int .i64 (sz : Int)] W fun e w' => e = .returned (.bool true) ∧ Fr No W w' := by
  have hN : clampN n = 200 := by unfold clampN; omega
  have HN := hid hN
  clear hN
  have hs0 : ¬ (sz : Int) < 0 := by omega
  have hs1 : ¬ (200 : Int) < (sz : Int) := by omega
  go_enter Try.func4, Try.ntmps4
  go_wp2_with (first | (go_at_call 11; refine (new_as (Fr.refl No _) _ _ HN.out).mono ?_; rintro e w1 ⟨b, S, rfl, h1, f1⟩; have H1 := hid (⟨h1, f1⟩ : _ ∧ _); clear h1 f1) | (refine wpList_makeO rfl 29 5 (.tmp 28) (.tmp 28) rfl _ 1 1 Try.underlying29 info5 sz rfl rfl (by omega) (by omega) ?_; rw [made_one _ _ rfl, fill7_zero]; intro w2 p2; have P2 := hid p2; clear p2))
  go_loopw [10] (fun v wr => ∃ k : Nat, k ≤ sz ∧ v = .int .i64 (k : Int) ∧ Hid (wr.heap[w1.heap.size]? = some (.cells (fill7 sz k).toArray 5 (0, 0)) ∧ Fr No w1 wr)) (fun v _ => sz - (intOf v).toNat)
  case atStart => exact ⟨0, Nat.zero_le _, rfl, ⟨P2.out.at_, P2.out.fr⟩⟩
  case round =>
    obtain ⟨k, hk, rfl, hm⟩ := hrel
    by_cases hlt : k < sz
    · have hc : wr.cell? ⟨w1.heap.size, k, none⟩ = some (u8v (if k < k then 7 else 0)) := by rw [cellOf hm.out.1]; simpa using fill7_get sz k k hlt
      have hz := freeAll hm.out.1
      go_wp2
      go_roundw
      case rel =>
        refine ⟨k + 1, by omega, by go_num, ?_, ?_⟩
        · have := hset (k := k) (v := .int .u8 7) hm.out.1
          rw [fill7_step sz k hlt] at this
          exact this
        · exact hm.out.2.setCell (p := ⟨w1.heap.size, k, none⟩) _ (fun e => absurd e (Nat.lt_irrefl _))
      case measure => simp [intOf]; omega
    · obtain rfl : k = sz := by omega
      clear hlt
      have hrd : Rd wr (.slice (some ⟨w1.heap.size, 0, none⟩) k k) (List.replicate k (7 : UInt8)).length 1 ((List.replicate k (7 : UInt8)).map u8v) := by
        rw [← fill7_all, List.length_replicate]
        exact Rd.block hm.out.1 k 1 k (by simp [fill7]) (fill7_one k k) (Nat.le_refl _) (by unfold maxLen; omega)
      have HR := hid hrd
      have hdw := H1.out.1.nextNo hm.out.2
      have HD := hid hdw
      have hnS : ∀ q, slBlock (.slice (some ⟨w1.heap.size, 0, none⟩) k k) = some q → ¬ S q := fun q hq e => by
        simp [slBlock] at hq
        have := H1.out.1.at_.bound q e
        omega
      have HS := hid hnS
      clear hrd hdw hnS
      go_wp2_with (first | (go_at_call 13; refine (write_as HD.out _ _ _ HR.out HS.out (Nat.zero_le _) 1 _ (write_bad (live_new (200)) i _ (by rw [List.length_replicate]; show i < 0 ∨ ((200 : Nat) : Int) ≤ i ∨ 64 < k; omega))).mono ?_; rintro e w3 ⟨S3, rfl, h3, f3, -⟩; have H3 := hid h3; clear h3 f3) | (go_at_call 23; refine (len_as H3.out.at_ 200 rfl).mono ?_; rintro e w' ⟨rfl, rfl⟩) | (go_at_call 18; refine (waiting_as H3.out.at_ 0 rfl).mono ?_; rintro e w' ⟨rfl, rfl⟩) | (go_at_call 22; refine (known_keeps H3.out.fr).mono ?_; rintro e w4 ⟨rfl, h4⟩; have H4 := hid h4; clear h4))
      go_ret
      exact ⟨rfl, H4.out⟩

set_option maxRecDepth 100000 in
set_option maxHeartbeats 2000000 in
theorem boundsHighC (W : World) (n i : Int) (sz : Nat) (h1 : 200 < n) (hs : sz ≤ 200) (hi0 : ¬ i < 0) (hi : i < 200) (h64 : ¬ (sz : Int) ≤ 64) : Calls Try.prog 4 #[.int .i64 n, .int .i64 i, .int .i64 (sz : Int)] W fun e w' => e = .returned (.bool true) ∧ Fr No W w' := by
  have hN : clampN n = 200 := by unfold clampN; omega
  have HN := hid hN
  clear hN
  have hs0 : ¬ (sz : Int) < 0 := by omega
  have hs1 : ¬ (200 : Int) < (sz : Int) := by omega
  have hb64 : decide ((sz : Int) ≤ 64) = false := by simp; omega
  go_enter Try.func4, Try.ntmps4
  go_wp2_with (first | (go_at_call 11; refine (new_as (Fr.refl No _) _ _ HN.out).mono ?_; rintro e w1 ⟨b, S, rfl, h1, f1⟩; have H1 := hid (⟨h1, f1⟩ : _ ∧ _); clear h1 f1) | (refine wpList_makeO rfl 29 5 (.tmp 28) (.tmp 28) rfl _ 1 1 Try.underlying29 info5 sz rfl rfl (by omega) (by omega) ?_; rw [made_one _ _ rfl, fill7_zero]; intro w2 p2; have P2 := hid p2; clear p2))
  go_loopw [10] (fun v wr => ∃ k : Nat, k ≤ sz ∧ v = .int .i64 (k : Int) ∧ Hid (wr.heap[w1.heap.size]? = some (.cells (fill7 sz k).toArray 5 (0, 0)) ∧ Fr No w1 wr)) (fun v _ => sz - (intOf v).toNat)
  case atStart => exact ⟨0, Nat.zero_le _, rfl, ⟨P2.out.at_, P2.out.fr⟩⟩
  case round =>
    obtain ⟨k, hk, rfl, hm⟩ := hrel
    by_cases hlt : k < sz
    · have hc : wr.cell? ⟨w1.heap.size, k, none⟩ = some (u8v (if k < k then 7 else 0)) := by rw [cellOf hm.out.1]; simpa using fill7_get sz k k hlt
      have hz := freeAll hm.out.1
      go_wp2
      go_roundw
      case rel =>
        refine ⟨k + 1, by omega, by go_num, ?_, ?_⟩
        · have := hset (k := k) (v := .int .u8 7) hm.out.1
          rw [fill7_step sz k hlt] at this
          exact this
        · exact hm.out.2.setCell (p := ⟨w1.heap.size, k, none⟩) _ (fun e => absurd e (Nat.lt_irrefl _))
      case measure => simp [intOf]; omega
    · obtain rfl : k = sz := by omega
      clear hlt
      have hrd : Rd wr (.slice (some ⟨w1.heap.size, 0, none⟩) k k) (List.replicate k (7 : UInt8)).length 1 ((List.replicate k (7 : UInt8)).map u8v) := by
        rw [← fill7_all, List.length_replicate]
        exact Rd.block hm.out.1 k 1 k (by simp [fill7]) (fill7_one k k) (Nat.le_refl _) (by unfold maxLen; omega)
      have HR := hid hrd
      have hdw := H1.out.1.nextNo hm.out.2
      have HD := hid hdw
      have hnS : ∀ q, slBlock (.slice (some ⟨w1.heap.size, 0, none⟩) k k) = some q → ¬ S q := fun q hq e => by
        simp [slBlock] at hq
        have := H1.out.1.at_.bound q e
        omega
      have HS := hid hnS
      clear hrd hdw hnS
      go_wp2_with (first | (go_at_call 13; refine (write_as HD.out _ _ _ HR.out HS.out (Nat.zero_le _) 1 _ (write_bad (live_new (200)) i _ (by rw [List.length_replicate]; show i < 0 ∨ ((200 : Nat) : Int) ≤ i ∨ 64 < k; omega))).mono ?_; rintro e w3 ⟨S3, rfl, h3, f3, -⟩; have H3 := hid h3; clear h3 f3) | (go_at_call 23; refine (len_as H3.out.at_ 200 rfl).mono ?_; rintro e w' ⟨rfl, rfl⟩) | (go_at_call 18; refine (waiting_as H3.out.at_ 0 rfl).mono ?_; rintro e w' ⟨rfl, rfl⟩) | (go_at_call 22; refine (known_keeps H3.out.fr).mono ?_; rintro e w4 ⟨rfl, h4⟩; have H4 := hid h4; clear h4))
      go_ret
      exact ⟨rfl, H4.out⟩

set_option maxRecDepth 100000 in
set_option maxHeartbeats 2000000 in
theorem boundsMidD (W : World) (n : Int) (i sz : Nat) (h1 : 0 ≤ n) (h2 : n ≤ 200) (hs : sz ≤ 200) (hi : (i : Int) < n) (h64 : (sz : Int) ≤ 64) : Calls Try.prog 4 #[.int .i64 n, .int .i64 (i : Int), .int .i64 (sz : Int)] W fun e w' => e = .returned (.bool true) ∧ Fr No W w' := by
  have hN : clampN n = n.toNat := by unfold clampN; omega
  have HN := hid hN
  clear hN
  have hs0 : ¬ (sz : Int) < 0 := by omega
  have hs1 : ¬ (200 : Int) < (sz : Int) := by omega
  go_enter Try.func4, Try.ntmps4
  go_wp2_with (first | (go_at_call 11; refine (new_as (Fr.refl No _) _ _ HN.out).mono ?_; rintro e w1 ⟨b, S, rfl, h1, f1⟩; have H1 := hid (⟨h1, f1⟩ : _ ∧ _); clear h1 f1) | (refine wpList_makeO rfl 29 5 (.tmp 28) (.tmp 28) rfl _ 1 1 Try.underlying29 info5 sz rfl rfl (by omega) (by omega) ?_; rw [made_one _ _ rfl, fill7_zero]; intro w2 p2; have P2 := hid p2; clear p2))
  go_loopw [10] (fun v wr => ∃ k : Nat, k ≤ sz ∧ v = .int .i64 (k : Int) ∧ Hid (wr.heap[w1.heap.size]? = some (.cells (fill7 sz k).toArray 5 (0, 0)) ∧ Fr No w1 wr)) (fun v _ => sz - (intOf v).toNat)
  case atStart => exact ⟨0, Nat.zero_le _, rfl, ⟨P2.out.at_, P2.out.fr⟩⟩
  case round =>
    obtain ⟨k, hk, rfl, hm⟩ := hrel
    by_cases hlt : k < sz
    · have hc : wr.cell? ⟨w1.heap.size, k, none⟩ = some (u8v (if k < k then 7 else 0)) := by rw [cellOf hm.out.1]; simpa using fill7_get sz k k hlt
      have hz := freeAll hm.out.1
      go_wp2
      go_roundw
      case rel =>
        refine ⟨k + 1, by omega, by go_num, ?_, ?_⟩
        · have := hset (k := k) (v := .int .u8 7) hm.out.1
          rw [fill7_step sz k hlt] at this
          exact this
        · exact hm.out.2.setCell (p := ⟨w1.heap.size, k, none⟩) _ (fun e => absurd e (Nat.lt_irrefl _))
      case measure => simp [intOf]; omega
    · obtain rfl : k = sz := by omega
      clear hlt
      have hrd : Rd wr (.slice (some ⟨w1.heap.size, 0, none⟩) k k) (List.replicate k (7 : UInt8)).length 1 ((List.replicate k (7 : UInt8)).map u8v) := by
        rw [← fill7_all, List.length_replicate]
        exact Rd.block hm.out.1 k 1 k (by simp [fill7]) (fill7_one k k) (Nat.le_refl _) (by unfold maxLen; omega)
      have HR := hid hrd
      have hdw := H1.out.1.nextNo hm.out.2
      have HD := hid hdw
      have hnS : ∀ q, slBlock (.slice (some ⟨w1.heap.size, 0, none⟩) k k) = some q → ¬ S q := fun q hq e => by
        simp [slBlock] at hq
        have := H1.out.1.at_.bound q e
        omega
      have HS := hid hnS
      clear hrd hdw hnS
      go_wp2_with (first | (go_at_call 13; refine (write_as HD.out _ _ _ HR.out HS.out (Nat.zero_le _) 0 _ (write_good (live_new (n.toNat)) i _ (by show i < (n.toNat : Nat); omega) (by rw [List.length_replicate]; omega))).mono ?_; rintro e w3 ⟨S3, rfl, h3, f3, -⟩; have H3 := hid h3; clear h3 f3) | (go_at_call 23; refine (len_as H3.out.at_ n (by show ((n.toNat : Nat) : Int) = n; omega)).mono ?_; rintro e w' ⟨rfl, rfl⟩))
      refine (read_in w3 S3 b _ H3.out.at_ i (by show i < (n.toNat : Nat); omega)).mono ?_
      rintro e w4 ⟨v, rfl, ov, nv, bv, f4⟩
      obtain ⟨av, cv, rfl⟩ := ownsRow_slice ov
      obtain ⟨gv, _, hav, -⟩ := owns_at ov (by decide)
      have hcell : ∀ j, j < 64 → w4.cell? ⟨gv, j, none⟩ = some (u8v (if j < k then 7 else 0)) := fun j hj => owns_cell ov hav (by
        rw [sec, bs_get _ _ _ hj]
        simp only [Dr.put, lay]
        rw [if_pos (by omega), show 64 * i + j - 64 * i = j by omega]
        by_cases h7 : j < k
        · rw [if_pos h7]; simp [pad, h7]
        · rw [if_neg h7]; simp [pad, h7])
      have HC := hid (⟨hcell, H3.out.fr.thenNo f4⟩ : _ ∧ _)
      subst hav
      clear hcell ov nv bv f4
      go_wp2_with fail
      go_loopw [14] (fun v wx => ∃ j : Nat, j ≤ 64 ∧ v = .int .i64 (j : Int) ∧ wx = w4) (fun v _ => 64 - (intOf v).toNat)
      case atStart => exact ⟨0, Nat.zero_le _, rfl, rfl⟩
      case round =>
        obtain ⟨j, hj, rfl, rfl⟩ := hrel
        by_cases hlt : j < 64
        · have hcj := HC.out.1 j hlt
          by_cases h7 : j < k
          · rw [if_pos h7] at hcj
            have hcj' : World.cell? _ ⟨gv, j, none⟩ = some (.int .u8 7) := hcj
            clear hcj
            go_wp2
            go_roundw
            case rel => exact ⟨j + 1, by omega, by go_num, by first | trivial | rfl⟩
            case measure => simp [intOf]; omega
          · rw [if_neg h7] at hcj
            have hcj' : World.cell? _ ⟨gv, j, none⟩ = some (.int .u8 0) := hcj
            clear hcj
            go_wp2
            go_roundw
            case rel => exact ⟨j + 1, by omega, by go_num, by first | trivial | rfl⟩
            case measure => simp [intOf]; omega
        · go_wp2_with (go_at_call 22; refine (known_keeps HC.out.2).mono ?_; rintro e w5 ⟨rfl, h5⟩; have H5 := hid h5; clear h5)
          go_ret
          exact ⟨rfl, H5.out⟩

set_option maxRecDepth 100000 in
set_option maxHeartbeats 2000000 in
theorem boundsHighD (W : World) (n : Int) (i sz : Nat) (h1 : 200 < n) (hs : sz ≤ 200) (hi : (i : Int) < 200) (h64 : (sz : Int) ≤ 64) : Calls Try.prog 4 #[.int .i64 n, .int .i64 (i : Int), .int .i64 (sz : Int)] W fun e w' => e = .returned (.bool true) ∧ Fr No W w' := by
  have hN : clampN n = 200 := by unfold clampN; omega
  have HN := hid hN
  clear hN
  have hs0 : ¬ (sz : Int) < 0 := by omega
  have hs1 : ¬ (200 : Int) < (sz : Int) := by omega
  go_enter Try.func4, Try.ntmps4
  go_wp2_with (first | (go_at_call 11; refine (new_as (Fr.refl No _) _ _ HN.out).mono ?_; rintro e w1 ⟨b, S, rfl, h1, f1⟩; have H1 := hid (⟨h1, f1⟩ : _ ∧ _); clear h1 f1) | (refine wpList_makeO rfl 29 5 (.tmp 28) (.tmp 28) rfl _ 1 1 Try.underlying29 info5 sz rfl rfl (by omega) (by omega) ?_; rw [made_one _ _ rfl, fill7_zero]; intro w2 p2; have P2 := hid p2; clear p2))
  go_loopw [10] (fun v wr => ∃ k : Nat, k ≤ sz ∧ v = .int .i64 (k : Int) ∧ Hid (wr.heap[w1.heap.size]? = some (.cells (fill7 sz k).toArray 5 (0, 0)) ∧ Fr No w1 wr)) (fun v _ => sz - (intOf v).toNat)
  case atStart => exact ⟨0, Nat.zero_le _, rfl, ⟨P2.out.at_, P2.out.fr⟩⟩
  case round =>
    obtain ⟨k, hk, rfl, hm⟩ := hrel
    by_cases hlt : k < sz
    · have hc : wr.cell? ⟨w1.heap.size, k, none⟩ = some (u8v (if k < k then 7 else 0)) := by rw [cellOf hm.out.1]; simpa using fill7_get sz k k hlt
      have hz := freeAll hm.out.1
      go_wp2
      go_roundw
      case rel =>
        refine ⟨k + 1, by omega, by go_num, ?_, ?_⟩
        · have := hset (k := k) (v := .int .u8 7) hm.out.1
          rw [fill7_step sz k hlt] at this
          exact this
        · exact hm.out.2.setCell (p := ⟨w1.heap.size, k, none⟩) _ (fun e => absurd e (Nat.lt_irrefl _))
      case measure => simp [intOf]; omega
    · obtain rfl : k = sz := by omega
      clear hlt
      have hrd : Rd wr (.slice (some ⟨w1.heap.size, 0, none⟩) k k) (List.replicate k (7 : UInt8)).length 1 ((List.replicate k (7 : UInt8)).map u8v) := by
        rw [← fill7_all, List.length_replicate]
        exact Rd.block hm.out.1 k 1 k (by simp [fill7]) (fill7_one k k) (Nat.le_refl _) (by unfold maxLen; omega)
      have HR := hid hrd
      have hdw := H1.out.1.nextNo hm.out.2
      have HD := hid hdw
      have hnS : ∀ q, slBlock (.slice (some ⟨w1.heap.size, 0, none⟩) k k) = some q → ¬ S q := fun q hq e => by
        simp [slBlock] at hq
        have := H1.out.1.at_.bound q e
        omega
      have HS := hid hnS
      clear hrd hdw hnS
      go_wp2_with (first | (go_at_call 13; refine (write_as HD.out _ _ _ HR.out HS.out (Nat.zero_le _) 0 _ (write_good (live_new (200)) i _ (by show i < (200 : Nat); omega) (by rw [List.length_replicate]; omega))).mono ?_; rintro e w3 ⟨S3, rfl, h3, f3, -⟩; have H3 := hid h3; clear h3 f3) | (go_at_call 23; refine (len_as H3.out.at_ 200 rfl).mono ?_; rintro e w' ⟨rfl, rfl⟩))
      refine (read_in w3 S3 b _ H3.out.at_ i (by show i < (200 : Nat); omega)).mono ?_
      rintro e w4 ⟨v, rfl, ov, nv, bv, f4⟩
      obtain ⟨av, cv, rfl⟩ := ownsRow_slice ov
      obtain ⟨gv, _, hav, -⟩ := owns_at ov (by decide)
      have hcell : ∀ j, j < 64 → w4.cell? ⟨gv, j, none⟩ = some (u8v (if j < k then 7 else 0)) := fun j hj => owns_cell ov hav (by
        rw [sec, bs_get _ _ _ hj]
        simp only [Dr.put, lay]
        rw [if_pos (by omega), show 64 * i + j - 64 * i = j by omega]
        by_cases h7 : j < k
        · rw [if_pos h7]; simp [pad, h7]
        · rw [if_neg h7]; simp [pad, h7])
      have HC := hid (⟨hcell, H3.out.fr.thenNo f4⟩ : _ ∧ _)
      subst hav
      clear hcell ov nv bv f4
      go_wp2_with fail
      go_loopw [14] (fun v wx => ∃ j : Nat, j ≤ 64 ∧ v = .int .i64 (j : Int) ∧ wx = w4) (fun v _ => 64 - (intOf v).toNat)
      case atStart => exact ⟨0, Nat.zero_le _, rfl, rfl⟩
      case round =>
        obtain ⟨j, hj, rfl, rfl⟩ := hrel
        by_cases hlt : j < 64
        · have hcj := HC.out.1 j hlt
          by_cases h7 : j < k
          · rw [if_pos h7] at hcj
            have hcj' : World.cell? _ ⟨gv, j, none⟩ = some (.int .u8 7) := hcj
            clear hcj
            go_wp2
            go_roundw
            case rel => exact ⟨j + 1, by omega, by go_num, by first | trivial | rfl⟩
            case measure => simp [intOf]; omega
          · rw [if_neg h7] at hcj
            have hcj' : World.cell? _ ⟨gv, j, none⟩ = some (.int .u8 0) := hcj
            clear hcj
            go_wp2
            go_roundw
            case rel => exact ⟨j + 1, by omega, by go_num, by first | trivial | rfl⟩
            case measure => simp [intOf]; omega
        · go_wp2_with (go_at_call 22; refine (known_keeps HC.out.2).mono ?_; rintro e w5 ⟨rfl, h5⟩; have H5 := hid h5; clear h5)
          go_ret
          exact ⟨rfl, H5.out⟩

theorem bounds_any (W : World) (n i sz : Int) : Calls Try.prog 4 #[.int .i64 n, .int .i64 i, .int .i64 sz] W fun e w' => e = .returned (.bool true) ∧ Fr No W w' := by
  by_cases h0 : sz < 0 ∨ 200 < sz
  · exact (bounds_out W n i sz h0).mono fun e w' ⟨h1, h2⟩ => ⟨h1, h2 ▸ Fr.refl _ _⟩
  obtain ⟨s, rfl⟩ := Int.eq_ofNat_of_zero_le (by omega : 0 ≤ sz)
  have hs : s ≤ 200 := by omega
  by_cases hi : i < 0
  · rcases Int.lt_or_le n 0 with h | h
    · exact boundsLowA W n i s h hs hi
    · rcases Int.lt_or_le 200 n with h' | h'
      · exact boundsHighA W n i s h' hs hi
      · exact boundsMidA W n i s h h' hs hi
  obtain ⟨k, rfl⟩ := Int.eq_ofNat_of_zero_le (by omega : 0 ≤ i)
  rcases Int.lt_or_le n 0 with h | h
  · exact boundsLowB W n k s h hs hi (by omega)
  · rcases Int.lt_or_le 200 n with h' | h'
    · rcases Int.lt_or_le (k : Int) 200 with h2 | h2
      · by_cases h64 : (s : Int) ≤ 64
        · exact boundsHighD W n k s h' hs h2 h64
        · exact boundsHighC W n k s h' hs hi h2 h64
      · exact boundsHighB W n k s h' hs hi h2
    · rcases Int.lt_or_le (k : Int) n with h2 | h2
      · by_cases h64 : (s : Int) ≤ 64
        · exact boundsMidD W n k s h h' hs h2 h64
        · exact boundsMidC W n k s h h' hs hi h2 h64
      · exact boundsMidB W n k s h h' hs hi h2
end Go.Proofs.Ytggahnipmlihlaa
