/- ChainMany: the plain law, the walk. -/
import Derived.Test.YtdoapfgcjmkfhaaChH
namespace Go.Proofs.Ytdoapfgcjmkfhaa
open Go.RowKit Go.Lig

def seqI (q : Int) : Nat → List (Int × Int)
  | 0 => []
  | n + 1 => (q, (n : Int)) :: seqI q n
def down : Nat → List Int
  | 0 => []
  | n + 1 => (n : Int) :: down n
theorem down_mem (n : Nat) (x : Int) : x ∈ down n ↔ 0 ≤ x ∧ x < (n : Int) := by
  induction n with
  | zero => simp only [down, List.not_mem_nil, false_iff]; omega
  | succ n ih =>
    simp only [down, List.mem_cons, ih]
    omega
theorem down_len (n : Nat) : (down n).length = n := by
  induction n with
  | zero => rfl
  | succ n ih => simp [down, ih]
theorem seq_ids (q : Int) (n : Nat) : ids (seqI q n) q = down n := by
  induction n with
  | zero => rfl
  | succ n ih => simp only [seqI, down]; rw [ids_cons_same, ih]
theorem seq_all (q : Int) (n : Nat) : ∀ p ∈ seqI q n, p.1 = q := by
  induction n with
  | zero => intro p hp; cases hp
  | succ n ih =>
    intro p hp
    rcases List.mem_cons.1 hp with rfl | hp
    · rfl
    · exact ih p hp
theorem seq_add (q : Int) (n : Nat) : addI (seqI q n) q (n : Int) = seqI q (n + 1) ∧ decide ((q, (n : Int)) ∉ seqI q n) = true := by
  have h : ¬ (q, (n : Int)) ∈ seqI q n := by rw [← mem_ids, seq_ids, down_mem]; omega
  exact ⟨by unfold addI; rw [if_neg h]; rfl, decide_eq_true h⟩
def keepB (s j : Nat) (x : Int) : Bool := !(decide (x % (s : Int) = 0) && decide (x < ((j * s : Nat) : Int)))
def restB (s : Nat) (x : Int) : Bool := !(decide (x % (s : Int) = 0))
theorem keep_step (s j : Nat) (hs : 1 ≤ s) (x : Nat) : (!((x : Int) == ((j * s : Nat) : Int)) && keepB s j x) = keepB s (j + 1) x := by
  have e1 : ((x : Int) % (s : Int) = 0) ↔ x % s = 0 := by omega
  have e2 : ((x : Int) < ((j * s : Nat) : Int)) ↔ x < j * s := by omega
  have e3 : ((x : Int) < (((j + 1) * s : Nat) : Int)) ↔ x < (j + 1) * s := by omega
  have e4 : ((x : Int) = ((j * s : Nat) : Int)) ↔ x = j * s := by omega
  rw [Bool.eq_iff_iff]
  unfold keepB
  simp only [Bool.and_eq_true, Bool.not_eq_true', Bool.and_eq_false_iff, decide_eq_false_iff_not, beq_eq_false_iff_ne, ne_eq, e1, e2, e3, e4]
  by_cases hm : x % s = 0
  · have h1 : x < j * s ↔ x / s < j := (Nat.div_lt_iff_lt_mul (by omega)).symm
    have h2 : x < (j + 1) * s ↔ x / s < j + 1 := (Nat.div_lt_iff_lt_mul (by omega)).symm
    have h3 : x = j * s ↔ x / s = j := by
      have hd : x / s * s = x := Nat.div_mul_cancel (Nat.dvd_of_mod_eq_zero hm)
      constructor
      · intro e; rw [e]; exact Nat.mul_div_cancel _ (by omega)
      · intro e; rw [← e, hd]
    rw [h1, h2, h3]
    simp only [hm, not_true_eq_false, false_or]
    omega
  · simp only [hm, not_false_eq_true, true_or, and_true, iff_true]
    intro e
    exact hm (by rw [e]; exact Nat.mul_mod_left _ _)
structure ManyI (n s j : Nat) (I : List (Int × Int)) : Prop where
  ids_ : ids I 9 = (down n).filter (keepB s j)
  all : ∀ p ∈ I, p.1 = 9
theorem ManyI.start (n s : Nat) : ManyI n s 0 (seqI 9 n) := by
  refine ⟨?_, seq_all 9 n⟩
  rw [seq_ids]
  refine (List.filter_eq_self.2 (fun x hx => ?_)).symm
  have := ((down_mem n x).1 hx).1
  unfold keepB
  have h : ¬ x < ((0 * s : Nat) : Int) := by rw [Nat.zero_mul]; omega
  rw [decide_eq_false h, Bool.and_false]
  rfl
theorem ManyI.next {n s j : Nat} {I : List (Int × Int)} (h : ManyI n s j I) (hs : 1 ≤ s) : ManyI n s (j + 1) (cutI I 9 ((j * s : Nat) : Int)) := by
  refine ⟨?_, fun p hp => h.all p (List.mem_filter.1 hp).1⟩
  rw [ids_cut_same, h.ids_, List.filter_filter]
  refine List.filter_congr fun x hx => ?_
  obtain ⟨x', rfl⟩ := Int.eq_ofNat_of_zero_le ((down_mem n x).1 hx).1
  exact keep_step s j hs x'
theorem ManyI.there {n s j : Nat} {I : List (Int × Int)} (h : ManyI n s j I) (hj : j * s < n) : decide ((9, ((j * s : Nat) : Int)) ∈ I) = true := by
  refine decide_eq_true ((mem_ids I 9 _).1 ?_)
  rw [h.ids_]
  refine List.mem_filter.2 ⟨(down_mem n _).2 (by omega), ?_⟩
  unfold keepB
  simp
theorem ManyI.done {n s j : Nat} {I : List (Int × Int)} (h : ManyI n s j I) (hj : n ≤ j * s) : ids I 9 = (down n).filter (restB s) := by
  rw [h.ids_]
  refine List.filter_congr fun x hx => ?_
  have hx' := ((down_mem n x).1 hx).2
  have : x < ((j * s : Nat) : Int) := by omega
  unfold keepB restB
  rw [decide_eq_true this, Bool.and_true]
theorem all_len {I : List (Int × Int)} {q : Int} (h : ∀ p ∈ I, p.1 = q) : (ids I q).length = I.length := by
  unfold ids
  rw [List.length_map, List.filter_eq_self.2 (fun p hp => by simp [h p hp])]
theorem rest_step (n s i : Nat) (l : List Int) (h : (down n).filter (restB s) = l ++ (down (i + 1)).filter (restB s)) :
    (down n).filter (restB s) = (if (i : Int) % (s : Int) = 0 then l else l ++ [(i : Int)]) ++ (down i).filter (restB s) := by
  rw [h]
  simp only [down, List.filter_cons, restB]
  by_cases e : (i : Int) % (s : Int) = 0 <;> simp [e]
set_option maxRecDepth 100000 in
set_option maxHeartbeats 1000000 in
theorem many_in (W : World) (n s : Nat) (h1 : n ≤ 300) (h2 : 1 ≤ s) (h3 : s ≤ 50) :
    Calls Try.prog 7 #[.int .i64 (n : Int), .int .i64 (s : Int)] W fun e w' => e = .returned (.bool true) ∧ Fr No W w' := by
  have t1 : ¬ (n : Int) < 0 := by omega
  have t2 : ¬ (300 : Int) < (n : Int) := by omega
  have t3 : ¬ (s : Int) < 1 := by omega
  have t4 : ¬ (50 : Int) < (s : Int) := by omega
  go_enter Try.func7, Try.ntmps7
  go_wp2_with fail
  refine (new_cw (Fr.refl No _)).mono ?_
  rintro e w1 ⟨c, S1, rfl, c1, f1, n1⟩
  have H1 := hid c1
  clear c1 f1 n1 t1 t2 t3 t4
  go_wp2_with fail
  go_loopw [7] (fun vi wr => ∃ (i : Nat), i ≤ n ∧ vi = .int .i64 (i : Int) ∧ Hid (∃ S, CW W wr S c (seqI 9 i) i)) (fun vi _ => n - (intOf vi).toNat)
  case atStart => exact ⟨0, Nat.zero_le _, rfl, S1, H1.out⟩
  case round =>
    obtain ⟨i, hi, rfl, hR⟩ := hrel
    obtain ⟨S, hL⟩ := hR.out
    have HL := hid hL
    clear hR hL
    by_cases hlt : i < n
    · go_wp2_with fail
      refine (add_cw HL.out 9 (i : Int) rfl (key_small i (by omega)) (by omega) true (seq_add 9 i).2).mono ?_
      rintro e w2 ⟨S2, rfl, h2', f2, n2⟩
      have H2 := hid ((seq_add 9 i).1 ▸ h2')
      clear h2' f2 n2
      go_wp2_with fail
      go_roundw
      case rel => exact ⟨i + 1, by omega, by go_num, S2, H2.out⟩
      case measure => simp [intOf]; omega
    · obtain rfl : i = n := by omega
      clear hlt hi
      obtain ⟨wo, rfl⟩ : ∃ wo : World, wo = wr := ⟨_, rfl⟩
      go_wp2_with fail
      go_loopw [8] (fun vi wr => ∃ (x j : Nat), x ≤ 350 ∧ Hid (x = j * s) ∧ vi = .int .i64 (x : Int) ∧ Hid (∃ S I, CW W wr S c I i ∧ ManyI i s j I)) (fun vi _ => 400 - (intOf vi).toNat)
      case atStart => exact ⟨0, 0, by omega, hid (by omega), rfl, S, _, HL.out, ManyI.start i s⟩
      case round =>
        obtain ⟨x, j, hx, HX, rfl, hR⟩ := hrel
        obtain ⟨S2, I, hL, hM⟩ := hR.out
        have H2 := hid (⟨hL, hM⟩ : _ ∧ _)
        clear hR hL hM
        by_cases hlt : x < i
        · go_wp2_with fail
          refine (cut_cw H2.out.1 9 (x : Int) rfl (key_small x (by omega)) (by omega) true (by have e := HX.out; subst e; exact H2.out.2.there hlt)).mono ?_
          rintro e w3 ⟨rfl, h3', f3⟩
          have H3 := hid (⟨h3', by have e := HX.out; subst e; exact H2.out.2.next h2⟩ : CW W w3 S2 c (cutI I 9 (x : Int)) i ∧ ManyI i s (j + 1) (cutI I 9 (x : Int)))
          clear h3' f3
          go_wp2_with fail
          go_roundw
          case rel => exact ⟨x + s, j + 1, by omega, hid (by have := HX.out; rw [Nat.succ_mul]; omega), by go_num, S2, _, H3.out⟩
          case measure => simp [intOf]; omega
        · have HD := hid (H2.out.2.done (by have := HX.out; omega))
          have HA := hid (all_len H2.out.2.all)
          have hfl : ((down i).filter (restB s)).length ≤ i := by have := List.length_filter_le (restB s) (down i); rwa [down_len] at this
          obtain ⟨wo2, rfl⟩ : ∃ wo : World, wo = wr := ⟨_, rfl⟩
          go_wp2_with fail
          go_loopw [6, 9] (fun vo vi wr => ∃ (d : Nat) (l : List Int) (ao : Option Addr) (co : Nat), d ≤ i ∧ l.length ≤ d ∧ vo = .slice ao l.length co ∧ vi = .int .i64 ((i : Int) - 1 - (d : Int)) ∧ Hid (LW W wr S2 c I i (.slice ao l.length co) l ∧ (down i).filter (restB s) = l ++ (down (i - d)).filter (restB s))) (fun _ vi _ => (intOf vi + 1).toNat)
          case atStart => exact ⟨0, [], none, 0, Nat.zero_le _, Nat.le_refl _, rfl, by go_num, ⟨H2.out.1, ⟨World.ownsRow_nil _ _ _ _, fun _ e => (by cases e), H2.out.1.fr⟩, fun _ e => (by cases e)⟩, rfl⟩
          case round =>
            obtain ⟨d, l, ao, co, hd, hll, rfl, rfl, hR⟩ := hrel
            by_cases hlt : d < i
            · have hij : ((i : Int) - 1 - (d : Int)) = ((i - 1 - d : Nat) : Int) := by omega
              have HJ := hid (show ((i - 1 - d : Nat) : Int) - 1 = (i : Int) - 1 - ((d + 1 : Nat) : Int) by omega)
              have HS := hid (rest_step i s (i - 1 - d) l (by rw [show i - 1 - d + 1 = i - d by omega]; exact hR.out.2))
              have HE := hid (show i - 1 - d = i - (d + 1) by omega)
              rw [hij]
              clear hij
              have hx1 : i - 1 - d < 300 := by omega
              generalize hx : i - 1 - d = x at *
              have HXX := hid hx
              clear hx
              by_cases hz : (x : Int) % (s : Int) = 0
              · have hz1 : (((x : Int) % (s : Int)) != 0) = false := by simp [hz]
                have HS2 := HS.out
                rw [if_pos hz] at HS2
                have HS3 := hid HS2
                clear hz HS2
                go_wp2_with fail
                go_roundw
                case rel => exact ⟨d + 1, l, ao, co, by omega, by omega, rfl, by rw [HJ.out], hR.out.1, by rw [← HE.out]; exact HS3.out⟩
                case measure => (simp [intOf] <;> omega)
              · have hz1 : (((x : Int) % (s : Int)) != 0) = true := by rw [bne_iff_ne]; exact hz
                have HS2 := HS.out
                rw [if_neg hz] at HS2
                have HS3 := hid HS2
                clear hz HS2
                go_wp2_with (first | (refine wpList_buildSlice1 rfl 24 3 (.tmp 56) rfl _ 1 8 Try.underlying24 infoInt (by decide) (by decide) (.int .i64 (x : Int)) rfl rfl ?_; intro w3 p3; have P3 := hid p3; clear p3) | (refine wpList_app rfl (.tmp 55) (.tmp 57) 24 rfl 3 (.int .i64 0) 1 8 Try.underlying24 infoInt rfl (by decide) (.slice ao l.length co) l.length (l.map iv) rfl (fd_owns hR.out.1.own.row P3.out.fr) (.slice (some ⟨wr.heap.size, 0, none⟩) 1 1) 1 [iv x] rfl (new_rd1 P3.out) (by unfold maxLen; omega) (by omega) ?_; rintro v4 w4 o4 f4 b4 -; obtain ⟨ao4, co4, rfl⟩ := ownsRow_slice o4; have H4 := hid (hR.out.1.snoc (x := (x : Int)) P3.out o4 f4 b4); clear o4 f4 b4))
                go_roundw
                case rel => exact ⟨d + 1, l ++ [(x : Int)], ao4, co4, by omega, by simp; omega, by simp, by rw [HJ.out], by simpa using H4.out, by rw [← HE.out]; exact HS3.out⟩
                case measure => (simp [intOf] <;> omega)
            · obtain rfl : d = i := by omega
              have hl : l = (down d).filter (restB s) := by have := hR.out.2; rw [Nat.sub_self] at this; simpa [down] using this.symm
              have HLW := hid hR.out.1
              have HLL := hid hl
              clear hR hl hlt
              go_wp2_with fail
              refine (walk_cw HLW.out.cw 9 rfl (by omega)).mono ?_
              rintro e w4 ⟨v4, rfl, o4⟩
              have H4 := hid o4
              clear o4
              go_wp2_with fail
              refine (same_cw (lb := l) H4.out.rd (HLW.out.own.next H4.out.fr).rd true (decide_eq_true (by rw [HD.out, HLL.out]))).mono ?_
              rintro e w5 ⟨rfl, f5⟩
              have H5 := hid (HLW.out.nextNo (H4.out.fr.thenNo f5))
              clear f5
              go_wp2_with fail
              refine (back_cw H5.out.cw 9 rfl (by omega)).mono ?_
              rintro e w6 ⟨v6, rfl, o6⟩
              have H6 := hid o6
              clear o6
              go_wp2_with fail
              refine (turned_any _ _ l (H5.out.own.next H6.out.fr).rd (by omega)).mono ?_
              rintro e w7 ⟨v7, rfl, o7⟩
              have H7 := hid o7
              clear o7
              go_wp2_with fail
              refine (same_cw (H6.out.next H7.out.fr).rd H7.out.rd true (decide_eq_true (by rw [HD.out, HLL.out]))).mono ?_
              rintro e w8 ⟨rfl, f8⟩
              have H8 := hid (H5.out.nextNo ((H6.out.fr.thenNo H7.out.fr).thenNo f8))
              clear f8
              go_wp2_with fail
              refine (len_cw H8.out.cw (l.length : Int) (by have e1 := HA.out; rw [HD.out, ← HLL.out] at e1; omega)).mono ?_
              rintro e w9 ⟨rfl, rfl⟩
              go_wp2_with fail
              refine (known_any _).mono ?_
              rintro e w14 ⟨rfl, f14⟩
              have H14 := hid (H8.out.cw.fr.thenNo f14)
              clear f14
              go_wp2_with fail
              go_ret
              exact ⟨rfl, H14.out⟩
theorem many_out (W : World) (n s : Int) (h : n < 0 ∨ 300 < n ∨ s < 1 ∨ 50 < s) :
    Calls Try.prog 7 #[.int .i64 n, .int .i64 s] W fun e w' => e = .returned (.bool true) ∧ W = w' := by
  by_cases h1 : n < 0
  · clear h
    go_enter Try.func7, Try.ntmps7
    go_wp2
    go_ret
    exact ⟨rfl, rfl⟩
  by_cases h2 : 300 < n
  · clear h
    go_enter Try.func7, Try.ntmps7
    go_wp2
    go_ret
    exact ⟨rfl, rfl⟩
  by_cases h3 : s < 1
  · clear h
    go_enter Try.func7, Try.ntmps7
    go_wp2
    go_ret
    exact ⟨rfl, rfl⟩
  have h4 : 50 < s := by omega
  clear h
  go_enter Try.func7, Try.ntmps7
  go_wp2
  go_ret
  exact ⟨rfl, rfl⟩
theorem many_any (W : World) (n s : Int) :
    Calls Try.prog 7 #[.int .i64 n, .int .i64 s] W fun e w' => e = .returned (.bool true) ∧ Fr No W w' := by
  by_cases h : n < 0 ∨ 300 < n ∨ s < 1 ∨ 50 < s
  · exact (many_out W n s h).mono fun e w' ⟨h1, h2⟩ => ⟨h1, h2 ▸ Fr.refl _ _⟩
  · obtain ⟨n', rfl⟩ := Int.eq_ofNat_of_zero_le (show 0 ≤ n by omega)
    obtain ⟨s', rfl⟩ := Int.eq_ofNat_of_zero_le (show 0 ≤ s by omega)
    exact many_in W n' s' (by omega) (by omega) (by omega)
end Go.Proofs.Ytdoapfgcjmkfhaa
