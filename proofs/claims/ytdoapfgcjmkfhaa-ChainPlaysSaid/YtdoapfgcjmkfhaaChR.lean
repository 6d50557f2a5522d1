/- The reference's lists: at, Add, Walk. -/
import Derived.Test.YtdoapfgcjmkfhaaChAp
import Derived.Test.YtdoapfgcjmkfhaaLib3
namespace Go.Proofs.Ytdoapfgcjmkfhaa
open Go.RowKit Go.Lig

def icell (p : Int × Int) : List Value := [.int .i64 p.1, .int .i64 p.2]
def icells (I : List (Int × Int)) : List Value := I.flatMap icell
theorem icell_len (p : Int × Int) : (icell p).length = 2 := rfl
theorem icells_one (I : List (Int × Int)) : ∀ u ∈ icells I, u.oneCell' = true := by
  intro u hu
  obtain ⟨p, _, hp⟩ := List.mem_flatMap.1 hu
  simp only [icell, List.mem_cons, List.not_mem_nil, or_false] at hp
  rcases hp with rfl | rfl <;> rfl
theorem infoItem : (Try.prog.info? 54).map (fun i => (i.zero, i.size, i.bytes)) = some (some (.agg #[.int .i64 0, .int .i64 0]), 2, 16) := by kernel_rfl
theorem sizeItem : (Try.prog.info? 54).map (·.size) = some 2 := by kernel_rfl
/-- the reference's lists at b: T their blocks -/
structure RL (w : World) (T : Nat → Prop) (b : Nat) (I : List (Int × Int)) : Prop where
  ex : ∃ v, w.heap[b]? = some (.cells #[v] 34 (0, 0)) ∧ w.ownsRow 0 54 2 v I.length (icells I) ∧ ∀ k, v.ownBlock = some k → T k ∧ k ≠ b
  root : T b
  bound : ∀ k, T k → k < w.heap.size
theorem RL.frame {w w' : World} {T U : Nat → Prop} {b : Nat} {I : List (Int × Int)} (h : RL w T b I) (hf : Fr U w w') (hd : ∀ k, T k → ¬ U k) : RL w' T b I := by
  obtain ⟨v, h1, h2, h3⟩ := h.ex
  exact ⟨⟨v, hf.keep h1 (hd b h.root), hf.owns h2 (fun k hk => hd k (h3 k hk).1), h3⟩, h.root, fun k hk => Nat.lt_of_lt_of_le (h.bound k hk) hf.size⟩
/-- where an item stands; -1 -/
def atI : List (Int × Int) → Int → Int → Int
  | [], _, _ => -1
  | p :: I, k, x => if p = (k, x) then 0 else if atI I k x < 0 then -1 else atI I k x + 1
def atFrom (I : List (Int × Int)) (k x : Int) (i : Nat) : Prop := ∀ j p, j < i → I[j]? = some p → p ≠ (k, x)
theorem atI_found : ∀ (I : List (Int × Int)) (k x : Int) (i : Nat), atFrom I k x i → I[i]? = some (k, x) → atI I k x = (i : Int)
  | [], k, x, i, _, h => by simp at h
  | p :: I, k, x, 0, _, h => by
    obtain rfl : p = (k, x) := by simpa using h
    simp [atI]
  | p :: I, k, x, i + 1, hf, h => by
    have hp : p ≠ (k, x) := hf 0 p (by omega) rfl
    have ih := atI_found I k x i (fun j q hj hq => hf (j + 1) q (by omega) (by simpa using hq)) (by simpa using h)
    simp only [atI, if_neg hp, ih]
    rw [if_neg (by omega)]
    omega
theorem atI_none : ∀ (I : List (Int × Int)) (k x : Int), (k, x) ∉ I → atI I k x = -1
  | [], _, _, _ => rfl
  | p :: I, k, x, h => by
    have hp : p ≠ (k, x) := fun e => h (by simp [e])
    have ih := atI_none I k x (fun e => h (List.mem_cons_of_mem _ e))
    simp only [atI, if_neg hp, ih]
    rfl
theorem atI_some (I : List (Int × Int)) (k x : Int) (h : (k, x) ∈ I) : ∃ i : Nat, atI I k x = (i : Int) ∧ I[i]? = some (k, x) ∧ atFrom I k x i := by
  induction I with
  | nil => cases h
  | cons p I ih =>
    by_cases hp : p = (k, x)
    · exact ⟨0, by simp [atI, hp], by simp [hp], fun j q hj => by omega⟩
    · have hI : (k, x) ∈ I := by
        rcases List.mem_cons.1 h with h | h
        · exact absurd h.symm hp
        · exact h
      obtain ⟨i, h1, h2, h3⟩ := ih hI
      refine ⟨i + 1, ?_, by simpa using h2, fun j q hj hq => ?_⟩
      · simp only [atI, if_neg hp, h1]
        rw [if_neg (by omega)]
        omega
      · cases j with
        | zero => obtain rfl : p = q := by simpa using hq
                  exact hp
        | succ j => exact h3 j q (by omega) (by simpa using hq)
theorem atI_end {I : List (Int × Int)} {k x : Int} (h : atFrom I k x I.length) : (k, x) ∉ I := fun e => by
  obtain ⟨j, hj⟩ := List.getElem?_of_mem e
  have := (List.getElem?_eq_some_iff.1 hj).1
  exact h j _ this hj rfl
set_option maxHeartbeats 1000000 in
theorem rat_any (w : World) (T : Nat → Prop) (b : Nat) (I : List (Int × Int)) (h : RL w T b I) (k x : Int) (hl : I.length ≤ 1000000) :
    Calls Try.prog 23 #[.pointer (some ⟨b, 0, none⟩), .int .i64 k, .int .i64 x] w fun e w' => e = .returned (.int .i64 (atI I k x)) ∧ w = w' := by
  obtain ⟨v, h1, h2, h3⟩ := h.ex
  obtain ⟨ao, co, rfl⟩ := ownsRow_slice h2
  have c0 := cells1 h1
  have H := hid h2
  clear h h1 h2 h3
  go_enter Try.func23, Try.ntmps23
  go_wp2
  go_loop [7] (fun vi => ∃ i : Nat, i ≤ I.length ∧ vi = .int .i64 (i : Int) ∧ Hid (atFrom I k x i)) (fun vi => I.length - (intOf vi).toNat)
  case atStart => exact ⟨0, Nat.zero_le _, rfl, fun j p hj => by omega⟩
  case round =>
    obtain ⟨i, hi, rfl, hR⟩ := hrel
    by_cases hlt : i < I.length
    · obtain ⟨p, hp⟩ : ∃ p, I[i]? = some p := ⟨_, List.getElem?_eq_getElem hlt⟩
      obtain ⟨a, y⟩ := p
      obtain ⟨g, cur, rfl, -, -⟩ := owns_at H.out (by omega)
      have y0 : w.cell? ⟨g, i * 2, none⟩ = some (.int .i64 a) := owns_cell H.out rfl (by rw [← Nat.add_zero (i * 2)]; unfold icells; rw [flat_get (f := icell) (m := 2) (fun _ => rfl) _ i _ hp 0 (by decide)]; rfl)
      have y1 : w.cell? ⟨g, i * 2 + 1, none⟩ = some (.int .i64 y) := owns_cell H.out rfl (by unfold icells; rw [flat_get (f := icell) (m := 2) (fun _ => rfl) _ i _ hp 1 (by decide)]; rfl)
      have HP := hid hp
      clear hp
      have hnext : ¬ ((a, y) = (k, x)) → Hid (atFrom I k x (i + 1)) := fun hne => hid (fun j q hj hq => by
        by_cases e : j = i
        · subst e
          rw [HP.out] at hq
          exact Option.some.inj hq ▸ hne
        · exact hR.out j q (by omega) hq)
      by_cases ha : a = k
      · by_cases hy : y = x
        · have HF := hid (atI_found I k x i hR.out (by rw [HP.out, ha, hy]))
          have n1 : ((a : Int) == k) = true := by rw [beq_iff_eq]; exact ha
          have n2 : ((y : Int) == x) = true := by rw [beq_iff_eq]; exact hy
          clear ha hy hnext
          go_wp2
          go_ret
          exact ⟨by rw [HF.out]; rfl, rfl⟩
        · have HN := hnext (fun e => hy (by injection e))
          have n1 : ((a : Int) == k) = true := by rw [beq_iff_eq]; exact ha
          have n2 : ((y : Int) == x) = false := by rw [beq_eq_false_iff_ne]; exact hy
          clear ha hy hnext
          go_wp2
          go_round
          case rel => exact ⟨i + 1, by omega, by go_num, HN⟩
          case measure => simp [intOf]; omega
      · have HN := hnext (fun e => ha (by injection e))
        have n1 : ((a : Int) == k) = false := by rw [beq_eq_false_iff_ne]; exact ha
        clear ha hnext
        go_wp2
        go_round
        case rel => exact ⟨i + 1, by omega, by go_num, HN⟩
        case measure => simp [intOf]; omega
    · obtain rfl : i = I.length := by omega
      have HE := hid (atI_none I k x (atI_end hR.out))
      clear hlt
      go_wp2
      go_ret
      exact ⟨by rw [HE.out]; rfl, rfl⟩
set_option maxHeartbeats 1000000 in
theorem rwalk_any (w : World) (T : Nat → Prop) (b : Nat) (I : List (Int × Int)) (h : RL w T b I) (k : Int) (hl : I.length ≤ 1000000) :
    Calls Try.prog 19 #[.pointer (some ⟨b, 0, none⟩), .int .i64 k] w fun e w' => ∃ v, e = .returned v ∧ OwnI w w' v (ids I k) := by
  obtain ⟨v, h1, h2, h3⟩ := h.ex
  obtain ⟨ao, co, rfl⟩ := ownsRow_slice h2
  have H := hid (⟨h1, h2⟩ : _ ∧ _)
  clear h h1 h2 h3
  go_enter Try.func19, Try.ntmps19
  go_wp2
  go_loopw [5, 6] (fun vo vi wr => ∃ (i : Nat) (so : Option Addr) (co : Nat), i ≤ I.length ∧ vo = .slice so (ids (I.take i) k).length co ∧ vi = .int .i64 (i : Int) ∧ Hid (OwnI w wr (.slice so (ids (I.take i) k).length co) (ids (I.take i) k))) (fun _ vi _ => I.length - (intOf vi).toNat)
  case atStart => exact ⟨0, none, 0, Nat.zero_le _, rfl, rfl, OwnI.nil w⟩
  case round =>
    obtain ⟨i, so, c1, hi, rfl, rfl, ho⟩ := hrel
    have c0 := cells1 (ho.out.fr.keep H.out.1 (fun e => e))
    have hil : (ids (I.take i) k).length ≤ 1000000 := by have := ids_le (I.take i) k; have := List.length_take_le i I; omega
    by_cases hlt : i < I.length
    · obtain ⟨p, hp⟩ : ∃ p, I[i]? = some p := ⟨_, List.getElem?_eq_getElem hlt⟩
      obtain ⟨a, y⟩ := p
      have hro := fd_owns H.out.2 ho.out.fr
      obtain ⟨g, cur, rfl, -, -⟩ := owns_at hro (by omega)
      have y0 : wr.cell? ⟨g, i * 2, none⟩ = some (.int .i64 a) := owns_cell hro rfl (by rw [← Nat.add_zero (i * 2)]; unfold icells; rw [flat_get (f := icell) (m := 2) (fun _ => rfl) _ i _ hp 0 (by decide)]; rfl)
      have y1 : wr.cell? ⟨g, i * 2 + 1, none⟩ = some (.int .i64 y) := owns_cell hro rfl (by unfold icells; rw [flat_get (f := icell) (m := 2) (fun _ => rfl) _ i _ hp 1 (by decide)]; rfl)
      have htk : I.take (i + 1) = I.take i ++ [(a, y)] := by rw [List.take_add_one, hp]; rfl
      clear hp hro
      by_cases ha : a = k
      · have HS : Hid (ids (I.take (i + 1)) k = ids (I.take i) k ++ [y]) := hid (by rw [htk]; unfold ids; rw [List.filter_append]; simp [ha])
        subst ha
        clear htk
        go_wp2_with (first | (refine wpList_buildSlice1 rfl 24 3 (.tmp 34) rfl _ 1 8 Try.underlying24 infoInt (by decide) (by decide) (.int .i64 y) rfl rfl ?_; intro w2 p2; have P2 := hid p2; clear p2) | (refine wpList_app rfl (.tmp 26) (.tmp 35) 24 rfl 3 (.int .i64 0) 1 8 Try.underlying24 infoInt rfl (by decide) (.slice so (ids (I.take i) a).length c1) (ids (I.take i) a).length ((ids (I.take i) a).map iv) rfl (fd_owns ho.out.row P2.out.fr) (.slice (some ⟨wr.heap.size, 0, none⟩) 1 1) 1 [iv y] rfl (new_rd1 P2.out) (by unfold maxLen; omega) (by omega) ?_; rintro v3 w3 o3 f3 b3 -; obtain ⟨so3, co3, rfl⟩ := ownsRow_slice o3; have H3 := hid (ho.out.app (x := y) P2.out o3 f3 b3); clear o3 f3 b3))
        go_roundw
        case rel => exact ⟨i + 1, so3, co3, by omega, by rw [HS.out]; simp, by go_num, by rw [HS.out]; exact hid (by simpa using H3.out)⟩
        case measure => simp [intOf]; omega
      · have HS : Hid (ids (I.take (i + 1)) k = ids (I.take i) k) := hid (by rw [htk]; unfold ids; rw [List.filter_append]; simp [ha])
        have n1 : ((a : Int) == k) = false := by rw [beq_eq_false_iff_ne]; exact ha
        clear ha htk
        go_wp2
        go_roundw
        case rel => exact ⟨i + 1, so, c1, by omega, by rw [HS.out], by go_num, by rw [HS.out]; exact ho.out⟩
        case measure => simp [intOf]; omega
    · obtain rfl : i = I.length := by omega
      have HO := hid (show OwnI w wr (.slice so (ids (I.take I.length) k).length c1) (ids I k) by have := ho.out; rwa [List.take_length] at this ⊢)
      clear ho hlt
      go_wp2
      go_ret
      exact ⟨_, rfl, HO.out⟩
end Go.Proofs.Ytdoapfgcjmkfhaa
