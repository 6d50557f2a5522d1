/- Same, turned. -/
import Derived.Test.YtdoapfgcjmkfhaaChW
namespace Go.Proofs.Ytdoapfgcjmkfhaa
open Go.RowKit Go.Lig

theorem same_len (w : World) (av bv : Value) (la lb : List Int) (ha : Rd w av la.length 1 (la.map iv)) (hb : Rd w bv lb.length 1 (lb.map iv)) (hne : la.length ≠ lb.length) :
    Calls Try.prog 12 #[av, bv] w fun e w' => e = .returned (.bool false) ∧ w = w' := by
  obtain ⟨ao, ca, rfl, hla⟩ := rd_len ha
  obtain ⟨bo, cb, rfl, hlb⟩ := rd_len hb
  have h1 : (((la.length : Nat) : Int) != ((lb.length : Nat) : Int)) = true := by rw [bne_iff_ne]; omega
  clear ha hb hne
  go_enter Try.func12, Try.ntmps12
  go_wp2
  go_ret
  exact ⟨rfl, rfl⟩
theorem same_end {la lb : List Int} {i : Nat} (h : la.take i = lb.take i) (h1 : i = la.length) (h2 : i = lb.length) : decide (la = lb) = true := by
  rw [h1, List.take_length, ← h1, h2, List.take_length] at h
  exact decide_eq_true h
theorem same_part {la lb : List Int} {i : Nat} {x y : Int} (h1 : la[i]? = some x) (h2 : lb[i]? = some y) (hne : x ≠ y) : decide (la = lb) = false := by
  refine decide_eq_false (fun e => hne ?_)
  rw [e, h2] at h1
  exact (Option.some.inj h1).symm
set_option maxHeartbeats 1000000 in
theorem same_eq (w : World) (av bv : Value) (la lb : List Int) (ha : Rd w av la.length 1 (la.map iv)) (hb : Rd w bv lb.length 1 (lb.map iv)) (heq : la.length = lb.length) :
    Calls Try.prog 12 #[av, bv] w fun e w' => e = .returned (.bool (decide (la = lb))) ∧ Fr No w w' := by
  obtain ⟨ao, ca, rfl, hla⟩ := rd_len ha
  obtain ⟨bo, cb, rfl, hlb⟩ := rd_len hb
  have H := hid (⟨ha, hb, heq⟩ : _ ∧ _ ∧ _)
  have h1 : (((la.length : Nat) : Int) != ((lb.length : Nat) : Int)) = false := by rw [heq]; simp
  clear ha hb heq
  go_enter Try.func12, Try.ntmps12
  go_wp2
  clear h1
  go_loopw [5] (fun vi wr => ∃ i : Nat, i ≤ la.length ∧ vi = .int .i64 (i : Int) ∧ Hid (la.take i = lb.take i ∧ Fr No w wr)) (fun vi _ => la.length - (intOf vi).toNat)
  case atStart => exact ⟨0, Nat.zero_le _, rfl, rfl, Fr.refl _ _⟩
  case round =>
    obtain ⟨i, hi, rfl, hR⟩ := hrel
    by_cases hlt : i < la.length
    · obtain ⟨x, hx⟩ : ∃ x, la[i]? = some x := ⟨_, List.getElem?_eq_getElem hlt⟩
      obtain ⟨y, hy⟩ : ∃ y, lb[i]? = some y := ⟨_, List.getElem?_eq_getElem (by have := H.out.2.2; omega)⟩
      obtain ⟨ba, oa, ca', hva, hca⟩ := H.out.1.at1 (k := i) (u := iv x) (by simp [hx])
      obtain ⟨rfl, rfl⟩ : ao = some ⟨ba, oa, none⟩ ∧ ca = ca' := by simpa using hva
      obtain ⟨bb, ob, cb', hvb, hcb⟩ := H.out.2.1.at1 (k := i) (u := iv y) (by simp [hy])
      obtain ⟨rfl, rfl⟩ : bo = some ⟨bb, ob, none⟩ ∧ cb = cb' := by simpa using hvb
      have c1 : wr.cell? ⟨ba, oa + i, none⟩ = some (.int .i64 x) := hca wr hR.out.2
      have c2 : wr.cell? ⟨bb, ob + i, none⟩ = some (.int .i64 y) := hcb wr hR.out.2
      have hlt2 : i < lb.length := by have := H.out.2.2; omega
      have HX := hid (⟨hx, hy⟩ : _ ∧ _)
      clear hva hvb hca hcb hx hy
      by_cases hxy : x = y
      · subst hxy
        go_wp2
        go_quiet (fail)
        go_wp2
        go_roundw
        case rel => exact ⟨i + 1, by omega, by go_num, by rw [take_snoc HX.out.1, take_snoc HX.out.2, hR.out.1], hR.out.2.drewN _⟩
        case measure => simp [intOf]; omega
      · have n1 : ((x : Int) != y) = true := by rw [bne_iff_ne]; exact hxy
        have HN := hid hxy
        clear hxy
        go_wp2
        go_quiet (fail)
        go_wp2
        go_ret
        exact ⟨by rw [same_part HX.out.1 HX.out.2 HN.out]; rfl, hR.out.2.drewN _⟩
    · obtain rfl : i = la.length := by omega
      clear hlt
      go_wp2
      go_ret
      exact ⟨by rw [same_end hR.out.1 rfl H.out.2.2]; rfl, hR.out.2⟩
theorem same_any (w : World) (av bv : Value) (la lb : List Int) (ha : Rd w av la.length 1 (la.map iv)) (hb : Rd w bv lb.length 1 (lb.map iv)) :
    Calls Try.prog 12 #[av, bv] w fun e w' => e = .returned (.bool (decide (la = lb))) ∧ Fr No w w' := by
  by_cases h : la.length = lb.length
  · exact same_eq w av bv la lb ha hb h
  · refine (same_len w av bv la lb ha hb h).mono ?_
    rintro e w' ⟨rfl, rfl⟩
    exact ⟨by rw [decide_eq_false (fun e => h (by rw [e]))], Fr.refl _ _⟩
theorem turned_snoc {l : List Int} {i : Nat} {y : Int} (h : l[l.length - 1 - i]? = some y) (hi : i < l.length) : l.reverse.take (i + 1) = l.reverse.take i ++ [y] := by
  refine take_snoc ?_
  rw [List.getElem?_reverse hi]
  exact h
set_option maxHeartbeats 1000000 in
theorem turned_any (w : World) (av : Value) (l : List Int) (ha : Rd w av l.length 1 (l.map iv)) (hlen : l.length ≤ 1000000) :
    Calls Try.prog 15 #[av] w fun e w' => ∃ v, e = .returned v ∧ OwnI w w' v l.reverse := by
  obtain ⟨ao, ca, rfl, hla⟩ := rd_len ha
  have H := hid ha
  clear ha
  go_enter Try.func15, Try.ntmps15
  go_wp2
  go_loopw [3, 4] (fun vo vi wr => ∃ (i : Nat) (so : Option Addr) (co : Nat), i ≤ l.length ∧ vo = .slice so i co ∧ vi = .int .i64 ((l.length : Int) - 1 - (i : Int)) ∧ Hid (OwnI w wr (.slice so i co) (l.reverse.take i))) (fun vo _ _ => l.length - slLen vo)
  case atStart => exact ⟨0, none, 0, Nat.zero_le _, rfl, by go_num, OwnI.nil w⟩
  case round =>
    obtain ⟨i, so, co, hi, rfl, rfl, ho⟩ := hrel
    by_cases hlt : i < l.length
    · obtain ⟨y, hy⟩ : ∃ y, l[l.length - 1 - i]? = some y := ⟨_, List.getElem?_eq_getElem (by omega)⟩
      obtain ⟨ba, oa, ca', hva, hca⟩ := H.out.at1 (k := l.length - 1 - i) (u := iv y) (by simp [hy])
      obtain ⟨rfl, rfl⟩ : ao = some ⟨ba, oa, none⟩ ∧ ca = ca' := by simpa using hva
      have c1 : wr.cell? ⟨ba, oa + (l.length - 1 - i), none⟩ = some (.int .i64 y) := hca wr ho.out.fr
      have hij : ((l.length : Int) - 1 - (i : Int)) = ((l.length - 1 - i : Nat) : Int) := by omega
      have HY := hid (⟨hy, hij⟩ : _ ∧ _)
      rw [hij]
      clear hy hva hca hij
      have HJ := hid (show ((l.length - 1 - i : Nat) : Int) - 1 = (l.length : Int) - 1 - ((i + 1 : Nat) : Int) by omega)
      have hj1 : l.length - 1 - i < l.length := by omega
      generalize hj : l.length - 1 - i = j at *
      have HJ2 := hid hj
      clear hj
      go_wp2_with (first | (refine wpList_buildSlice1 rfl 24 3 (.tmp 16) rfl _ 1 8 Try.underlying24 infoInt (by decide) (by decide) (.int .i64 y) rfl rfl ?_; intro w2 p2; have P2 := hid p2; clear p2) | (refine wpList_app rfl (.tmp 12) (.tmp 17) 24 rfl 3 (.int .i64 0) 1 8 Try.underlying24 infoInt rfl (by decide) (.slice so i co) i ((l.reverse.take i).map iv) rfl (by have := fd_owns ho.out.row P2.out.fr; rwa [List.length_take, List.length_reverse, Nat.min_eq_left hi] at this) (.slice (some ⟨wr.heap.size, 0, none⟩) 1 1) 1 [iv y] rfl (Rd.block (cs := [iv y]) P2.out.at_ 1 1 1 rfl (by simp [iv, Value.oneCell']) (Nat.le_refl _) (by simp [maxLen])) (by unfold maxLen; omega) (by omega) ?_; rintro v3 w3 o3 f3 b3 -; obtain ⟨ao3, co3, rfl⟩ := ownsRow_slice o3; have H3 := hid (ho.out.app (x := y) P2.out (by rw [List.length_take, List.length_reverse, Nat.min_eq_left hi]; exact o3) f3 b3); clear o3 f3 b3))
      go_roundw
      case rel => exact ⟨i + 1, ao3, co3, by omega, rfl, by rw [HJ.out], by rw [turned_snoc (by rw [HJ2.out]; exact HY.out.1) hlt]; exact H3.out⟩
      case measure => simp [slLen]; omega
    · obtain rfl : i = l.length := by omega
      have HO := hid (show OwnI w wr (.slice so l.length co) l.reverse by have := ho.out; rwa [← List.length_reverse, List.take_length, List.length_reverse] at this)
      clear ho hlt
      go_wp2
      go_ret
      exact ⟨_, rfl, HO.out⟩
end Go.Proofs.Ytdoapfgcjmkfhaa
