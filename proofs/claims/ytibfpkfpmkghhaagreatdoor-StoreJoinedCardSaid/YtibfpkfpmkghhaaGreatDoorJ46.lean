/- A part of the proof: contracts of functions of the program, for the row's text. -/
import Derived.Test.YtibfpkfpmkghhaaGreatDoorJ45
import Derived.Test.YtibfpkfpmkghhaaGreatDoorJ31
import Derived.Test.YtibfpkfpmkghhaaGreatDoorJ03
import Derived.Test.YtibfpkfpmkghhaaGreatDoorJ02
namespace Go.Proofs.YtibfpkfpmkghhaaGreatDoor
open Go.RowKit Go.Lig

/-- the k-th is a name, and stands behind the one ahead -/
def nameAt (l : List ByteArray) (k : Nat) : Bool := isNameB (l[k]?.getD ⟨#[]⟩) && (k == 0 || Op.bytesLess (l[k - 1]?.getD ⟨#[]⟩).toList (l[k]?.getD ⟨#[]⟩).toList)
def namesB (l : List ByteArray) (m : Nat) : Bool := (List.range l.length).all (nameAt l) && decide (l.length ≤ m)
set_option maxRecDepth 100000 in
set_option maxHeartbeats 2000000 in
theorem arenames_any (w : World) (v : Value) (l : List ByteArray) (h : Rd w v l.length 1 (l.map Value.string)) (hs : ∀ s ∈ l, s.size ≤ maxLen) (hn : l.length ≤ 1000000) (m : Nat) (hm : m ≤ 1000) :
    Calls Tryz.prog 105 #[v, .int .i64 (m : Int)] w fun e w' => e = .returned (.bool (namesB l m)) ∧ Fr No w w' := by
  obtain ⟨a, c, rfl, -⟩ := rd_len h
  have HR := hid h
  have HS := hid (fun (s : ByteArray) (hx : s ∈ l) => show s.size ≤ 9223372036854775807 from hs s hx)
  have HB : Hid (∀ k, k < l.length → nameAt l k = false → namesB l m = false) := hid (fun k hk hf => by
    unfold namesB
    rw [List.all_eq_false.2 ⟨k, List.mem_range.2 hk, by rw [hf]; simp⟩]
    rfl)
  have HE : Hid ((∀ k, k < l.length → nameAt l k = true) → namesB l m = decide (l.length ≤ m)) := hid (fun hb => by
    unfold namesB
    rw [List.all_eq_true.2 (fun k hk => hb k (List.mem_range.1 hk)), Bool.true_and])
  have HN := hid hn
  have HA : Hid (∀ k, nameAt l k = (isNameB (l[k]?.getD ⟨#[]⟩) && (k == 0 || Op.bytesLess (l[k - 1]?.getD ⟨#[]⟩).toList (l[k]?.getD ⟨#[]⟩).toList))) := hid (fun _ => rfl)
  generalize namesB l m = r at *
  generalize nameAt l = f at *
  clear h hs
  go_enter Tryz.func105, Tryz.ntmps105
  go_wp2_with fail
  generalize hLn : l.length = n at *
  have HL := hid hLn
  clear hLn
  go_loopw [9] (fun vi wr => ∃ i : Nat, i ≤ n ∧ vi = .int .i64 (i : Int) ∧ Hid (Fr No w wr ∧ ∀ k, k < i → f k = true)) (fun vi _ => n - (intOf vi).toNat)
  case atStart => exact ⟨0, Nat.zero_le _, rfl, Fr.refl _ _, fun k hk => absurd hk (Nat.not_lt_zero _)⟩
  case round =>
    obtain ⟨i, hi, rfl, HF⟩ := hrel
    by_cases hlt : i < n
    · obtain ⟨s, hy⟩ : ∃ s, l[i]? = some s := ⟨l[i]'(by have := HL.out; omega), List.getElem?_eq_getElem _⟩
      obtain ⟨b, o, c', e, hc⟩ := HR.out.at1 (k := i) (u := .string s) (by simp [hy])
      obtain ⟨rfl, -, rfl⟩ := Value.slice.inj e
      have c0 := hc wr HF.out.1
      have HI := hid (fun W => isname_any W s (HS.out s (List.mem_of_getElem? hy)))
      have HAi : Hid (f i = (isNameB s && (i == 0 || Op.bytesLess (l[i - 1]?.getD ⟨#[]⟩).toList s.toList))) := hid (by rw [HA.out, hy]; rfl)
      have HY := hid hy
      have HC := hid hc
      clear hy e hc
      cases hnm : isNameB s with
      | false =>
        rw [hnm] at HI HAi
        have HBi := hid (HB.out i hlt (by rw [HAi.out]; rfl))
        clear hnm
        go_wp2_with (go_at_call 132; refine (HI.out _).mono ?_; rintro e w2 ⟨rfl, f2⟩; have F2 := hid (HF.out.1.thenNo f2); clear f2)
        go_ret
        rw [HBi.out]
        exact ⟨rfl, F2.out⟩
      | true =>
        rw [hnm, Bool.true_and] at HAi
        rw [hnm] at HI
        clear hnm
        by_cases hz : i = 0
        · subst hz
          rw [Nat.add_zero] at c0
          have HAt : Hid (f 0 = true) := hid (by rw [HAi.out]; rfl)
          go_wp2_with (go_at_call 132; refine (HI.out _).mono ?_; rintro e w2 ⟨rfl, f2⟩; have F2 := hid (HF.out.1.thenNo f2); clear f2)
          go_roundw
          case rel => exact ⟨1, by omega, rfl, F2.out, fun k hk => by
            obtain rfl : k = 0 := by omega
            exact HAt.out⟩
          case measure => simp [intOf]; omega
        · obtain ⟨j, rfl⟩ : ∃ j, i = j + 1 := ⟨i - 1, by omega⟩
          have hz2 : (0 : Int) < ((j + 1 : Nat) : Int) := by omega
          obtain ⟨q, hq⟩ : ∃ q, l[j]? = some q := ⟨l[j]'(by have := HL.out; omega), List.getElem?_eq_getElem _⟩
          obtain ⟨b', o', c'', e', hc'⟩ := HR.out.at1 (k := j) (u := .string q) (by simp [hq])
          obtain ⟨h1, -, -⟩ := Value.slice.inj e'
          simp only [Option.some.injEq, Addr.mk.injEq, and_true] at h1
          obtain ⟨rfl, rfl⟩ := h1
          have hw1 : ((j + 1 : Nat) : Int) - 1 = (j : Int) := by omega
          have HAj : Hid (f (j + 1) = Op.bytesLess q.toList s.toList) := hid (by
            rw [HAi.out, show j + 1 - 1 = j by omega, hq, show (j + 1 == 0) = false from rfl, Bool.false_or]; rfl)
          have HC' := hid hc'
          clear hq e' hc' HAi
          have hw2 : IntKind.i64.wrap (((j + 1 : Nat) : Int) - 1) = (j : Int) := by rw [hw1]; exact IntWalk.i64_in _ (by omega)
          have hw3 : wrap64 (((j + 1 : Nat) : Int) - 1) = (j : Int) := by unfold wrap64; omega
          cases hls : Op.bytesLess q.toList s.toList with
          | true =>
            rw [hls] at HAj
            go_wp2_with (go_at_call 132; refine (HI.out _).mono ?_; rintro e w2 ⟨rfl, f2⟩; have F2 := hid (HF.out.1.thenNo f2); have e1 := HC'.out w2 F2.out; clear f2)
            go_roundw
            case rel => exact ⟨j + 1 + 1, by omega, by go_num, F2.out, fun k hk => by
              rcases Nat.lt_succ_iff_lt_or_eq.1 hk with h | rfl
              · exact HF.out.2 k h
              · exact HAj.out⟩
            case measure => simp [intOf]; omega
          | false =>
            rw [hls] at HAj
            go_wp2_with (go_at_call 132; refine (HI.out _).mono ?_; rintro e w2 ⟨rfl, f2⟩; have F2 := hid (HF.out.1.thenNo f2); have e1 := HC'.out w2 F2.out; clear f2)
            go_ret
            have e2 := HB.out (j + 1) (by omega) HAj.out
            rw [e2]
            exact ⟨rfl, F2.out⟩
    · obtain rfl : i = n := by omega
      have HE2 := hid (HE.out HF.out.2)
      go_wp2_with fail
      go_ret
      exact ⟨by rw [HE2.out]; rfl, HF.out.1⟩
end Go.Proofs.YtibfpkfpmkghhaaGreatDoor

namespace Go.Proofs.YtibfpkfpmkghhaaGreatDoor
open Go.RowKit Go.Lig

theorem infoStr : (Tryz.prog.info? 9).map (fun i => (i.zero, i.size, i.bytes)) = some (some (.string ByteArray.empty), 1, 16) := by kernel_rfl
def propB (q : PropV) : Bool := valIsB q.v && decide (q.v.kind ≠ 0)
def isNodeB (d : NodeD) : Bool := d.Q.all propB && (namesB d.L 3 && namesB (d.Q.map PropV.key) 3)
/-- the k-th property's cells -/
theorem pcells {w : World} {ao : Option Addr} {n c : Nat} {Q : List PropV} (h : Rd w (.slice ao n c) n 6 (Q.flatMap pcell)) {k : Nat} {q : PropV} (hq : Q[k]? = some q) : ∃ b o, ao = some ⟨b, o, none⟩ ∧ ∀ u, Fr No w u → ∀ j x, j < 6 → (pcell q)[j]? = some x → u.cell? ⟨b, o + k * 6 + j, none⟩ = some x := by
  have g0 : ∀ t, t < 6 → (Q.flatMap pcell)[k * 6 + t]? = (pcell q)[t]? := fun t ht => flat_get (f := pcell) (m := 6) (fun _ => rfl) _ _ _ hq t ht
  obtain ⟨b, o, c', e, -⟩ := h.at1 (k := k * 6 + 0) (u := .string q.key) (by rw [g0 0 (by decide)]; rfl)
  obtain ⟨rfl, -, -⟩ := Value.slice.inj e
  refine ⟨b, o, rfl, fun u hu j x hj hx => ?_⟩
  obtain ⟨b', o', c'', e', hc⟩ := h.at1 (k := k * 6 + j) (u := x) (by rw [g0 j hj]; exact hx)
  obtain ⟨h1, -, -⟩ := Value.slice.inj e'
  simp only [Option.some.injEq, Addr.mk.injEq, and_true] at h1
  obtain ⟨rfl, rfl⟩ := h1
  rw [Nat.add_assoc]
  exact hc u hu
set_option maxRecDepth 100000 in
set_option maxHeartbeats 16000000 in
theorem isnode_any (w : World) (la pa : Option Addr) (ln lc pn pc : Nat) (d : NodeD) (h : NodeOf w (.slice la ln lc) (.slice pa pn pc) d) (hl : d.L.length ≤ 1000000) (hp : d.Q.length ≤ 1000000) :
    Calls Tryz.prog 44 #[.agg #[.slice la ln lc, .slice pa pn pc]] w fun e w' => e = .returned (.bool (isNodeB d)) ∧ Fr No w w' := by
  obtain ⟨L, Q⟩ := d
  obtain ⟨h1, h2, h3, h4⟩ := h
  dsimp only at h1 h2 h3 h4 hl hp
  obtain ⟨_, _, e1, -⟩ := rd_len h1
  obtain ⟨-, e2, -⟩ := Value.slice.inj e1
  subst e2
  obtain ⟨_, _, e3, -⟩ := rd_len h2
  obtain ⟨-, e4, -⟩ := Value.slice.inj e3
  subst e4
  clear e1 e3
  have HB : Hid (∀ k q, Q[k]? = some q → propB q = false → isNodeB ⟨L, Q⟩ = false) := hid (fun k q hq hf => by
    unfold isNodeB
    dsimp only
    rw [List.all_eq_false.2 ⟨q, List.mem_of_getElem? hq, by rw [hf]; simp⟩]
    rfl)
  have HE : Hid ((∀ k q, Q[k]? = some q → propB q = true) → isNodeB ⟨L, Q⟩ = (namesB L 3 && namesB (Q.map PropV.key) 3)) := hid (fun hb => by
    unfold isNodeB
    dsimp only
    rw [List.all_eq_true.2 (fun q hq => by obtain ⟨k, hk⟩ := List.mem_iff_getElem?.1 hq; exact hb k q hk), Bool.true_and])
  have HA1 := hid (fun W (hf : Fr No w W) => show Calls Tryz.prog 105 #[.slice la L.length lc, .int .i64 3] W fun e w' => e = .returned (.bool (namesB L 3)) ∧ Fr No W w' from arenames_any W _ L (h1.frame hf (fun _ _ e => e)) h4 hl 3 (by decide))
  have HA2 := hid (fun W v (hv : Rd W v Q.length 1 ((Q.map PropV.key).map Value.string)) => show Calls Tryz.prog 105 #[v, .int .i64 3] W fun e w' => e = .returned (.bool (namesB (Q.map PropV.key) 3)) ∧ Fr No W w' from arenames_any W v (Q.map PropV.key) (by rw [List.length_map]; exact hv) (fun s hs => by obtain ⟨q, hq, rfl⟩ := List.mem_map.1 hs; exact (h3 q hq).key) (by rw [List.length_map]; exact hp) 3 (by decide))
  have HS := hid (fun (k : Nat) (q : PropV) (hq : Q[k]? = some q) => (show ((Q.take (k + 1)).map PropV.key).map Value.string = ((Q.take k).map PropV.key).map Value.string ++ [Value.string q.key] by rw [takeSnoc hq]; simp))
  have HT := hid (show ((Q.take Q.length).map PropV.key).map Value.string = (Q.map PropV.key).map Value.string by rw [List.take_length])
  obtain ⟨g, hg⟩ : ∃ g : Nat → List Value, g = fun i => ((Q.take i).map PropV.key).map Value.string := ⟨_, rfl⟩
  have hgi : ∀ i, ((Q.take i).map PropV.key).map Value.string = g i := fun i => by rw [hg]
  have HG0 := hid (show g 0 = [] by rw [hg]; rfl)
  have HG1 : Hid (∀ i, ((Q.take i).map PropV.key).map Value.string = g i) := hid hgi
  simp only [hgi] at HS HT
  have HP := hid (fun (u : World) (hf : Fr No w u) (k : Nat) (q : PropV) (hq : Q[k]? = some q) => pcells (h2.frame hf (fun _ _ e => e)) hq)
  generalize isNodeB ⟨L, Q⟩ = r at *
  have hb := heap1 w (.cells #[.slice la L.length lc, .slice pa Q.length pc] 31)
  have hf : Fr No w (w.alloc (.cells #[.slice la L.length lc, .slice pa Q.length pc] 31)) := (Fr.refl No w).alloc _
  have HN := hid (⟨hl, hp⟩ : _ ∧ _)
  clear h1 h2 h3 h4 hgi hg hl
  go_enter Tryz.func44, Tryz.ntmps44
  go_wp2_with fail
  generalize w.alloc (.cells #[.slice la L.length lc, .slice pa Q.length pc] 31) = w1 at *
  obtain ⟨c0, c1⟩ := cells2 hb
  have HF := hid (⟨hf, hb⟩ : _ ∧ _)
  go_wp2_with fail
  clear hf hb c0 c1
  generalize hLn : Q.length = n at *
  have HL := hid hLn
  clear hLn
  go_loopw [3, 9] (fun v3 vi wr => ∃ (i : Nat) (aa : Option Addr) (cc : Nat), i ≤ n ∧ v3 = .slice aa i cc ∧ vi = .int .i64 (i : Int) ∧ Hid (OwnR w1 wr 9 1 (.slice aa i cc) i (g i) ∧ ∀ k q, k < i → Q[k]? = some q → propB q = true)) (fun _ vi _ => n - (intOf vi).toNat)
  case atStart => exact ⟨0, none, 0, Nat.zero_le _, rfl, rfl, by rw [HG0.out]; exact OwnR.nil _ _ _, fun k q hk => absurd hk (Nat.not_lt_zero _)⟩
  case round =>
    obtain ⟨i, aa, cc, hi, rfl, rfl, HO⟩ := hrel
    by_cases hlt : i < n
    · obtain ⟨⟨qk, ⟨vk, vb, vn, vf, vt⟩⟩, hy⟩ : ∃ y, Q[i]? = some y := ⟨Q[i]'(by have := HL.out; omega), List.getElem?_eq_getElem _⟩
      obtain ⟨gb, go, rfl, hc⟩ := HP.out w (Fr.refl _ _) i _ hy
      have fr1 := HF.out.1.thenNo HO.out.1.fr
      have z0 := hc wr fr1 0 _ (by decide) rfl
      have z1 := hc wr fr1 1 _ (by decide) rfl
      have z2 := hc wr fr1 2 _ (by decide) rfl
      have z3 := hc wr fr1 3 _ (by decide) rfl
      have z4 := hc wr fr1 4 _ (by decide) rfl
      have z5 := hc wr fr1 5 _ (by decide) rfl
      rw [Nat.add_zero] at z0
      dsimp only at z0 z1 z2 z3 z4 z5
      have HY := hid hy
      have HBi := hid (HB.out i _ hy)
      have HSi := hid (HS.out i _ hy)
      dsimp only at HSi
      have hbe := heap1 wr (.cells #[.string qk, .int .i64 vk, .bool vb, .int .i64 vn, .float .f64 vf, .string vt] 145)
      have hfe : Fr No wr (wr.alloc (.cells #[.string qk, .int .i64 vk, .bool vb, .int .i64 vn, .float .f64 vf, .string vt] 145)) := (Fr.refl No wr).alloc _
      have HIs := hid (fun W => is_any W ⟨vk, vb, vn, vf, vt⟩)
      dsimp only [valV] at HIs
      have HPB : Hid (propB ⟨qk, ⟨vk, vb, vn, vf, vt⟩⟩ = (valIsB ⟨vk, vb, vn, vf, vt⟩ && decide (vk ≠ 0))) := hid rfl
      have HX := hid (⟨hbe, hfe⟩ : _ ∧ _)
      obtain ⟨y0, y1, y2, y3, y4, y5⟩ := cells6 hbe
      clear hbe hfe hc hy fr1
      cases hiv : valIsB ⟨vk, vb, vn, vf, vt⟩ with
      | false =>
        rw [hiv] at HIs HPB
        clear hiv
        go_wp2_with (go_at_call 89; refine (HIs.out _).mono ?_; rintro e w4 ⟨rfl, f4⟩; have F4 := hid f4; clear f4)
        go_ret
        rw [HBi.out HPB.out]
        exact ⟨rfl, HF.out.1.thenNo ((HO.out.1.fr.thenNo HX.out.2).thenNo F4.out)⟩
      | true =>
        rw [hiv, Bool.true_and] at HPB
        rw [hiv] at HIs
        clear hiv
        by_cases hk0 : vk = 0
        · subst hk0
          have HPB2 : Hid (propB ⟨qk, ⟨0, vb, vn, vf, vt⟩⟩ = false) := hid (by rw [HPB.out]; rfl)
          go_wp2_with (go_at_call 89; refine (HIs.out _).mono ?_; rintro e w4 ⟨rfl, f4⟩; have F4 := hid f4; clear f4; obtain ⟨y0, y1, y2, y3, y4, y5⟩ := cells6 (F4.out.keep HX.out.1 (fun e => e)))
          go_ret
          rw [HBi.out HPB2.out]
          exact ⟨rfl, HF.out.1.thenNo ((HO.out.1.fr.thenNo HX.out.2).thenNo F4.out)⟩
        · have HPB2 : Hid (propB ⟨qk, ⟨vk, vb, vn, vf, vt⟩⟩ = true) := hid (by rw [HPB.out]; exact decide_eq_true hk0)
          go_wp2_with (first | (go_at_call 89; refine (HIs.out _).mono ?_; rintro e w4 ⟨rfl, f4⟩; have F4 := hid f4; clear f4; obtain ⟨y0, y1, y2, y3, y4, y5⟩ := cells6 (F4.out.keep HX.out.1 (fun e => e))) | (refine wpList_buildSlice1 rfl 28 9 (.tmp 25) rfl _ 1 16 Tryz.underlying28 infoStr (by decide) (by decide) (.string qk) rfl rfl ?_; intro w5 p5; have P5 := hid (show New [Value.string qk].toArray 9 w4 w5 from p5); clear p5) | (refine wpList_app rfl (.tmp 23) (.tmp 26) 28 rfl 9 (.string ByteArray.empty) 1 16 Tryz.underlying28 infoStr ?_ ?_ (.slice aa i cc) i (g i) rfl ?_ (.slice (some ⟨w4.heap.size, 0, none⟩) 1 1) 1 [.string qk] rfl ?_ ?_ ?_ ?_))
          · rfl
          · decide
          · exact (fd_owns (HO.out.1.next (HX.out.2.thenNo F4.out)).row P5.out.fr)
          · exact (Rd.block P5.out.at_ 1 1 1 rfl (by simp [Value.oneCell']) (Nat.le_refl _) (by simp [maxLen]))
          · (unfold maxLen; omega)
          · omega
          intro v6 w6 o6 f6 b6 _; obtain ⟨a6, c6, rfl⟩ := ownsRow_slice o6; have O6 := hid (OwnR.app (HO.out.1.next (HX.out.2.thenNo F4.out)) P5.out o6 f6 b6); clear o6 f6 b6
          go_wp2_with fail
          go_roundw
          case rel => exact ⟨i + 1, a6, c6, by omega, rfl, by go_num, by rw [HSi.out]; exact O6.out, fun k q hk hq => by
            rcases Nat.lt_succ_iff_lt_or_eq.1 hk with h | rfl
            · exact HO.out.2 k q h hq
            · obtain rfl : _ = q := Option.some.inj (HY.out.symm.trans hq)
              exact HPB2.out⟩
          case measure => simp [intOf]; omega
    · obtain rfl : i = n := by omega
      have HE2 := hid (HE.out (fun k q hq => HO.out.2 k q (by have := (List.getElem?_eq_some_iff.1 hq).1; have := HL.out; omega) hq))
      have f1 := HF.out.1.thenNo HO.out.1.fr
      obtain ⟨c0, c1⟩ := cells2 (HO.out.1.fr.keep HF.out.2 (fun e => e))
      have HA1' := hid (HA1.out wr f1)
      have HA2' := hid (fun u (f : Fr No wr u) => HA2.out u (.slice aa i cc) (by
        rw [← HT.out]
        exact (show Rd wr (.slice aa i cc) i 1 (g i) from Rd.of_owns HO.out.1.row (by rw [← HG1.out i]; intro u hu; obtain ⟨x, -, rfl⟩ := List.mem_map.1 hu; rfl)).frame f (fun _ _ e => e)))
      cases hn1 : namesB L 3 with
      | false =>
        rw [hn1] at HA1' HE2
        go_wp2_with (go_at_call 105; refine (HA1'.out).mono ?_; rintro e w4 ⟨rfl, f4⟩; have F4 := hid f4; clear f4)
        go_ret
        rw [HE2.out]
        exact ⟨rfl, (HF.out.1.thenNo HO.out.1.fr).thenNo F4.out⟩
      | true =>
        rw [hn1, Bool.true_and] at HE2
        rw [hn1] at HA1'
        go_wp2_with (first | (go_at_call 105; (with_reducible refine (HA1'.out).mono ?_); rintro e w4 ⟨rfl, f4⟩; have F4 := hid f4; clear f4) | (go_at_call 105; go_must (refine (HA2'.out _ F4.out).mono ?_; rintro e w5 ⟨rfl, f5⟩; have F5 := hid f5; clear f5)))
        go_ret
        rw [HE2.out]
        exact ⟨rfl, ((HF.out.1.thenNo HO.out.1.fr).thenNo F4.out).thenNo F5.out⟩
end Go.Proofs.YtibfpkfpmkghhaaGreatDoor

namespace Go.Proofs.YtibfpkfpmkghhaaGreatDoor
open Go.RowKit Go.Lig

/-- not less than nought -/
def wgeB (x : Nat) : Bool := (FloatKind.f64.format.order x 0 == some .gt) || (FloatKind.f64.format.order x 0 == some .eq)
def isEdgeB (v : EdgeV) : Bool := decide (1 ≤ v.from_ ∧ v.from_ ≤ 24) && (decide (1 ≤ v.to_ ∧ v.to_ ≤ 24) && (isNameB v.type && wgeB v.w))
theorem weight_any (w : World) (x : Nat) : Calls Tryz.prog 133 #[.float FloatKind.f64 x] w fun e w' => e = .returned (.bool (wgeB x)) ∧ w = w' := weight_of w _ _ (fun u => rfl)
set_option maxHeartbeats 2000000 in
theorem isedge_any (w : World) (v : EdgeV) (hl : v.type.size ≤ maxLen) :
    Calls Tryz.prog 63 #[.agg #[.int .i64 v.from_, .int .i64 v.to_, .string v.type, .float .f64 v.w]] w fun e w' => e = .returned (.bool (isEdgeB v)) ∧ Fr No w w' := by
  obtain ⟨ef, et, ey, ew⟩ := v
  dsimp only at hl ⊢
  have HE : Hid (isEdgeB ⟨ef, et, ey, ew⟩ = (decide (1 ≤ ef ∧ ef ≤ 24) && (decide (1 ≤ et ∧ et ≤ 24) && (isNameB ey && wgeB ew)))) := hid rfl
  generalize isEdgeB ⟨ef, et, ey, ew⟩ = r at *
  have HI1 := hid (fun W => isin_any W ef 1 24)
  have HI2 := hid (fun W => isin_any W et 1 24)
  have HS := hid (fun W => isname_any W ey hl)
  have HX := hid (fun W => weight_any W ew)
  generalize decide (1 ≤ ef ∧ ef ≤ 24) = b1 at *
  generalize decide (1 ≤ et ∧ et ≤ 24) = b2 at *
  generalize isNameB ey = b3 at *
  generalize wgeB ew = b4 at *
  clear hl
  have hb := heap1 w (.cells #[.int .i64 ef, .int .i64 et, .string ey, .float .f64 ew] 42)
  obtain ⟨c0, c1, c2, c3⟩ := cells4 hb
  have hf : Hid (Fr No w (w.alloc (.cells #[.int .i64 ef, .int .i64 et, .string ey, .float .f64 ew] 42))) := hid ((Fr.refl No w).alloc _)
  go_enter Tryz.func63, Tryz.ntmps63
  cases b1 with
  | false =>
    go_wp2_with (go_at_call 131; (with_reducible refine (HI1.out _).mono ?_); rintro e w' ⟨rfl, rfl⟩)
    go_ret
    exact ⟨by rw [HE.out]; rfl, hf.out⟩
  | true =>
    cases b2 with
    | false =>
      go_wp2_with (go_at_call 131; (first | with_reducible refine (HI1.out _).mono ?_ | with_reducible refine (HI2.out _).mono ?_); rintro e w' ⟨rfl, rfl⟩)
      go_ret
      exact ⟨by rw [HE.out]; rfl, hf.out⟩
    | true =>
      cases b3 with
      | false =>
        go_wp2_with (first | (go_at_call 131; (first | with_reducible refine (HI1.out _).mono ?_ | with_reducible refine (HI2.out _).mono ?_); rintro e w' ⟨rfl, rfl⟩) | (go_at_call 132; refine (HS.out _).mono ?_; rintro e w2 ⟨rfl, f2⟩; have F2 := hid (hf.out.thenNo f2); clear f2))
        go_ret
        exact ⟨by rw [HE.out]; rfl, F2.out⟩
      | true =>
        go_wp2_with (first | (go_at_call 131; (first | with_reducible refine (HI1.out _).mono ?_ | with_reducible refine (HI2.out _).mono ?_); rintro e w' ⟨rfl, rfl⟩) | (go_at_call 132; refine (HS.out _).mono ?_; rintro e w2 ⟨rfl, f2⟩; have F2 := hid (hf.out.thenNo f2); have c4 := (cells4 (f2.keep hb (fun e => e))).2.2.2; clear f2) | (go_at_call 133; refine (HX.out _).mono ?_; rintro e w3 ⟨rfl, rfl⟩))
        go_ret
        exact ⟨by rw [HE.out]; rfl, F2.out⟩
end Go.Proofs.YtibfpkfpmkghhaaGreatDoor
