/- A part of the proof: contracts of functions of the program, for the row's text. -/
import Derived.Test.YthadcdoepoglkaaGreatDoorJ25
import Derived.Test.YthadcdoepoglkaaGreatDoorJ27
import Derived.Test.YthadcdoepoglkaaGreatDoorJ16
import Derived.Test.YthadcdoepoglkaaGreatDoorJ30
import Derived.Test.YthadcdoepoglkaaGreatDoorJ07
namespace Go.Proofs.YthadcdoepoglkaaGreatDoor
open Go.RowKit Go.Lig
theorem OwnR.app {w w1 w2 w3 : World} {e t : TypeId} {size : Nat} {v v' : Value} {n m : Nat} {xs ys : List Value} {cs : Array Value} (h : OwnR w w1 e size v n xs) (p2 : New cs t w1 w2) (o : w3.ownsRow 0 e size v' (n + m) (xs ++ ys)) (f : Fr (fun k => v.ownBlock = some k) w2 w3)
  (b : ∀ k, v'.ownBlock = some k → v.ownBlock = some k ∨ w2.heap.size ≤ k) : OwnR w w3 e size v' (n + m) (xs ++ ys) := by
 refine ⟨o, fun j hj => ?_, (h.fr.thenNo p2.fr).trans f (fun k hk e => by have := h.blk k e; omega)⟩
 rcases b j hj with e | e
 ·exact h.blk j e
 ·have := h.fr.size
  have := p2.fr.size
  omega
end Go.Proofs.YthadcdoepoglkaaGreatDoor
namespace Go.Proofs.YthadcdoepoglkaaGreatDoor
open Go.RowKit Go.Lig
theorem infoStr : (Tryz.prog.info? 9).map (fun i => (i.zero, i.size, i.bytes)) = some (some (.string ByteArray.empty), 1, 16) := by kernel_rfl
def propB (q : PropV) : Bool := valIsB q.v && decide (q.v.kind ≠ 0)
def isNodeB (d : NodeD) : Bool := d.Q.all propB && (namesB d.L 3 && namesB (d.Q.map PropV.key) 3)
theorem pcells {w : World} {ao : Option Addr} {n c : Nat} {Q : List PropV} (h : Rd w (.slice ao n c) n 6 (Q.flatMap pcell)) {k : Nat} {q : PropV} (hq : Q[k]? = some q) : ∃ b o, ao = some ⟨b, o, none⟩ ∧ ∀ u, Fr No w u → ∀ j x, j < 6 → (pcell q)[j]? = some x → u.cell? ⟨b, o + k * 6 + j, none⟩ = some x := by
 have g0 : ∀ t, t < 6 → (Q.flatMap pcell)[k * 6 + t]? = (pcell q)[t]? := fun t ht => flat_get (f := pcell) (m := 6) (fun _ => rfl) _ _ _ hq t ht
 obtain ⟨b, o, c', e, -⟩ := h.at1 (k := k * 6 + 0) (u := .string q.key) (by rw [g0 0 (by decide)]; rfl)
 obtain ⟨rfl, -, -⟩ := Value.slice.inj e
 refine ⟨b, o, rfl, fun u hu j x hj hx => ?_⟩
 obtain ⟨b', o', c'', e', hc⟩ := h.at1 (k := k * 6 + j) (u := x) (by rw [g0 j hj]; exact hx)
 obtain ⟨h1, -, -⟩ := Value.slice.inj e'
 simp only [Option.some.injEq, Addr.mk.injEq, and_true] at h1
 obtain ⟨rfl, rfl⟩ := h1
 rw [Nat.add_assoc]
 exact hc u hu
set_option maxRecDepth 100000 in
set_option maxHeartbeats 16000000 in
theorem isnode_any (w : World) (la pa : Option Addr) (ln lc pn pc : Nat) (d : NodeD) (h : NodeOf w (.slice la ln lc) (.slice pa pn pc) d) (hl : d.L.length ≤ 1000000) (hp : d.Q.length ≤ 1000000) :
  Calls Tryz.prog 52 #[.agg #[.slice la ln lc, .slice pa pn pc]] w fun e w' => e = .returned (.bool (isNodeB d)) ∧ Fr No w w' := by
 obtain ⟨L, Q⟩ := d
 obtain ⟨h1, h2, h3, h4⟩ := h
 dsimp only at h1 h2 h3 h4 hl hp
 obtain ⟨_, _, e1, -⟩ := rd_len h1
 obtain ⟨-, e2, -⟩ := Value.slice.inj e1
 subst e2
 obtain ⟨_, _, e3, -⟩ := rd_len h2
 obtain ⟨-, e4, -⟩ := Value.slice.inj e3
 subst e4
 clear e1 e3
 have HB : Hid (∀ k q, Q[k]? = some q → propB q = false → isNodeB ⟨L, Q⟩ = false) := hid (fun k q hq hf => by
  unfold isNodeB
  dsimp only
  rw [List.all_eq_false.2 ⟨q, List.mem_of_getElem? hq, by rw [hf]; simp⟩]
  rfl)
 have HE : Hid ((∀ k q, Q[k]? = some q → propB q = true) → isNodeB ⟨L, Q⟩ = (namesB L 3 && namesB (Q.map PropV.key) 3)) := hid (fun hb => by
  unfold isNodeB
  dsimp only
  rw [List.all_eq_true.2 (fun q hq => by obtain ⟨k, hk⟩ := List.mem_iff_getElem?.1 hq; exact hb k q hk), Bool.true_and])
 have HA1 := hid (fun W (hf : Fr No w W) => show Calls Tryz.prog 112 #[.slice la L.length lc, .int .i64 3] W fun e w' => e = .returned (.bool (namesB L 3)) ∧ Fr No W w' from arenames_any W _ L (h1.frame hf (fun _ _ e => e)) h4 hl 3 (by decide))
 have HA2 := hid (fun W v (hv : Rd W v Q.length 1 ((Q.map PropV.key).map Value.string)) => show Calls Tryz.prog 112 #[v, .int .i64 3] W fun e w' => e = .returned (.bool (namesB (Q.map PropV.key) 3)) ∧ Fr No W w' from arenames_any W v (Q.map PropV.key) (by rw [List.length_map]; exact hv) (fun s hs => by obtain ⟨q, hq, rfl⟩ := List.mem_map.1 hs; exact (h3 q hq).key) (by rw [List.length_map]; exact hp) 3 (by decide))
 have HS := hid (fun (k : Nat) (q : PropV) (hq : Q[k]? = some q) => (show ((Q.take (k + 1)).map PropV.key).map Value.string = ((Q.take k).map PropV.key).map Value.string ++ [Value.string q.key] by rw [takeSnoc hq]; simp))
 have HT := hid (show ((Q.take Q.length).map PropV.key).map Value.string = (Q.map PropV.key).map Value.string by rw [List.take_length])
 obtain ⟨g, hg⟩ : ∃ g : Nat → List Value, g = fun i => ((Q.take i).map PropV.key).map Value.string := ⟨_, rfl⟩
 have hgi : ∀ i, ((Q.take i).map PropV.key).map Value.string = g i := fun i => by rw [hg]
 have HG0 := hid (show g 0 = [] by rw [hg]; rfl)
 have HG1 : Hid (∀ i, ((Q.take i).map PropV.key).map Value.string = g i) := hid hgi
 simp only [hgi] at HS HT
 have HP := hid (fun (u : World) (hf : Fr No w u) (k : Nat) (q : PropV) (hq : Q[k]? = some q) => pcells (h2.frame hf (fun _ _ e => e)) hq)
 generalize isNodeB ⟨L, Q⟩ = r at *
 have hb := heap1 w (.cells #[.slice la L.length lc, .slice pa Q.length pc] 34)
 have hf : Fr No w (w.alloc (.cells #[.slice la L.length lc, .slice pa Q.length pc] 34)) := (Fr.refl No w).alloc _
 have HN := hid (⟨hl, hp⟩ : _ ∧ _)
 clear h1 h2 h3 h4 hgi hg hl
 go_enter Tryz.func52, Tryz.ntmps52
 go_wp2_with fail
 generalize w.alloc (.cells #[.slice la L.length lc, .slice pa Q.length pc] 34) = w1 at *
 obtain ⟨c0, c1⟩ := cells2 hb
 have HF := hid (⟨hf, hb⟩ : _ ∧ _)
 go_wp2_with fail
 clear hf hb c0 c1
 generalize hLn : Q.length = n at *
 have HL := hid hLn
 clear hLn
 go_loopw [3, 9] (fun v3 vi wr => ∃ (i : Nat) (aa : Option Addr) (cc : Nat), i ≤ n ∧ v3 = .slice aa i cc ∧ vi = .int .i64 (i : Int) ∧ Hid (OwnR w1 wr 9 1 (.slice aa i cc) i (g i) ∧ ∀ k q, k < i → Q[k]? = some q → propB q = true)) (fun _ vi _ => n - (intOf vi).toNat)
 case atStart => exact ⟨0, none, 0, Nat.zero_le _, rfl, rfl, by rw [HG0.out]; exact OwnR.nil _ _ _, fun k q hk => absurd hk (Nat.not_lt_zero _)⟩
 case round =>
  obtain ⟨i, aa, cc, hi, rfl, rfl, HO⟩ := hrel
  by_cases hlt : i < n
  ·obtain ⟨⟨qk, ⟨vk, vb, vn, vf, vt⟩⟩, hy⟩ : ∃ y, Q[i]? = some y := ⟨Q[i]'(by have := HL.out; omega), List.getElem?_eq_getElem _⟩
   obtain ⟨gb, go, rfl, hc⟩ := HP.out w (Fr.refl _ _) i _ hy
   have fr1 := HF.out.1.thenNo HO.out.1.fr
   have z0 := hc wr fr1 0 _ (by decide) rfl
   have z1 := hc wr fr1 1 _ (by decide) rfl
   have z2 := hc wr fr1 2 _ (by decide) rfl
   have z3 := hc wr fr1 3 _ (by decide) rfl
   have z4 := hc wr fr1 4 _ (by decide) rfl
   have z5 := hc wr fr1 5 _ (by decide) rfl
   rw [Nat.add_zero] at z0
   dsimp only at z0 z1 z2 z3 z4 z5
   have HY := hid hy
   have HBi := hid (HB.out i _ hy)
   have HSi := hid (HS.out i _ hy)
   dsimp only at HSi
   have hbe := heap1 wr (.cells #[.string qk, .int .i64 vk, .bool vb, .int .i64 vn, .float .f64 vf, .string vt] 98)
   have hfe : Fr No wr (wr.alloc (.cells #[.string qk, .int .i64 vk, .bool vb, .int .i64 vn, .float .f64 vf, .string vt] 98)) := (Fr.refl No wr).alloc _
   have HIs := hid (fun W => is_any W ⟨vk, vb, vn, vf, vt⟩)
   dsimp only [valV] at HIs
   have HPB : Hid (propB ⟨qk, ⟨vk, vb, vn, vf, vt⟩⟩ = (valIsB ⟨vk, vb, vn, vf, vt⟩ && decide (vk ≠ 0))) := hid rfl
   have HX := hid (⟨hbe, hfe⟩ : _ ∧ _)
   obtain ⟨y0, y1, y2, y3, y4, y5⟩ := cells6 hbe
   clear hbe hfe hc hy fr1
   cases hiv : valIsB ⟨vk, vb, vn, vf, vt⟩ with
   | false =>
    rw [hiv] at HIs HPB
    clear hiv
    go_wp2_with (go_at_call 111; refine (HIs.out _).mono ?_; rintro e w4 ⟨rfl, f4⟩; have F4 := hid f4; clear f4)
    go_ret
    rw [HBi.out HPB.out]
    exact ⟨rfl, HF.out.1.thenNo ((HO.out.1.fr.thenNo HX.out.2).thenNo F4.out)⟩
   | true =>
    rw [hiv, Bool.true_and] at HPB
    rw [hiv] at HIs
    clear hiv
    by_cases hk0 : vk = 0
    ·subst hk0
     have HPB2 : Hid (propB ⟨qk, ⟨0, vb, vn, vf, vt⟩⟩ = false) := hid (by rw [HPB.out]; rfl)
     go_wp2_with (go_at_call 111; refine (HIs.out _).mono ?_; rintro e w4 ⟨rfl, f4⟩; have F4 := hid f4; clear f4; obtain ⟨y0, y1, y2, y3, y4, y5⟩ := cells6 (F4.out.keep HX.out.1 (fun e => e)))
     go_ret
     rw [HBi.out HPB2.out]
     exact ⟨rfl, HF.out.1.thenNo ((HO.out.1.fr.thenNo HX.out.2).thenNo F4.out)⟩
    ·have HPB2 : Hid (propB ⟨qk, ⟨vk, vb, vn, vf, vt⟩⟩ = true) := hid (by rw [HPB.out]; exact decide_eq_true hk0)
     go_wp2_with (first | (go_at_call 111; refine (HIs.out _).mono ?_; rintro e w4 ⟨rfl, f4⟩; have F4 := hid f4; clear f4; obtain ⟨y0, y1, y2, y3, y4, y5⟩ := cells6 (F4.out.keep HX.out.1 (fun e => e))) | (refine wpList_buildSlice1 rfl 31 9 (.tmp 25) rfl _ 1 16 Tryz.underlying31 infoStr (by decide) (by decide) (.string qk) rfl rfl ?_; intro w5 p5; have P5 := hid (show New [Value.string qk].toArray 9 w4 w5 from p5); clear p5) | (refine wpList_app rfl (.tmp 23) (.tmp 26) 31 rfl 9 (.string ByteArray.empty) 1 16 Tryz.underlying31 infoStr ?_ ?_ (.slice aa i cc) i (g i) rfl ?_ (.slice (some ⟨w4.heap.size, 0, none⟩) 1 1) 1 [.string qk] rfl ?_ ?_ ?_ ?_))
     ·rfl
     ·decide
     ·exact (fd_owns (HO.out.1.next (HX.out.2.thenNo F4.out)).row P5.out.fr)
     ·exact (Rd.block P5.out.at_ 1 1 1 rfl (by simp [Value.oneCell']) (Nat.le_refl _) (by simp [maxLen]))
     ·(unfold maxLen; omega)
     ·omega
     intro v6 w6 o6 f6 b6 _; obtain ⟨a6, c6, rfl⟩ := ownsRow_slice o6; have O6 := hid (OwnR.app (HO.out.1.next (HX.out.2.thenNo F4.out)) P5.out o6 f6 b6); clear o6 f6 b6
     go_wp2_with fail
     go_roundw
     case rel => exact ⟨i + 1, a6, c6, by omega, rfl, by go_num, by rw [HSi.out]; exact O6.out, fun k q hk hq => by
      rcases Nat.lt_succ_iff_lt_or_eq.1 hk with h | rfl
      ·exact HO.out.2 k q h hq
      ·obtain rfl : _ = q := Option.some.inj (HY.out.symm.trans hq)
       exact HPB2.out⟩
     case measure => simp [intOf]; omega
  ·obtain rfl : i = n := by omega
   have HE2 := hid (HE.out (fun k q hq => HO.out.2 k q (by have := (List.getElem?_eq_some_iff.1 hq).1; have := HL.out; omega) hq))
   have f1 := HF.out.1.thenNo HO.out.1.fr
   obtain ⟨c0, c1⟩ := cells2 (HO.out.1.fr.keep HF.out.2 (fun e => e))
   have HA1' := hid (HA1.out wr f1)
   have HA2' := hid (fun u (f : Fr No wr u) => HA2.out u (.slice aa i cc) (by
    rw [← HT.out]
    exact (show Rd wr (.slice aa i cc) i 1 (g i) from Rd.of_owns HO.out.1.row (by rw [← HG1.out i]; intro u hu; obtain ⟨x, -, rfl⟩ := List.mem_map.1 hu; rfl)).frame f (fun _ _ e => e)))
   cases hn1 : namesB L 3 with
   | false =>
    rw [hn1] at HA1' HE2
    go_wp2_with (go_at_call 112; refine (HA1'.out).mono ?_; rintro e w4 ⟨rfl, f4⟩; have F4 := hid f4; clear f4)
    go_ret
    rw [HE2.out]
    exact ⟨rfl, (HF.out.1.thenNo HO.out.1.fr).thenNo F4.out⟩
   | true =>
    rw [hn1, Bool.true_and] at HE2
    rw [hn1] at HA1'
    go_wp2_with (first | (go_at_call 112; (with_reducible refine (HA1'.out).mono ?_); rintro e w4 ⟨rfl, f4⟩; have F4 := hid f4; clear f4) | (go_at_call 112; go_must (refine (HA2'.out _ F4.out).mono ?_; rintro e w5 ⟨rfl, f5⟩; have F5 := hid f5; clear f5)))
    go_ret
    rw [HE2.out]
    exact ⟨rfl, ((HF.out.1.thenNo HO.out.1.fr).thenNo F4.out).thenNo F5.out⟩
end Go.Proofs.YthadcdoepoglkaaGreatDoor
