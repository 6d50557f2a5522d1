/- A part of the proof: contracts of functions of the program, for the row's text. -/
import Derived.Test.YtibfpkfpmkghhaaGreatDoorK22
import Derived.Test.YtibfpkfpmkghhaaGreatDoorK15
import Derived.Test.YtibfpkfpmkghhaaGreatDoorK21
import Derived.Test.YtibfpkfpmkghhaaGreatDoorK03
import Derived.Test.YtibfpkfpmkghhaaGreatDoorK25
import Derived.Test.YtibfpkfpmkghhaaGreatDoorK02
import Derived.Test.YtibfpkfpmkghhaaGreatDoorTrm
namespace Go.Lig
open Go.RowKit
theorem strq (a b : ByteArray) : (a.toList == b.toList) = decide (a = b) := by
  by_cases h : a = b
  · simp [h]
  · have : a.toList ≠ b.toList := fun e => h (by
      rw [ByteArray.toList_eq, ByteArray.toList_eq] at e
      exact Go.WideShapes.bytes_inj e)
    simp [h, this]
/-- where x stands first, or none -/
def idxS (l : List ByteArray) (x : ByteArray) : Option Nat := l.findIdx? (fun y => decide (x = y))
def idxZ (o : Option Nat) : Int := match o with
  | some j => j
  | none => -1
def hasS (l : List ByteArray) (x : ByteArray) : Bool := l.any (fun y => decide (x = y))
theorem idx_has (l : List ByteArray) (x : ByteArray) : decide (0 ≤ idxZ (idxS l x)) = hasS l x := by
  unfold idxS idxZ hasS
  cases h : l.findIdx? (fun y => decide (x = y)) with
  | none =>
    rw [List.findIdx?_eq_none_iff] at h
    have h2 : l.any (fun y => decide (x = y)) = false := List.any_eq_false.2 (fun y hy => by have := h y hy; simpa using this)
    rw [h2]; rfl
  | some j =>
    obtain ⟨hj, h1, -⟩ := List.findIdx?_eq_some_iff_getElem.1 h
    have h2 : l.any (fun y => decide (x = y)) = true := List.any_eq_true.2 ⟨l[j], List.getElem_mem hj, h1⟩
    rw [h2]
    simp
end Go.Lig
namespace Go.Proofs.YtibfpkfpmkghhaaGreatDoor
open Go.RowKit Go.Lig

/-- lo ≤ v ≤ hi -/
def inV (v lo hi : ValR) : Bool := decide (0 ≤ cmpV v lo) && decide (cmpV v hi ≤ 0)
def valV (v : ValR) : Value := .agg #[.int .i64 v.kind, .bool v.b, .int .i64 v.n, .float .f64 v.f, .string v.t]
set_option maxRecDepth 100000 in
set_option maxHeartbeats 2000000 in
theorem valin_any (w : World) (a b c : ValR) : Calls Tryz.prog 110 #[valV a, valV b, valV c] w fun e w' => e = .returned (.bool (inV a b c)) ∧ Fr No w w' := by
  have H1 := hid (fun W => cmp_all a b trivial trivial W)
  have H2 := hid (fun W => cmp_all a c trivial trivial W)
  have HE : Hid (inV a b c = (decide (0 ≤ cmpV a b) && decide (cmpV a c ≤ 0))) := hid rfl
  obtain ⟨ak, ab, an, af, at'⟩ := a
  obtain ⟨bk, bb, bn, bf, bt⟩ := b
  obtain ⟨ck, cb, cn, cf, ct⟩ := c
  dsimp only [valV] at H1 H2 ⊢
  generalize cmpV _ _ = x at *
  generalize cmpV _ _ = y at *
  obtain ⟨k1, k2, k3⟩ := heap3 w (.cells #[.int .i64 ak, .bool ab, .int .i64 an, .float .f64 af, .string at'] 60) (.cells #[.int .i64 bk, .bool bb, .int .i64 bn, .float .f64 bf, .string bt] 60) (.cells #[.int .i64 ck, .bool cb, .int .i64 cn, .float .f64 cf, .string ct] 60)
  have hf : Fr No w (((w.alloc (.cells #[.int .i64 ak, .bool ab, .int .i64 an, .float .f64 af, .string at'] 60)).alloc (.cells #[.int .i64 bk, .bool bb, .int .i64 bn, .float .f64 bf, .string bt] 60)).alloc (.cells #[.int .i64 ck, .bool cb, .int .i64 cn, .float .f64 cf, .string ct] 60)) := (((Fr.refl No w).alloc _).alloc _).alloc _
  rw [HE.out]
  clear HE
  by_cases hx : 0 ≤ x
  · have hx2 : decide (0 ≤ x) = true := decide_eq_true hx
    go_enter Tryz.func110, Tryz.ntmps110
    go_wp2_with fail
    generalize ((w.alloc (.cells #[.int .i64 ak, .bool ab, .int .i64 an, .float .f64 af, .string at'] 60)).alloc (.cells #[.int .i64 bk, .bool bb, .int .i64 bn, .float .f64 bf, .string bt] 60)).alloc (.cells #[.int .i64 ck, .bool cb, .int .i64 cn, .float .f64 cf, .string ct] 60) = w2 at *
    obtain ⟨c0, c1, c2, c3, c4⟩ := cells5 k1
    obtain ⟨d0, d1, d2, d3, d4⟩ := cells5 k2
    obtain ⟨e0, e1, e2, e3, e4⟩ := cells5 k3
    have HF := hid (⟨hf, k1, k2, k3⟩ : _ ∧ _ ∧ _ ∧ _)
    clear hf k1 k2 k3
    go_wp2_with (first | (go_at_call 181; (with_reducible refine (H1.out _).mono ?_); rintro e w3 ⟨rfl, f3⟩; obtain ⟨c0, c1, c2, c3, c4⟩ := cells5 (f3.keep HF.out.2.1 (fun e => e)); obtain ⟨e0, e1, e2, e3, e4⟩ := cells5 (f3.keep HF.out.2.2.2 (fun e => e)); have F3 := hid (HF.out.1.thenNo f3); clear f3) | (go_at_call 181; (with_reducible refine (H2.out _).mono ?_); rintro e w4 ⟨rfl, f4⟩; have F4 := hid (F3.out.thenNo f4); clear f4))
    go_ret
    rw [hx2, Bool.true_and]
    exact ⟨rfl, F4.out⟩
  · have hx2 : decide (0 ≤ x) = false := decide_eq_false hx
    go_enter Tryz.func110, Tryz.ntmps110
    go_wp2_with fail
    generalize ((w.alloc (.cells #[.int .i64 ak, .bool ab, .int .i64 an, .float .f64 af, .string at'] 60)).alloc (.cells #[.int .i64 bk, .bool bb, .int .i64 bn, .float .f64 bf, .string bt] 60)).alloc (.cells #[.int .i64 ck, .bool cb, .int .i64 cn, .float .f64 cf, .string ct] 60) = w2 at *
    obtain ⟨c0, c1, c2, c3, c4⟩ := cells5 k1
    obtain ⟨d0, d1, d2, d3, d4⟩ := cells5 k2
    obtain ⟨e0, e1, e2, e3, e4⟩ := cells5 k3
    have HF := hid (⟨hf, k1, k2, k3⟩ : _ ∧ _ ∧ _ ∧ _)
    clear hf k1 k2 k3
    go_wp2_with (first | (go_at_call 181; (with_reducible refine (H1.out _).mono ?_); rintro e w3 ⟨rfl, f3⟩; obtain ⟨c0, c1, c2, c3, c4⟩ := cells5 (f3.keep HF.out.2.1 (fun e => e)); obtain ⟨e0, e1, e2, e3, e4⟩ := cells5 (f3.keep HF.out.2.2.2 (fun e => e)); have F3 := hid (HF.out.1.thenNo f3); clear f3) | (go_at_call 181; (with_reducible refine (H2.out _).mono ?_); rintro e w4 ⟨rfl, f4⟩; have F4 := hid (F3.out.thenNo f4); clear f4))
    go_ret
    rw [hx2, Bool.false_and]
    exact ⟨rfl, F3.out⟩
set_option maxRecDepth 100000 in
theorem index_any (w : World) (v : Value) (l : List ByteArray) (x : ByteArray) (h : Rd w v l.length 1 (l.map Value.string)) (hn : l.length ≤ 1000000) :
    Calls Tryz.prog 189 #[v, .string x] w fun e w' => e = .returned (.int .i64 (idxZ (idxS l x))) ∧ w = w' := by
  obtain ⟨a, c, rfl, -⟩ := rd_len h
  have HN := hid hn
  have HR := hid h
  have HE : Hid (∀ i, i ≤ l.length → (∀ k y, k < i → l[k]? = some y → ¬ x = y) → ∀ y, l[i]? = some y → x = y → idxZ (idxS l x) = i) := hid (fun i hi hb y hy hxy => by
    have : idxS l x = some i := by
      unfold idxS
      rw [List.findIdx?_eq_some_iff_getElem]
      have hl := (List.getElem?_eq_some_iff.1 hy)
      refine ⟨hl.1, by simp [hl.2, hxy], fun j hj => ?_⟩
      have := hb j (l[j]'(by omega)) hj (List.getElem?_eq_getElem _)
      simp [this]
    rw [this]; rfl)
  have HX : Hid ((∀ k y, k < l.length → l[k]? = some y → ¬ x = y) → idxZ (idxS l x) = -1) := hid (fun hb => by
    have : idxS l x = none := by
      unfold idxS
      rw [List.findIdx?_eq_none_iff]
      intro y hy
      obtain ⟨k, hk, rfl⟩ := List.getElem_of_mem hy
      have := hb k _ hk (List.getElem?_eq_getElem hk)
      simp [this]
    rw [this]; rfl)
  clear h hn
  generalize idxZ (idxS l x) = z at *
  go_enter Tryz.func189, Tryz.ntmps189
  go_wp2_with fail
  generalize hLn : l.length = n at *
  have HL := hid hLn
  clear hLn
  go_loop [8] (fun vi => ∃ i : Nat, i ≤ n ∧ vi = .int .i64 (i : Int) ∧ Hid (∀ k y, k < i → l[k]? = some y → ¬ x = y)) (fun vi => n - (intOf vi).toNat)
  case atStart => exact ⟨0, Nat.zero_le _, rfl, fun k y hk => absurd hk (Nat.not_lt_zero _)⟩
  case round =>
    obtain ⟨i, hi, rfl, HB⟩ := hrel
    have hn : n ≤ 1000000 := HN.out
    by_cases hlt : i < n
    · obtain ⟨y, hy⟩ : ∃ y, l[i]? = some y := ⟨l[i]'(by have := HL.out; omega), List.getElem?_eq_getElem _⟩
      obtain ⟨b, o, c', e, hc⟩ := HR.out.at1 (k := i) (u := .string y) (by simp [hy])
      obtain ⟨rfl, -, rfl⟩ := Value.slice.inj e
      have c0 := hc w (Fr.refl _ _)
      have HY := hid hy
      clear hy hc e
      by_cases hxy : x = y
      · have hq : (x.toList == y.toList) = true := by rw [strq]; exact decide_eq_true hxy
        go_wp2_with fail
        go_ret
        have e1 := HE.out i (by omega) HB.out y HY.out hxy
        exact ⟨by rw [e1]; rfl, rfl⟩
      · have hq : (x.toList == y.toList) = false := by rw [strq]; exact decide_eq_false hxy
        go_wp2_with fail
        refine ⟨⟨i + 1, by omega, by go_num, hid (fun k z hk hz => ?_)⟩, by simp [intOf]; omega⟩
        rcases Nat.lt_succ_iff_lt_or_eq.1 hk with h | rfl
        · exact HB.out k z h hz
        · rw [HY.out] at hz; obtain rfl := Option.some.inj hz; exact hxy
    · go_wp2_with fail
      go_ret
      have e1 := HX.out (fun k y hk => HB.out k y (by omega))
      exact ⟨by rw [e1]; rfl, rfl⟩
theorem contains_any (w : World) (v : Value) (l : List ByteArray) (x : ByteArray) (h : Rd w v l.length 1 (l.map Value.string)) (hn : l.length ≤ 1000000) :
    Calls Tryz.prog 114 #[v, .string x] w fun e w' => e = .returned (.bool (hasS l x)) ∧ w = w' := by
  have HI := hid (index_any w v l x h hn)
  obtain ⟨a, c, rfl, -⟩ := rd_len h
  have HD := hid (idx_has l x)
  clear h hn
  generalize idxZ (idxS l x) = z at *
  generalize hasS l x = b at *
  go_enter Tryz.func114, Tryz.ntmps114
  go_wp2_with (go_at_call 189; refine HI.out.mono ?_; rintro e w1 ⟨rfl, rfl⟩)
  go_ret
  exact ⟨by rw [← HD.out]; rfl, rfl⟩
set_option maxRecDepth 100000 in
theorem rechas_any (w : World) (la pa : Option Addr) (lc pn pc : Nat) (l : List ByteArray) (x : ByteArray) (h : Rd w (.slice la l.length lc) l.length 1 (l.map Value.string)) (hn : l.length ≤ 1000000) :
    Calls Tryz.prog 53 #[.agg #[.slice la l.length lc, .slice pa pn pc], .string x] w fun e w' => e = .returned (.bool (hasS l x)) ∧ Fr No w w' := by
  have k1 := heap1 w (.cells #[.slice la l.length lc, .slice pa pn pc] 31)
  have hf : Fr No w (w.alloc (.cells #[.slice la l.length lc, .slice pa pn pc] 31)) := (Fr.refl No w).alloc _
  have HI := hid (contains_any _ _ l x (h.frame hf (fun _ _ e => e)) hn)
  generalize hasS l x = b at *
  generalize l.length = n at *
  clear h hn
  go_enter Tryz.func53, Tryz.ntmps53
  go_wp2_with fail
  generalize w.alloc (.cells #[.slice la n lc, .slice pa pn pc] 31) = w1 at *
  obtain ⟨c0, c1⟩ := cells2 k1
  have HF := hid hf
  clear hf k1
  go_wp2_with (go_at_call 114; refine HI.out.mono ?_; rintro e w2 ⟨rfl, rfl⟩)
  go_ret
  exact ⟨rfl, HF.out⟩
end Go.Proofs.YtibfpkfpmkghhaaGreatDoor

namespace Go.Proofs.YtibfpkfpmkghhaaGreatDoor
open Go.RowKit Go.Lig

theorem OwnR.app {w w1 w2 w3 : World} {e t : TypeId} {size : Nat} {v v' : Value} {n m : Nat} {xs ys : List Value} {cs : Array Value} (h : OwnR w w1 e size v n xs) (p2 : New cs t w1 w2) (o : w3.ownsRow 0 e size v' (n + m) (xs ++ ys)) (f : Fr (fun k => v.ownBlock = some k) w2 w3)
    (b : ∀ k, v'.ownBlock = some k → v.ownBlock = some k ∨ w2.heap.size ≤ k) : OwnR w w3 e size v' (n + m) (xs ++ ys) := by
  refine ⟨o, fun j hj => ?_, (h.fr.thenNo p2.fr).trans f (fun k hk e => by have := h.blk k e; omega)⟩
  rcases b j hj with e | e
  · exact h.blk j e
  · have := h.fr.size
    have := p2.fr.size
    omega
def rangeL (l : List EntR) (lo hi : ValR) : List EntR := l.filter (fun y => inV y.v lo hi)
theorem rangeL_snoc {l : List EntR} {i : Nat} {y : EntR} (h : l[i]? = some y) (lo hi : ValR) : rangeL (l.take (i + 1)) lo hi = rangeL (l.take i) lo hi ++ (if inV y.v lo hi then [y] else []) := by
  rw [takeSnoc h]
  unfold rangeL
  rw [List.filter_append]
  congr 1
  simp only [List.filter_cons, List.filter_nil]
theorem range_nil (w : World) (lo hi : ValR) : Calls Tryz.prog 49 #[.pointer none, valV lo, valV hi] w fun e w' => e = .returned (.slice none 0 0) ∧ Fr No w w' := by
  obtain ⟨bk, bb, bn, bf, bt⟩ := lo
  obtain ⟨ck, cb, cn, cf, ct⟩ := hi
  dsimp only [valV]
  have hf : Fr No w ((w.alloc (.cells #[.int .i64 bk, .bool bb, .int .i64 bn, .float .f64 bf, .string bt] 60)).alloc (.cells #[.int .i64 ck, .bool cb, .int .i64 cn, .float .f64 cf, .string ct] 60)) := ((Fr.refl No w).alloc _).alloc _
  have HF := hid hf
  clear hf
  go_enter Tryz.func49, Tryz.ntmps49
  go_wp2
  go_ret
  exact ⟨rfl, HF.out⟩
set_option maxRecDepth 100000 in
set_option maxHeartbeats 2000000 in
theorem range_any (w : World) (T : Nat → Prop) (x : Nat) (l : List EntR) (h : TreeAt w T x l) (hs : l.length ≤ 1000000) (lo hi : ValR) :
    Calls Tryz.prog 49 #[.pointer (some ⟨x, 0, none⟩), valV lo, valV hi] w fun e w' => ∃ v, e = .returned v ∧ OwnR w w' 91 6 v (rangeL l lo hi).length ((rangeL l lo hi).flatMap ncellE) := by
  obtain ⟨v, hx, ho, -⟩ := h.ex
  obtain ⟨a0, c0, rfl⟩ := ownsRow_slice ho
  have HS : Hid (∀ i y, l[i]? = some y → rangeL (l.take (i + 1)) lo hi = rangeL (l.take i) lo hi ++ (if inV y.v lo hi then [y] else [])) := hid (fun i y e => rangeL_snoc e lo hi)
  have HR := hid (show rangeL (l.take l.length) lo hi = rangeL l lo hi by rw [List.take_length])
  have HZ := hid (show rangeL (l.take 0) lo hi = [] from rfl)
  obtain ⟨g, hg⟩ : ∃ g : Nat → List EntR, g = fun i => rangeL (l.take i) lo hi := ⟨_, rfl⟩
  have HI := hid (fun W v => valin_any W v lo hi)
  have hgi : ∀ i, rangeL (l.take i) lo hi = g i := fun i => by rw [hg]
  simp only [hgi] at HS HR HZ
  rw [← HR.out]
  obtain ⟨bk, bb, bn, bf, bt⟩ := lo
  obtain ⟨ck, cb, cn, cf, ct⟩ := hi
  dsimp only [valV] at HI ⊢
  obtain ⟨k1, k2⟩ := heap2 w (.cells #[.int .i64 bk, .bool bb, .int .i64 bn, .float .f64 bf, .string bt] 60) (.cells #[.int .i64 ck, .bool cb, .int .i64 cn, .float .f64 cf, .string ct] 60)
  have hf : Fr No w ((w.alloc (.cells #[.int .i64 bk, .bool bb, .int .i64 bn, .float .f64 bf, .string bt] 60)).alloc (.cells #[.int .i64 ck, .bool cb, .int .i64 cn, .float .f64 cf, .string ct] 60)) := ((Fr.refl No w).alloc _).alloc _
  have x0 := cells1 (hf.keep hx (fun e => e))
  have ho1 := fd_owns ho hf
  clear h hg hgi ho hx
  go_enter Tryz.func49, Tryz.ntmps49
  go_wp2_with fail
  generalize (w.alloc (.cells #[.int .i64 bk, .bool bb, .int .i64 bn, .float .f64 bf, .string bt] 60)).alloc (.cells #[.int .i64 ck, .bool cb, .int .i64 cn, .float .f64 cf, .string ct] 60) = w1 at *
  have HF := hid (⟨hf, k1, k2, ho1⟩ : _ ∧ _ ∧ _ ∧ _)
  generalize hLn : l.length = n at *
  have HL := hid hLn
  clear hf k1 k2 ho1 hLn x0
  go_loopw [7, 17] (fun v7 vi wr => ∃ (i : Nat) (aa : Option Addr) (cc m : Nat), i ≤ n ∧ m ≤ i ∧ v7 = .slice aa m cc ∧ vi = .int .i64 (i : Int) ∧ Hid (m = (g i).length ∧ OwnR w1 wr 91 6 (.slice aa m cc) m ((g i).flatMap ncellE))) (fun _ vi _ => n - (intOf vi).toNat)
  case atStart => exact ⟨0, none, 0, 0, Nat.zero_le _, Nat.zero_le _, rfl, rfl, by rw [HZ.out]; rfl, by rw [HZ.out]; exact OwnR.nil _ _ _⟩
  case round =>
    obtain ⟨i, aa, cc, m, hi, hmi, rfl, rfl, HO⟩ := hrel
    by_cases hlt : i < n
    · obtain ⟨⟨⟨vk, vb, vn, vf, vt⟩, vi⟩, hy⟩ : ∃ y, l[i]? = some y := ⟨l[i]'(by have := HL.out; omega), List.getElem?_eq_getElem _⟩
      have ho2 := fd_owns HF.out.2.2.2 HO.out.2.fr
      obtain ⟨ga, cur, rfl, -, -⟩ := owns_at ho2 (by omega)
      obtain ⟨z0, z1, z2, z3, z4, z5⟩ := encells_of ho2 hy
      dsimp only at z0 z1 z2 z3 z4 z5
      have HG := hid (HS.out i _ hy)
      dsimp only at HG
      have hb := heap1 wr (.cells #[.int .i64 vk, .bool vb, .int .i64 vn, .float .f64 vf, .string vt, .int .i64 vi] 91)
      have hfe : Fr No wr (wr.alloc (.cells #[.int .i64 vk, .bool vb, .int .i64 vn, .float .f64 vf, .string vt, .int .i64 vi] 91)) := (Fr.refl No wr).alloc _
      have HB := hid (⟨hb, hfe⟩ : _ ∧ _)
      have HII := hid (fun W => HI.out W ⟨vk, vb, vn, vf, vt⟩)
      dsimp only at HII
      obtain ⟨y0, y1, y2, y3, y4, y5⟩ := cells6 hb
      obtain ⟨p0, p1, p2, p3, p4⟩ := cells5 ((HO.out.2.fr.thenNo hfe).keep HF.out.2.1 (fun e => e))
      obtain ⟨q0, q1, q2, q3, q4⟩ := cells5 ((HO.out.2.fr.thenNo hfe).keep HF.out.2.2.1 (fun e => e))
      clear hb hfe ho2 hy
      cases hin : inV ⟨vk, vb, vn, vf, vt⟩ ⟨bk, bb, bn, bf, bt⟩ ⟨ck, cb, cn, cf, ct⟩ with
      | false =>
        rw [hin, if_neg (by simp), List.append_nil] at HG
        rw [hin] at HII
        clear hin
        go_wp2_with (go_at_call 110; refine (HII.out _).mono ?_; rintro e w4 ⟨rfl, f4⟩; have F4 := hid f4; clear f4)
        go_roundw
        case rel => exact ⟨i + 1, aa, cc, m, by omega, by omega, rfl, by go_num, by rw [HG.out]; exact HO.out.1, by rw [HG.out]; exact HO.out.2.next (HB.out.2.thenNo F4.out)⟩
        case measure => simp [intOf]; omega
      | true =>
        rw [hin, if_pos rfl] at HG
        rw [hin] at HII
        clear hin
        go_wp2_with (first | (go_at_call 110; refine (HII.out _).mono ?_; rintro e w4 ⟨rfl, f4⟩; have F4 := hid f4; clear f4; obtain ⟨y0, y1, y2, y3, y4, y5⟩ := cells6 (F4.out.keep HB.out.1 (fun e => e))) | (refine wpList_buildSlice1 rfl 86 91 (.tmp 27) rfl _ 6 56 Tryz.underlying86 infoEntry (by decide) (by decide) (.agg #[.int .i64 vk, .bool vb, .int .i64 vn, .float .f64 vf, .string vt, .int .i64 vi]) rfl rfl ?_; intro w5 p5; have P5 := hid (show New (ncellE ⟨⟨vk, vb, vn, vf, vt⟩, vi⟩).toArray 91 w4 w5 from p5); clear p5) | (refine wpList_app rfl (.tmp 26) (.tmp 28) 86 rfl 91 _ 6 56 Tryz.underlying86 infoEntry ?_ ?_ (.slice aa m cc) m ((g i).flatMap ncellE) rfl ?_ (.slice (some ⟨w4.heap.size, 0, none⟩) 1 1) 1 (ncellE ⟨⟨vk, vb, vn, vf, vt⟩, vi⟩) rfl ?_ ?_ ?_ ?_))
        · kernel_rfl
        · decide
        · exact (fd_owns (HO.out.2.next (HB.out.2.thenNo F4.out)).row P5.out.fr)
        · exact (Rd.block P5.out.at_ 1 6 1 rfl (by simp [ncellE, Value.oneCell']) (Nat.le_refl _) (by simp [maxLen]))
        · (unfold maxLen; omega)
        · omega
        intro v6 w6 o6 f6 b6 _; obtain ⟨a6, c6, rfl⟩ := ownsRow_slice o6; have O6 := hid (OwnR.app (HO.out.2.next (HB.out.2.thenNo F4.out)) P5.out o6 f6 b6); clear o6 f6 b6
        go_wp2_with fail

        go_roundw
        case rel => exact ⟨i + 1, a6, c6, m + 1, by omega, by omega, rfl, by go_num, by rw [HG.out, List.length_append, ← HO.out.1]; rfl, by rw [HG.out, List.flatMap_append]; simpa using O6.out⟩
        case measure => simp [intOf]; omega
    · obtain rfl : i = n := by omega
      go_wp2_with fail
      go_ret
      refine ⟨.slice aa m cc, rfl, ?_⟩
      rw [HL.out, ← HO.out.1]
      exact HO.out.2.ahead HF.out.1
end Go.Proofs.YtibfpkfpmkghhaaGreatDoor

namespace Go.Proofs.YtibfpkfpmkghhaaGreatDoor
open Go.RowKit Go.Lig Go.Shelf Go.Lib

def ltrs : List UInt8 := [97, 98, 99, 100, 101, 102, 103, 104, 105, 106, 107, 108, 109, 110, 111, 112, 113, 114, 115, 116, 117, 118, 119, 120, 121, 122]
def isNameB (s : ByteArray) : Bool := decide (s.size ≠ 0) && (decide (s.size ≤ 8) && decide (Lib.trimS s.data.toList ltrs = []))
theorem trim_any (w : World) (s : ByteArray) (hs : s.size ≤ 9223372036854775807) : Calls Tryz.prog 198 #[.string s, .string ⟨#[97, 98, 99, 100, 101, 102, 103, 104, 105, 106, 107, 108, 109, 110, 111, 112, 113, 114, 115, 116, 117, 118, 119, 120, 121, 122]⟩] w fun e w' => e = .returned (.string ⟨(Lib.trimS s.data.toList ltrs).toArray⟩) ∧ Fr No w w' := by
  have hcon := Any.strings_Trim_laid layTrim (by kernel_rfl) s ⟨#[97, 98, 99, 100, 101, 102, 103, 104, 105, 106, 107, 108, 109, 110, 111, 112, 113, 114, 115, 116, 117, 118, 119, 120, 121, 122]⟩ w hs (by decide) (ascii_of_all (by decide))
  exact hcon.mono fun e w' h => ⟨h.1, Fr.of_below h.2⟩
theorem isin_any (w : World) (n lo hi : Int) : Calls Tryz.prog 131 #[.int .i64 n, .int .i64 lo, .int .i64 hi] w fun e w' => e = .returned (.bool (decide (lo ≤ n ∧ n ≤ hi))) ∧ w = w' := by
  by_cases h1 : lo ≤ n
  · by_cases h2 : n ≤ hi
    · rw [decide_eq_true (⟨h1, h2⟩ : _ ∧ _)]
      go_enter Tryz.func131, Tryz.ntmps131
      go_wp2
      go_ret
      exact ⟨rfl, rfl⟩
    · rw [decide_eq_false (fun h : lo ≤ n ∧ n ≤ hi => h2 h.2)]
      go_enter Tryz.func131, Tryz.ntmps131
      go_wp2
      go_ret
      exact ⟨rfl, rfl⟩
  · rw [decide_eq_false (fun h : lo ≤ n ∧ n ≤ hi => h1 h.1)]
    go_enter Tryz.func131, Tryz.ntmps131
    go_wp2
    go_ret
    exact ⟨rfl, rfl⟩
theorem loop_len (s : ByteArray) : ∀ (n i : Nat) (r : List UInt8), s.size - i = n → (ByteArray.toList.loop s i r).length = r.length + n
  | 0, i, r, h => by
    rw [ByteArray.toList.loop.eq_1, if_neg (by omega)]
    simp
  | n + 1, i, r, h => by
    rw [ByteArray.toList.loop.eq_1, if_pos (by omega), loop_len s n (i + 1) _ (by omega)]
    simp
    omega
theorem toList_len (s : ByteArray) : s.toList.length = s.size := by
  have := loop_len s s.size 0 [] (by omega)
  simpa [ByteArray.toList] using this
theorem toList_ne {s : ByteArray} (h : ¬ s.size = 0) : ¬ s.toList = [] := fun e => h (by rw [← toList_len, e]; rfl)
theorem toList_nil {s : ByteArray} (h : s.size = 0) : s.toList = [] := List.length_eq_zero_iff.1 (by rw [toList_len, h])
theorem isname_any (w : World) (s : ByteArray) (hs : s.size ≤ 9223372036854775807) : Calls Tryz.prog 132 #[.string s] w fun e w' => e = .returned (.bool (isNameB s)) ∧ Fr No w w' := by
  by_cases h1 : s.size = 0
  · have hb : isNameB s = false := by simp [isNameB, h1]
    have h3 := toList_nil h1
    rw [hb]
    clear h1 hb
    go_enter Tryz.func132, Tryz.ntmps132
    go_wp2
    go_ret
    exact ⟨rfl, Fr.refl _ _⟩
  · by_cases h2 : s.size ≤ 8
    · have HT := hid (trim_any w s hs)
      have hb : isNameB s = decide (Lib.trimS s.data.toList ltrs = []) := by simp [isNameB, h1, h2]
      have h3 := toList_ne h1
      rw [hb]
      generalize Lib.trimS s.data.toList ltrs = r at *
      clear hb h1
      go_enter Tryz.func132, Tryz.ntmps132
      go_wp2_with (go_at_call 198; refine HT.out.mono ?_; rintro e w' ⟨rfl, f1⟩; have F1 := hid f1; clear f1)
      go_ret
      refine ⟨?_, F1.out⟩
      have h4 : s.toList.isEmpty = false := by simpa using h3
      cases r with
      | nil => simp [h4]
      | cons _ _ => simp
    · have hb : isNameB s = false := by simp [isNameB, h2]
      have h3 := toList_ne h1
      have h4 : ¬ (s.size : Int) ≤ 8 := by omega
      rw [hb]
      clear hb h1 h2
      go_enter Tryz.func132, Tryz.ntmps132
      go_wp2
      go_ret
      exact ⟨rfl, Fr.refl _ _⟩
theorem weight_of (w : World) (x : Value) (b : Bool) (h : ∀ u : World, Sem.run Tryz.prog (binOp BinOp.geq 40 x (.float FloatKind.f64 0)) u = .ok (.bool b) u) : Calls Tryz.prog 133 #[x] w fun e w' => e = .returned (.bool b) ∧ w = w' := by
  go_enter Tryz.func133, Tryz.ntmps133
  go_wp2
  go_ret
  exact ⟨rfl, rfl⟩
theorem weight_zero (w : World) : Calls Tryz.prog 133 #[.float FloatKind.f64 0] w fun e w' => e = .returned (.bool true) ∧ w = w' := weight_of w _ _ (fun u => by kernel_rfl)
theorem isedge_ok (w : World) (p q : Int) (s : ByteArray) (x : Value) (hp : 1 ≤ p ∧ p ≤ 24) (hq : 1 ≤ q ∧ q ≤ 24) (hs : isNameB s = true) (hl : s.size ≤ 9223372036854775807) (h1 : x.oneCell' = true) (hx : ∀ u : World, Calls Tryz.prog 133 #[x] u fun e w' => e = .returned (.bool true) ∧ u = w') :
    Calls Tryz.prog 63 #[.agg #[.int .i64 p, .int .i64 q, .string s, x]] w fun e w' => e = .returned (.bool true) ∧ Fr No w w' := by
  have HS : Hid (∀ u : World, Calls Tryz.prog 132 #[.string s] u fun e w' => e = .returned (.bool true) ∧ Fr No u w') := hid (fun u => by have := isname_any u s hl; rwa [hs] at this)
  have HX := hid hx
  have hb := heap1 w (.cells #[.int .i64 p, .int .i64 q, .string s, x] 42)
  obtain ⟨c0, c1, c2, c3⟩ := cells4 hb
  have hf : Hid (Fr No w (w.alloc (.cells #[.int .i64 p, .int .i64 q, .string s, x] 42))) := hid ((Fr.refl No w).alloc _)
  clear hx
  go_enter Tryz.func63, Tryz.ntmps63
  go_wp2_with (first | (go_at_call 131; refine (isin_any _ _ _ _).mono ?_; rintro e w' ⟨rfl, rfl⟩; rw [decide_eq_true (by first | exact hp | exact hq)]) | (go_at_call 132; refine (HS.out _).mono ?_; rintro e w2 ⟨rfl, f2⟩; have F2 := hid (hf.out.thenNo f2); have c4 := (cells4 (f2.keep hb (fun e => e))).2.2.2; clear f2) | (go_at_call 133; refine (HX.out _).mono ?_; rintro e w3 ⟨rfl, rfl⟩))
  go_ret
  exact ⟨rfl, F2.out⟩
end Go.Proofs.YtibfpkfpmkghhaaGreatDoor
