/- DrumOrder: of the writes of one sector that are kept the last one stays. -/
import Derived.Test.YtggahnipmlihlaaDrumH
namespace Go.Proofs.Ytggahnipmlihlaa
open Go.RowKit Go.Lig

theorem rd_len {w : World} {v : Value} {n size : Nat} {xs : List Value} (h : Rd w v n size xs) : ∃ ao c, v = .slice ao n c ∧ n ≤ 9223372036854775807 := by
  obtain ⟨ao, c, rfl, _, _, _, _, h1, h2⟩ := h
  exact ⟨ao, c, rfl, by unfold maxLen at h2; omega⟩
/-- the last of the kept. -/
def wantTo (l : List UInt8) (keep : List Bool) : Nat → UInt8
  | 0 => 0
  | k + 1 => match l[k]?, keep[k]? with
    | some x, some true => x
    | _, _ => wantTo l keep k
theorem wantTo_yes {l : List UInt8} {keep : List Bool} {k : Nat} {x : UInt8} (hx : l[k]? = some x) (hk : keep[k]? = some true) : wantTo l keep (k + 1) = x := by simp [wantTo, hx, hk]
theorem wantTo_no {l : List UInt8} {keep : List Bool} {k : Nat} (hk : keep[k]? ≠ some true) : wantTo l keep (k + 1) = wantTo l keep k := by
  simp only [wantTo]
  split
  · rename_i h1 h2; exact absurd h2 hk
  · rfl
theorem crash_want (l : List UInt8) (keep : List Bool) (g : Nat → UInt8) (hg : g 0 = 0) : ∀ k, crashTo g (l.map fun x => (⟨0, pad [x]⟩ : Wr)) keep k 0 = wantTo l keep k
  | 0 => hg
  | k + 1 => by
    have ih := crash_want l keep g hg k
    simp only [crashTo, wantTo, List.getElem?_map]
    cases hl : l[k]? with
    | none => simpa using ih
    | some x =>
      cases hk : keep[k]? with
      | none => simpa using ih
      | some b => cases b <;> simp [lay, pad, ih]

structure OrdD (D : Dr) (l : List UInt8) (k : Nat) : Prop where
  n : D.n = 1
  live : Live D
  good : D.good = fun _ => 0
  wait : D.wait = (l.take k).map fun x => (⟨0, pad [x]⟩ : Wr)
theorem OrdD.start (l : List UInt8) : OrdD (Dr.new 1) l 0 := ⟨rfl, live_new 1, rfl, rfl⟩
theorem OrdD.next {D : Dr} {l : List UInt8} {k : Nat} (h : OrdD D l k) {x : UInt8} (hx : l[k]? = some x) : OrdD (D.put 0 [x]) l (k + 1) := by
  refine ⟨h.n, h.live.put _ _, h.good, ?_⟩
  have : l.take (k + 1) = l.take k ++ [x] := by
    obtain ⟨hk, rfl⟩ := List.getElem?_eq_some_iff.1 hx
    rw [List.take_succ_eq_append_getElem hk]
  rw [this]
  simp [Dr.put, h.wait]

theorem order_out (W : World) (ao bo : Option Addr) (n m c d : Nat) (h : 60 < n ∨ 100 < m) : Calls Try.prog 5 #[.slice ao n c, .slice bo m d] W fun e w' => e = .returned (.bool true) ∧ W = w' := by
  by_cases h0 : (60 : Int) < (n : Int)
  · clear h
    go_enter Try.func5, Try.ntmps5
    go_wp2
    go_ret
    exact ⟨rfl, rfl⟩
  · have h1 : (100 : Int) < (m : Int) := by omega
    clear h
    go_enter Try.func5, Try.ntmps5
    go_wp2
    go_ret
    exact ⟨rfl, rfl⟩

set_option maxRecDepth 100000 in
set_option maxHeartbeats 2000000 in
theorem order_in (W : World) (lv kv : Value) (l : List UInt8) (keep : List Bool) (hl : Rd W lv l.length 1 (l.map u8v)) (hk : Rd W kv keep.length 1 (keep.map Value.bool)) (h60 : l.length ≤ 60) (h100 : keep.length ≤ 100) :
    Calls Try.prog 5 #[lv, kv] W fun e w' => e = .returned (.bool true) ∧ Fr No W w' := by
  obtain ⟨ao, c, rfl, -⟩ := rd_len hl
  obtain ⟨bo, d, rfl, -⟩ := rd_len hk
  have HL := hid (⟨hl, hk⟩ : _ ∧ _)
  have h60' : ¬ (60 : Int) < (l.length : Int) := by omega
  have h100' : ¬ (100 : Int) < (keep.length : Int) := by omega
  clear hl hk
  go_enter Try.func5, Try.ntmps5
  go_wp2_with (go_at_call 11; refine (new_as (Fr.refl No _) _ 1 rfl).mono ?_; rintro e w1 ⟨b, S, rfl, h1, f1⟩; have H1 := hid (⟨h1, f1⟩ : _ ∧ _); clear h1 f1)
  go_loopw [6, 7] (fun u v wr => ∃ k : Nat, k ≤ l.length ∧ u = .int .u8 ((wantTo l keep k).toNat : Int) ∧ v = .int .i64 (k : Int) ∧ Hid (∃ S D, DW W wr S b D ∧ OrdD D l k)) (fun _ v _ => l.length - (intOf v).toNat)
  case atStart => exact ⟨0, Nat.zero_le _, rfl, rfl, S, _, H1.out.1, OrdD.start l⟩
  case round =>
    obtain ⟨k, hkl, rfl, rfl, hm⟩ := hrel
    obtain ⟨S1, D, hdw, hod⟩ := hm.out
    have HD := hid (⟨hdw, hod⟩ : _ ∧ _)
    clear hm hdw hod
    by_cases hlt : k < l.length
    · obtain ⟨x, hx⟩ : ∃ x, l[k]? = some x := ⟨_, List.getElem?_eq_getElem hlt⟩
      obtain ⟨lb, lo, c', hlv, hlc⟩ := HL.out.1.at1 (k := k) (u := u8v x) (by simp [hx])
      obtain ⟨rfl, rfl⟩ : ao = some ⟨lb, lo, none⟩ ∧ c = c' := by simpa using hlv
      have HX := hid (⟨hx, hlc⟩ : _ ∧ _)
      have hcx : wr.cell? ⟨lb, lo + k, none⟩ = some (.int .u8 (x.toNat : Int)) := hlc wr HD.out.1.fr
      clear hx hlc hlv
      go_wp2_with (refine wpList_buildSlice1 rfl 29 5 (.tmp 31) rfl _ 1 1 Try.underlying29 info5 (by decide) (by decide) (.int .u8 (x.toNat : Int)) rfl rfl ?_; intro w2 p2; have P2 := hid p2; clear p2)
      refine (write_in (HD.out.1.nextNo P2.out.fr) HD.out.2.live 0 (by rw [HD.out.2.n]; decide) _ [x] (by simp) (Rd.block (cs := [x].map u8v) P2.out.at_ 1 1 1 rfl (byte_one x) (Nat.le_refl _) (by simp [maxLen])) (fun q hq e => by simp [slBlock] at hq; have := HD.out.1.at_.bound q e; omega) (by rw [HD.out.2.wait]; simp; omega)).mono ?_
      rintro e w3 ⟨S3, rfl, h3, f3, -⟩
      have H3 := hid (⟨S3, _, h3, HD.out.2.next HX.out.1⟩ : ∃ S D, DW W w3 S b D ∧ OrdD D l (k + 1))
      have hcx3 : w3.cell? ⟨lb, lo + k, none⟩ = some (.int .u8 (x.toNat : Int)) := HX.out.2 w3 h3.fr
      have hfr3 := hid h3.fr
      clear h3 f3 hcx
      by_cases hkn : keep[k]? = some true
      · obtain ⟨kb, ko, d', hkv, hkc⟩ := HL.out.2.at1 (k := k) (u := .bool true) (by simp [hkn])
        obtain ⟨rfl, rfl⟩ : bo = some ⟨kb, ko, none⟩ ∧ d = d' := by simpa using hkv
        have hk2 : k < keep.length := (List.getElem?_eq_some_iff.1 hkn).1
        have hck := hkc w3 hfr3.out
        have HW := hid (wantTo_yes HX.out.1 hkn)
        clear hkn hkv hkc
        go_wp2
        go_roundw
        case rel => exact ⟨k + 1, by omega, by rw [HW.out], by go_num, H3⟩
        case measure => simp [intOf]; omega
      · have HW := hid (wantTo_no (l := l) hkn)
        by_cases hk2 : k < keep.length
        · have hkf : keep[k]? = some false := by
            rw [List.getElem?_eq_getElem hk2] at hkn ⊢
            cases hb : keep[k]
            · rfl
            · rw [hb] at hkn; exact absurd rfl hkn
          obtain ⟨kb, ko, d', hkv, hkc⟩ := HL.out.2.at1 (k := k) (u := .bool false) (by simp [hkf])
          obtain ⟨rfl, rfl⟩ : bo = some ⟨kb, ko, none⟩ ∧ d = d' := by simpa using hkv
          have hck := hkc w3 hfr3.out
          clear hkn hkv hkc hkf
          go_wp2
          go_roundw
          case rel => exact ⟨k + 1, by omega, by rw [HW.out], by go_num, H3⟩
          case measure => simp [intOf]; omega
        · clear hkn
          go_wp2
          go_roundw
          case rel => exact ⟨k + 1, by omega, by rw [HW.out], by go_num, H3⟩
          case measure => simp [intOf]; omega
    · obtain rfl : k = l.length := by omega
      clear hlt
      go_wp2_with fail
      refine (crash_dw HD.out.1 _ keep (HL.out.2.frame HD.out.1.fr (fun _ _ e => e)) (by rw [HD.out.2.wait]; simp; omega)).mono ?_
      rintro e w3 ⟨bc, Sc, rfl, hc, hd, f3, -⟩
      have H3 := hid (⟨hc, hd⟩ : _ ∧ _)
      clear hc hd f3
      go_wp2_with fail
      refine (read_in w3 Sc bc _ H3.out.1.at_ 0 (by show 0 < D.n; rw [HD.out.2.n]; decide)).mono ?_
      rintro e w4 ⟨v, rfl, ov, nv, bv, f4⟩
      obtain ⟨av, cv, rfl⟩ := ownsRow_slice ov
      obtain ⟨gv, _, hav, -⟩ := owns_at ov (by decide)
      have hcell : w4.cell? ⟨gv, 0, none⟩ = some (.int .u8 ((wantTo l keep l.length).toNat : Int)) := owns_cell ov hav (by
        rw [sec, bs_get _ _ _ (by decide)]
        have hod := HD.out.2
        simp only [Dr.crash, hod.good, hod.wait, List.take_length, List.length_map]
        rw [crash_want l keep _ rfl l.length]
        rfl)
      subst hav
      have H4 := hid (H3.out.2.nextNo f4)
      have hwl := hid (show ((D.wait.length : Nat) : Int) = (l.length : Int) by rw [HD.out.2.wait]; simp)
      clear ov nv bv f4
      go_wp2_with (first | (go_at_call 18; refine (waiting_as H4.out.at_ _ hwl.out).mono ?_; rintro e w' ⟨rfl, rfl⟩) | (go_at_call 22; refine (known_keeps H4.out.fr).mono ?_; rintro e w5 ⟨rfl, h5⟩; have H5 := hid h5; clear h5))
      go_ret
      exact ⟨rfl, H5.out⟩

theorem order_any (W : World) (lv kv : Value) (l : List UInt8) (keep : List Bool) (hl : Rd W lv l.length 1 (l.map u8v)) (hk : Rd W kv keep.length 1 (keep.map Value.bool)) :
    Calls Try.prog 5 #[lv, kv] W fun e w' => e = .returned (.bool true) ∧ Fr No W w' := by
  by_cases h : 60 < l.length ∨ 100 < keep.length
  · obtain ⟨ao, c, rfl, -⟩ := rd_len hl
    obtain ⟨bo, d, rfl, -⟩ := rd_len hk
    exact (order_out W ao bo _ _ c d h).mono fun e w' ⟨h1, h2⟩ => ⟨h1, h2 ▸ Fr.refl _ _⟩
  · exact order_in W lv kv l keep hl hk (by omega) (by omega)
end Go.Proofs.Ytggahnipmlihlaa
