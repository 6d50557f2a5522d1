/- DrumSyncs: what was there at a sync is there behind any crash. -/
import Derived.Test.YtggahnipmlihlaaDrumI
namespace Go.Proofs.Ytggahnipmlihlaa
open Go.RowKit Go.Lig

structure SynD (D : Dr) (l : List UInt8) (k : Nat) : Prop where
  n : D.n = l.length
  live : Live D
  wait : D.wait.length = k
  now : ∀ i x, i < k → l[i]? = some x → D.now (64 * i) = x
theorem SynD.start (l : List UInt8) (h : l.length ≤ 200) : SynD (Dr.new (clampN l.length)) l 0 := ⟨clampN_of _ h, live_new _, rfl, fun _ _ h => absurd h (Nat.not_lt_zero _)⟩
theorem SynD.next {D : Dr} {l : List UInt8} {k : Nat} (h : SynD D l k) {x : UInt8} (hx : l[k]? = some x) : SynD (D.put k [x]) l (k + 1) := by
  refine ⟨h.n, h.live.put _ _, by simp [Dr.put, h.wait], fun i y hi hy => ?_⟩
  simp only [Dr.put, lay]
  by_cases e : i = k
  · subst e
    rw [hx] at hy
    obtain rfl := Option.some.inj hy
    rw [if_pos (by omega), Nat.sub_self]
    rfl
  · rw [if_neg (by omega)]
    exact h.now i y (by omega) hy

theorem syncs_out (W : World) (ao bo : Option Addr) (n m c d : Nat) (h : 60 < n ∨ 100 < m) : Calls Try.prog 6 #[.slice ao n c, .slice bo m d] W fun e w' => e = .returned (.bool true) ∧ W = w' := by
  by_cases h0 : (60 : Int) < (n : Int)
  · clear h
    go_enter Try.func6, Try.ntmps6
    go_wp2
    go_ret
    exact ⟨rfl, rfl⟩
  · have h1 : (100 : Int) < (m : Int) := by omega
    clear h
    go_enter Try.func6, Try.ntmps6
    go_wp2
    go_ret
    exact ⟨rfl, rfl⟩

set_option maxRecDepth 100000 in
set_option maxHeartbeats 2000000 in
theorem syncs_in (W : World) (lv kv : Value) (l : List UInt8) (keep : List Bool) (hl : Rd W lv l.length 1 (l.map u8v)) (hk : Rd W kv keep.length 1 (keep.map Value.bool)) (h60 : l.length ≤ 60) (h100 : keep.length ≤ 100) :
    Calls Try.prog 6 #[lv, kv] W fun e w' => e = .returned (.bool true) ∧ Fr No W w' := by
  obtain ⟨ao, c, rfl, -⟩ := rd_len hl
  obtain ⟨bo, d, rfl, -⟩ := rd_len hk
  have HL := hid (⟨hl, hk⟩ : _ ∧ _)
  have h60' : ¬ (60 : Int) < (l.length : Int) := by omega
  have h100' : ¬ (100 : Int) < (keep.length : Int) := by omega
  clear hl hk
  go_enter Try.func6, Try.ntmps6
  go_wp2_with (go_at_call 11; refine (new_dw (Fr.refl No _) _).mono ?_; rintro e w1 ⟨b, S, rfl, h1, f1, -⟩; have H1 := hid (⟨h1, f1⟩ : _ ∧ _); clear h1 f1)
  go_loopw [6] (fun v wr => ∃ k : Nat, k ≤ l.length ∧ v = .int .i64 (k : Int) ∧ Hid (∃ S D, DW W wr S b D ∧ SynD D l k)) (fun v _ => l.length - (intOf v).toNat)
  case atStart => exact ⟨0, Nat.zero_le _, rfl, S, _, H1.out.1, SynD.start l (by omega)⟩
  case round =>
    obtain ⟨k, hkl, rfl, hm⟩ := hrel
    obtain ⟨S1, D, hdw, hod⟩ := hm.out
    have HD := hid (⟨hdw, hod⟩ : _ ∧ _)
    clear hm hdw hod
    by_cases hlt : k < l.length
    · obtain ⟨x, hx⟩ : ∃ x, l[k]? = some x := ⟨_, List.getElem?_eq_getElem hlt⟩
      obtain ⟨lb, lo, c', hlv, hlc⟩ := HL.out.1.at1 (k := k) (u := u8v x) (by simp [hx])
      obtain ⟨rfl, rfl⟩ : ao = some ⟨lb, lo, none⟩ ∧ c = c' := by simpa using hlv
      have HX := hid (⟨hx, hlc⟩ : _ ∧ _)
      have hcx : wr.cell? ⟨lb, lo + k, none⟩ = some (.int .u8 (x.toNat : Int)) := hlc wr HD.out.1.fr
      clear hx hlc hlv
      go_wp2_with (refine wpList_buildSlice1 rfl 29 5 (.tmp 35) rfl _ 1 1 Try.underlying29 info5 (by decide) (by decide) (.int .u8 (x.toNat : Int)) rfl rfl ?_; intro w2 p2; have P2 := hid p2; clear p2)
      refine (write_in (HD.out.1.nextNo P2.out.fr) HD.out.2.live k (by rw [HD.out.2.n]; omega) _ [x] (by simp) (Rd.block (cs := [x].map u8v) P2.out.at_ 1 1 1 rfl (byte_one x) (Nat.le_refl _) (by simp [maxLen])) (fun q hq e => by simp [slBlock] at hq; have := HD.out.1.at_.bound q e; omega) (by rw [HD.out.2.wait]; omega)).mono ?_
      rintro e w3 ⟨S3, rfl, h3, f3, -⟩
      have H3 := hid (⟨S3, _, h3, HD.out.2.next HX.out.1⟩ : ∃ S D, DW W w3 S b D ∧ SynD D l (k + 1))
      clear h3 f3 hcx
      go_wp2
      go_roundw
      case rel => exact ⟨k + 1, by omega, by go_num, H3⟩
      case measure => simp [intOf]; omega
    · obtain rfl : k = l.length := by omega
      clear hlt
      go_wp2_with fail
      refine (sync_in HD.out.1 HD.out.2.live).mono ?_
      rintro e w3 ⟨rfl, h3, f3⟩
      have H3 := hid h3
      clear h3 f3
      go_wp2_with fail
      refine (crash_dw H3.out _ keep (HL.out.2.frame H3.out.fr (fun _ _ e => e)) (by simp [Dr.sync])).mono ?_
      rintro e w4 ⟨bc, Sc, rfl, hc, hd, f4, -⟩
      have H4 := hid (⟨hc, hd⟩ : _ ∧ _)
      clear hc hd f4
      go_wp2_with fail
      go_loopw [9] (fun v wr => ∃ j : Nat, j ≤ l.length ∧ v = .int .i64 (j : Int) ∧ Hid (Fr No w4 wr)) (fun v _ => l.length - (intOf v).toNat)
      case atStart => exact ⟨0, Nat.zero_le _, rfl, Fr.refl _ _⟩
      case round =>
        obtain ⟨j, hj, rfl, hf⟩ := hrel
        by_cases hlt : j < l.length
        · obtain ⟨x, hx⟩ : ∃ x, l[j]? = some x := ⟨_, List.getElem?_eq_getElem hlt⟩
          obtain ⟨lb, lo, c', hlv, hlc⟩ := HL.out.1.at1 (k := j) (u := u8v x) (by simp [hx])
          obtain ⟨rfl, rfl⟩ : ao = some ⟨lb, lo, none⟩ ∧ c = c' := by simpa using hlv
          have HX := hid (⟨hx, hlc⟩ : _ ∧ _)
          clear hx hlc hlv
          go_wp2_with fail
          refine (read_in _ Sc bc _ (H4.out.1.nextNo hf.out).at_ j (by show j < D.n; rw [HD.out.2.n]; exact hlt)).mono ?_
          rintro e w5 ⟨v, rfl, ov, nv, bv, f5⟩
          obtain ⟨av, cv, rfl⟩ := ownsRow_slice ov
          obtain ⟨gv, _, hav, -⟩ := owns_at ov (by decide)
          have hcell : w5.cell? ⟨gv, 0, none⟩ = some (.int .u8 (x.toNat : Int)) := owns_cell ov hav (by
            rw [sec, bs_get _ _ _ (by decide)]
            have := HD.out.2.now j x hlt HX.out.1
            simp only [Dr.crash, Dr.sync, List.length_nil, crashTo, Nat.add_zero]
            rw [this]
            rfl)
          have hcl : w5.cell? ⟨lb, lo + j, none⟩ = some (.int .u8 (x.toNat : Int)) := HX.out.2 w5 ((H4.out.1.fr.thenNo hf.out).thenNo f5)
          have H5 := hid (hf.out.thenNo f5)
          subst hav
          clear ov nv bv f5
          go_wp2
          go_quiet (fail)
          go_wp2
          go_roundw
          case rel => exact ⟨j + 1, by omega, by go_num, H5.out.drewN _⟩
          case measure => simp [intOf]; omega
        · have H5 := hid (H4.out.2.nextNo hf.out)
          go_wp2_with (first | (go_at_call 18; refine (waiting_as H5.out.at_ 0 rfl).mono ?_; rintro e w' ⟨rfl, rfl⟩) | (go_at_call 22; refine (known_keeps H5.out.fr).mono ?_; rintro e w6 ⟨rfl, h6⟩; have H6 := hid h6; clear h6))
          go_ret
          exact ⟨rfl, H6.out⟩
theorem syncs_any (W : World) (lv kv : Value) (l : List UInt8) (keep : List Bool) (hl : Rd W lv l.length 1 (l.map u8v)) (hk : Rd W kv keep.length 1 (keep.map Value.bool)) :
    Calls Try.prog 6 #[lv, kv] W fun e w' => e = .returned (.bool true) ∧ Fr No W w' := by
  by_cases h : 60 < l.length ∨ 100 < keep.length
  · obtain ⟨ao, c, rfl, -⟩ := rd_len hl
    obtain ⟨bo, d, rfl, -⟩ := rd_len hk
    exact (syncs_out W ao bo _ _ c d h).mono fun e w' ⟨h1, h2⟩ => ⟨h1, h2 ▸ Fr.refl _ _⟩
  · exact syncs_in W lv kv l keep hl hk (by omega) (by omega)
end Go.Proofs.Ytggahnipmlihlaa
