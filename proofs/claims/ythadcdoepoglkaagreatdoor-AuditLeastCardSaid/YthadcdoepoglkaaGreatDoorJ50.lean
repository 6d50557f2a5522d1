/- A part of the proof: contracts of functions of the program, for the row's text. -/
import Derived.Test.YthadcdoepoglkaaGreatDoorJ49
import Derived.Test.YthadcdoepoglkaaGreatDoorJ45
namespace Go.Proofs.YthadcdoepoglkaaGreatDoor
open Go.RowKit Go.Lig
def vAddEdge (v : VS) (t : Int) (b : Bool) (e : EdgeV) : (Int × Int) × VS :=
 if v.K.live t then (if b then (if (v.rdN t e.from_).isSome && (v.rdN t e.to_).isSome then (if v.E.length < 32 then (if clashV v.K t (v.nc e.from_) || clashV v.K t (v.nc e.to_) then ((0, 6), vAbort v t) else (((v.E.length : Int) + 1, 0), vTie (vGrowE (vTouch t v [e.from_, e.to_])) t v.E.length e false)) else ((0, 3), v)) else ((0, 4), v)) else ((0, 1), v)) else ((0, 5), v)
theorem vTouch_E (t : Int) : ∀ (l : List Int) (v : VS), (vTouch t v l).E = v.E
 | [], _ => rfl
 | a :: l, v => by
  show (vTouch t (vTouch1 t v a) l).E = v.E
  rw [vTouch_E t l]
  unfold vTouch1
  split <;> rfl
set_option maxRecDepth 100000 in
set_option maxHeartbeats 4000000 in
theorem rsaddedge_any (w : World) (J : Nat → Prop) (ρ : Nat → Option Rp) (s : Nat) (A : RAd) (v : VS) (F : Nat) (h : RfAt w J ρ s A v F) (ho : Old w J) (hv : VOk v) (t ef et : Int) (ey : ByteArray) (ew : Nat) (b : Bool) (hF : F < 999980)
  (hIS : ∀ u, Fr No w u → Calls Tryz.prog 30 #[.agg #[.int .i64 ef, .int .i64 et, .string ey, .float .f64 ew]] u fun e w' => e = .returned (.bool b) ∧ Fr No u w') :
  Calls Tryz.prog 35 #[.pointer (some ⟨s, 0, none⟩), .int .i64 t, .agg #[.int .i64 ef, .int .i64 et, .string ey, .float .f64 ew]] w fun e w' => e = .returned (.tuple #[.int .i64 (vAddEdge v t b ⟨ef, et, ey, ew⟩).1.1, .int .i64 (vAddEdge v t b ⟨ef, et, ey, ew⟩).1.2]) ∧ RTurns w J ρ s (vAddEdge v t b ⟨ef, et, ey, ew⟩).2 (F + 3) w' := by
 have hbx := heap1 w (.cells #[.int .i64 ef, .int .i64 et, .string ey, .float .f64 ew] 48)
 have hfr : Fr No w (w.alloc (.cells #[.int .i64 ef, .int .i64 et, .string ey, .float .f64 ew] 48)) := (Fr.refl No w).alloc _
 obtain ⟨w0, hw0⟩ : ∃ w0, w.alloc (.cells #[.int .i64 ef, .int .i64 et, .string ey, .float .f64 ew] 48) = w0 := ⟨_, rfl⟩
 rw [hw0] at hbx hfr
 have h0 := h.no hfr
 obtain ⟨gk, hck, -⟩ := h0.clock.row
 have HL := hid (rlive_any w0 A.c gk v.K hck t)
 have HIS := hid (hIS w0 hfr)
 obtain ⟨c0, c1, c2, c3⟩ := cells4 hbx
 obtain ⟨x0, -⟩ := h0.cells
 have HN := hid (fun u (hu : Fr No w0 u) (id : Int) (r : Bool) (hr : (vNode v t id).isSome = r) => (show Calls Tryz.prog 74 #[.pointer (some ⟨s, 0, none⟩), .int .i64 t, .int .i64 id] u fun e w' => ∃ (la : Option Addr) (ln lc : Nat) (pa : Option Addr) (pn pc : Nat), e = .returned (.tuple #[.agg #[.slice la ln lc, .slice pa pn pc], .bool r]) ∧ Fr No u w' from (rsnode_any u J ρ s A v F (h0.no hu) (ho.next (hfr.thenNo hu)) t id).mono (by rintro e w' ⟨la, ln, lc, pa, pn, pc, h1, -, h3⟩; exact ⟨la, ln, lc, pa, pn, pc, by rw [h1, hr], h3⟩)))
 obtain ⟨ae, ce, hev⟩ := ownsRow_slice (h0.at_ .erow).1
 obtain ⟨m, hm⟩ : ∃ m, v.E.length = m := ⟨_, rfl⟩
 have HX2 := hid (fun u (hu : Fr No w0 u) => (show u.cell? ⟨s, 2, none⟩ = some (.slice ae m ce) by rw [← hm, ← hev]; exact (h0.no hu).cells.2.2.1))
 have HF := hid (⟨h, h0, ho, hfr, hF, hbx, hv⟩ : _ ∧ _ ∧ _ ∧ _ ∧ _ ∧ _ ∧ _)
 have hn1 := h0.elen
 unfold vAddEdge
 dsimp only
 rw [hm] at hn1 ⊢
 have HM := hid hm
 clear h h0 ho hfr hF hbx hv hck hev hm hIS
 cases hl : v.K.live t with
 | false =>
  rw [hl] at HL
  rw [if_neg (by simp)]
  clear hl
  go_enter Tryz.func35, Tryz.ntmps35
  go_wp2_with (go_at_call 72; refine HL.out.mono ?_; rintro e w1 ⟨rfl, rfl⟩)
  go_ret2
  exact ⟨rfl, RTurns.ofNo (HF.out.1.more (by omega)) HF.out.2.2.2.1⟩
 | true =>
  rw [hl] at HL
  rw [if_pos rfl]
  have HLV := hid hl
  cases b with
  | false =>
   rw [if_neg (by simp)]
   clear hl
   go_enter Tryz.func35, Tryz.ntmps35
   go_wp2_with (first | (go_at_call 72; refine HL.out.mono ?_; rintro e w1 ⟨rfl, rfl⟩) | (go_at_call 30; refine HIS.out.mono ?_; rintro e w1 ⟨rfl, f1⟩; have F1 := hid f1; obtain ⟨k0, k1, k2, k3⟩ := cells4 (F1.out.keep HF.out.2.2.2.2.2.1 (fun e => e)); clear f1))
   go_ret2
   exact ⟨rfl, RTurns.ofNo (HF.out.1.more (by omega)) (HF.out.2.2.2.1.thenNo F1.out)⟩
  | true =>
   rw [if_pos rfl]
   have hvn : ∀ id, vNode v t id = v.rdN t id := fun id => by unfold vNode; rw [if_pos hl]
   have HNA := hid (fun u (hu : Fr No w0 u) => HN.out u hu ef (v.rdN t ef).isSome (by rw [hvn]))
   have HNB := hid (fun u (hu : Fr No w0 u) => HN.out u hu et (v.rdN t et).isSome (by rw [hvn]))
   clear hl hvn
   cases hra : (v.rdN t ef).isSome with
   | false =>
    rw [hra] at HNA
    obtain ⟨rb, hrb⟩ : ∃ rb, (v.rdN t et).isSome = rb := ⟨_, rfl⟩
    rw [hrb] at HNB
    rw [Bool.false_and, if_neg (by simp)]
    clear hra hrb
    go_enter Tryz.func35, Tryz.ntmps35
    go_wp2_with (first | (go_at_call 72; refine HL.out.mono ?_; rintro e w1 ⟨rfl, rfl⟩) | (go_at_call 30; refine HIS.out.mono ?_; rintro e w1 ⟨rfl, f1⟩; have F1 := hid f1; obtain ⟨k0, k1, k2, k3⟩ := cells4 (F1.out.keep HF.out.2.2.2.2.2.1 (fun e => e)); clear f1) | (go_at_call 74; (with_reducible refine (HNA.out _ F1.out).mono ?_); rintro e w6 ⟨la, ln, lc, pa, pn, pc, rfl, f6⟩; obtain ⟨w7, hw7⟩ : ∃ w7, w6.alloc (.cells #[.slice la ln lc, .slice pa pn pc] 34) = w7 := ⟨_, rfl⟩; have F7 := hid (show Fr No w0 w7 by rw [← hw7]; exact (F1.out.thenNo f6).alloc _); obtain ⟨d0, d1, d2, d3⟩ := cells4 (F7.out.keep HF.out.2.2.2.2.2.1 (fun e => e)); clear f6 k0 k1 k2 k3))
    (try rw [hw7])
    go_wp2_with (go_at_call 74; (with_reducible refine (HNB.out _ F7.out).mono ?_); rintro e w8 ⟨la', ln', lc', pa', pn', pc', rfl, f8⟩; obtain ⟨w9, hw9⟩ : ∃ w9, w8.alloc (.cells #[.slice la' ln' lc', .slice pa' pn' pc'] 34) = w9 := ⟨_, rfl⟩; have F9 := hid (show Fr No w0 w9 by rw [← hw9]; exact (F7.out.thenNo f8).alloc _); obtain ⟨g0, g1, g2, g3⟩ := cells4 (F9.out.keep HF.out.2.2.2.2.2.1 (fun e => e)); have y2 := HX2.out _ F9.out; clear f8 d0 d1 d2 d3)
    (try rw [hw9])
    go_ret2
    exact ⟨rfl, RTurns.ofNo (HF.out.1.more (by omega)) (HF.out.2.2.2.1.thenNo F9.out)⟩
   | true =>
    rw [hra] at HNA
    cases hrb : (v.rdN t et).isSome with
    | false =>
     rw [hrb] at HNB
     rw [Bool.and_false, if_neg (by simp)]
     clear hra hrb
     go_enter Tryz.func35, Tryz.ntmps35
     go_wp2_with (first | (go_at_call 72; refine HL.out.mono ?_; rintro e w1 ⟨rfl, rfl⟩) | (go_at_call 30; refine HIS.out.mono ?_; rintro e w1 ⟨rfl, f1⟩; have F1 := hid f1; obtain ⟨k0, k1, k2, k3⟩ := cells4 (F1.out.keep HF.out.2.2.2.2.2.1 (fun e => e)); clear f1) | (go_at_call 74; (with_reducible refine (HNA.out _ F1.out).mono ?_); rintro e w6 ⟨la, ln, lc, pa, pn, pc, rfl, f6⟩; obtain ⟨w7, hw7⟩ : ∃ w7, w6.alloc (.cells #[.slice la ln lc, .slice pa pn pc] 34) = w7 := ⟨_, rfl⟩; have F7 := hid (show Fr No w0 w7 by rw [← hw7]; exact (F1.out.thenNo f6).alloc _); obtain ⟨d0, d1, d2, d3⟩ := cells4 (F7.out.keep HF.out.2.2.2.2.2.1 (fun e => e)); clear f6 k0 k1 k2 k3))
     (try rw [hw7])
     go_wp2_with (go_at_call 74; (with_reducible refine (HNB.out _ F7.out).mono ?_); rintro e w8 ⟨la', ln', lc', pa', pn', pc', rfl, f8⟩; obtain ⟨w9, hw9⟩ : ∃ w9, w8.alloc (.cells #[.slice la' ln' lc', .slice pa' pn' pc'] 34) = w9 := ⟨_, rfl⟩; have F9 := hid (show Fr No w0 w9 by rw [← hw9]; exact (F7.out.thenNo f8).alloc _); obtain ⟨g0, g1, g2, g3⟩ := cells4 (F9.out.keep HF.out.2.2.2.2.2.1 (fun e => e)); have y2 := HX2.out _ F9.out; clear f8 d0 d1 d2 d3)
     (try rw [hw9])
     go_ret2
     exact ⟨rfl, RTurns.ofNo (HF.out.1.more (by omega)) (HF.out.2.2.2.1.thenNo F9.out)⟩
    | true =>
     rw [hrb] at HNB
     rw [Bool.and_self, if_pos rfl]
     by_cases h32 : m < 32
     ·rw [if_pos h32]
      have h32' : ¬ (32 : Int) ≤ (m : Int) := by omega
      obtain ⟨da, hda⟩ := Option.isSome_iff_exists.1 hra
      obtain ⟨db, hdb⟩ := Option.isSome_iff_exists.1 hrb
      have pa := VS.rdN_pos hda
      have pb := VS.rdN_pos hdb
      obtain ⟨a, rfl⟩ : ∃ a : Nat, ef = (a : Int) + 1 := ⟨(ef - 1).toNat, by omega⟩
      obtain ⟨b, rfl⟩ : ∃ b : Nat, et = (b : Int) + 1 := ⟨(et - 1).toNat, by omega⟩
      have HT := hid (fun u (hu : Fr No w u) => rstouch_any u J ρ s A v F (HF.out.1.no hu) (HF.out.2.2.1.next hu) HF.out.2.2.2.2.2.2 t HLV.out (a := a) (b := b) (by omega) (by omega) hra hrb ey ew (by have := HF.out.2.2.2.2.1; omega))
      clear hra hrb hda hdb pa pb
      obtain ⟨cl, hcl⟩ : ∃ cl, (clashV v.K t (v.nc ((a : Int) + 1)) || clashV v.K t (v.nc ((b : Int) + 1))) = cl := ⟨_, rfl⟩
      rw [hcl] at HT ⊢
      clear hcl
      cases cl with
      | true =>
       simp only [Bool.not_true, ↓reduceIte] at HT ⊢
       go_enter Tryz.func35, Tryz.ntmps35
       go_wp2_with (first | (go_at_call 72; refine HL.out.mono ?_; rintro e w1 ⟨rfl, rfl⟩) | (go_at_call 30; refine HIS.out.mono ?_; rintro e w1 ⟨rfl, f1⟩; have F1 := hid f1; obtain ⟨k0, k1, k2, k3⟩ := cells4 (F1.out.keep HF.out.2.2.2.2.2.1 (fun e => e)); clear f1) | (go_at_call 74; (with_reducible refine (HNA.out _ F1.out).mono ?_); rintro e w6 ⟨la, ln, lc, pa, pn, pc, rfl, f6⟩; obtain ⟨w7, hw7⟩ : ∃ w7, w6.alloc (.cells #[.slice la ln lc, .slice pa pn pc] 34) = w7 := ⟨_, rfl⟩; have F7 := hid (show Fr No w0 w7 by rw [← hw7]; exact (F1.out.thenNo f6).alloc _); obtain ⟨d0, d1, d2, d3⟩ := cells4 (F7.out.keep HF.out.2.2.2.2.2.1 (fun e => e)); clear f6 k0 k1 k2 k3))
       (try rw [hw7])
       go_wp2_with (go_at_call 74; (with_reducible refine (HNB.out _ F7.out).mono ?_); rintro e w8 ⟨la', ln', lc', pa', pn', pc', rfl, f8⟩; obtain ⟨w9, hw9⟩ : ∃ w9, w8.alloc (.cells #[.slice la' ln' lc', .slice pa' pn' pc'] 34) = w9 := ⟨_, rfl⟩; have F9 := hid (show Fr No w0 w9 by rw [← hw9]; exact (F7.out.thenNo f8).alloc _); obtain ⟨g0, g1, g2, g3⟩ := cells4 (F9.out.keep HF.out.2.2.2.2.2.1 (fun e => e)); have y2 := HX2.out _ F9.out; clear f8 d0 d1 d2 d3)
       (try rw [hw9])
       go_wp2_with (go_at_call 75; (with_reducible refine (HT.out _ (HF.out.2.2.2.1.thenNo F9.out)).mono ?_); rintro e w10 ⟨rfl, ρ5, A5, h5, G5⟩; have H5 := hid (⟨h5, (Gone.no (HF.out.2.2.2.1.thenNo F9.out)).trans G5, (HF.out.2.2.1.next (HF.out.2.2.2.1.thenNo F9.out)).next G5.fr⟩ : _ ∧ _ ∧ _); clear h5 G5)
       have HC2 := hid (rsclash_any w10 J ρ5 s A5 v (F + 2) H5.out.1 H5.out.2.2 HF.out.2.2.2.2.2.2 t HLV.out)
       go_wp2_with (go_at_call 76; refine HC2.out.mono ?_; rintro e w11 ⟨rfl, ρ6, A6, h6, G6⟩; have H6 := hid (⟨h6, G6⟩ : _ ∧ _); clear h6 G6)
       go_ret2
       exact ⟨rfl, ρ6, A6, H6.out.1.more (by omega), H5.out.2.1.trans H6.out.2⟩
      | false =>
       simp only [Bool.not_false, Bool.false_eq_true, ↓reduceIte] at HT ⊢
       obtain ⟨v1, hv1⟩ : ∃ v1, vTouch t v [(a : Int) + 1, (b : Int) + 1] = v1 := ⟨_, rfl⟩
       have HE1 := hid (show v1.E.length = m by rw [← hv1, vTouch_E]; exact HM.out)
       rw [hv1] at HT ⊢
       clear hv1
       go_enter Tryz.func35, Tryz.ntmps35
       go_wp2_with (first | (go_at_call 72; refine HL.out.mono ?_; rintro e w1 ⟨rfl, rfl⟩) | (go_at_call 30; refine HIS.out.mono ?_; rintro e w1 ⟨rfl, f1⟩; have F1 := hid f1; obtain ⟨k0, k1, k2, k3⟩ := cells4 (F1.out.keep HF.out.2.2.2.2.2.1 (fun e => e)); clear f1) | (go_at_call 74; (with_reducible refine (HNA.out _ F1.out).mono ?_); rintro e w6 ⟨la, ln, lc, pa, pn, pc, rfl, f6⟩; obtain ⟨w7, hw7⟩ : ∃ w7, w6.alloc (.cells #[.slice la ln lc, .slice pa pn pc] 34) = w7 := ⟨_, rfl⟩; have F7 := hid (show Fr No w0 w7 by rw [← hw7]; exact (F1.out.thenNo f6).alloc _); obtain ⟨d0, d1, d2, d3⟩ := cells4 (F7.out.keep HF.out.2.2.2.2.2.1 (fun e => e)); clear f6 k0 k1 k2 k3))
       (try rw [hw7])
       go_wp2_with (go_at_call 74; (with_reducible refine (HNB.out _ F7.out).mono ?_); rintro e w8 ⟨la', ln', lc', pa', pn', pc', rfl, f8⟩; obtain ⟨w9, hw9⟩ : ∃ w9, w8.alloc (.cells #[.slice la' ln' lc', .slice pa' pn' pc'] 34) = w9 := ⟨_, rfl⟩; have F9 := hid (show Fr No w0 w9 by rw [← hw9]; exact (F7.out.thenNo f8).alloc _); obtain ⟨g0, g1, g2, g3⟩ := cells4 (F9.out.keep HF.out.2.2.2.2.2.1 (fun e => e)); have y2 := HX2.out _ F9.out; clear f8 d0 d1 d2 d3)
       (try rw [hw9])
       go_wp2_with (first | (go_at_call 75; (with_reducible refine (HT.out _ (HF.out.2.2.2.1.thenNo F9.out)).mono ?_); rintro e w10 ⟨rfl, ρ5, A5, h5, G5⟩; have hkb := G5.keep (F9.out.keep HF.out.2.2.2.2.2.1 (fun e => e)) (fun e => by have := HF.out.1.bound _ e; omega); have H5 := hid (⟨h5, (Gone.no (HF.out.2.2.2.1.thenNo F9.out)).trans G5, (HF.out.2.2.1.next (HF.out.2.2.2.1.thenNo F9.out)).next G5.fr, hkb⟩ : _ ∧ _ ∧ _ ∧ _); obtain ⟨a5, c5, hev5⟩ := ownsRow_slice (H5.out.1.at_ .erow).1; have x5 := H5.out.1.cells.2.2.1; rw [hev5, HE1.out] at x5; have HEV := hid hev5; have HNS : Hid (¬ (Value.slice a5 m c5).ownBlock = some s) := hid (fun e => by have e1 : ρ5 s = some Rp.erow := (H5.out.1.at_ .erow).2.1 s (by rw [hev5, HE1.out]; exact e); rw [show ρ5 s = some Rp.root from H5.out.1.root] at e1; cases e1); have HROW := hid (fun u (hu : Fr No w10 u) => (show u.ownsRow 0 126 1 (.slice a5 m c5) m (ptrs A5.z m) by have q := (H5.out.1.at_ .erow).1; rw [hev5, HE1.out] at q; exact fd_owns q hu)); clear h5 G5 hkb hev5 g0 g1 g2 g3 y2) | (refine wpList_buildSlice1 rfl 91 126 (.tmp 67) rfl _ 1 8 Tryz.underlying91 infoRP (by decide) (by decide) (.pointer (some ⟨w10.heap.size, 0, none⟩)) rfl rfl ?_; intro w15 p15; have P15 := hid (show New #[.pointer (some ⟨w10.heap.size, 0, none⟩)] 126 (w10.alloc (.cells #[.slice none 0 0] 129)) w15 from p15); clear p15) | (at_builtin; (refine wpList_app rfl (.tmp 65) (.tmp 68) 91 rfl 126 (.pointer none) 1 8 Tryz.underlying91 infoRP rfl (by decide) (.slice a5 m c5) m (ptrs A5.z m) rfl (fd_owns (HROW.out w10 (Fr.refl _ _)) (((Fr.refl No w10).alloc _).thenNo P15.out.fr)) (.slice (some ⟨(w10.alloc (.cells #[.slice none 0 0] 129)).heap.size, 0, none⟩) 1 1) 1 [.pointer (some ⟨w10.heap.size, 0, none⟩)] rfl (Rd.block P15.out.at_ 1 1 1 rfl (by simp [Value.oneCell']) (Nat.le_refl _) (by simp [maxLen])) (by unfold maxLen; omega) (by omega) ?_; rintro v16 w16 o16 f16 b16 -; obtain ⟨a16, n16, rfl⟩ := ownsRow_slice o16; have X16 := hid (f16.keep (P15.out.keep (((Fr.refl No w10).alloc (.cells #[.slice none 0 0] 129)).keep (H5.out.1.heap) (fun e => e))) HNS.out); have O16 := hid (⟨o16, f16, b16⟩ : _ ∧ _ ∧ _); clear o16 f16 b16)) | (refine wpList_store1 rfl 91 (.tmp 71) (.tmp 69) rfl s 2 rfl _ 93 (.slice a16 (m + 1) n16) rfl (by kernel_rfl) X16.out (by simp [rrootCells]) rfl ?_; intro w17 p17; have P17 := hid (show Put s #[.pointer (some ⟨A5.c, 0, none⟩), A5.nv, .slice a16 (m + 1) n16, A5.dv, A5.fv] 93 w16 w17 from p17); clear p17))
       have hm5 := HE1.out
       obtain ⟨o16, f16, b16⟩ := O16.out
       obtain ⟨h5, G5, ho5, hk5⟩ := H5.out
       have fa : Fr No w10 (w10.alloc (.cells #[.slice none 0 0] 129)) := (Fr.refl No w10).alloc _
       have ha : w10.heap.size < (w10.alloc (.cells #[.slice none 0 0] 129)).heap.size := by simp
       have hcell0 := heap1 w10 (.cells #[.slice none 0 0] 129)
       obtain ⟨ρ2, hat, h2, G2⟩ := h5.eNew ho5 fa (Nat.le_refl _) ha
       subst hm5
       have hown2 : ∀ k, (Value.slice a5 v1.E.length c5).ownBlock = some k → At ρ2 .erow k := by
        have := (h2.at_ .erow).2.1
        dsimp only at this
        rw [HEV.out] at this
        exact this
       have f17 : Fr (fun k => At ρ2 .erow k ∨ k = s) (w10.alloc (.cells #[.slice none 0 0] 129)) w17 := ((P15.out.fr.mono (fun _ _ e => e.elim)).thenS (f16.mono (fun k _ e => .inl (hown2 k e)))).thenS (P17.out.fr.mono (fun k _ e => .inr e))
       have hb16 : ∀ k, (Value.slice a16 (v1.E.length + 1) n16).ownBlock = some k → At ρ2 .erow k ∨ (w10.alloc (.cells #[.slice none 0 0] 129)).heap.size ≤ k := fun k hk => by
        rcases b16 k hk with e | e
        ·exact .inl (hown2 k e)
        ·exact .inr (Nat.le_trans P15.out.fr.size e)
       have hsz := h5.lt
       have hne : ∀ k, (Value.slice a16 (v1.E.length + 1) n16).ownBlock = some k → k ≠ s := fun k hk e => by
        subst e
        rcases hb16 k hk with e1 | e1
        ·have e2 : ρ2 k = some Rp.erow := e1
         rw [show ρ2 k = some Rp.root from h2.root] at e2
         cases e2
        ·omega
       have hown5 : ∀ k, (Value.slice a5 v1.E.length c5).ownBlock = some k → Go.Lig.Own ρ5 k := fun k e => at_own k (show At ρ5 .erow k from (h5.at_ .erow).2.1 k (by rw [HEV.out]; exact e))
       have hnc : ¬ (Value.slice a5 v1.E.length c5).ownBlock = some w10.heap.size := fun e => by
        have := h5.bound _ (hown5 _ e)
        omega
       have hbl := lt_of_block hk5.1
       have hcell17 := P17.out.fr.keep (f16.keep (P15.out.keep hcell0) hnc) (fun e => by omega)
       have hb17 := P17.out.fr.keep (f16.keep (P15.out.keep (fa.keep hk5.1 (fun e => e))) (fun e => hk5.2 (hown5 _ e))) (fun e => by have := HF.out.1.lt; omega)
       have ep : ptrs (fun i => if i = v1.E.length then w10.heap.size else A5.z i) v1.E.length = ptrs A5.z v1.E.length := ptrs_congr (fun i hi => if_neg (by omega))
       obtain ⟨ρ3, h3, G3⟩ := h2.eRow (b := w10.heap.size) (ho5.next fa) (by dsimp only; rw [if_pos rfl]) hat f17 hcell17 (by dsimp only; rw [ep]; exact P17.out.fr.owns o16 hne) hb16 P17.out.at_ (by omega)
       have x17 := h3.cells.2.2.1
       dsimp only at x17
       obtain ⟨j0, j1, j2, j3⟩ := cells4 hb17
       have ho17 : Old w17.drew J := ((ho5.next fa).next f17).next (Fr.refl No w17).drew
       have HP := hid (rsputedge_any w17.drew J ρ3 s _ (vGrowE v1) (F + 2) (h3.no (Fr.refl No w17).drew) ho17 t (k := v1.E.length) (by simp [vGrowE]) ((a : Int) + 1) ((b : Int) + 1) ey ew false (by have := HF.out.2.2.2.2.1; omega))
       have HG := hid (show Gone (Go.Lig.Own ρ) w (Go.Lig.Own ρ3) w17.drew from ((G5.trans G2).trans G3).nextNo (Fr.refl No w17).drew)
       have HLT := hid (⟨lt_of_block hb17, h3.lt⟩ : _ ∧ _)
       clear o16 f16 b16 h5 G5 ho5 hk5 fa ha hcell0 hat h2 G2 hown2 f17 hb16 hsz hne hown5 hnc hbl hcell17 hb17 ep h3 G3 ho17 x5
       generalize hNe : v1.E.length = m at *
       go_wp2_with fail
       refine wp_region_sched (by kernel_rfl) 8 [8] [0, 1, 2, 3, 4, 5, 6, 7, 8] (AgC [s, w.heap.size] w17.drew) (by kernel_rfl) (AgC.refl _ _) ?_
       simp only [List.map_cons, List.map_nil, List.contains_cons, List.contains_nil, nth_zero, nth_succ, Nat.reduceBEq, Bool.false_or, Bool.or_false, Bool.or_true, Bool.true_or]
       repeat (refine sched_quiet (fun K hK => ?_); go_simp; refine hK _ ?_; clear hK K)
       refine sched_callL ?_ 77 #[.pointer (some ⟨s, 0, none⟩), .int .i64 t, .int .i64 ((m : Int) + 1), .agg #[.int .i64 ((a : Int) + 1), .int .i64 ((b : Int) + 1), .string ey, .float .f64 ew], .bool false] ?_ HP.out ?_
       focus (first | rfl | (go_simp; done))
       focus (first | rfl | (go_simp; done))
       rintro e w18 ⟨rfl, ρ8, A8, h8, G8⟩
       refine ⟨_, rfl, ?_⟩
       refine sched_nil ?_
       have x18 := h8.cells.2.2.1
       obtain ⟨a8, c8, hnv8⟩ := ownsRow_slice (h8.at_ .erow).1
       have e8 : (vTie (vGrowE v1) t m ⟨(a : Int) + 1, (b : Int) + 1, ey, ew⟩ false).E.length = m + 1 := by simp [vTie, vGrowE, hNe]
       rw [hnv8, e8] at x18
       have H8 := hid (⟨h8, G8⟩ : _ ∧ _)
       clear h8 G8 hnv8 e8 j0 j1 j2 j3 x17
       go_wp2_with fail
       subst hNe
       go_ret2
       exact ⟨rfl, ρ8, A8, H8.out.1, HG.out.trans H8.out.2⟩
     ·rw [if_neg h32]
      have h32' : (32 : Int) ≤ (m : Int) := by omega
      clear hra hrb
      go_enter Tryz.func35, Tryz.ntmps35
      go_wp2_with (first | (go_at_call 72; refine HL.out.mono ?_; rintro e w1 ⟨rfl, rfl⟩) | (go_at_call 30; refine HIS.out.mono ?_; rintro e w1 ⟨rfl, f1⟩; have F1 := hid f1; obtain ⟨k0, k1, k2, k3⟩ := cells4 (F1.out.keep HF.out.2.2.2.2.2.1 (fun e => e)); clear f1) | (go_at_call 74; (with_reducible refine (HNA.out _ F1.out).mono ?_); rintro e w6 ⟨la, ln, lc, pa, pn, pc, rfl, f6⟩; obtain ⟨w7, hw7⟩ : ∃ w7, w6.alloc (.cells #[.slice la ln lc, .slice pa pn pc] 34) = w7 := ⟨_, rfl⟩; have F7 := hid (show Fr No w0 w7 by rw [← hw7]; exact (F1.out.thenNo f6).alloc _); obtain ⟨d0, d1, d2, d3⟩ := cells4 (F7.out.keep HF.out.2.2.2.2.2.1 (fun e => e)); clear f6 k0 k1 k2 k3))
      (try rw [hw7])
      go_wp2_with (go_at_call 74; (with_reducible refine (HNB.out _ F7.out).mono ?_); rintro e w8 ⟨la', ln', lc', pa', pn', pc', rfl, f8⟩; obtain ⟨w9, hw9⟩ : ∃ w9, w8.alloc (.cells #[.slice la' ln' lc', .slice pa' pn' pc'] 34) = w9 := ⟨_, rfl⟩; have F9 := hid (show Fr No w0 w9 by rw [← hw9]; exact (F7.out.thenNo f8).alloc _); obtain ⟨g0, g1, g2, g3⟩ := cells4 (F9.out.keep HF.out.2.2.2.2.2.1 (fun e => e)); have y2 := HX2.out _ F9.out; clear f8 d0 d1 d2 d3)
      (try rw [hw9])
      go_ret2
      exact ⟨rfl, RTurns.ofNo (HF.out.1.more (by omega)) (HF.out.2.2.2.1.thenNo F9.out)⟩
end Go.Proofs.YthadcdoepoglkaaGreatDoor
namespace Go.Proofs.YthadcdoepoglkaaGreatDoor
open Go.RowKit Go.Lig
theorem may_two (M : PSt) (t a b : Int) : mayB M t 0 [a, b] = (clashV M.K t (M.vs.nc a) || clashV M.K t (M.vs.nc b)) := by
 unfold mayB
 rw [ceB_ec, show M.vs.ec 0 = [] from cellOf_none (by omega)]
 simp only [List.any_cons, List.any_nil, Bool.or_false, clB_nc]
 rfl
theorem sim_addnode (p : PF) (t : Int) (b : Bool) (d : NodeD) : (opAddNode p t b d).1 = (vAddNode p.1.vs t b d).1 ∧ (opAddNode p t b d).2.1.vs = (vAddNode p.1.vs t b d).2 := by
 unfold opAddNode vAddNode
 have eL : p.1.vs.K.live t = p.1.K.live t := rfl
 have eN : p.1.vs.N.length = p.1.N.length := rfl
 rw [eL, eN]
 cases p.1.K.live t with
 | false => exact ⟨rfl, rfl⟩
 | true =>
  cases b with
  | false => exact ⟨rfl, rfl⟩
  | true =>
   by_cases hn : p.1.N.length < 24
   ·simp only [if_pos hn, ↓reduceIte]
    exact ⟨trivial, rfl⟩
   ·simp only [if_neg hn, ↓reduceIte]
    exact ⟨trivial, trivial⟩
theorem sim_addedge (p : PF) (t : Int) (b : Bool) (e : EdgeV) : (opAddEdge p t b e).1 = (vAddEdge p.1.vs t b e).1 ∧ (opAddEdge p t b e).2.1.vs = (vAddEdge p.1.vs t b e).2 := by
 unfold opAddEdge vAddEdge
 have eL : p.1.vs.K.live t = p.1.K.live t := rfl
 have eN : p.1.vs.E.length = p.1.E.length := rfl
 have eK : p.1.vs.K = p.1.K := rfl
 rw [eL, eN, may_two, readN_vs, readN_vs, eK]
 cases p.1.K.live t with
 | false => exact ⟨rfl, rfl⟩
 | true =>
  cases b with
  | false => exact ⟨rfl, rfl⟩
  | true =>
   cases (p.1.vs.rdN t e.from_).isSome && (p.1.vs.rdN t e.to_).isSome with
   | false => exact ⟨rfl, rfl⟩
   | true =>
    by_cases hn : p.1.E.length < 32
    ·simp only [if_pos hn, ↓reduceIte]
     cases clashV p.1.K t (p.1.vs.nc e.from_) || clashV p.1.K t (p.1.vs.nc e.to_) with
     | true => exact ⟨rfl, exAbort_vs p t⟩
     | false =>
      refine ⟨rfl, ?_⟩
      show (tieM (growE (exTouch t p [e.from_, e.to_]).1) t p.1.E.length e false).vs = _
      rw [tieM_vs]
      show vTie (vGrowE (exTouch t p [e.from_, e.to_]).1.vs) t p.1.E.length e false = _
      rw [exTouch_vs]
      rfl
    ·simp only [if_neg hn, ↓reduceIte]
     exact ⟨trivial, trivial⟩
def grN1 (p : PF) (d : NodeD) : PF := (opAddNode p 1 (isNodeB d) d).2
def grE1 (p : PF) (e : EdgeV) : PF := (opAddEdge p 1 (isEdgeB e) e).2
def gr0 : PF := (opBegin (emptyM, 0)).2
def grN (ns : List NodeD) (i : Nat) : PF := (ns.take i).foldl grN1 gr0
def grE (ns : List NodeD) (es : List EdgeV) (i : Nat) : PF := (es.take i).foldl grE1 (grN ns ns.length)
theorem grN_succ {ns : List NodeD} {i : Nat} {d : NodeD} (h : ns[i]? = some d) : grN ns (i + 1) = grN1 (grN ns i) d := by
 unfold grN
 rw [List.take_add_one, h, Option.toList_some, List.foldl_append]
 rfl
theorem grE_succ {ns : List NodeD} {es : List EdgeV} {i : Nat} {e : EdgeV} (h : es[i]? = some e) : grE ns es (i + 1) = grE1 (grE ns es i) e := by
 unfold grE
 rw [List.take_add_one, h, Option.toList_some, List.foldl_append]
 rfl
theorem gr0_ok : GOk gr0 2 1 12000 := GOk.opBegin GOk.empty (by omega) (by omega)
theorem grN_ok {ns : List NodeD} (h7 : ns.length ≤ 7) : ∀ i, i ≤ ns.length → GOk (grN ns i) (2 + 2 * i) (1 + i) (12000 + 12000 * i)
 | 0, _ => gr0_ok
 | i + 1, hi => by
  have ih := grN_ok h7 i (by omega)
  rw [grN_succ (List.getElem?_eq_getElem (show i < ns.length by omega))]
  exact ((ih.opAddNode (by omega) (by omega) 1 node_small).2).mono (by omega) (by omega) (by omega)
theorem grE_ok {ns : List NodeD} {es : List EdgeV} (h7 : ns.length ≤ 7) (h14 : es.length ≤ 14) : ∀ i, i ≤ es.length → GOk (grE ns es i) (16 + 2 * i) (8 + i) (96000 + 12000 * i)
 | 0, _ => (grN_ok h7 ns.length (Nat.le_refl _)).mono (by omega) (by omega) (by omega)
 | i + 1, hi => by
  have ih := grE_ok h7 h14 i (by omega)
  rw [grE_succ (List.getElem?_eq_getElem (show i < es.length by omega))]
  exact ((ih.opAddEdge (by omega) (by omega) 1).2).mono (by omega) (by omega) (by omega)
theorem StAt.frameS {w w' : World} {S : Nat → Prop} {ρ : Nat → Option Pt} {s : Nat} {A : Ad} {M : PSt} {F : Nat} (h : StAt w ρ s A M F) (hf : Fr S w w') (hd : ∀ k, Go.Lig.Own ρ k → ¬ S k) : StAt w' ρ s A M F :=
 ⟨fun b hb => Nat.lt_of_lt_of_le (h.bound b hb) hf.size, fun p => (h.at_ p).frame hf (fun k hk => hd k (at_own k hk)) (fun k hk => hd k (at_own k hk))⟩
structure Both (w0 w : World) (J : Nat → Prop) (s x : Nat) (p : PF) (v : VS) (F : Nat) : Prop where
 ex : ∃ ρ A ρ' A', StAt w ρ s A p.1 p.2 ∧ RfAt w J ρ' x A' v F ∧ (∀ b, Go.Lig.Own ρ b → w0.heap.size ≤ b) ∧ (∀ b, Go.Lig.Own ρ' b → w0.heap.size ≤ b) ∧ ∀ b, Go.Lig.Own ρ b → ¬ Go.Lig.Own ρ' b
 fr : Fr No w0 w
 old : Old w0 J
section
variable {w0 w : World} {J : Nat → Prop} {s x : Nat} {p : PF} {v : VS} {F : Nat}
theorem Both.next {w' : World} (h : Both w0 w J s x p v F) (hf : Fr No w w') : Both w0 w' J s x p v F := by
 obtain ⟨ρ, A, ρ', A', h1, h2, h3⟩ := h.ex
 exact ⟨⟨ρ, A, ρ', A', h1.frame hf, h2.no hf, h3⟩, h.fr.thenNo hf, h.old⟩
theorem Both.st (h : Both w0 w J s x p v F) : ∃ S : Nat → Prop, OwG S w w s p ∧ (∀ b, S b → w0.heap.size ≤ b) ∧ ∀ {w' : World} {p' : PF}, OwG S w w' s p' → Both w0 w' J s x p' v F := by
 obtain ⟨ρ, A, ρ', A', h1, h2, h3, h4, h5⟩ := h.ex
 refine ⟨Go.Lig.Own ρ, ⟨⟨ρ, A, h1, fun b hb => .inl hb⟩, Fr.refl _ _⟩, h3, fun {w' p'} o => ?_⟩
 obtain ⟨⟨ρ2, A2, k1, k2⟩, kf⟩ := o
 refine ⟨⟨ρ2, A2, ρ', A', k1, h2.frame kf (fun k hk e => h5 k e hk) (fun k hk e => by have := h3 k e; have := h.old k hk; omega), fun b hb => ?_, h4, fun b hb e => ?_⟩, h.fr.trans kf (fun k hk e => by have := h3 k e; omega), h.old⟩
 ·rcases k2 b hb with e | e
  ·exact h3 b e
  ·exact Nat.le_trans h.fr.size e
 ·rcases k2 b hb with q | q
  ·exact h5 b q e
  ·have := h2.bound b e
   omega
theorem Both.rf (h : Both w0 w J s x p v F) : ∃ ρ A, RfAt w J ρ x A v F ∧ Old w J ∧ ∀ {w' : World} {v' : VS} {F' : Nat}, RTurns w J ρ x v' F' w' → Both w0 w' J s x p v' F' := by
 obtain ⟨ρ, A, ρ', A', h1, h2, h3, h4, h5⟩ := h.ex
 refine ⟨ρ', A', h2, fun b hb => Nat.lt_of_lt_of_le (h.old b hb) h.fr.size, fun {w' v' F'} o => ?_⟩
 obtain ⟨ρ2, A2, k1, kg⟩ := o
 refine ⟨⟨ρ, A, ρ2, A2, h1.frameS kg.fr (fun k hk e => h5 k hk e), k1, h3, fun b hb => ?_, fun b hb e => ?_⟩, h.fr.trans kg.fr (fun k hk e => by have := h4 k e; omega), h.old⟩
 ·rcases kg.gr b hb with e | e
  ·exact h4 b e
  ·exact Nat.le_trans h.fr.size e
 ·rcases kg.gr b e with q | q
  ·exact h5 b hb q
  ·have := h1.bound b hb
   omega
theorem Both.own (h : Both w0 w J s x p v F) : OwS w0 w s p := by
 obtain ⟨ρ, A, ρ', A', h1, h2, h3, h4, h5⟩ := h.ex
 exact ⟨⟨ρ, A, h1, fun b hb => .inr (h3 b hb)⟩, h.fr⟩
theorem Both.more {F' : Nat} (h : Both w0 w J s x p v F) (hF : F ≤ F') : Both w0 w J s x p v F' := by
 obtain ⟨ρ, A, ρ', A', h1, h2, h3⟩ := h.ex
 exact ⟨⟨ρ, A, ρ', A', h1, h2.more hF, h3⟩, h.fr, h.old⟩
end
end Go.Proofs.YthadcdoepoglkaaGreatDoor
