/- A part of the proof: contracts of functions of the program, for the row's text. -/
import Derived.Test.YtibfpkfpmkghhaaGreatDoorJ34
import Derived.Test.YtibfpkfpmkghhaaGreatDoorJ31
namespace Go.Proofs.YtibfpkfpmkghhaaGreatDoor
open Go.RowKit Go.Lig

/-- a version's cells, at o -/
def NcO (w : World) (g o : Nat) (y : Ver NodeV) : Prop := ∀ (t : Nat) (u : Value), (ncell y)[t]? = some u → w.cell? ⟨g, o + t, none⟩ = some u
theorem NcO.facts {w : World} {g o : Nat} {y : Ver NodeV} (h : NcO w g o y) : w.cell? ⟨g, o, none⟩ = some (.int .i64 y.by_) ∧ w.cell? ⟨g, o + 1, none⟩ = some (.slice y.v.l.a y.v.l.n y.v.l.c) ∧ w.cell? ⟨g, o + 2, none⟩ = some (.slice y.v.p.a y.v.p.n y.v.p.c) ∧ w.cell? ⟨g, o + 3, none⟩ = some (.bool y.gone) := ⟨h 0 _ rfl, h 1 _ rfl, h 2 _ rfl, h 3 _ rfl⟩
theorem CelRow.o {w : World} {x g : Nat} {L : List (Ver NodeV)} (h : CelRow w x g L) {j : Nat} {y : Ver NodeV} (hy : L[j]? = some y) : NcO w g (j * 4) y := by
  obtain ⟨a, n, h1, h2, h3, _⟩ := h.ex
  have hl := (List.getElem?_eq_some_iff.1 hy).1
  obtain rfl := h3 (by omega)
  intro t u hu
  have ht : t < 4 := (List.getElem?_eq_some_iff.1 hu).1
  exact owns_cell h2 rfl (by rw [flat_get (f := ncell) (m := 4) (fun _ => rfl) _ _ _ hy t ht]; exact hu)
set_option maxHeartbeats 2000000 in
theorem idxo_any (w : World) (a : Option Addr) (g o cap : Nat) (L : List (Ver NodeV)) (ha : 0 < L.length → a = some ⟨g, o, none⟩) (hs : L.length ≤ 1000000) (hc : ∀ W, Fr No w W → ∀ j y, L[j]? = some y → NcO W g (o + j * 4) y) (cf : Nat) (clb : Array Value) (p : Ver NodeV → Bool)
    (hcf : ∀ args w, (callFunc cf args).run Tryz.prog w = .ok (.enter cf args) w)
    (hp : ∀ W y, Fr No w W → y ∈ L → Calls Tryz.prog cf (#[.agg #[.int .i64 y.by_, .slice y.v.l.a y.v.l.n y.v.l.c, .slice y.v.p.a y.v.p.n y.v.p.c, .bool y.gone]] ++ clb) W fun e W' => e = .returned (.bool (p y)) ∧ Fr No W W') :
    Calls Tryz.prog 190 #[.slice a L.length cap, .func (.func cf) #[] clb] w fun e w' => e = .returned (.int .i64 (idxZ (L.findIdx? p))) ∧ Fr No w w' := by
  have HC := hid hc
  have HP := hid hp
  have HCF := hid hcf
  have HA := hid ha
  have HE : Hid (∀ (i : Nat) y, L[i]? = some y → p y = true → (∀ (k : Nat) y, k < i → L[k]? = some y → p y = false) → idxZ (L.findIdx? p) = (i : Int)) := hid (fun i y hy hpy hb => by
    have : L.findIdx? p = some i := by
      rw [List.findIdx?_eq_some_iff_getElem]
      have hl := (List.getElem?_eq_some_iff.1 hy)
      refine ⟨hl.1, by rw [hl.2]; exact hpy, fun j hj => ?_⟩
      rw [hb j (L[j]'(by have := hl.1; omega)) hj (List.getElem?_eq_getElem _)]
      simp
    rw [this]; rfl)
  have HX : Hid ((∀ (k : Nat) y, k < L.length → L[k]? = some y → p y = false) → idxZ (L.findIdx? p) = -1) := hid (fun hb => by
    have : L.findIdx? p = none := by
      rw [List.findIdx?_eq_none_iff]
      intro y hy
      obtain ⟨k, hk, rfl⟩ := List.getElem_of_mem hy
      exact hb k _ hk (List.getElem?_eq_getElem hk)
    rw [this]; rfl)
  generalize idxZ (L.findIdx? p) = z at *
  clear hc hp hcf ha
  go_enter Tryz.func190, Tryz.ntmps190
  go_wp2_with fail
  generalize hLn : L.length = n at *
  have HLn := hid hLn
  clear hLn
  go_loopw [8] (fun vi wr => ∃ i : Nat, i ≤ n ∧ vi = .int .i64 (i : Int) ∧ Hid (Fr No w wr ∧ ∀ k y, k < i → L[k]? = some y → p y = false)) (fun vi _ => n - (intOf vi).toNat)
  case atStart => exact ⟨0, Nat.zero_le _, rfl, Fr.refl _ _, fun k y hk => absurd hk (Nat.not_lt_zero _)⟩
  case round =>
    obtain ⟨i, hi, rfl, HF⟩ := hrel
    by_cases hlt : i < n
    · obtain ⟨y, hy⟩ : ∃ y, L[i]? = some y := ⟨L[i]'(by have := HLn.out; omega), List.getElem?_eq_getElem _⟩
      obtain rfl := HA.out (by omega)
      obtain ⟨y0, y1, y2, y3⟩ := (HC.out wr HF.out.1 i y hy).facts
      have HY := hid (⟨hy, List.mem_of_getElem? hy⟩ : _ ∧ _)
      clear hy
      cases hpy : p y with
      | false =>
        go_wp2_with (rw [HCF.out, Oper.upon_enter]; refine (HP.out wr y HF.out.1 HY.out.2).mono ?_; rintro e W' ⟨rfl, f⟩; rw [hpy]; have F := hid f; clear f)
        go_roundw
        case rel => exact ⟨i + 1, by omega, by go_num, HF.out.1.thenNo F.out, fun k z hk hz => by
          rcases Nat.lt_succ_iff_lt_or_eq.1 hk with h | rfl
          · exact HF.out.2 k z h hz
          · rw [HY.out.1] at hz; obtain rfl := Option.some.inj hz; exact hpy⟩
        case measure => simp [intOf]; omega
      | true =>
        go_wp2_with (rw [HCF.out, Oper.upon_enter]; refine (HP.out wr y HF.out.1 HY.out.2).mono ?_; rintro e W' ⟨rfl, f⟩; rw [hpy]; have F := hid f; clear f)
        go_ret
        have e1 := HE.out i y HY.out.1 hpy HF.out.2
        exact ⟨by rw [e1]; rfl, HF.out.1.thenNo F.out⟩
    · go_wp2_with fail
      go_ret
      have e1 := HX.out (fun k y hk => HF.out.2 k y (by have := HLn.out; omega))
      exact ⟨by rw [e1]; rfl, HF.out.1⟩
theorem idx_any {α : Type} (L : List α) (p : α → Bool) : decide (0 ≤ idxZ (L.findIdx? p)) = L.any p := by
  cases h : L.findIdx? p with
  | none =>
    rw [List.findIdx?_eq_none_iff] at h
    rw [List.any_eq_false.2 (fun y hy => by simp [h y hy])]
    rfl
  | some j =>
    obtain ⟨hj, h1, -⟩ := List.findIdx?_eq_some_iff_getElem.1 h
    rw [List.any_eq_true.2 ⟨L[j], List.getElem_mem hj, h1⟩]
    exact decide_eq_true (by simp [idxZ])
theorem anyo_any (w : World) (a : Option Addr) (g o cap : Nat) (L : List (Ver NodeV)) (ha : 0 < L.length → a = some ⟨g, o, none⟩) (hs : L.length ≤ 1000000) (hc : ∀ W, Fr No w W → ∀ j y, L[j]? = some y → NcO W g (o + j * 4) y) (cf : Nat) (clb : Array Value) (p : Ver NodeV → Bool)
    (hcf : ∀ args w, (callFunc cf args).run Tryz.prog w = .ok (.enter cf args) w)
    (hp : ∀ W y, Fr No w W → y ∈ L → Calls Tryz.prog cf (#[.agg #[.int .i64 y.by_, .slice y.v.l.a y.v.l.n y.v.l.c, .slice y.v.p.a y.v.p.n y.v.p.c, .bool y.gone]] ++ clb) W fun e W' => e = .returned (.bool (p y)) ∧ Fr No W W') :
    Calls Tryz.prog 204 #[.slice a L.length cap, .func (.func cf) #[] clb] w fun e w' => e = .returned (.bool (L.any p)) ∧ Fr No w w' := by
  have HI := hid (idxo_any w a g o cap L ha hs hc cf clb p hcf hp)
  have HA := hid (idx_any L p)
  generalize L.any p = b at *
  generalize idxZ (L.findIdx? p) = z at *
  clear ha hs hc hcf hp
  go_enter Tryz.func204, Tryz.ntmps204
  go_wp2_with (go_at_call 190; refine HI.out.mono ?_; rintro e w1 ⟨rfl, f1⟩; have F1 := hid f1; clear f1)
  go_ret
  exact ⟨by rw [← HA.out]; rfl, F1.out⟩
/-! ### spare -/
theorem spare21_any (w : World) (z y : Ver NodeV) (b : Nat) (hb : w.cell? ⟨b, 0, none⟩ = some (.int .i64 y.by_)) :
    Calls Tryz.prog 203 #[.agg #[.int .i64 z.by_, .slice z.v.l.a z.v.l.n z.v.l.c, .slice z.v.p.a z.v.p.n z.v.p.c, .bool z.gone], .pointer (some ⟨b, 0, none⟩)] w fun e w' => e = .returned (.bool (z.by_ == y.by_)) ∧ Fr No w w' := by
  have hlt : b < w.heap.size := World.block_lt_of_cell? w _ hb
  go_enter Tryz.func203, Tryz.ntmps203
  go_wp2
  go_ret
  exact ⟨rfl, (Fr.refl No w).alloc _⟩
theorem enter_spare21 : ∀ args w, (callFunc 203 args).run Tryz.prog w = .ok (.enter 203 args) w := enters_of Tryz.func203 (by kernel_rfl) rfl
theorem spare1_any (w : World) (y : Ver NodeV) (b c g : Nat) (K : Ck) (hb : w.cell? ⟨b, 0, none⟩ = some (.pointer (some ⟨c, 0, none⟩))) (h : ClkRow w c g K) (hs : K.l.length ≤ 1000000) :
    Calls Tryz.prog 200 #[.agg #[.int .i64 y.by_, .slice y.v.l.a y.v.l.n y.v.l.c, .slice y.v.p.a y.v.p.n y.v.p.c, .bool y.gone], .pointer (some ⟨b, 0, none⟩)] w fun e w' => e = .returned (.bool (K.settled y.by_)) ∧ Fr No w w' := by
  have hlt : b < w.heap.size := World.block_lt_of_cell? w _ hb
  have HS := hid (fun (W : World) (hW : Fr No w W) => settled_any W c g K (h.frame hW) hs y.by_)
  have hf : Fr No w (w.alloc (.cells #[.int .i64 y.by_, .slice y.v.l.a y.v.l.n y.v.l.c, .slice y.v.p.a y.v.p.n y.v.p.c, .bool y.gone] 161)) := (Fr.refl No w).alloc _
  have HF := hid hf
  generalize K.settled y.by_ = r at *
  clear h hf
  go_enter Tryz.func200, Tryz.ntmps200
  go_wp2_with (go_at_call 201; refine (HS.out _ HF.out).mono ?_; rintro e w2 ⟨rfl, f2⟩; have F2 := hid f2; clear f2)
  go_ret
  exact ⟨rfl, HF.out.thenNo F2.out⟩
theorem enter_spare1 : ∀ args w, (callFunc 200 args).run Tryz.prog w = .ok (.enter 200 args) w := enters_of Tryz.func200 (by kernel_rfl) rfl
end Go.Proofs.YtibfpkfpmkghhaaGreatDoor

namespace Go.Proofs.YtibfpkfpmkghhaaGreatDoor.Ec
open Go.RowKit Go.Lig

/-- a version's cells, at o -/
def NcO (w : World) (g o : Nat) (y : Ver EdgeV) : Prop := ∀ (t : Nat) (u : Value), (ecell y)[t]? = some u → w.cell? ⟨g, o + t, none⟩ = some u
theorem NcO.facts {w : World} {g o : Nat} {y : Ver EdgeV} (h : NcO w g o y) : w.cell? ⟨g, o, none⟩ = some (.int .i64 y.by_) ∧ w.cell? ⟨g, o + 1, none⟩ = some (.int .i64 y.v.from_) ∧ w.cell? ⟨g, o + 2, none⟩ = some (.int .i64 y.v.to_) ∧ w.cell? ⟨g, o + 3, none⟩ = some (.string y.v.type) ∧ w.cell? ⟨g, o + 4, none⟩ = some (.float .f64 y.v.w) ∧ w.cell? ⟨g, o + 5, none⟩ = some (.bool y.gone) := ⟨h 0 _ rfl, h 1 _ rfl, h 2 _ rfl, h 3 _ rfl, h 4 _ rfl, h 5 _ rfl⟩
theorem CelRow.o {w : World} {x g : Nat} {L : List (Ver EdgeV)} (h : CelRow w x g L) {j : Nat} {y : Ver EdgeV} (hy : L[j]? = some y) : NcO w g (j * 6) y := by
  obtain ⟨a, n, h1, h2, h3, _⟩ := h.ex
  have hl := (List.getElem?_eq_some_iff.1 hy).1
  obtain rfl := h3 (by omega)
  intro t u hu
  have ht : t < 6 := (List.getElem?_eq_some_iff.1 hu).1
  exact owns_cell h2 rfl (by rw [flat_get (f := ecell) (m := 6) (fun _ => rfl) _ _ _ hy t ht]; exact hu)
set_option maxHeartbeats 2000000 in
theorem idxo_any (w : World) (a : Option Addr) (g o cap : Nat) (L : List (Ver EdgeV)) (ha : 0 < L.length → a = some ⟨g, o, none⟩) (hs : L.length ≤ 1000000) (hc : ∀ W, Fr No w W → ∀ j y, L[j]? = some y → NcO W g (o + j * 6) y) (cf : Nat) (clb : Array Value) (p : Ver EdgeV → Bool)
    (hcf : ∀ args w, (callFunc cf args).run Tryz.prog w = .ok (.enter cf args) w)
    (hp : ∀ W y, Fr No w W → y ∈ L → Calls Tryz.prog cf (#[.agg #[.int .i64 y.by_, .int .i64 y.v.from_, .int .i64 y.v.to_, .string y.v.type, .float .f64 y.v.w, .bool y.gone]] ++ clb) W fun e W' => e = .returned (.bool (p y)) ∧ Fr No W W') :
    Calls Tryz.prog 196 #[.slice a L.length cap, .func (.func cf) #[] clb] w fun e w' => e = .returned (.int .i64 (idxZ (L.findIdx? p))) ∧ Fr No w w' := by
  have HC := hid hc
  have HP := hid hp
  have HCF := hid hcf
  have HA := hid ha
  have HE : Hid (∀ (i : Nat) y, L[i]? = some y → p y = true → (∀ (k : Nat) y, k < i → L[k]? = some y → p y = false) → idxZ (L.findIdx? p) = (i : Int)) := hid (fun i y hy hpy hb => by
    have : L.findIdx? p = some i := by
      rw [List.findIdx?_eq_some_iff_getElem]
      have hl := (List.getElem?_eq_some_iff.1 hy)
      refine ⟨hl.1, by rw [hl.2]; exact hpy, fun j hj => ?_⟩
      rw [hb j (L[j]'(by have := hl.1; omega)) hj (List.getElem?_eq_getElem _)]
      simp
    rw [this]; rfl)
  have HX : Hid ((∀ (k : Nat) y, k < L.length → L[k]? = some y → p y = false) → idxZ (L.findIdx? p) = -1) := hid (fun hb => by
    have : L.findIdx? p = none := by
      rw [List.findIdx?_eq_none_iff]
      intro y hy
      obtain ⟨k, hk, rfl⟩ := List.getElem_of_mem hy
      exact hb k _ hk (List.getElem?_eq_getElem hk)
    rw [this]; rfl)
  generalize idxZ (L.findIdx? p) = z at *
  clear hc hp hcf ha
  go_enter Tryz.func196, Tryz.ntmps196
  go_wp2_with fail
  generalize hLn : L.length = n at *
  have HLn := hid hLn
  clear hLn
  go_loopw [8] (fun vi wr => ∃ i : Nat, i ≤ n ∧ vi = .int .i64 (i : Int) ∧ Hid (Fr No w wr ∧ ∀ k y, k < i → L[k]? = some y → p y = false)) (fun vi _ => n - (intOf vi).toNat)
  case atStart => exact ⟨0, Nat.zero_le _, rfl, Fr.refl _ _, fun k y hk => absurd hk (Nat.not_lt_zero _)⟩
  case round =>
    obtain ⟨i, hi, rfl, HF⟩ := hrel
    by_cases hlt : i < n
    · obtain ⟨y, hy⟩ : ∃ y, L[i]? = some y := ⟨L[i]'(by have := HLn.out; omega), List.getElem?_eq_getElem _⟩
      obtain rfl := HA.out (by omega)
      obtain ⟨y0, y1, y2, y3, y4, y5⟩ := (HC.out wr HF.out.1 i y hy).facts
      have HY := hid (⟨hy, List.mem_of_getElem? hy⟩ : _ ∧ _)
      clear hy
      cases hpy : p y with
      | false =>
        go_wp2_with (rw [HCF.out, Oper.upon_enter]; refine (HP.out wr y HF.out.1 HY.out.2).mono ?_; rintro e W' ⟨rfl, f⟩; rw [hpy]; have F := hid f; clear f)
        go_roundw
        case rel => exact ⟨i + 1, by omega, by go_num, HF.out.1.thenNo F.out, fun k z hk hz => by
          rcases Nat.lt_succ_iff_lt_or_eq.1 hk with h | rfl
          · exact HF.out.2 k z h hz
          · rw [HY.out.1] at hz; obtain rfl := Option.some.inj hz; exact hpy⟩
        case measure => simp [intOf]; omega
      | true =>
        go_wp2_with (rw [HCF.out, Oper.upon_enter]; refine (HP.out wr y HF.out.1 HY.out.2).mono ?_; rintro e W' ⟨rfl, f⟩; rw [hpy]; have F := hid f; clear f)
        go_ret
        have e1 := HE.out i y HY.out.1 hpy HF.out.2
        exact ⟨by rw [e1]; rfl, HF.out.1.thenNo F.out⟩
    · go_wp2_with fail
      go_ret
      have e1 := HX.out (fun k y hk => HF.out.2 k y (by have := HLn.out; omega))
      exact ⟨by rw [e1]; rfl, HF.out.1⟩
theorem anyo_any (w : World) (a : Option Addr) (g o cap : Nat) (L : List (Ver EdgeV)) (ha : 0 < L.length → a = some ⟨g, o, none⟩) (hs : L.length ≤ 1000000) (hc : ∀ W, Fr No w W → ∀ j y, L[j]? = some y → NcO W g (o + j * 6) y) (cf : Nat) (clb : Array Value) (p : Ver EdgeV → Bool)
    (hcf : ∀ args w, (callFunc cf args).run Tryz.prog w = .ok (.enter cf args) w)
    (hp : ∀ W y, Fr No w W → y ∈ L → Calls Tryz.prog cf (#[.agg #[.int .i64 y.by_, .int .i64 y.v.from_, .int .i64 y.v.to_, .string y.v.type, .float .f64 y.v.w, .bool y.gone]] ++ clb) W fun e W' => e = .returned (.bool (p y)) ∧ Fr No W W') :
    Calls Tryz.prog 208 #[.slice a L.length cap, .func (.func cf) #[] clb] w fun e w' => e = .returned (.bool (L.any p)) ∧ Fr No w w' := by
  have HI := hid (idxo_any w a g o cap L ha hs hc cf clb p hcf hp)
  have HA := hid (idx_any L p)
  generalize L.any p = b at *
  generalize idxZ (L.findIdx? p) = z at *
  clear ha hs hc hcf hp
  go_enter Tryz.func208, Tryz.ntmps208
  go_wp2_with (go_at_call 196; refine HI.out.mono ?_; rintro e w1 ⟨rfl, f1⟩; have F1 := hid f1; clear f1)
  go_ret
  exact ⟨by rw [← HA.out]; rfl, F1.out⟩
/-! ### spare -/
theorem spare21_any (w : World) (z y : Ver EdgeV) (b : Nat) (hb : w.cell? ⟨b, 0, none⟩ = some (.int .i64 y.by_)) :
    Calls Tryz.prog 207 #[.agg #[.int .i64 z.by_, .int .i64 z.v.from_, .int .i64 z.v.to_, .string z.v.type, .float .f64 z.v.w, .bool z.gone], .pointer (some ⟨b, 0, none⟩)] w fun e w' => e = .returned (.bool (z.by_ == y.by_)) ∧ Fr No w w' := by
  have hlt : b < w.heap.size := World.block_lt_of_cell? w _ hb
  go_enter Tryz.func207, Tryz.ntmps207
  go_wp2
  go_ret
  exact ⟨rfl, (Fr.refl No w).alloc _⟩
theorem enter_spare21 : ∀ args w, (callFunc 207 args).run Tryz.prog w = .ok (.enter 207 args) w := enters_of Tryz.func207 (by kernel_rfl) rfl
theorem spare1_any (w : World) (y : Ver EdgeV) (b c g : Nat) (K : Ck) (hb : w.cell? ⟨b, 0, none⟩ = some (.pointer (some ⟨c, 0, none⟩))) (h : ClkRow w c g K) (hs : K.l.length ≤ 1000000) :
    Calls Tryz.prog 205 #[.agg #[.int .i64 y.by_, .int .i64 y.v.from_, .int .i64 y.v.to_, .string y.v.type, .float .f64 y.v.w, .bool y.gone], .pointer (some ⟨b, 0, none⟩)] w fun e w' => e = .returned (.bool (K.settled y.by_)) ∧ Fr No w w' := by
  have hlt : b < w.heap.size := World.block_lt_of_cell? w _ hb
  have HS := hid (fun (W : World) (hW : Fr No w W) => settled_any W c g K (h.frame hW) hs y.by_)
  have hf : Fr No w (w.alloc (.cells #[.int .i64 y.by_, .int .i64 y.v.from_, .int .i64 y.v.to_, .string y.v.type, .float .f64 y.v.w, .bool y.gone] 176)) := (Fr.refl No w).alloc _
  have HF := hid hf
  generalize K.settled y.by_ = r at *
  clear h hf
  go_enter Tryz.func205, Tryz.ntmps205
  go_wp2_with (go_at_call 201; refine (HS.out _ HF.out).mono ?_; rintro e w2 ⟨rfl, f2⟩; have F2 := hid f2; clear f2)
  go_ret
  exact ⟨rfl, HF.out.thenNo F2.out⟩
theorem enter_spare1 : ∀ args w, (callFunc 205 args).run Tryz.prog w = .ok (.enter 205 args) w := enters_of Tryz.func205 (by kernel_rfl) rfl
end Go.Proofs.YtibfpkfpmkghhaaGreatDoor.Ec

namespace Go.Lig
/-- is y spare? -/
def spareB {α : Type} (st : Int → Bool) (L : List (Ver α)) (y : Ver α) : Bool := (L.drop (idxZ (L.findIdx? (fun z => z.by_ == y.by_)) + 1).toNat).any (fun z => st z.by_) || (idxZ (L.findIdx? (fun z => z.by_ == y.by_)) == 0 && y.gone && st y.by_)
def spareI {α : Type} (st : Int → Bool) (L : List (Ver α)) : Option Nat := L.findIdx? (spareB st L)
end Go.Lig
namespace Go.Proofs.YtibfpkfpmkghhaaGreatDoor
open Go.RowKit Go.Lig

set_option maxRecDepth 100000 in
set_option maxHeartbeats 4000000 in
theorem spare2_any (w : World) (x g c gk b2 b5 bc : Nat) (L : List (Ver NodeV)) (K : Ck) (y : Ver NodeV) (hrow : CelRow w x g L) (hclk : ClkRow w c gk K) (hs : L.length ≤ 1000000) (hk : K.l.length ≤ 1000000) (hy : y ∈ L)
    (h2 : w.cell? ⟨b2, 0, none⟩ = some (.pointer (some ⟨x, 0, none⟩))) (h5 : w.cell? ⟨b5, 0, none⟩ = some (.func (.func 200) #[] #[.pointer (some ⟨bc, 0, none⟩)])) (hc : w.cell? ⟨bc, 0, none⟩ = some (.pointer (some ⟨c, 0, none⟩))) :
    Calls Tryz.prog 202 #[.agg #[.int .i64 y.by_, .slice y.v.l.a y.v.l.n y.v.l.c, .slice y.v.p.a y.v.p.n y.v.p.c, .bool y.gone], .pointer (some ⟨b2, 0, none⟩), .pointer (some ⟨b5, 0, none⟩)] w fun e w' => e = .returned (.bool (spareB K.settled L y)) ∧ Fr No w w' := by
  obtain ⟨a, cap, g1, g2, g3, g4⟩ := hrow.ex
  obtain ⟨n, hLn⟩ : ∃ n, L.length = n := ⟨_, rfl⟩
  have hn0 : 0 < n := by rw [← hLn]; exact List.length_pos_of_mem hy
  obtain rfl := g3 (by omega)
  obtain ⟨cur, hcn⟩ : ∃ cur : Nat, n ≤ cap := by
    obtain ⟨g', cur, e, -, -, hnc, -⟩ := owns_at g2 (by omega)
    exact ⟨0, by omega⟩
  obtain ⟨j, hj, hjL⟩ : ∃ j, L.findIdx? (fun z => z.by_ == y.by_) = some j ∧ j < n := by
    cases h : L.findIdx? (fun z => z.by_ == y.by_) with
    | none =>
      rw [List.findIdx?_eq_none_iff] at h
      have := h y hy
      simp at this
    | some j => exact ⟨j, rfl, by rw [← hLn]; exact (List.findIdx?_eq_some_iff_getElem.1 h).1⟩
  have hbx := heap1 w (.cells #[.int .i64 y.by_, .slice y.v.l.a y.v.l.n y.v.l.c, .slice y.v.p.a y.v.p.n y.v.p.c, .bool y.gone] 161)
  have hf : Fr No w (w.alloc (.cells #[.int .i64 y.by_, .slice y.v.l.a y.v.l.n y.v.l.c, .slice y.v.p.a y.v.p.n y.v.p.c, .bool y.gone] 161)) := (Fr.refl No w).alloc _
  have HSC : Hid (∀ j ∈ [b2, x, b5, w.heap.size], j < w.heap.size + 1) := hid (fun j hj => by
    rcases List.mem_cons.1 hj with rfl | hj
    · have : j < w.heap.size := World.block_lt_of_cell? _ _ h2; omega
    rcases List.mem_cons.1 hj with rfl | hj
    · have := lt_of_block g1; omega
    rcases List.mem_cons.1 hj with rfl | hj
    · have : j < w.heap.size := World.block_lt_of_cell? _ _ h5; omega
    rw [List.mem_singleton.1 hj]; omega)
  have HIX := hid (fun (W : World) (hW : Fr No (w.alloc (.cells #[.int .i64 y.by_, .slice y.v.l.a y.v.l.n y.v.l.c, .slice y.v.p.a y.v.p.n y.v.p.c, .bool y.gone] 161)) W) => idxo_any W (some ⟨g, 0, none⟩) g 0 cap L (fun _ => rfl) hs (fun U hU i z hz => by rw [Nat.zero_add]; exact (hrow.frame ((hf.thenNo hW).thenNo hU)).o hz) 203 #[.pointer (some ⟨w.heap.size, 0, none⟩)] (fun z => z.by_ == y.by_) enter_spare21 (fun U z hU _ => spare21_any U z y w.heap.size (by
    have := cellOf ((hW.thenNo hU).keep hbx (fun e => e)) 0
    exact this)))
  rw [hj, show idxZ (some j) = (j : Int) from rfl] at HIX
  have HD := hid (fun (W : World) (hW : Fr No w W) (ad : Option Addr) (hd : 0 < n - (j + 1) → ad = some ⟨g, (j + 1) * 4, none⟩) => anyo_any W ad g ((j + 1) * 4) (cap - (j + 1)) (L.drop (j + 1)) (fun h => hd (by rw [List.length_drop, hLn] at h; exact h)) (by rw [List.length_drop]; omega) (fun U hU i z hz => by
    rw [List.getElem?_drop] at hz
    rw [← Nat.add_mul]
    exact (hrow.frame (hW.thenNo hU)).o hz) 200 #[.pointer (some ⟨bc, 0, none⟩)] (fun z => K.settled z.by_) enter_spare1 (fun U z hU _ => spare1_any U z bc c gk K ((World.cell?_of_block (w := w) ((hW.thenNo hU).block bc (World.block_lt_of_cell? _ _ hc) (fun e => e))).trans hc) (hclk.frame (hW.thenNo hU)) hk))
  rw [show (L.drop (j + 1)).length = n - (j + 1) by rw [List.length_drop, hLn]] at HD
  have HST := hid (fun (W : World) (hW : Fr No w W) => spare1_any W y bc c gk K ((World.cell?_of_block (w := w) (hW.block bc (World.block_lt_of_cell? _ _ hc) (fun e => e))).trans hc) (hclk.frame hW) hk)
  have HR : Hid (spareB K.settled L y = ((L.drop (j + 1)).any (fun z => K.settled z.by_) || ((j : Int) == 0 && y.gone && K.settled y.by_))) := hid (by unfold spareB; rw [hj]; rfl)
  rw [hLn] at HIX g1
  have x1 := cells1 (hf.keep g1 (fun e => e))
  have x2 := (World.cell?_of_block (w := w) (hf.block b2 (World.block_lt_of_cell? _ _ h2) (fun e => e))).trans h2
  have HH := hid (⟨g1, h2, h5⟩ : _ ∧ _ ∧ _)
  have HF := hid (⟨hf, hbx⟩ : _ ∧ _)
  have hn6 : n ≤ 1000000 := by omega
  generalize (L.drop (j + 1)).any (fun z => K.settled z.by_) = rb at *
  generalize K.settled y.by_ = st at *
  clear hrow hclk hs hk hy h2 h5 hc g1 g2 g3 g4 hj hf hbx hLn cur
  obtain ⟨yb, yv, yg⟩ := y
  dsimp only at HIX HD HST HR HF x1 x2 ⊢
  go_enter Tryz.func202, Tryz.ntmps202
  go_wp2_with (go_at_call 190; refine (HIX.out _ (Fr.refl No _)).mono ?_; rintro e w2 ⟨rfl, f2⟩; have F2 := hid (⟨HF.out.1.thenNo f2, f2.keep HF.out.2 (fun e => e)⟩ : _ ∧ _); clear f2)
  have z1 := cells1 (F2.out.1.keep HH.out.1 (fun e => e))
  have z2 := (World.cell?_of_block (w := w) (F2.out.1.block b2 (World.block_lt_of_cell? _ _ HH.out.2.1) (fun e => e))).trans HH.out.2.1
  have z5 := (World.cell?_of_block (w := w) (F2.out.1.block b5 (World.block_lt_of_cell? _ _ HH.out.2.2) (fun e => e))).trans HH.out.2.2
  obtain ⟨y0, y1, y2, y3⟩ := cells4 F2.out.2
  have hzz := lt_of_block F2.out.2
  have hsc : ∀ j ∈ [b2, x, b5, w.heap.size], j < w2.drew.heap.size ∧ ¬ No j := fun j hj => ⟨by
    have := HSC.out j hj
    show j < w2.heap.size
    omega, fun e => e⟩
  have hwr : IntKind.i64.wrap ((j : Int) + 1) = (j : Int) + 1 := IntWalk.i64_in _ (by omega)
  refine wp_region_sched (by kernel_rfl) 23 [8, 19] [0, 1, 2, 3, 4, 5, 6, 7, 8, 9, 10, 11, 12, 13, 14, 15, 16, 17, 18, 19, 20, 21, 22] (AgC [b2, x, b5, w.heap.size] w2.drew) (by kernel_rfl) (AgC.refl _ _) ?_
  simp only [List.map_cons, List.map_nil, List.contains_cons, List.contains_nil, nth_zero, nth_succ, Nat.reduceBEq, Bool.or_false, Bool.or_true]
  iterate 6 (refine sched_quiet (fun K hK => ?_); go_simp; refine hK _ ?_; clear hK K)
  obtain ⟨ad, had⟩ : ∃ ad : Addr, ad = (if cap = j + 1 then ⟨g, 0, none⟩ else ⟨g, (j + 1) * 4, none⟩ : Addr) := ⟨_, rfl⟩
  have HAD := hid had
  have hd2 : 0 < n - (j + 1) → some ad = some (⟨g, (j + 1) * 4, none⟩ : Addr) := fun h => by rw [HAD.out, if_neg (by omega)]
  have HAD2 := hid hd2
  clear had hd2
  refine sched_slice rfl 158 161 Tryz.underlying158 (.tmp 15) (some (.tmp 17)) none rfl (.slice (some ⟨g, 0, none⟩) n cap) rfl (some (.int .i64 ((j : Int) + 1))) none rfl rfl (.slice (some ad) (n - (j + 1)) (cap - (j + 1))) (fun w' => by rw [HAD.out]; exact run_slice_fromI w' _ _ 4 Tryz.underlying158 (by kernel_rfl) g n cap (j + 1) _ rfl hjL hcn) ?_
  repeat (refine sched_quiet (fun K hK => ?_); go_simp; refine hK _ ?_; clear hK K)
  refine sched_call (by first | rfl | go_simp) 204 #[.slice (some ad) (n - (j + 1)) (cap - (j + 1)), .func (.func 200) #[] #[.pointer (some ⟨bc, 0, none⟩)]] (by first | kernel_rfl | go_simp) (HD.out _ F2.out.1.drew _ HAD2.out) ?_
  rintro e w3 ⟨rfl, f3⟩
  have a3 := (AgC.refl _ w2.drew).fr f3 hsc
  have F3 := hid (⟨F2.out.1.drew.thenNo f3, a3⟩ : _ ∧ _)
  refine ⟨_, rfl, a3, ?_⟩
  clear f3 a3 x1 x2 z1 z2
  cases rb with
  | true =>
    repeat (refine sched_quiet (fun K hK => ?_); go_simp; refine hK _ ?_; clear hK K)
    refine sched_skip (by first | rfl | go_simp) F3.out.2 ?_
    repeat (refine sched_quiet (fun K hK => ?_); go_simp; refine hK _ ?_; clear hK K)
    refine sched_nil ?_
    go_wp2_with fail
    go_ret
    exact ⟨by rw [HR.out, Bool.true_or]; rfl, F3.out.1⟩
  | false =>
    by_cases hj0 : (j : Int) = 0
    · have hj1 : ((j : Int) == 0) = true := by rw [beq_iff_eq]; exact hj0
      cases yg with
      | false =>
        repeat (refine sched_quiet (fun K hK => ?_); go_simp; refine hK _ ?_; clear hK K)
        refine sched_skip (by first | rfl | go_simp) F3.out.2 ?_
        repeat (refine sched_quiet (fun K hK => ?_); go_simp; refine hK _ ?_; clear hK K)
        refine sched_nil ?_
        go_wp2_with fail
        go_ret
        exact ⟨by rw [HR.out, hj1]; rfl, F3.out.1⟩
      | true =>
        repeat (refine sched_quiet (fun K hK => ?_); go_simp; refine hK _ ?_; clear hK K)
        refine sched_call (by first | rfl | go_simp) 200 #[.agg #[.int .i64 yb, .slice yv.l.a yv.l.n yv.l.c, .slice yv.p.a yv.p.n yv.p.c, .bool true], .pointer (some ⟨bc, 0, none⟩)] (by first | kernel_rfl | (go_simp; rfl) | go_simp) (HST.out _ F3.out.1) ?_
        rintro e w4 ⟨rfl, f4⟩
        have F4 := hid (F3.out.1.thenNo f4)
        obtain ⟨u3, hu3⟩ := F3.out.2
        refine ⟨_, rfl, (show AgC [b2, x, b5, w.heap.size] w2.drew w3 from ⟨u3, hu3⟩).fr f4 hsc, ?_⟩
        repeat (refine sched_quiet (fun K hK => ?_); go_simp; refine hK _ ?_; clear hK K)
        refine sched_nil ?_
        go_wp2_with fail
        go_ret
        exact ⟨by rw [HR.out, hj1]; rfl, F4.out⟩
    · have hj1 : ((j : Int) == 0) = false := by rw [beq_eq_false_iff_ne]; exact hj0
      repeat (refine sched_quiet (fun K hK => ?_); go_simp; refine hK _ ?_; clear hK K)
      refine sched_skip (by first | rfl | go_simp) F3.out.2 ?_
      repeat (refine sched_quiet (fun K hK => ?_); go_simp; refine hK _ ?_; clear hK K)
      refine sched_nil ?_
      go_wp2_with fail
      go_ret
      exact ⟨by rw [HR.out, hj1]; rfl, F3.out.1⟩
theorem enter_spare2 : ∀ args w, (callFunc 202 args).run Tryz.prog w = .ok (.enter 202 args) w := enters_of Tryz.func202 (by kernel_rfl) rfl
set_option maxRecDepth 100000 in
set_option maxHeartbeats 2000000 in
theorem spare_any (w : World) (x g c gk : Nat) (L : List (Ver NodeV)) (K : Ck) (hrow : CelRow w x g L) (hclk : ClkRow w c gk K) (hs : L.length ≤ 1000000) (hk : K.l.length ≤ 1000000) :
    Calls Tryz.prog 137 #[.pointer (some ⟨x, 0, none⟩), .pointer (some ⟨c, 0, none⟩)] w fun e w' => e = .returned (.int .i64 (idxZ (spareI K.settled L))) ∧ Fr No w w' := by
  obtain ⟨a, cap, g1, g2, g3, g4⟩ := hrow.ex
  obtain ⟨k1, k2⟩ := heap2 w (.cells #[.pointer (some ⟨x, 0, none⟩)] 92) (.cells #[.pointer (some ⟨c, 0, none⟩)] 72)
  have hf : Fr No w ((w.alloc (.cells #[.pointer (some ⟨x, 0, none⟩)] 92)).alloc (.cells #[.pointer (some ⟨c, 0, none⟩)] 72)) := ((Fr.refl No w).alloc _).alloc _
  have c1 := cells1 k1
  have HH := hid (⟨hrow, hclk, hs, hk, g1, g3⟩ : _ ∧ _ ∧ _ ∧ _ ∧ _ ∧ _)
  have HF := hid (⟨hf, k1, k2⟩ : _ ∧ _ ∧ _)
  generalize hz : idxZ (spareI K.settled L) = z at *
  have HZ : Hid (idxZ (L.findIdx? (spareB K.settled L)) = z) := hid hz
  clear hrow hclk hs hk hf k1 k2 g1 g2 g3 g4 hz
  go_enter Tryz.func137, Tryz.ntmps137
  go_wp2_with (refine wpList_store1 rfl 164 (.tmp 5) (.tmp 8) rfl (w.heap.size + 1 + 1) 0 rfl _ _ (.func (.func 200) #[] #[.pointer (some ⟨w.heap.size + 1, 0, none⟩)]) rfl (by kernel_rfl) (heap3 w _ _ _).2.2 (by simp) rfl ?_; intro w5 p5; have P5 := hid (⟨(HF.out.1.alloc _).fresh' p5.fr (fun k e => by omega), p5.keep (heap3 w _ _ _).1 (by omega), p5.keep (heap3 w _ _ _).2.1 (by omega), p5.at_⟩ : Fr No w w5 ∧ _ ∧ _ ∧ _); clear p5; have c1 := cells1 P5.out.2.1; have x1 := cells1 (P5.out.1.keep HH.out.2.2.2.2.1 (fun e => e)))
  refine (idxo_any w5 a g 0 cap L HH.out.2.2.2.2.2 HH.out.2.2.1 (fun U hU i z hz => by rw [Nat.zero_add]; exact (HH.out.1.frame (P5.out.1.thenNo hU)).o hz) 202 #[.pointer (some ⟨w.heap.size, 0, none⟩), .pointer (some ⟨w.heap.size + 1 + 1, 0, none⟩)] (spareB K.settled L) enter_spare2 (fun U y hU hy => spare2_any U x g c gk w.heap.size (w.heap.size + 1 + 1) (w.heap.size + 1) L K y (HH.out.1.frame (P5.out.1.thenNo hU)) (HH.out.2.1.frame (P5.out.1.thenNo hU)) HH.out.2.2.1 HH.out.2.2.2.1 hy (cells1 (hU.keep P5.out.2.1 (fun e => e))) (by
    have := cellOf (hU.keep P5.out.2.2.2 (fun e => e)) 0
    simpa using this) (cells1 (hU.keep P5.out.2.2.1 (fun e => e))))).mono ?_
  rintro e w6 ⟨rfl, f6⟩
  rw [HZ.out]
  have F6 := hid (P5.out.1.thenNo f6)
  clear f6 c1 x1
  go_wp2_with fail
  go_ret
  exact ⟨rfl, F6.out⟩
end Go.Proofs.YtibfpkfpmkghhaaGreatDoor
