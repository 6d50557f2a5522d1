/- A part of the proof: contracts of functions of the program, for the row's text. -/
import Derived.Test.YtibfpkfpmkghhaaGreatDoorK31
import Derived.Test.YtibfpkfpmkghhaaGreatDoorK25
import Derived.Test.YtibfpkfpmkghhaaGreatDoorK28
import Derived.Test.YtibfpkfpmkghhaaGreatDoorK30
namespace Go.Lig
open Go.RowKit
theorem MapS.agc {L : List Nat} {w w' : World} {P : Program} {k : TypeId} {g n : Nat} {kv : List (ByteArray × Value)} (h : MapS w P k g n kv) (hc : AgC L w w') (hg : g ∈ L) : MapS w' P k g n kv := by
  obtain ⟨u, rfl⟩ := hc
  obtain ⟨es, clock, hb, r⟩ := h.ex
  exact ⟨⟨es, clock, heap_agr u hb hg, r⟩, h.nodup⟩
/-- a look into a map, in a region that draws its order -/
theorem sched_slook {P : Program} {ops : Array Oper} {Q : Exit → Act → World → Prop} {S : World → Prop} {last : Nat} {a : Act} {w : World} {o : Oper} {rest : List (Bool × Nat × Oper)} {k e : TypeId} {g n i : Nat} {kv : List (ByteArray × Value)} (hgd : Region.wanted o (yielded ops a.tmps) = true) (m x : Operand) (t : TypeId) (ho : o.op = .lookup t m x false) (hk : P.underlying k = some .string) (ht : P.underlying t = some (.map k e)) (hz : ∀ w, (zeroValue e).run P w = .ok (.pointer none) w)
    (hm : a.eval m = .map (some g)) (s : ByteArray) (hx : a.eval x = .string s) (hs : s.size ≤ maxLen) (h : ∀ w', S w' → MapS w' P k g n kv) (hQ : wpSched P ops Q S last rest (a.put o.dst (getS kv s)) w) : wpSched P ops Q S last ((false, i, o) :: rest) a w := by
  refine sched_quiet (fun K hK => ?_)
  rw [if_pos hgd]
  refine ⟨getS kv s, fun w' hw' => ?_, hK _ hQ⟩
  unfold yieldsAt
  have := (h w' hw').look hk ht (hz w') hs
  simp [execOp, ho, hm, hx, this, Result.andThen, yieldsUpon]
end Go.Lig
namespace Go.Proofs.YtibfpkfpmkghhaaGreatDoor
open Go.RowKit Go.Lig

/-- the entries of key's tree -/
def entsK (X : List (ByteArray × List EntR)) (key : ByteArray) : List EntR := ((X.find? (fun p => decide (p.1 = key))).map (·.2)).getD []
/-- the nodes of entries that t reads with a label -/
def labL (M : PSt) (t : Int) (s : ByteArray) (l : List EntR) : List Int := (l.filter fun y => match readN M t y.id with
  | some d => hasS d.L s
  | none => false).map (·.id)
def textV (s : ByteArray) : ValR := ⟨4, false, 0, 0, s⟩
def labelM (M : PSt) (t : Int) (s : ByteArray) : List Int := labL M t s (rangeL (entsK M.X ⟨#[]⟩) (textV s) (textV s))
theorem labL_snoc {M : PSt} {t : Int} {s : ByteArray} {l : List EntR} {i : Nat} {y : EntR} (h : l[i]? = some y) : labL M t s (l.take (i + 1)) = labL M t s (l.take i) ++ (if (match readN M t y.id with
  | some d => hasS d.L s
  | none => false) then [y.id] else []) := by
  rw [takeSnoc h]
  unfold labL
  rw [List.filter_append, List.map_append]
  congr 1
  simp only [List.filter_cons, List.filter_nil]
  generalize (match readN M t y.id with
  | some d => hasS d.L s
  | none => false) = b
  cases b <;> rfl
theorem entsK_slot (X : List (ByteArray × List EntR)) (key : ByteArray) : entsK X key = match slot X key with
  | some j => (X[j]?.map (·.2)).getD []
  | none => [] := by
  unfold entsK slot
  induction X with
  | nil => rfl
  | cons p X ih =>
    rw [List.find?_cons, List.findIdx?_cons]
    by_cases h : decide (p.1 = key) = true
    · simp [h]
    · simp only [h]
      rw [ih]
      cases List.findIdx? (fun p => decide (p.1 = key)) X <;> simp
theorem ranged (w : World) (T : Nat → Prop) (m F : Nat) (X : List (ByteArray × List EntR)) (q : Nat → Option Xp) (a : Nat → Nat) (h : IxO w T m X F q a) (hF : F ≤ 1000000) (key : ByteArray) (lo hi : ValR) : ∃ po, getS (kvs a X) key = .pointer po ∧ (rangeL (entsK X key) lo hi).length ≤ F ∧ ∀ u, Fr No w u → Calls Tryz.prog 49 #[.pointer po, valV lo, valV hi] u fun e w' => ∃ v, e = .returned v ∧ OwnR u w' 91 6 v (rangeL (entsK X key) lo hi).length ((rangeL (entsK X key) lo hi).flatMap ncellE) := by
  rw [entsK_slot, getS_kvs]
  cases hj : slot X key with
  | none =>
    refine ⟨none, rfl, Nat.zero_le _, fun u _ => (range_nil u lo hi).mono ?_⟩
    rintro e w' ⟨rfl, f⟩
    exact ⟨_, rfl, World.ownsRow_nil _ _ _ _, fun _ e => (by cases e), f⟩
  | some j =>
    obtain ⟨l, hl⟩ := slot_some hj
    have h2 := h.tr j key l hl
    simp only [hl, Option.map_some, Option.getD_some]
    exact ⟨some ⟨a j, 0, none⟩, rfl, Nat.le_trans (List.length_filter_le _ _) h2.2, fun u hu => range_any u _ (a j) l (h2.1.frame hu (fun _ _ e => e)) (Nat.le_trans h2.2 hF) lo hi⟩
def labB (M : PSt) (t : Int) (s : ByteArray) (y : EntR) : Bool := match readN M t y.id with
  | some d => hasS d.L s
  | none => false
set_option maxRecDepth 100000 in
set_option maxHeartbeats 4000000 in
theorem stlabel_any (w : World) (ρ : Nat → Option Pt) (s : Nat) (A : Ad) (M : PSt) (F : Nat) (h : StAt w ρ s A M F) (hF : F ≤ 1000000) (t : Int) (hl : M.K.live t = true) (x : ByteArray) (hx : x.size ≠ 0) :
    Calls Tryz.prog 15 #[.pointer (some ⟨s, 0, none⟩), .int .i64 t, .string x] w fun e w' => ∃ v, e = .returned v ∧ OwnI w w' v (labelM M t x) := by
  have HI := hid (islive_any w ρ s A M F h t)
  rw [hl] at HI
  obtain ⟨q, a, hio⟩ := h.idx.open_
  have hmT := hio.map
  obtain ⟨po, hpo, hRF, hrg⟩ := ranged w _ _ F M.X q a hio hF ⟨#[]⟩ (textV x) (textV x)
  have hmb : A.m < w.heap.size := hmT.lt
  have HRG := hid hrg
  have hq := toList_ne hx
  have hq2 : x.toList.isEmpty = false := by simpa using hq
  have x0 := h.cells.1
  have s6 := h.cells.2.2.2.2.2.2.1
  have HH := hid (⟨h, hmT, hpo⟩ : _ ∧ _ ∧ _)
  have hz : ∀ w, (zeroValue 87).run Tryz.prog w = .ok (.pointer none) w := fun w => by kernel_rfl
  have HZ := hid hz
  have HSL := hid (⟨h.lt, hmb⟩ : s < w.heap.size ∧ A.m < w.heap.size)
  have HLM : Hid (labelM M t x = labL M t x (rangeL (entsK M.X ⟨#[]⟩) (textV x) (textV x))) := hid rfl
  rw [HLM.out]
  generalize rangeL (entsK M.X ⟨#[]⟩) (textV x) (textV x) = R at *
  clear HLM
  generalize A.m = mb at *
  clear h hl hio hmT hpo hrg hmb hz hx
  go_enter Tryz.func15, Tryz.ntmps15
  go_wp2_with (go_at_call 43; refine HI.out.mono ?_; rintro e w1 ⟨rfl, rfl⟩)
  have hsc : ∀ j ∈ [s, mb], j < w.drew.heap.size ∧ ¬ No j := fun j hj => ⟨by
    rcases List.mem_cons.1 hj with rfl | hj
    · exact HSL.out.1
    · rw [List.mem_singleton.1 hj]; exact HSL.out.2, fun e => e⟩
  refine wp_region_sched (by kernel_rfl) 12 [6, 8, 9] [0, 1, 2, 3, 4, 5, 7, 11, 6, 8, 9, 10] (AgC [s, mb] w.drew) (by kernel_rfl) (AgC.refl _ _) ?_
  simp only [List.map_cons, List.map_nil, List.contains_cons, List.contains_nil, nth_zero, nth_succ, Nat.reduceBEq, Bool.false_or, Bool.or_false, Bool.or_true, Bool.true_or]
  iterate 4 (refine sched_quiet (fun K hK => ?_); go_simp; refine hK _ ?_; clear hK K)
  refine sched_slook (by first | rfl | go_simp) (.tmp 23) (.const (.string ⟨#[]⟩)) 77 rfl Tryz.underlying9 Tryz.underlying77 HZ.out rfl ⟨#[]⟩ rfl (Nat.zero_le _) (fun w' hw' => (HH.out.2.1.frame (Fr.refl No w).drew (fun e => e)).agc hw' (by simp)) ?_
  rw [HH.out.2.2]
  repeat (refine sched_quiet (fun K hK => ?_); go_simp; refine hK _ ?_; clear hK K)
  refine sched_call (by first | rfl | go_simp) 50 #[.string x] (by first | kernel_rfl | go_simp) (label_any _ _) ?_
  rintro e w2 ⟨rfl, f2⟩
  have a2 := (AgC.refl _ w.drew).fr f2 hsc
  refine ⟨_, rfl, a2, ?_⟩
  repeat (refine sched_quiet (fun K hK => ?_); go_simp; refine hK _ ?_; clear hK K)
  refine sched_call (by first | rfl | go_simp) 50 #[.string x] (by first | kernel_rfl | go_simp) (label_any _ _) ?_
  rintro e w3 ⟨rfl, f3⟩
  have a3 := a2.fr f3 hsc
  refine ⟨_, rfl, a3, ?_⟩
  repeat (refine sched_quiet (fun K hK => ?_); go_simp; refine hK _ ?_; clear hK K)
  refine sched_call (by first | rfl | go_simp) 49 #[.pointer po, .agg #[.int .i64 4, .bool false, .int .i64 0, .float .f64 0, .string x], .agg #[.int .i64 4, .bool false, .int .i64 0, .float .f64 0, .string x]] (by first | kernel_rfl | go_simp) (HRG.out _ (((Fr.refl No w).drew.thenNo f2).thenNo f3)) ?_
  rintro e w4 ⟨v4, rfl, o4⟩
  refine ⟨_, rfl, a3.fr o4.fr hsc, ?_⟩
  obtain ⟨a4, c4, rfl⟩ := ownsRow_slice o4.row
  have HO4 := hid (⟨((((Fr.refl No w).drew.thenNo f2).thenNo f3).thenNo o4.fr), o4.row⟩ : _ ∧ _)
  clear f2 a2 f3 a3 o4 hsc
  repeat (refine sched_quiet (fun K hK => ?_); go_simp; refine hK _ ?_; clear hK K)
  refine sched_nil ?_
  have HG : Hid (∀ i y, R[i]? = some y → labL M t x (R.take (i + 1)) = labL M t x (R.take i) ++ (if labB M t x y then [y.id] else [])) := hid (fun i y e => labL_snoc e)
  obtain ⟨g, hg⟩ : ∃ g : Nat → List Int, g = fun i => labL M t x (R.take i) := ⟨_, rfl⟩
  have hgi : ∀ i, labL M t x (R.take i) = g i := fun i => by rw [hg]
  have HR0 := hid (show labL M t x (R.take R.length) = labL M t x R by rw [List.take_length])
  have HRz := hid (show labL M t x (R.take 0) = [] from rfl)
  simp only [hgi] at HG HR0 HRz
  generalize hn : R.length = n at *
  have HN0 := hid hn
  have HNF := hid (Nat.le_trans hRF hF)
  clear hg hgi hn x0 s6 hRF hF
  go_wp2_with fail
  go_loopw [7, 31] (fun v7 vi wr => ∃ (i : Nat) (aa : Option Addr) (cc m : Nat), i ≤ n ∧ m ≤ i ∧ v7 = .slice aa m cc ∧ vi = .int .i64 (i : Int) ∧ Hid (m = (g i).length ∧ OwnI w4 wr (.slice aa m cc) (g i))) (fun _ vi _ => n - (intOf vi).toNat)
  case atStart => exact ⟨0, none, 0, 0, Nat.zero_le _, Nat.zero_le _, rfl, rfl, by rw [HRz.out]; rfl, by rw [HRz.out]; exact OwnI.nil _⟩
  case round =>
    obtain ⟨i, aa, cc, m, hi, hmi, rfl, rfl, HO⟩ := hrel
    have hn6 : n ≤ 1000000 := HNF.out
    by_cases hlt : i < n
    · obtain ⟨⟨⟨vk, vb, vn, vf, vt⟩, id⟩, hy⟩ : ∃ y, R[i]? = some y := ⟨R[i]'(by have := HN0.out; omega), List.getElem?_eq_getElem _⟩
      have ho2 := fd_owns HO4.out.2 HO.out.2.fr
      obtain ⟨ga, cur, rfl, -, -⟩ := owns_at ho2 (by omega)
      obtain ⟨z0, z1, z2, z3, z4, z5⟩ := encells_of ho2 hy
      dsimp only at z0 z1 z2 z3 z4 z5
      have HGi := hid (HG.out i _ hy)
      dsimp only at HGi
      have hb := heap1 wr (.cells #[.int .i64 vk, .bool vb, .int .i64 vn, .float .f64 vf, .string vt, .int .i64 id] 91)
      have hfe : Fr No wr (wr.alloc (.cells #[.int .i64 vk, .bool vb, .int .i64 vn, .float .f64 vf, .string vt, .int .i64 id] 91)) := (Fr.refl No wr).alloc _
      have hlb : Hid (labB M t x ⟨⟨vk, vb, vn, vf, vt⟩, id⟩ = match readN M t id with
        | some d => hasS d.L x
        | none => false) := hid rfl
      generalize hbb : labB M t x ⟨⟨vk, vb, vn, vf, vt⟩, id⟩ = bb at *
      have HBB := hid hbb
      clear ho2 hy hbb
      go_wp2_with fail
      generalize wr.alloc (.cells #[.int .i64 vk, .bool vb, .int .i64 vn, .float .f64 vf, .string vt, .int .i64 id] 91) = w5 at *
      generalize hbe : wr.heap.size = be at *
      have hw5 := HH.out.1.frame ((HO4.out.1.thenNo HO.out.2.fr).thenNo hfe)
      obtain ⟨c, hce⟩ : ∃ c, A.c = c := ⟨_, rfl⟩
      obtain ⟨la, ln, lc, pa, pn, pc, hin, hr⟩ := hw5.rdN t id
      have HN : Hid (∀ u, Fr No w5 u → Calls Tryz.prog 51 #[.pointer (some ⟨s, 0, none⟩), .int .i64 id] u fun e w' => e = .returned (.pointer (ndP A M id)) ∧ u = w') := hid (fun u hu => node_any u ρ s A M F (hw5.frame hu) id)
      have x0 := hw5.cells.1
      rw [hce] at hr x0
      have HR := hid hr
      have HSC : Hid (∀ j ∈ [s, be], j < w5.heap.size) := hid (fun j hj => by
        rcases List.mem_cons.1 hj with rfl | hj
        · exact hw5.lt
        · rw [List.mem_singleton.1 hj]; exact lt_of_block hb)
      obtain ⟨y0, y1, y2, y3, y4, y5⟩ := cells6 hb
      have HB := hid (⟨hb, hfe, hbe⟩ : _ ∧ _ ∧ _)
      generalize ndP A M id = nx at *
      generalize hrb : (readN M t id).isSome = rb at *
      have HRB := hid hrb
      have HIN := hid (⟨hin.of, hin.few⟩ : _ ∧ _)
      clear hb hfe hbe hw5 hin hr hce hrb z0 z1 z2 z3 z4 z5
      refine region_cut (fun b => [(36, .pointer (some ⟨s, 0, none⟩)), (37, .pointer (some ⟨be, 5, none⟩)), (38, .int .i64 id), (39, .pointer nx), (40, .pointer (some ⟨s, 0, none⟩)), (41, .pointer (some ⟨s, 0, none⟩)), (42, .pointer (some ⟨s, 0, none⟩)), (43, .pointer (some ⟨c, 0, none⟩)), (44, .int .i64 t), (45, .tuple #[.agg #[.slice la ln lc, .slice pa pn pc], .bool rb]), (35, .tuple #[.agg #[.slice la ln lc, .slice pa pn pc], .bool rb]), (46, .agg #[.slice la ln lc, .slice pa pn pc]), (47, .bool rb), (10, .pointer (some ⟨b, 0, none⟩)), (11, .bool rb)])
        (fun b W => Fr No w5 W ∧ W.heap[b]? = some (.cells #[.slice la ln lc, .slice pa pn pc] 31 (0, 0)) ∧ w5.heap.size ≤ b) ?_ ?_
      · refine wp_region_tree (by kernel_rfl) (.quiet 0 (.quiet 1 (.quiet 2 (.quiet 4 (.quiet 5 (.quiet 6 (.quiet 7 (.quiet 8 (.two 3 (.two 9 (.quiet 10 (.quiet 11 (.quiet 12 (.one 13 (.one 14 (.quiet 15 .done)))))) 13 (.one 9 (.quiet 10 (.quiet 11 (.quiet 12 (.one 14 (.quiet 15 .done))))))) 13 (.one 3 (.one 9 (.quiet 10 (.quiet 11 (.quiet 12 (.one 14 (.quiet 15 .done)))))))))))))))) (AgC [s, be] w5.drew) (by kernel_rfl) (AgC.refl _ _) ?_
        simp only [fill, nth_zero, nth_succ]
        repeat (refine tree_quiet (fun K hK => ?_); go_simp; refine hK _ ?_; clear hK K)
        refine tree_two ?_ ?_
        · refine tree_call (by first | rfl | go_simp) 51 #[.pointer (some ⟨s, 0, none⟩), .int .i64 id] (by first | kernel_rfl | go_simp) (HN.out _ (Fr.refl No w5).drew) ?_
          rintro e wn ⟨rfl, rfl⟩
          refine ⟨_, rfl, AgC.refl _ _, ?_⟩
          refine tree_two ?_ ?_
          · refine tree_call (by first | rfl | go_simp) 52 #[.pointer nx, .pointer (some ⟨c, 0, none⟩), .int .i64 t] (by first | kernel_rfl | go_simp) (HR.out _ (Fr.refl No w5).drew) ?_
            rintro e w8 ⟨rfl, f8⟩
            have a8 := (AgC.refl _ _).fr f8 (fun j hj => ⟨HSC.out j hj, fun e => e⟩)
            have F8 := hid ((Fr.refl No w5).drew.thenNo f8)
            refine ⟨_, rfl, a8, ?_⟩
            clear f8
            repeat (refine tree_quiet (fun K hK => ?_); go_simp; refine hK _ ?_; clear hK K)
            refine tree_one (wpList_allocO rfl 31 rfl _ 2 48 infoN ?_)
            intro w3 p3
            have a3 := a8.fr p3.fr (fun j hj => ⟨HSC.out j hj, fun e => e⟩)
            have F3 := hid (F8.out.thenNo p3.fr)
            have B3 := hid (show w3.heap[w8.heap.size]? = some (.cells #[.slice none 0 0, .slice none 0 0] 31 (0, 0)) from p3.at_)
            have Z3 := hid (show w5.heap.size ≤ w8.heap.size from F8.out.size)
            refine tree_on a3 ?_
            generalize w8.heap.size = b3 at *
            clear p3
            repeat (refine tree_quiet (fun K hK => ?_); go_simp; refine hK _ ?_; clear hK K)
            refine tree_one (wpList_storeO rfl 31 (.tmp 10) (.tmp 46) rfl b3 0 rfl [.slice none 0 0, .slice none 0 0] 31 [.slice la ln lc, .slice pa pn pc] rfl (by kernel_rfl) B3.out (by simp) (by simp [Value.oneCell']) ?_)
            intro w5 p5
            have P5 := hid (⟨F3.out.fresh p5.fr (fun k e => by subst e; exact Z3.out), p5.at_⟩ : _ ∧ _)
            refine tree_on (a3.fr p5.fr (fun j hj => ⟨HSC.out j hj, fun e => by have h1 := Z3.out; have h2 := HSC.out j hj; omega⟩)) ?_
            clear p5
            repeat (refine tree_quiet (fun K hK => ?_); go_simp; refine hK _ ?_; clear hK K)
            refine tree_nil ?_
            refine CutPost.mk rfl ⟨b3, ?_, P5.out.1, P5.out.2, Z3.out⟩
            simp only [putsOf_cons, putsOf_nil]
            go_simp
          · refine tree_one (wpList_allocO rfl 31 rfl _ 2 48 infoN ?_)
            intro w3 p3
            have a3 := (AgC.refl _ _).fr p3.fr (fun j hj => ⟨HSC.out j hj, fun e => e⟩)
            have F3 := hid ((Fr.refl No w5).drew.thenNo p3.fr)
            have B3 := hid (show w3.heap[w5.drew.heap.size]? = some (.cells #[.slice none 0 0, .slice none 0 0] 31 (0, 0)) from p3.at_)
            have Z3 := hid (show w5.heap.size ≤ w5.drew.heap.size from (Fr.refl No w5).drew.size)
            refine tree_on a3 ?_
            generalize w5.drew.heap.size = b3 at *
            clear p3
            refine tree_call (by first | rfl | go_simp) 52 #[.pointer nx, .pointer (some ⟨c, 0, none⟩), .int .i64 t] (by first | kernel_rfl | go_simp) (HR.out _ F3.out) ?_
            rintro e w8 ⟨rfl, f8⟩
            have a8 := a3.fr f8 (fun j hj => ⟨HSC.out j hj, fun e => e⟩)
            have F8 := hid (F3.out.thenNo f8)
            have B8 := hid (f8.keep B3.out (fun e => e))
            refine ⟨_, rfl, a8, ?_⟩
            clear f8
            repeat (refine tree_quiet (fun K hK => ?_); go_simp; refine hK _ ?_; clear hK K)
            refine tree_one (wpList_storeO rfl 31 (.tmp 10) (.tmp 46) rfl b3 0 rfl [.slice none 0 0, .slice none 0 0] 31 [.slice la ln lc, .slice pa pn pc] rfl (by kernel_rfl) B8.out (by simp) (by simp [Value.oneCell']) ?_)
            intro w5 p5
            have P5 := hid (⟨F8.out.fresh p5.fr (fun k e => by subst e; exact Z3.out), p5.at_⟩ : _ ∧ _)
            refine tree_on (a8.fr p5.fr (fun j hj => ⟨HSC.out j hj, fun e => by have h1 := Z3.out; have h2 := HSC.out j hj; omega⟩)) ?_
            clear p5
            repeat (refine tree_quiet (fun K hK => ?_); go_simp; refine hK _ ?_; clear hK K)
            refine tree_nil ?_
            refine CutPost.mk rfl ⟨b3, ?_, P5.out.1, P5.out.2, Z3.out⟩
            simp only [putsOf_cons, putsOf_nil]
            go_simp
        · refine tree_one (wpList_allocO rfl 31 rfl _ 2 48 infoN ?_)
          intro w3 p3
          have a3 := (AgC.refl _ _).fr p3.fr (fun j hj => ⟨HSC.out j hj, fun e => e⟩)
          have F3 := hid ((Fr.refl No w5).drew.thenNo p3.fr)
          have B3 := hid (show w3.heap[w5.drew.heap.size]? = some (.cells #[.slice none 0 0, .slice none 0 0] 31 (0, 0)) from p3.at_)
          have Z3 := hid (show w5.heap.size ≤ w5.drew.heap.size from (Fr.refl No w5).drew.size)
          refine tree_on a3 ?_
          generalize w5.drew.heap.size = b3 at *
          clear p3
          refine tree_call (by first | rfl | go_simp) 51 #[.pointer (some ⟨s, 0, none⟩), .int .i64 id] (by first | kernel_rfl | go_simp) (HN.out _ F3.out) ?_
          rintro e wn ⟨rfl, rfl⟩
          refine ⟨_, rfl, a3, ?_⟩
          refine tree_call (by first | rfl | go_simp) 52 #[.pointer nx, .pointer (some ⟨c, 0, none⟩), .int .i64 t] (by first | kernel_rfl | go_simp) (HR.out _ F3.out) ?_
          rintro e w8 ⟨rfl, f8⟩
          have a8 := a3.fr f8 (fun j hj => ⟨HSC.out j hj, fun e => e⟩)
          have F8 := hid (F3.out.thenNo f8)
          have B8 := hid (f8.keep B3.out (fun e => e))
          refine ⟨_, rfl, a8, ?_⟩
          clear f8
          repeat (refine tree_quiet (fun K hK => ?_); go_simp; refine hK _ ?_; clear hK K)
          refine tree_one (wpList_storeO rfl 31 (.tmp 10) (.tmp 46) rfl b3 0 rfl [.slice none 0 0, .slice none 0 0] 31 [.slice la ln lc, .slice pa pn pc] rfl (by kernel_rfl) B8.out (by simp) (by simp [Value.oneCell']) ?_)
          intro w5 p5
          have P5 := hid (⟨F8.out.fresh p5.fr (fun k e => by subst e; exact Z3.out), p5.at_⟩ : _ ∧ _)
          refine tree_on (a8.fr p5.fr (fun j hj => ⟨HSC.out j hj, fun e => by have h1 := Z3.out; have h2 := HSC.out j hj; omega⟩)) ?_
          clear p5
          repeat (refine tree_quiet (fun K hK => ?_); go_simp; refine hK _ ?_; clear hK K)
          refine tree_nil ?_
          refine CutPost.mk rfl ⟨b3, ?_, P5.out.1, P5.out.2, Z3.out⟩
          simp only [putsOf_cons, putsOf_nil]
          go_simp
      rintro b w6 ⟨f6, h6, z6⟩
      obtain ⟨d0, d1⟩ := cells2 h6
      have F6 := hid f6
      clear f6 h6 z6 x0
      simp only [putsOf_cons, putsOf_nil]
      cases rb with
      | false =>
        have hbf : bb = false := by
          rw [hlb.out]
          have := HRB.out
          cases e : readN M t id with
          | none => rfl
          | some d => rw [e] at this; cases this
        have HG2 : Hid (g (i + 1) = g i) := hid (by rw [HGi.out, hbf]; simp)
        go_wp2_with fail
        go_roundw
        case rel => exact ⟨i + 1, aa, cc, m, by omega, by omega, rfl, by go_num, by rw [HG2.out]; exact HO.out.1, by rw [HG2.out]; exact HO.out.2.next (HB.out.2.1.thenNo F6.out)⟩
        case measure => simp [intOf]; omega
      | true =>
        obtain ⟨d, hd⟩ : ∃ d, readN M t id = some d := by have := HRB.out; cases e : readN M t id with | none => rw [e] at this; cases this | some d => exact ⟨d, rfl⟩
        rw [hd] at HIN hlb
        dsimp only [Option.getD] at HIN hlb
        obtain ⟨la2, lc2, hee, -⟩ := rd_len HIN.out.1.l
        obtain ⟨rfl, rfl, rfl⟩ := Value.slice.inj hee
        have HHas := hid (fun W hW => rechas_any W la pa lc pn pc d.L x (HIN.out.1.l.frame (hW : Fr No w5 W) (fun _ _ e => e)) HIN.out.2.1)
        rw [← hlb.out] at HHas
        have HB6 := hid (F6.out.keep HB.out.1 (fun e => e))
        obtain ⟨u0, u1, u2, u3, u4, u5⟩ := cells6 HB6.out
        generalize d.L.length = ln at *
        clear hee hd y0 y1 y2 y3 y4 y5
        cases bb with
        | false =>
          have HG2 : Hid (g (i + 1) = g i) := hid (by rw [HGi.out]; simp)
          go_wp2_with (go_at_call 53; refine (HHas.out _ F6.out).mono ?_; rintro e w7 ⟨rfl, f7⟩; have F7 := hid f7; clear f7)
          go_roundw
          case rel => exact ⟨i + 1, aa, cc, m, by omega, by omega, rfl, by go_num, by rw [HG2.out]; exact HO.out.1, by rw [HG2.out]; exact HO.out.2.next ((HB.out.2.1.thenNo F6.out).thenNo F7.out)⟩
          case measure => simp [intOf]; omega
        | true =>
          have HG2 : Hid (g (i + 1) = g i ++ [id]) := hid (by rw [HGi.out]; simp)
          go_wp2_with (first | (go_at_call 53; refine (HHas.out _ F6.out).mono ?_; rintro e w7 ⟨rfl, f7⟩; have v5 := (cells6 (f7.keep HB6.out (fun e => e))).2.2.2.2.2; have F7 := hid ((HB.out.2.1.thenNo F6.out).thenNo f7); clear f7) | (refine wpList_buildSlice1 rfl 35 3 (.tmp 56) rfl _ 1 8 Tryz.underlying35 infoInt (by decide) (by decide) (.int .i64 id) rfl rfl ?_; intro w8 p8; have P8 := hid (show New [iv id].toArray 3 w7 w8 from p8); clear p8) | (refine wpList_app rfl (.tmp 54) (.tmp 57) 35 rfl 3 _ 1 8 Tryz.underlying35 infoInt rfl (by decide) (.slice aa m cc) m ((g i).map iv) rfl (by have := (HO.out.2.next F7.out).row; rw [← HO.out.1] at this; exact fd_owns this P8.out.fr) (.slice (some ⟨w7.heap.size, 0, none⟩) 1 1) 1 [iv id] rfl (Rd.block P8.out.at_ 1 1 1 rfl (by simp [iv, Value.oneCell']) (Nat.le_refl _) (by simp [maxLen])) (by unfold maxLen; omega) (by omega) ?_; intro v9 w9 o9 f9 b9 _; obtain ⟨a9, c9, rfl⟩ := ownsRow_slice o9; have O9 := hid (OwnI.app (HO.out.2.next F7.out) P8.out (by rw [← HO.out.1]; exact o9) f9 b9); clear o9 f9 b9))
          go_roundw
          case rel => exact ⟨i + 1, a9, c9, m + 1, by omega, by omega, rfl, by go_num, by rw [HG2.out, List.length_append, ← HO.out.1]; rfl, by rw [HG2.out]; exact O9.out⟩
          case measure => simp [intOf]; omega
    · obtain rfl : i = n := by omega
      go_wp2_with fail
      go_ret
      refine ⟨.slice aa m cc, rfl, ?_⟩
      rw [← HR0.out]
      exact HO.out.2.ahead HO4.out.1
end Go.Proofs.YtibfpkfpmkghhaaGreatDoor

namespace Go.Proofs.YtibfpkfpmkghhaaGreatDoor
open Go.RowKit Go.Lig

/-- a store whose blocks are S, or newer than w0 -/
structure OwG (S : Nat → Prop) (w0 w : World) (s : Nat) (p : PF) : Prop where
  ex : ∃ ρ A, StAt w ρ s A p.1 p.2 ∧ ∀ b, Go.Lig.Own ρ b → S b ∨ w0.heap.size ≤ b
  fr : Fr S w0 w
abbrev OwS : World → World → Nat → PF → Prop := OwG No
theorem OwG.next {S : Nat → Prop} {w0 w w' : World} {s : Nat} {p : PF} (h : OwG S w0 w s p) (hf : Fr No w w') : OwG S w0 w' s p := by
  obtain ⟨ρ, A, h1, h2⟩ := h.ex
  exact ⟨⟨ρ, A, h1.frame hf, h2⟩, h.fr.thenNo hf⟩
theorem OwS.ahead {w0 w1 w : World} {s : Nat} {p : PF} (h : OwS w1 w s p) (hf : Fr No w0 w1) : OwS w0 w s p := by
  obtain ⟨ρ, A, h1, h2⟩ := h.ex
  exact ⟨⟨ρ, A, h1, fun b hb => (h2 b hb).imp id (Nat.le_trans hf.size)⟩, hf.thenNo h.fr⟩
theorem OwG.turns {S : Nat → Prop} {w0 w w' : World} {s : Nat} {ρ : Nat → Option Pt} (hn : ∀ b, Go.Lig.Own ρ b → S b ∨ w0.heap.size ≤ b) (hf : Fr S w0 w) {p : PF} (t : Turns w ρ s p.1 p.2 w') : OwG S w0 w' s p := by
  obtain ⟨ρ', A', h1, g⟩ := t
  exact ⟨⟨ρ', A', h1, fun b hb => by
    rcases g.gr b hb with e | e
    · exact hn b e
    · exact .inr (Nat.le_trans hf.size e)⟩, hf.trans g.fr (fun k hk E => (hn k E).elim id (fun e => absurd hk (Nat.not_lt.2 e)))⟩
theorem x_new (w : World) : Calls Tryz.prog 17 #[] w fun e w' => ∃ s, e = .returned (.pointer (some ⟨s, 0, none⟩)) ∧ OwS w w' s (emptyM, 0) := (stnew_any w).mono (by
  rintro e w' ⟨s, ρ, A, rfl, h, f, n⟩
  exact ⟨s, rfl, ⟨ρ, A, h, fun b hb => .inr (n b hb)⟩, f⟩)
theorem stbegin_full (w : World) (ρ : Nat → Option Pt) (s : Nat) (A : Ad) (M : PSt) (F : Nat) (h : StAt w ρ s A M F) (hc : 4 ≤ M.K.count) :
    Calls Tryz.prog 10 #[.pointer (some ⟨s, 0, none⟩)] w fun e w' => e = .returned (.tuple #[.int .i64 0, .int .i64 3]) ∧ Fr No w w' := by
  have HC := hid (begin_full w (At ρ .clock) A.c M.K h.clock hc)
  obtain ⟨x0, -⟩ := h.cells
  clear h hc
  go_enter Tryz.func10, Tryz.ntmps10
  go_wp2_with (go_at_call 42; refine HC.out.mono ?_; rintro e w1 ⟨rfl, f1⟩; have H1 := hid f1; clear f1)
  go_ret2
  exact ⟨rfl, H1.out⟩
section
variable {S : Nat → Prop} {w0 w : World} {s : Nat} {p : PF} (h : OwG S w0 w s p)
include h
theorem x_begin (hs : p.2 < 1000000) : Calls Tryz.prog 10 #[.pointer (some ⟨s, 0, none⟩)] w fun e w' => e = .returned (.tuple #[.int .i64 (opBegin p).1.1, .int .i64 (opBegin p).1.2]) ∧ OwG S w0 w' s (opBegin p).2 := by
  obtain ⟨ρ, A, h1, h2⟩ := h.ex
  unfold opBegin
  by_cases hc : p.1.K.count < 4
  · rw [if_pos hc]
    exact (stbegin_any w ρ s A p.1 p.2 h1 hc hs).mono (by rintro e w' ⟨rfl, t⟩; exact ⟨rfl, OwG.turns h2 h.fr t.turns⟩)
  · rw [if_neg hc]
    exact (stbegin_full w ρ s A p.1 p.2 h1 (by omega)).mono (by rintro e w' ⟨rfl, f⟩; exact ⟨rfl, h.next f⟩)
theorem x_commit (t : Int) (hs : p.2 < 1000000) : Calls Tryz.prog 12 #[.pointer (some ⟨s, 0, none⟩), .int .i64 t] w fun e w' => e = .returned (.int .i64 (opCommit p t).1) ∧ OwG S w0 w' s (opCommit p t).2 := by
  obtain ⟨ρ, A, h1, h2⟩ := h.ex
  unfold opCommit
  cases hl : p.1.K.live t with
  | true =>
    rw [if_pos rfl]
    exact (stcommit_any w ρ s A p.1 p.2 h1 t hl hs).mono (by rintro e w' ⟨rfl, t⟩; exact ⟨rfl, OwG.turns h2 h.fr t.turns⟩)
  | false =>
    rw [if_neg (by simp)]
    exact (stcommit_no w ρ s A p.1 p.2 h1 t hl).mono (by rintro e w' ⟨rfl, rfl⟩; exact ⟨rfl, h⟩)
theorem x_abort (t : Int) (hr : rmAbort p t = true) : Calls Tryz.prog 18 #[.pointer (some ⟨s, 0, none⟩), .int .i64 t] w fun e w' => e = .returned (.int .i64 (opAbort p t).1) ∧ OwG S w0 w' s (opAbort p t).2 := by
  obtain ⟨ρ, A, h1, h2⟩ := h.ex
  unfold opAbort
  unfold rmAbort at hr
  cases hl : p.1.K.live t with
  | true =>
    rw [if_pos rfl]
    rw [hl] at hr
    have ho := okAbort_iff (by simpa using hr)
    exact (abort_any w ρ s A p.1 p.2 h1 t hl (exAb0 p t).1 (exAb0 p t).2 ho.1 ho.2).mono (by rintro e w' ⟨rfl, t⟩; exact ⟨rfl, OwG.turns h2 h.fr t.turns⟩)
  | false =>
    rw [if_neg (by simp)]
    exact (abort_no_any w ρ s A p.1 p.2 h1 t hl).mono (by rintro e w' ⟨rfl, rfl⟩; exact ⟨rfl, h⟩)
/-- a node that was handed in: its blocks are not the store's: they are older, or newer than w1, where the store stood as it does -/
structure ArgN (S : Nat → Prop) (w0 w1 w : World) (la : Option Addr) (ln lc : Nat) (pa : Option Addr) (pn pc : Nat) (d : NodeD) : Prop where
  of : NodeOf w (.slice la ln lc) (.slice pa pn pc) d
  few : d.L.length ≤ 1000000 ∧ d.Q.length ≤ 1000000
  bl : ∀ k, slBlock (.slice la ln lc) = some k → d.L ≠ [] → (k < w0.heap.size ∧ ¬ S k) ∨ w1.heap.size ≤ k
  bp : ∀ k, slBlock (.slice pa pn pc) = some k → d.Q ≠ [] → (k < w0.heap.size ∧ ¬ S k) ∨ w1.heap.size ≤ k
variable (t : Int)
omit h in
theorem x_addnode {w1 : World} (hw : OwG S w0 w1 s p) (hf1 : Fr No w1 w) {la : Option Addr} {ln lc : Nat} {pa : Option Addr} {pn pc : Nat} {d : NodeD} {b : Bool} (ha : ArgN S w0 w1 w la ln lc pa pn pc d) (hb : ∀ u, Fr No w u → Calls Tryz.prog 44 #[.agg #[.slice la ln lc, .slice pa pn pc]] u fun e w' => e = .returned (.bool b) ∧ Fr No u w') (hs : p.2 < 1000000) (hr : rmAddNode p t b d = true) :
    Calls Tryz.prog 19 #[.pointer (some ⟨s, 0, none⟩), .int .i64 t, .agg #[.slice la ln lc, .slice pa pn pc]] w fun e w' => e = .returned (.tuple #[.int .i64 (opAddNode p t b d).1.1, .int .i64 (opAddNode p t b d).1.2]) ∧ OwG S w0 w' s (opAddNode p t b d).2 := by
  obtain ⟨ρ, A, h0, h2⟩ := hw.ex
  have h1 := h0.frame hf1
  have hb0 := h0.bound
  have h := hw.next hf1
  unfold opAddNode
  unfold rmAddNode at hr
  cases hl : p.1.K.live t with
  | false =>
    rw [if_neg (by simp)]
    exact (addnode_dead w ρ s A p.1 p.2 h1 t la pa ln lc pn pc hl).mono (by rintro e w' ⟨rfl, f⟩; exact ⟨rfl, h.next f⟩)
  | true =>
    rw [if_pos rfl]
    cases b with
    | false =>
      rw [if_neg (by simp)]
      exact (addnode_bad w ρ s A p.1 p.2 h1 t la pa ln lc pn pc hl hb).mono (by rintro e w' ⟨rfl, f⟩; exact ⟨rfl, h.next f⟩)
    | true =>
      rw [if_pos rfl]
      by_cases hn : p.1.N.length < 24
      · rw [if_pos hn]
        rw [hl, decide_eq_true hn] at hr
        have ho := okPut_iff (show okPut (growN p.1, p.2) t p.1.N.length d false = true by simpa using hr)
        exact (addnode_ok w ρ s A p.1 p.2 h1 t la pa ln lc pn pc hl hb d ha.of ha.few.1 ha.few.2 (fun k e ne E => (ha.bl k e ne).elim (fun q => (h2 k E).elim q.2 (fun r => absurd q.1 (Nat.not_lt.2 r))) (fun q => absurd (hb0 k E) (Nat.not_lt.2 q))) (fun k e ne E => (ha.bp k e ne).elim (fun q => (h2 k E).elim q.2 (fun r => absurd q.1 (Nat.not_lt.2 r))) (fun q => absurd (hb0 k E) (Nat.not_lt.2 q))) hn hs _ _ ho.2.2).mono (by rintro e w' ⟨rfl, t⟩; exact ⟨rfl, OwG.turns h2 h.fr t⟩)
      · rw [if_neg hn]
        exact (addnode_full w ρ s A p.1 p.2 h1 t la pa ln lc pn pc hl hb (by omega)).mono (by rintro e w' ⟨rfl, f⟩; exact ⟨rfl, h.next f⟩)
theorem x_setnode {w1 : World} (id : Int) {la : Option Addr} {ln lc : Nat} {pa : Option Addr} {pn pc : Nat} {d : NodeD} {b : Bool} (ha : ArgN S w0 w1 w la ln lc pa pn pc d) (hb : ∀ u, Fr No w u → Calls Tryz.prog 44 #[.agg #[.slice la ln lc, .slice pa pn pc]] u fun e w' => e = .returned (.bool b) ∧ Fr No u w') (hs : p.2 < 1000000) (hr : rmSetNode p t id b d = true) :
    Calls Tryz.prog 11 #[.pointer (some ⟨s, 0, none⟩), .int .i64 t, .int .i64 id, .agg #[.slice la ln lc, .slice pa pn pc]] w fun e w' => e = .returned (.int .i64 (opSetNode p t id b d).1) ∧ OwG S w0 w' s (opSetNode p t id b d).2 := by
  obtain ⟨ρ, A, h1, h2⟩ := h.ex
  unfold opSetNode
  unfold rmSetNode at hr
  cases hl : p.1.K.live t with
  | false =>
    rw [if_neg (by simp)]
    exact (setnode_dead w ρ s A p.1 p.2 h1 t la pa ln lc pn pc hl id).mono (by rintro e w' ⟨rfl, f⟩; exact ⟨rfl, h.next f⟩)
  | true =>
    rw [if_pos rfl]
    cases b with
    | false =>
      rw [if_neg (by simp)]
      exact (setnode_bad w ρ s A p.1 p.2 h1 t la pa ln lc pn pc hl id hb).mono (by rintro e w' ⟨rfl, f⟩; exact ⟨rfl, h.next f⟩)
    | true =>
      rw [if_pos rfl]
      cases hv : readN p.1 t id with
      | none =>
        rw [if_neg (by simp)]
        exact (setnode_none w ρ s A p.1 p.2 h1 t la pa ln lc pn pc hl hb id hv).mono (by rintro e w' ⟨rfl, f⟩; exact ⟨rfl, h.next f⟩)
      | some d0 =>
        rw [if_pos (by simp)]
        rw [hl, hv] at hr
        have hp := readN_pos hv
        obtain ⟨k, rfl⟩ : ∃ k : Nat, id = (k : Int) + 1 := ⟨(id - 1).toNat, by omega⟩
        have hk2 : ((k : Int) + 1 - 1).toNat = k := by omega
        rw [hk2] at hr ⊢
        have hk : k < p.1.N.length := by omega
        cases hm : mayB p.1 t 0 [(k : Int) + 1] with
        | true =>
          rw [if_pos rfl]
          rw [hm] at hr
          have ho := okAbort_iff (show okAbort p t = true by simpa using hr)
          exact (setnode_clash w ρ s A p.1 p.2 h1 t la pa ln lc pn pc hl hb k d0 hv hk hm _ _ ho).mono (by rintro e w' ⟨rfl, t⟩; exact ⟨rfl, OwG.turns h2 h.fr t.turns⟩)
        | false =>
          rw [if_neg (by simp)]
          rw [hm] at hr
          have ho := okPut_iff (show okPut p t k d false = true by simpa using hr)
          exact (setnode_ok w ρ s A p.1 p.2 h1 t la pa ln lc pn pc hl hb k d0 hv hk d ha.of ha.few.1 ha.few.2 hm _ _ hs ho.2.2).mono (by rintro e w' ⟨rfl, t⟩; exact ⟨rfl, OwG.turns h2 h.fr t.turns⟩)
end
end Go.Proofs.YtibfpkfpmkghhaaGreatDoor

namespace Go.Proofs.YtibfpkfpmkghhaaGreatDoor
open Go.RowKit Go.Lig

theorem readE_pos {M : PSt} {t id : Int} {v : EdgeV} (h : readE M t id = some v) : 1 ≤ id ∧ id ≤ (M.E.length : Int) := by
  unfold readE at h
  split at h
  · assumption
  · cases h
section
variable {S : Nat → Prop} {w0 w : World} {s : Nat} {p : PF} (h : OwG S w0 w s p) (t : Int)
include h
theorem x_dropnode (id : Int) (hs : p.2 < 1000000) (hr : rmDropNode p t id = true) :
    Calls Tryz.prog 20 #[.pointer (some ⟨s, 0, none⟩), .int .i64 t, .int .i64 id] w fun e w' => e = .returned (.int .i64 (opDropNode p t id).1) ∧ OwG S w0 w' s (opDropNode p t id).2 := by
  obtain ⟨ρ, A, h1, h2⟩ := h.ex
  unfold opDropNode
  unfold rmDropNode at hr
  cases hl : p.1.K.live t with
  | false =>
    rw [if_neg (by simp)]
    exact (dropnode_dead w ρ s A p.1 p.2 h1 t hl id).mono (by rintro e w' ⟨rfl, f⟩; subst f; exact ⟨rfl, h⟩)
  | true =>
    rw [if_pos rfl]
    cases hv : readN p.1 t id with
    | none =>
      rw [if_neg (by simp)]
      exact (dropnode_none w ρ s A p.1 p.2 h1 t hl id hv).mono (by rintro e w' ⟨rfl, f⟩; exact ⟨rfl, h.next f⟩)
    | some d0 =>
      rw [if_pos (by simp)]
      rw [hl, hv] at hr
      have hp := readN_pos hv
      obtain ⟨k, rfl⟩ : ∃ k : Nat, id = (k : Int) + 1 := ⟨(id - 1).toNat, by omega⟩
      have hk2 : ((k : Int) + 1 - 1).toNat = k := by omega
      rw [hk2] at hr ⊢
      have hk : k < p.1.N.length := by omega
      by_cases hb : 0 < (outM p.1 t ((k : Int) + 1)).length + (inM p.1 t ((k : Int) + 1)).length
      · rw [if_pos hb]
        exact (dropnode_busy w ρ s A p.1 p.2 h1 t hl k d0 hv hk (by omega) hb).mono (by rintro e w' ⟨rfl, f⟩; exact ⟨rfl, h.next f⟩)
      · rw [if_neg hb]
        rw [decide_eq_false hb] at hr
        have ho2 : outM p.1 t ((k : Int) + 1) = [] ∧ inM p.1 t ((k : Int) + 1) = [] := ⟨List.eq_nil_of_length_eq_zero (by omega), List.eq_nil_of_length_eq_zero (by omega)⟩
        cases hm : mayB p.1 t 0 [(k : Int) + 1] with
        | true =>
          rw [if_pos rfl]
          rw [hm] at hr
          have ho := okAbort_iff (show okAbort p t = true by simpa using hr)
          exact (dropnode_clash w ρ s A p.1 p.2 h1 t hl k d0 hv hk (by omega) ho2 hm _ _ ho).mono (by rintro e w' ⟨rfl, t⟩; exact ⟨rfl, OwG.turns h2 h.fr t.turns⟩)
        | false =>
          rw [if_neg (by simp)]
          rw [hm] at hr
          have ho := okPut_iff (show okPut p t k NodeD.none true = true by simpa using hr)
          exact (dropnode_ok w ρ s A p.1 p.2 h1 t hl k d0 hv hk (by omega) ho2 hm _ _ hs ho.2.2).mono (by rintro e w' ⟨rfl, t⟩; exact ⟨rfl, OwG.turns h2 h.fr t.turns⟩)
theorem x_addedge (v : EdgeV) {b : Bool} (hb : ∀ u, Fr No w u → Calls Tryz.prog 63 #[.agg #[.int .i64 v.from_, .int .i64 v.to_, .string v.type, .float .f64 v.w]] u fun e w' => e = .returned (.bool b) ∧ Fr No u w') (hr : rmAddEdge p t b v = true) :
    Calls Tryz.prog 21 #[.pointer (some ⟨s, 0, none⟩), .int .i64 t, .agg #[.int .i64 v.from_, .int .i64 v.to_, .string v.type, .float .f64 v.w]] w fun e w' => e = .returned (.tuple #[.int .i64 (opAddEdge p t b v).1.1, .int .i64 (opAddEdge p t b v).1.2]) ∧ OwG S w0 w' s (opAddEdge p t b v).2 := by
  obtain ⟨ρ, A, h1, h2⟩ := h.ex
  unfold opAddEdge
  unfold rmAddEdge at hr
  cases hl : p.1.K.live t with
  | false =>
    rw [if_neg (by simp)]
    exact (addedge_dead w ρ s A p.1 p.2 h1 t v.from_ v.to_ v.type v.w hl).mono (by rintro e w' ⟨rfl, f⟩; exact ⟨rfl, h.next f⟩)
  | true =>
    rw [if_pos rfl]
    cases b with
    | false =>
      rw [if_neg (by simp)]
      exact (addedge_bad w ρ s A p.1 p.2 h1 t v.from_ v.to_ v.type v.w hl hb).mono (by rintro e w' ⟨rfl, f⟩; exact ⟨rfl, h.next f⟩)
    | true =>
      rw [if_pos rfl]
      cases hrf : (readN p.1 t v.from_).isSome with
      | false =>
        rw [if_neg (by simp)]
        exact (addedge_none1 w ρ s A p.1 p.2 h1 t v.from_ v.to_ v.type v.w hl hb hrf).mono (by rintro e w' ⟨rfl, f⟩; exact ⟨rfl, h.next f⟩)
      | true =>
        cases hrt : (readN p.1 t v.to_).isSome with
        | false =>
          rw [if_neg (by simp)]
          exact (addedge_none2 w ρ s A p.1 p.2 h1 t v.from_ v.to_ v.type v.w hl hb hrf hrt).mono (by rintro e w' ⟨rfl, f⟩; exact ⟨rfl, h.next f⟩)
        | true =>
          rw [if_pos (by simp)]
          rw [hl, hrf, hrt] at hr
          by_cases hn : p.1.E.length < 32
          · rw [if_pos hn]
            rw [decide_eq_true hn] at hr
            cases hm : mayB p.1 t 0 [v.from_, v.to_] with
            | true =>
              rw [if_pos rfl]
              rw [hm] at hr
              have ho := okAbort_iff (show okAbort p t = true by simpa using hr)
              exact (addedge_clash w ρ s A p.1 p.2 h1 t v.from_ v.to_ v.type v.w hl hb hrf hrt hn hm _ _ ho.1 ho.2).mono (by rintro e w' ⟨rfl, t⟩; exact ⟨rfl, OwG.turns h2 h.fr t.turns⟩)
            | false =>
              rw [if_neg (by simp)]
              rw [hm] at hr
              have ho : okTouch t p [v.from_, v.to_] = true ∧ (exTouch t p [v.from_, v.to_]).2 + 1 < 1000000 := by simpa using hr
              obtain ⟨df, hdf⟩ := Option.isSome_iff_exists.1 hrf
              obtain ⟨dt, hdt⟩ := Option.isSome_iff_exists.1 hrt
              have hpf := readN_pos hdf
              have hpt := readN_pos hdt
              have hnl := h1.nlen
              have hkey : ∀ i : Int, 1 ≤ i → i ≤ (p.1.N.length : Int) → keyOk i := fun i h1 h2 => by
                obtain ⟨m, rfl⟩ : ∃ m : Nat, i = (m : Int) := ⟨i.toNat, by omega⟩
                exact key_small m (by omega)
              exact (addedge_ok w ρ s A p.1 p.2 h1 t v.from_ v.to_ v.type v.w hl hb hrf hrt hn hm _ _ (touch_of _ _ ho.1) ho.2 ⟨hkey _ hpf.1 hpf.2, hkey _ hpt.1 hpt.2⟩).mono (by rintro e w' ⟨rfl, t⟩; exact ⟨rfl, OwG.turns h2 h.fr t⟩)
          · rw [if_neg hn]
            exact (addedge_full w ρ s A p.1 p.2 h1 t v.from_ v.to_ v.type v.w hl hb hrf hrt (by omega)).mono (by rintro e w' ⟨rfl, f⟩; exact ⟨rfl, h.next f⟩)
theorem x_dropedge (id : Int) (hr : rmDropEdge p t id = true) :
    Calls Tryz.prog 22 #[.pointer (some ⟨s, 0, none⟩), .int .i64 t, .int .i64 id] w fun e w' => e = .returned (.int .i64 (opDropEdge p t id).1) ∧ OwG S w0 w' s (opDropEdge p t id).2 := by
  obtain ⟨ρ, A, h1, h2⟩ := h.ex
  unfold opDropEdge
  unfold rmDropEdge at hr
  cases hl : p.1.K.live t with
  | false =>
    rw [if_neg (by simp)]
    exact (dropedge_dead w ρ s A p.1 p.2 h1 t hl id).mono (by rintro e w' ⟨rfl, f⟩; subst f; exact ⟨rfl, h⟩)
  | true =>
    rw [if_pos rfl]
    rw [hl] at hr
    cases hv : readE p.1 t id with
    | none =>
      exact (dropedge_none w ρ s A p.1 p.2 h1 t hl id hv).mono (by rintro e w' ⟨rfl, f⟩; exact ⟨rfl, h.next f⟩)
    | some v =>
      rw [hv] at hr
      have hp := readE_pos hv
      obtain ⟨k, rfl⟩ : ∃ k : Nat, id = (k : Int) + 1 := ⟨(id - 1).toNat, by omega⟩
      have hk2 : ((k : Int) + 1 - 1).toNat = k := by omega
      simp only [hk2] at hr ⊢
      have hk : k < p.1.E.length := by omega
      cases hm : mayB p.1 t ((k : Int) + 1) [v.from_, v.to_] with
      | true =>
        rw [if_pos rfl]
        rw [hm] at hr
        have ho := okAbort_iff (show okAbort p t = true by simpa using hr)
        exact (dropedge_clash w ρ s A p.1 p.2 h1 t hl k v hv hm _ _ ho).mono (by rintro e w' ⟨rfl, t⟩; exact ⟨rfl, OwG.turns h2 h.fr t.turns⟩)
      | false =>
        rw [if_neg (by simp)]
        rw [hm] at hr
        have ho : okTouch t (tieM p.1 t k EdgeV.none true, p.2 + 3) [v.from_, v.to_] = true ∧ p.2 + 1 < 1000000 := by simpa using hr
        exact (dropedge_ok w ρ s A p.1 p.2 h1 t hl k v hv ⟨hm, hk, ho.2⟩ _ _ (touch_of _ _ ho.1)).mono (by rintro e w' ⟨rfl, t⟩; exact ⟨rfl, OwG.turns h2 h.fr t.turns⟩)
end
end Go.Proofs.YtibfpkfpmkghhaaGreatDoor
