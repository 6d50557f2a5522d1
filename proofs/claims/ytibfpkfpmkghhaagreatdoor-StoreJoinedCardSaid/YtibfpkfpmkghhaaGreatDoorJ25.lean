/- A part of the proof: contracts of functions of the program, for the row's text. -/
import Derived.Test.YtibfpkfpmkghhaaGreatDoorJ24
import Derived.Test.YtibfpkfpmkghhaaGreatDoorJ16
namespace Go.Proofs.YtibfpkfpmkghhaaGreatDoor
open Go.RowKit Go.Lig

def labV (s : ByteArray) : ValR := ⟨4, false, 0, 0, s⟩
theorem label_any (w : World) (s : ByteArray) : Calls Tryz.prog 50 #[.string s] w fun e w' => e = .returned (.agg #[.int .i64 4, .bool false, .int .i64 0, .float .f64 0, .string s]) ∧ Fr No w w' := by
  go_enter Tryz.func50, Tryz.ntmps50
  go_wp2_with fail
  refine bodyPost_ret (v := .agg #[.int .i64 4, .bool false, .int .i64 0, .float .f64 0, .string s]) ?_ rfl ⟨rfl, (Fr.refl No w).alloc _⟩
  simp [results, Tryz.f50, go_sem]
def stepE (id : Int) (p : List (ByteArray × List EntR) × List IxR) (y : ByteArray × ValR) : List (ByteArray × List EntR) × List IxR := (addX p.1 y.1 ⟨y.2, id⟩, if hasX p.1 y.1 ⟨y.2, id⟩ then p.2 else p.2 ++ [⟨y.1, ⟨y.2, id⟩⟩])
def runE (id : Int) (p : List (ByteArray × List EntR) × List IxR) (l : List (ByteArray × ValR)) : List (ByteArray × List EntR) × List IxR := l.foldl (stepE id) p
theorem runE_snoc (id : Int) (p : List (ByteArray × List EntR) × List IxR) (l : List (ByteArray × ValR)) (y : ByteArray × ValR) : runE id p (l ++ [y]) = stepE id (runE id p l) y := by
  unfold runE
  rw [List.foldl_append]
  rfl
theorem runE_len (id : Int) : ∀ (l : List (ByteArray × ValR)) (p : List (ByteArray × List EntR) × List IxR), (runE id p l).2.length ≤ p.2.length + l.length
  | [], p => Nat.le_refl _
  | y :: l, p => by
    have h1 := runE_len id l (stepE id p y)
    have h2 : (stepE id p y).2.length ≤ p.2.length + 1 := by
      unfold stepE
      simp only []
      split
      · omega
      · simp
    show (runE id (stepE id p y) l).2.length ≤ _
    simp only [List.length_cons]
    omega
theorem FSt.keepNew {Kp : Nat → Obj → Prop} {w0 w w' : World} {T0 : Nat → Prop} {s m b2 b3 b6 F : Nat} {id : Int} {X : List (ByteArray × List EntR)} {es : List IxR} (h : FSt Kp w0 T0 s m b2 b3 b6 id w X F es) (hf : Fr No w w') {Kq : Nat → Obj → Prop}
    (hn : ∀ b o, Kq b o → Kp b o ∨ (w'.heap[b]? = some o ∧ w.heap.size ≤ b)) : FSt Kq w0 T0 s m b2 b3 b6 id w' X F es := by
  obtain ⟨T, row, h1, h2, h3, h4, h5, h6, h7, h8, h9, h10, h11, h12, h13⟩ := (h.frame hf).ex
  obtain ⟨T1, row1, g1, g2, g3, g4, g5, g6, g7, g8, g9, g10, g11, g12, g13⟩ := h.ex
  have l6 := lt_of_block g7
  refine ⟨T1, row1, g1.frame hf (fun _ _ e => e), g2.thenNo hf, g3, fun b hb => Nat.lt_of_lt_of_le (g4 b hb) hf.size, hf.keep g5 (fun e => e), hf.keep g6 (fun e => e), hf.keep g7 (fun e => e), fd_owns g8 hf, g9, g10, g11, g12, fun b o hk => ?_⟩
  rcases hn b o hk with hk | ⟨hk, hl⟩
  · exact ⟨hf.keep (g13 b o hk).1 (fun e => e), (g13 b o hk).2⟩
  · exact ⟨hk, fun e => by have := g4 b e; omega, by omega, fun e => by have := (g8.lt b e).2; omega⟩
theorem FSt.kept {Kp : Nat → Obj → Prop} {w0 w : World} {T0 : Nat → Prop} {s m b2 b3 b6 F : Nat} {id : Int} {X : List (ByteArray × List EntR)} {es : List IxR} (h : FSt Kp w0 T0 s m b2 b3 b6 id w X F es) {b : Nat} {o : Obj} (hk : Kp b o) : w.heap[b]? = some o := by
  obtain ⟨T, row, h1, h2, h3, h4, h5, h6, h7, h8, h9, h10, h11, h12, h13⟩ := h.ex
  exact (h13 b o hk).1
theorem FSt.fr {Kp : Nat → Obj → Prop} {w0 w : World} {T0 : Nat → Prop} {s m b2 b3 b6 F : Nat} {id : Int} {X : List (ByteArray × List EntR)} {es : List IxR} (h : FSt Kp w0 T0 s m b2 b3 b6 id w X F es) : Fr T0 w0 w := by
  obtain ⟨T, row, h1, h2, h3⟩ := h.ex
  exact h2
theorem FSt.more {Kp : Nat → Obj → Prop} {w0 w : World} {T0 : Nat → Prop} {s m b2 b3 b6 F G : Nat} {id : Int} {X : List (ByteArray × List EntR)} {es : List IxR} (h : FSt Kp w0 T0 s m b2 b3 b6 id w X F es) (hg : F ≤ G) : FSt Kp w0 T0 s m b2 b3 b6 id w X G es := by
  obtain ⟨T, row, h1, h2⟩ := h.ex
  exact ⟨T, row, h1.more hg, h2⟩
end Go.Proofs.YtibfpkfpmkghhaaGreatDoor

namespace Go.Proofs.YtibfpkfpmkghhaaGreatDoor
open Go.RowKit Go.Lig

def labsOf (d : NodeD) : List (ByteArray × ValR) := d.L.map (fun s => (ByteArray.mk #[], labV s))
def propsOf (d : NodeD) : List (ByteArray × ValR) := d.Q.map (fun p => (p.key, p.v))
theorem takeSnoc {α : Type} {l : List α} {i : Nat} {y : α} (h : l[i]? = some y) : l.take (i + 1) = l.take i ++ [y] := by
  rw [List.take_add_one, h]
  rfl
theorem labV_ok {s : ByteArray} (h : s.size ≤ maxLen) : ValOk (labV s) := ⟨show (Lit.int .i64 4).wf = true by decide, show (Lit.int .i64 0).wf = true by decide, show (Lit.float .f64 0).wf = true by decide, h⟩
set_option maxRecDepth 100000 in
set_option maxHeartbeats 4000000 in
theorem finds2_any {Kp : Nat → Obj → Prop} {w0 : World} {T0 : Nat → Prop} {s m b2 b3 b6 : Nat} (B : FBase w0 T0 s m b2 b3 b6) {id : Int} (w : World) (X : List (ByteArray × List EntR)) (F : Nat) (es : List IxR) (h : FSt Kp w0 T0 s m b2 b3 b6 id w X F es) (b7 : Nat) (h7 : Kp b7 (.cells #[.func (.func 119) #[] #[.pointer (some ⟨b3, 0, none⟩), .pointer (some ⟨b2, 0, none⟩), .pointer (some ⟨b6, 0, none⟩)]] 170 (0, 0)))
    (la pa : Option Addr) (ln lc pn pc : Nat) (d : NodeD) (I : Nat → Prop) (hnd : NodeIn w0 I (.slice la ln lc) (.slice pa pn pc) d) (hI : ∀ k, I k → ¬ T0 k) (hF : F + 2 * (d.L.length + d.Q.length) < 999990) (hes : es.length + (d.L.length + d.Q.length) < 1000000) (hid0 : (Lit.int .i64 id).wf = true) :
    Calls Tryz.prog 122 #[.agg #[.slice la ln lc, .slice pa pn pc], .pointer (some ⟨b7, 0, none⟩)] w fun e w' =>
      e = .returned (.tuple #[]) ∧ FSt Kp w0 T0 s m b2 b3 b6 id w' (runE id (X, es) (labsOf d ++ propsOf d)).1 (F + 2 * (d.L.length + d.Q.length)) (runE id (X, es) (labsOf d ++ propsOf d)).2 := by
  obtain ⟨ao1, co1, e1, -⟩ := rd_len hnd.l.rd
  obtain ⟨ao2, co2, e2, -⟩ := rd_len hnd.p.rd
  obtain ⟨-, rfl, -⟩ := Value.slice.inj e1
  obtain ⟨-, rfl, -⟩ := Value.slice.inj e2
  clear e1 e2 ao1 co1 ao2 co2
  generalize hnl : d.L.length = nl at *
  generalize hnp : d.Q.length = np at *
  have hbk := heap1 w (.cells #[.slice la nl lc, .slice pa np pc] 31)
  have hf : Fr No w (w.alloc (.cells #[.slice la nl lc, .slice pa np pc] 31)) := (Fr.refl No w).alloc _
  obtain ⟨Kq, hKq⟩ : ∃ Kq : Nat → Obj → Prop, Kq = fun b o => Kp b o ∨ (b = w.heap.size ∧ o = .cells #[.slice la nl lc, .slice pa np pc] 31 (0, 0)) := ⟨_, rfl⟩
  have h2 : FSt Kq w0 T0 s m b2 b3 b6 id _ X F es := h.keepNew hf (Kq := Kq) (fun b o hk => by
    rw [hKq] at hk
    rcases hk with hk | ⟨rfl, rfl⟩
    · exact .inl hk
    · exact .inr ⟨hbk, Nat.le_refl _⟩)
  have k7 : Kq b7 (.cells #[.func (.func 119) #[] #[.pointer (some ⟨b3, 0, none⟩), .pointer (some ⟨b2, 0, none⟩), .pointer (some ⟨b6, 0, none⟩)]] 170 (0, 0)) := by rw [hKq]; exact .inl h7
  have kn : Kq w.heap.size (.cells #[.slice la nl lc, .slice pa np pc] 31 (0, 0)) := by rw [hKq]; exact .inr ⟨rfl, rfl⟩
  have HK := hid (⟨k7, kn, (fun b o hk => by rw [hKq]; exact .inl hk : ∀ b o, Kp b o → Kq b o)⟩ : _ ∧ _ ∧ _)
  have H2 := hid h2
  have HN := hid (⟨hnd, hI, hnl, hnp⟩ : _ ∧ _ ∧ _ ∧ _)
  have HBo := hid (⟨hF, hes⟩ : _ ∧ _)
  have hnlS : nl ≤ 1000000 := by have := hnd.few.1; omega
  have hnpS : np ≤ 1000000 := by have := hnd.few.2; omega
  clear h h2 k7 kn hKq h7 hnd hI hnl hnp hF hes
  go_enter Tryz.func122, Tryz.ntmps122
  go_wp2_with fail
  generalize w.alloc (.cells #[.slice la nl lc, .slice pa np pc] 31) = w2 at *
  obtain ⟨c0, c1⟩ := cells2 hbk
  generalize w.heap.size = bn at *
  have HLT := hid (lt_of_block hbk)
  clear hf hbk c0 c1
  go_loopw [10] (fun vi wr => ∃ i : Nat, i ≤ nl ∧ vi = .int .i64 (i : Int) ∧ Hid (FSt Kq w0 T0 s m b2 b3 b6 id wr (runE id (X, es) ((labsOf d).take i)).1 (F + 2 * i) (runE id (X, es) ((labsOf d).take i)).2)) (fun vi _ => nl - (intOf vi).toNat)
  case atStart => exact ⟨0, Nat.zero_le _, rfl, H2.out⟩
  case round =>
    obtain ⟨i, hi, rfl, HI⟩ := hrel
    by_cases hlt : i < nl
    · obtain ⟨y, hy⟩ : ∃ y, d.L[i]? = some y := ⟨d.L[i]'(by have := HN.out.2.2.1; omega), List.getElem?_eq_getElem _⟩
      have hrd := (HN.out.1.l.frame HI.out.fr HN.out.2.1).rd
      obtain ⟨bl, ol, cl, el, hcl⟩ := hrd.at1 (k := i) (u := .string y) (by rw [List.getElem?_map, hy]; rfl)
      obtain ⟨rfl, -, rfl⟩ := Value.slice.inj el
      have y0 := hcl wr (Fr.refl _ _)
      have HY := hid (⟨hy, hcl⟩ : _ ∧ _)
      have x7 := cells1 (HI.out.kept HK.out.1)
      have hl7 := World.block_lt_of_cell? _ _ x7
      clear hy el hcl hrd
      go_wp2_with fail
      have hsc : ∀ b ∈ [b7], b < wr.drew.heap.size ∧ ¬ No b := fun b hb => ⟨by rw [List.mem_singleton.1 hb]; exact hl7, fun e => e⟩
      refine wp_region_sched (by kernel_rfl) 4 [2, 3] [0, 1, 2, 3] (AgC [b7] wr.drew) (by kernel_rfl) (AgC.refl _ _) ?_
      simp only [List.map_cons, List.map_nil, List.contains_cons, List.contains_nil, nth_zero, nth_succ, Nat.reduceBEq, Bool.or_false, Bool.or_true]
      repeat (refine sched_quiet (fun K hK => ?_); go_simp; refine hK _ ?_; clear hK K)
      refine sched_call (by first | rfl | go_simp) 50 #[.string y] (by first | kernel_rfl | go_simp) (label_any _ y) ?_
      rintro e w3 ⟨rfl, f3⟩
      have a3 := (AgC.refl [b7] wr.drew).fr f3 hsc
      refine ⟨_, rfl, a3, ?_⟩
      have hst := HI.out.frame ((Fr.refl No wr).drew.thenNo f3)
      obtain ⟨p, hp⟩ : ∃ p, p = runE id (X, es) ((labsOf d).take i) := ⟨_, rfl⟩
      have hpl : p.2.length ≤ es.length + i := by
        have := runE_len id ((labsOf d).take i) (X, es)
        rw [← hp] at this
        rw [List.length_take] at this
        simp only [] at this
        omega
      rw [← hp] at hst
      have hns : runE id (X, es) ((labsOf d).take (i + 1)) = stepE id p (ByteArray.mk #[], labV y) := by
        rw [takeSnoc (l := labsOf d) (i := i) (y := (ByteArray.mk #[], labV y)) (by unfold labsOf; rw [List.getElem?_map, HY.out.1]; rfl), runE_snoc, hp]
      have hle : y.size ≤ maxLen := HN.out.1.ls y (List.mem_of_getElem? HY.out.1)
      have HNS := hid hns
      have hkp : ∀ b o, Kq b o → True := fun _ _ _ => trivial
      clear hp hns hkp x7 y0 hl7
      refine sched_call (by first | rfl | go_simp) 119 #[.string (ByteArray.mk #[]), .agg #[.int .i64 4, .bool false, .int .i64 0, .float .f64 0, .string y], .pointer (some ⟨b3, 0, none⟩), .pointer (some ⟨b2, 0, none⟩), .pointer (some ⟨b6, 0, none⟩)] (by first | kernel_rfl | go_simp) (find1_any B w3 p.1 (F + 2 * i) p.2 hst (by have := HBo.out; omega) (by have := HBo.out; omega) (ByteArray.mk #[]) (Nat.zero_le _) (labV y) (labV_ok hle) hid0) ?_
      rintro e w4 ⟨rfl, h4⟩
      have x4 := h4.kept HK.out.1
      have x3 := hst.kept HK.out.1
      refine ⟨_, rfl, AgC.mk (fun b hb => by rw [List.mem_singleton.1 hb, x4]; exact (HI.out.kept HK.out.1).symm), ?_⟩
      have H4 := hid h4
      clear h4 x4 x3 hst a3 hsc f3
      repeat (refine sched_quiet (fun K hK => ?_); go_simp; refine hK _ ?_; clear hK K)
      refine sched_nil ?_
      go_wp2_with fail
      go_roundw
      case rel => exact ⟨i + 1, by omega, by go_num, by rw [HNS.out]; exact H4.out⟩
      case measure => simp [intOf]; omega
    · have hin : i = nl := by omega
      subst hin
      have hnl' : (labsOf d).take i = labsOf d := List.take_of_length_le (by unfold labsOf; rw [List.length_map, HN.out.2.2.1]; exact Nat.le_refl _)
      rw [hnl'] at HI
      obtain ⟨x0, x1⟩ := cells2 (HI.out.kept HK.out.2.1)
      clear hnl' hi hlt
      go_wp2_with fail
      obtain ⟨p0, hp0⟩ : ∃ p0, p0 = runE id (X, es) (labsOf d) := ⟨_, rfl⟩
      have hfin : runE id (X, es) (labsOf d ++ propsOf d) = runE id p0 (propsOf d) := by rw [hp0]; unfold runE; rw [List.foldl_append]
      have hp0l : p0.2.length ≤ es.length + i := by
        have := runE_len id (labsOf d) (X, es)
        rw [← hp0] at this
        have h2 : (labsOf d).length = i := by unfold labsOf; rw [List.length_map, HN.out.2.2.1]
        simp only [] at this
        omega
      rw [← hp0] at HI
      have HFin := hid hfin
      have HPl := hid hp0l
      clear hfin hp0l hp0 x0 x1
      go_loopw [22] (fun vi w5 => ∃ j : Nat, j ≤ np ∧ vi = .int .i64 (j : Int) ∧ Hid (FSt Kq w0 T0 s m b2 b3 b6 id w5 (runE id p0 ((propsOf d).take j)).1 (F + 2 * i + 2 * j) (runE id p0 ((propsOf d).take j)).2)) (fun vi _ => np - (intOf vi).toNat)
      case atStart => exact ⟨0, Nat.zero_le _, rfl, HI.out⟩
      case round =>
        obtain ⟨j, hj, rfl, HJ⟩ := hrel
        by_cases hltj : j < np
        · obtain ⟨⟨yk, ⟨vk, vb, vn, vf, vt⟩⟩, hy⟩ : ∃ y, d.Q[j]? = some y := ⟨d.Q[j]'(by have := HN.out.2.2.2; omega), List.getElem?_eq_getElem _⟩
          have hrd := (HN.out.1.p.frame HJ.out.fr HN.out.2.1).rd
          have hg : ∀ t, t < 6 → (d.Q.flatMap pcell)[j * 6 + t]? = (pcell ⟨yk, ⟨vk, vb, vn, vf, vt⟩⟩)[t]? := fun t ht => flat_get (f := pcell) (m := 6) (fun _ => rfl) _ _ _ hy t ht
          obtain ⟨bl, ol, cl, el, hc0⟩ := hrd.at1 (k := j * 6) (u := .string yk) (by rw [← Nat.add_zero (j * 6), hg 0 (by decide)]; rfl)
          obtain ⟨rfl, -, rfl⟩ := Value.slice.inj el
          have cg : ∀ t u, t < 6 → (pcell ⟨yk, ⟨vk, vb, vn, vf, vt⟩⟩)[t]? = some u → wr.cell? ⟨bl, ol + j * 6 + t, none⟩ = some u := fun t u ht hu => by
            obtain ⟨bl', ol', cl', el', hc'⟩ := hrd.at1 (k := j * 6 + t) (u := u) (by rw [hg t ht]; exact hu)
            obtain ⟨e1, -, -⟩ := Value.slice.inj el'
            simp only [Option.some.injEq, Addr.mk.injEq, and_true] at e1
            obtain ⟨rfl, rfl⟩ := e1
            rw [Nat.add_assoc]
            exact hc' _ (Fr.refl _ _)
          have y0 := hc0 wr (Fr.refl _ _)
          have y1 := cg 1 _ (by decide) rfl
          have y2 := cg 2 _ (by decide) rfl
          have y3 := cg 3 _ (by decide) rfl
          have y4 := cg 4 _ (by decide) rfl
          have y5 := cg 5 _ (by decide) rfl
          have x7 := cells1 (HJ.out.kept HK.out.1)
          have hl7 := World.block_lt_of_cell? _ _ x7
          obtain ⟨p, hp⟩ : ∃ p, p = runE id p0 ((propsOf d).take j) := ⟨_, rfl⟩
          have hpl : p.2.length ≤ es.length + i + j := by
            have := runE_len id ((propsOf d).take j) p0
            rw [← hp, List.length_take] at this
            have := HPl.out
            omega
          have hns : runE id p0 ((propsOf d).take (j + 1)) = stepE id p (yk, ⟨vk, vb, vn, vf, vt⟩) := by
            rw [takeSnoc (l := propsOf d) (i := j) (y := (yk, ⟨vk, vb, vn, vf, vt⟩)) (by unfold propsOf; rw [List.getElem?_map, hy]; rfl), runE_snoc, hp]
          have hok := HN.out.1.ok _ (List.mem_of_getElem? hy)
          have HNS := hid hns
          have hfr : Fr No wr (wr.alloc (.cells #[.string yk, .int .i64 vk, .bool vb, .int .i64 vn, .float .f64 vf, .string vt] 145)) := (Fr.refl No wr).alloc _
          have hst := HJ.out.frame hfr
          rw [← hp] at hst
          have HC := hid (find1_any B _ p.1 (F + 2 * i + 2 * j) p.2 hst (by have := HBo.out; omega) (by have := HBo.out; omega) yk hok.key ⟨vk, vb, vn, vf, vt⟩ hok.v hid0)
          clear hp hns hy hrd hg cg hc0 el hst hfr hok hpl
          go_wp2_with (go_at_call 119; refine HC.out.mono ?_; rintro e w4 ⟨rfl, h4⟩; have H4 := hid h4; clear h4)
          go_roundw
          case rel => exact ⟨j + 1, by omega, by go_num, by rw [HNS.out]; exact H4.out⟩
          case measure => simp [intOf]; omega
        · have hjn : j = np := by omega
          subst hjn
          have hnl' : (propsOf d).take j = propsOf d := List.take_of_length_le (by unfold propsOf; rw [List.length_map, HN.out.2.2.2]; exact Nat.le_refl _)
          rw [hnl', ← HFin.out] at HJ
          clear hnl' hj hltj
          go_wp2_with fail
          go_end0
          exact ⟨rfl, (HJ.out.keepNew (Fr.refl No _) (fun b o hk => .inl (HK.out.2.2 b o hk))).more (by omega)⟩
end Go.Proofs.YtibfpkfpmkghhaaGreatDoor

namespace Go.Proofs.YtibfpkfpmkghhaaGreatDoor
open Go.RowKit Go.Lig

/-- an index while finds strikes out -/
structure LSt (Kp : Nat → Obj → Prop) (w0 : World) (T0 : Nat → Prop) (m : Nat) (w : World) (X : List (ByteArray × List EntR)) (F : Nat) : Prop where
  ex : ∃ T : Nat → Prop, IxAt w T m X F ∧ Fr T0 w0 w ∧ Grown w0 T0 T ∧ (∀ b, T b → b < w.heap.size) ∧ ∀ b o, Kp b o → w.heap[b]? = some o ∧ ¬ T b
theorem LSt.frame {Kp : Nat → Obj → Prop} {w0 w w' : World} {T0 : Nat → Prop} {m F : Nat} {X : List (ByteArray × List EntR)} (h : LSt Kp w0 T0 m w X F) (hf : Fr No w w') : LSt Kp w0 T0 m w' X F := by
  obtain ⟨T, h1, h2, h3, h4, h5⟩ := h.ex
  exact ⟨T, h1.frame hf (fun _ _ e => e), h2.thenNo hf, h3, fun b hb => Nat.lt_of_lt_of_le (h4 b hb) hf.size, fun b o hk => ⟨hf.keep (h5 b o hk).1 (fun e => e), (h5 b o hk).2⟩⟩
theorem LSt.fr {Kp : Nat → Obj → Prop} {w0 w : World} {T0 : Nat → Prop} {m F : Nat} {X : List (ByteArray × List EntR)} (h : LSt Kp w0 T0 m w X F) : Fr T0 w0 w := by
  obtain ⟨T, h1, h2, h3⟩ := h.ex
  exact h2
theorem LSt.kept {Kp : Nat → Obj → Prop} {w0 w : World} {T0 : Nat → Prop} {m F : Nat} {X : List (ByteArray × List EntR)} (h : LSt Kp w0 T0 m w X F) {b : Nat} {o : Obj} (hk : Kp b o) : w.heap[b]? = some o := by
  obtain ⟨T, h1, h2, h3, h4, h5⟩ := h.ex
  exact (h5 b o hk).1
theorem LSt.keepNew {Kp Kq : Nat → Obj → Prop} {w0 w w' : World} {T0 : Nat → Prop} {m F : Nat} {X : List (ByteArray × List EntR)} (h : LSt Kp w0 T0 m w X F) (hf : Fr No w w') (hn : ∀ b o, Kq b o → Kp b o ∨ (w'.heap[b]? = some o ∧ w.heap.size ≤ b)) : LSt Kq w0 T0 m w' X F := by
  obtain ⟨T, h1, h2, h3, h4, h5⟩ := h.ex
  refine ⟨T, h1.frame hf (fun _ _ e => e), h2.thenNo hf, h3, fun b hb => Nat.lt_of_lt_of_le (h4 b hb) hf.size, fun b o hk => ?_⟩
  rcases hn b o hk with hk | ⟨hk, hl⟩
  · exact ⟨hf.keep (h5 b o hk).1 (fun e => e), (h5 b o hk).2⟩
  · exact ⟨hk, fun e => by have := h4 b e; omega⟩
theorem LSt.more {Kp : Nat → Obj → Prop} {w0 w : World} {T0 : Nat → Prop} {m F G : Nat} {X : List (ByteArray × List EntR)} (h : LSt Kp w0 T0 m w X F) (hg : F ≤ G) : LSt Kp w0 T0 m w X G := by
  obtain ⟨T, h1, h2⟩ := h.ex
  exact ⟨T, h1.more hg, h2⟩
/-- the two calls of a round: the tree of the key, then the entry struck -/
theorem LSt.tree {Kp : Nat → Obj → Prop} {w0 w : World} {T0 : Nat → Prop} {m F s : Nat} {X : List (ByteArray × List EntR)} (h : LSt Kp w0 T0 m w X F) (hF : F < 1000000) (h6 : w0.cell? ⟨s, 6, none⟩ = some (.map (some m))) (hsT : ¬ T0 s) (key : ByteArray) (hk : key.size ≤ maxLen) (e : EntR) :
    Calls Tryz.prog 117 #[.pointer (some ⟨s, 0, none⟩), .string key] w fun r w' => ∃ v, r = .returned v ∧ (∀ b o, Kp b o → w'.heap[b]? = some o) ∧
      Calls Tryz.prog 118 #[v, entA e] w' fun r2 w2 => (∃ b, r2 = .returned (.bool b)) ∧ LSt Kp w0 T0 m w2 (delX X key e) (F + 1) := by
  obtain ⟨T, h1, h2, h3, h4, h5⟩ := h.ex
  have hs0 := World.block_lt_of_cell? _ _ h6
  have hsT2 : ¬ T s := fun E => by
    rcases h3 s E with h8 | h8
    · exact hsT h8
    · exact Nat.lt_irrefl _ (Nat.lt_of_lt_of_le hs0 h8)
  have s6 : w.cell? ⟨s, 6, none⟩ = some (.map (some m)) := by
    rw [World.cell?_of_block (w := w0) (h2.block s hs0 hsT)]
    exact h6
  refine (tree_any w T m F s X h1 h4 hF s6 hsT2 key hk).mono ?_
  rintro r w3 ⟨q3, a3, j, rfl, hj, T3, i3, f3, g3, bd3⟩
  refine ⟨_, rfl, fun b o hk' => f3.keep (h5 b o hk').1 (h5 b o hk').2, ?_⟩
  have hl3 := lOf_at hj
  refine (ix_del w3 T3 m (F + 1) (openX X key) q3 a3 i3 bd3 (by omega) j key _ hl3 e).mono ?_
  rintro r2 w4 ⟨hr, T4, i4, f4, g4, bd4⟩
  rw [← delX_some hj e] at i4
  have hold : ∀ b o, Kp b o → ¬ T3 b := fun b o hk' E => by
    rcases g3 b E with h8 | h8
    · exact (h5 b o hk').2 h8
    · have := lt_of_block (h5 b o hk').1; omega
  have hold4 : ∀ b o, Kp b o → ¬ T4 b := fun b o hk' E => by
    rcases g4 b E with h8 | h8
    · exact hold b o hk' h8
    · have := lt_of_block (f3.keep (h5 b o hk').1 (h5 b o hk').2); omega
  refine ⟨hr, T4, i4.close, (h2.trans f3 (fun k hk' E => by rcases h3 k E with h8 | h8; exact h8; omega)).trans f4 (fun k hk' E => ?_), (h3.trans g3 h2.size).trans g4 (Nat.le_trans h2.size f3.size), bd4, fun b o hk' => ⟨f4.keep (f3.keep (h5 b o hk').1 (h5 b o hk').2) (hold b o hk'), hold4 b o hk'⟩⟩
  rcases g3 k E with h8 | h8
  · rcases h3 k h8 with h9 | h9
    · exact h9
    · omega
  · have := h2.size; omega
end Go.Proofs.YtibfpkfpmkghhaaGreatDoor

namespace Go.Proofs.YtibfpkfpmkghhaaGreatDoor
open Go.RowKit Go.Lig

theorem fst_of_lst {Kp Kf : Nat → Obj → Prop} {w0 w w' : World} {T0 : Nat → Prop} {s m b2 b3 b6 F : Nat} {id : Int} {X : List (ByteArray × List EntR)} (h : LSt Kp w0 T0 m w X F) (hf : Fr No w w') (k2 : Kp b2 (.cells #[.pointer (some ⟨s, 0, none⟩)] 22 (0, 0))) (k3 : Kp b3 (.cells #[.int .i64 id] 3 (0, 0)))
    (h6 : w'.heap[b6]? = some (.cells #[.slice none 0 0] 165 (0, 0))) (hb6 : w.heap.size ≤ b6) (hKf : ∀ b o, Kf b o → w'.heap[b]? = some o ∧ w.heap.size ≤ b ∧ b ≠ b6) : FSt Kf w0 T0 s m b2 b3 b6 id w' X F [] := by
  obtain ⟨T, h1, h2, h3, h4, h5⟩ := h.ex
  have hn : ∀ b, w.heap.size ≤ b → ¬ T b := fun b hb e => by have := h4 b e; omega
  exact ⟨T, .slice none 0 0, h1.frame hf (fun _ _ e => e), h2.thenNo hf, h3, fun b hb => Nat.lt_of_lt_of_le (h4 b hb) hf.size, hf.keep (h5 _ _ k2).1 (fun e => e), hf.keep (h5 _ _ k3).1 (fun e => e), h6, World.ownsRow_nil _ _ _ _, (fun b e => by cases e), (h5 _ _ k2).2, (h5 _ _ k3).2, hn b6 hb6, fun b o hk => ⟨(hKf b o hk).1, hn b (hKf b o hk).2.1, (hKf b o hk).2.2, fun e => by cases e⟩⟩
theorem ixto_st {w w' : World} {ρ : Nat → Option Pt} {s : Nat} {A : Ad} {M : PSt} {F F' : Nat} (h : StAt w ρ s A M F) (hF : F ≤ F') {T : Nat → Prop} {X : List (ByteArray × List EntR)} (h1 : IxAt w' T A.m X F') (h2 : Fr (At ρ .index) w w') (h3 : Grown w (At ρ .index) T) (h4 : ∀ b, T b → b < w'.heap.size) :
    StAt w' (turn ρ .index T) s A { M with X := X } F' ∧ Gone (Go.Lig.Own ρ) w (Go.Lig.Own (turn ρ .index T)) w' := by
  have t : Trn w w' ρ .index T := ⟨h2, h3, h4⟩
  refine ⟨h.upd (M' := { M with X := X }) (A' := A) (F' := F') t (by simp) h1 (fun p hp R hr => ?_), gone_turn t⟩
  have hr2 := hr.mono (fun _ e => e) hF
  cases p with
  | index => exact absurd rfl hp
  | root => exact hr2
  | clock => exact hr2
  | nrow => exact hr2
  | erow => exact hr2
  | edrow => exact hr2
  | enrow => exact hr2
  | out => exact hr2
  | inn => exact hr2
  | imm => exact hr2
  | node i => exact hr2
  | edge i => exact hr2
theorem FSt.st {Kp : Nat → Obj → Prop} {w w' : World} {ρ : Nat → Option Pt} {s b2 b3 b6 : Nat} {A : Ad} {M : PSt} {F F' : Nat} {id : Int} {X : List (ByteArray × List EntR)} {es : List IxR} (h : StAt w ρ s A M F) (hF : F ≤ F') (hs : FSt Kp w (At ρ .index) s A.m b2 b3 b6 id w' X F' es) :
    ∃ ρ', StAt w' ρ' s A { M with X := X } F' ∧ Gone (Go.Lig.Own ρ) w (Go.Lig.Own ρ') w' := by
  obtain ⟨T, row, h1, h2, h3, h4, -⟩ := hs.ex
  exact ⟨_, ixto_st h hF h1 h2 h3 h4⟩
/-- what is found of all versions -/
def runV (id : Int) (p : List (ByteArray × List EntR) × List IxR) (vs : List (Ver NodeD)) : List (ByteArray × List EntR) × List IxR := vs.foldl (fun p y => if y.gone then p else runE id p (labsOf y.v ++ propsOf y.v)) p
def costV (vs : List (Ver NodeD)) : Nat := (vs.map fun y => y.v.L.length + y.v.Q.length).sum
theorem runV_snoc (id : Int) (p : List (ByteArray × List EntR) × List IxR) (vs : List (Ver NodeD)) (y : Ver NodeD) : runV id p (vs ++ [y]) = if y.gone then runV id p vs else runE id (runV id p vs) (labsOf y.v ++ propsOf y.v) := by
  unfold runV
  rw [List.foldl_append]
  rfl
theorem costV_snoc (vs : List (Ver NodeD)) (y : Ver NodeD) : costV (vs ++ [y]) = costV vs + (y.v.L.length + y.v.Q.length) := by
  simp [costV]
theorem costV_take (vs : List (Ver NodeD)) (i : Nat) : costV (vs.take i) ≤ costV vs := by
  have h : costV (vs.take i ++ vs.drop i) = costV (vs.take i) + costV (vs.drop i) := by unfold costV; rw [List.map_append, List.sum_append]
  rw [List.take_append_drop] at h
  omega
theorem runV_len (id : Int) : ∀ (vs : List (Ver NodeD)) (p : List (ByteArray × List EntR) × List IxR), (runV id p vs).2.length ≤ p.2.length + costV vs
  | [], p => Nat.le_refl _
  | y :: vs, p => by
    have hc : costV (y :: vs) = (y.v.L.length + y.v.Q.length) + costV vs := by simp [costV]
    have h1 := runV_len id vs (if y.gone then p else runE id p (labsOf y.v ++ propsOf y.v))
    have h2 : (if y.gone then p else runE id p (labsOf y.v ++ propsOf y.v)).2.length ≤ p.2.length + (y.v.L.length + y.v.Q.length) := by
      split
      · omega
      · have := runE_len id (labsOf y.v ++ propsOf y.v) p
        simp only [List.length_append, labsOf, propsOf, List.length_map] at this
        exact this
    show (runV id (if y.gone then p else runE id p (labsOf y.v ++ propsOf y.v)) vs).2.length ≤ _
    omega
/-- the row of a cell, in later worlds -/
theorem celrow_frame {w w' : World} {T S : Nat → Prop} {x g : Nat} {L : List (Ver NodeV)} (hc : CellAt w T x L) (h : CelRow w x g L) (hf : Fr S w w') (hd : ∀ k, T k → ¬ S k) : CelRow w' x g L := by
  obtain ⟨v, g1, g2, g3⟩ := hc.ex
  obtain ⟨a, n, h1, h2, h3, h4⟩ := h.ex
  have e : v = .slice a L.length n := by
    rw [g1] at h1
    simpa using h1
  refine ⟨a, n, hf.keep h1 (hd x hc.root), hf.owns h2 (fun k hk => hd k (g3 k (by rw [e]; exact hk)).1), h3, h4⟩
theorem id_wf {k : Nat} (h : k < 1000) : (Lit.int .i64 ((k : Int) + 1)).wf = true := by
  simp [Lit.wf, IntKind.min, IntKind.max, IntKind.signed, IntKind.bits]
  omega
end Go.Proofs.YtibfpkfpmkghhaaGreatDoor

namespace Go.Lig
open Go.RowKit
theorem at_turn_free {ι : Type} {ρ : Nat → Option ι} {p q : ι} {T : Nat → Prop} (hq : q ≠ p) (hT : ∀ b, T b → At ρ p b ∨ ρ b = none) : At (turn ρ p T) q = At ρ q := by
  classical
  funext b
  unfold At turn
  refine propext ?_
  by_cases h1 : T b
  · rw [if_pos h1]
    constructor
    · intro e; exact absurd (Option.some.inj e).symm hq
    · intro e
      rcases hT b h1 with h2 | h2
      · rw [show ρ b = some p from h2] at e
        exact absurd (Option.some.inj e).symm hq
      · rw [h2] at e; cases e
  · rw [if_neg h1]
    by_cases h2 : ρ b = some p
    · rw [if_pos h2]
      constructor
      · intro e; cases e
      · intro e; rw [h2] at e; exact absurd (Option.some.inj e).symm hq
    · rw [if_neg h2]
theorem own_turn_free {ι : Type} {ρ : Nat → Option ι} {p : ι} {J : Nat → Prop} {b : Nat} (h : Own (turn ρ p (fun b => At ρ p b ∨ J b)) b) : Own ρ b ∨ J b := by
  classical
  unfold Own turn at h
  by_cases h1 : At ρ p b ∨ J b
  · rcases h1 with h1 | h1
    · exact .inl (at_own b h1)
    · exact .inr h1
  · rw [if_neg h1] at h
    by_cases h2 : ρ b = some p
    · rw [if_pos h2] at h; exact absurd rfl h
    · rw [if_neg h2] at h; exact .inl h
end Go.Lig
namespace Go.Proofs.YtibfpkfpmkghhaaGreatDoor
open Go.RowKit Go.Lig

/-- blocks that nobody has join those that are never written again -/
theorem StAt.addFree {w : World} {ρ : Nat → Option Pt} {s : Nat} {A : Ad} {M : PSt} {F : Nat} (h : StAt w ρ s A M F) {J : Nat → Prop} (hJ : ∀ b, J b → ρ b = none ∧ b < w.heap.size) : StAt w (turn ρ .imm (fun b => At ρ .imm b ∨ J b)) s A M F := by
  refine ⟨fun b hb => ?_, fun q => ?_⟩
  · rcases own_turn_free hb with h1 | h1
    · exact h.bound b h1
    · exact (hJ b h1).2
  · rw [at_turn_same]
    by_cases hq : q = .imm
    · subst hq; trivial
    · rw [at_turn_free hq (fun b hb => hb.imp (fun e => e) (fun e => (hJ b e).1))]
      exact (h.at_ q).mono (fun _ e => .inl e) (Nat.le_refl _)
/-- entries that may stand in an index -/
def OkI (y : IxR) : Prop := y.key.size ≤ maxLen ∧ ValOk y.x.v ∧ (Lit.int .i64 y.x.id).wf = true
theorem runE_ok {id : Int} (hid : (Lit.int .i64 id).wf = true) : ∀ (l : List (ByteArray × ValR)) (p : List (ByteArray × List EntR) × List IxR), (∀ y ∈ l, y.1.size ≤ maxLen ∧ ValOk y.2) → (∀ y ∈ p.2, OkI y) → ∀ y ∈ (runE id p l).2, OkI y
  | [], _, _, hp => hp
  | x :: l, p, hl, hp => by
    have h1 : ∀ y ∈ (stepE id p x).2, OkI y := by
      unfold stepE
      simp only []
      split
      · exact hp
      · intro y hy
        rcases List.mem_append.1 hy with h2 | h2
        · exact hp y h2
        · rw [List.mem_singleton.1 h2]
          have := hl x (List.mem_cons_self ..)
          exact ⟨this.1, this.2, hid⟩
    exact runE_ok hid l (stepE id p x) (fun y hy => hl y (List.mem_cons_of_mem _ hy)) h1
theorem runV_ok {id : Int} (hid : (Lit.int .i64 id).wf = true) : ∀ (vs : List (Ver NodeD)) (p : List (ByteArray × List EntR) × List IxR), (∀ y ∈ vs, (∀ s ∈ y.v.L, s.size ≤ maxLen) ∧ ∀ q ∈ y.v.Q, PropOk q) → (∀ y ∈ p.2, OkI y) → ∀ y ∈ (runV id p vs).2, OkI y
  | [], _, _, hp => hp
  | x :: vs, p, hl, hp => by
    have h1 : ∀ y ∈ (if x.gone then p else runE id p (labsOf x.v ++ propsOf x.v)).2, OkI y := by
      split
      · exact hp
      · refine runE_ok hid _ p (fun y hy => ?_) hp
        have hx := hl x (List.mem_cons_self ..)
        rcases List.mem_append.1 hy with h2 | h2
        · obtain ⟨s, hs, rfl⟩ := List.mem_map.1 h2
          exact ⟨Nat.zero_le _, labV_ok (hx.1 s hs)⟩
        · obtain ⟨q, hq, rfl⟩ := List.mem_map.1 h2
          exact ⟨(hx.2 q hq).key, (hx.2 q hq).v⟩
    exact runV_ok hid vs _ (fun y hy => hl y (List.mem_cons_of_mem _ hy)) h1
end Go.Proofs.YtibfpkfpmkghhaaGreatDoor
