/- A part of the proof: contracts of functions of the program, for the row's text. -/
import Derived.Test.YtibfpkfpmkghhaaGreatDoorJ47
import Derived.Test.YtibfpkfpmkghhaaGreatDoorJ28
import Derived.Test.YtibfpkfpmkghhaaGreatDoorJ33
import Derived.Test.YtibfpkfpmkghhaaGreatDoorJ34
namespace Go.Proofs.YtibfpkfpmkghhaaGreatDoor
open Go.RowKit Go.Lig

/-- the k-th act: where it lies -/
theorem acts_at {w : World} {v : Value} {l : List ActD} (h : ActsAt w v l) {k : Nat} {d : ActD} (hd : l[k]? = some d) :
    ∃ b o c a, v = .slice (some ⟨b, o, none⟩) l.length c ∧ ActIn w a d ∧ ∀ u, Fr No w u → ∀ j x, j < 9 → (actcell a)[j]? = some x → u.cell? ⟨b, o + k * 9 + j, none⟩ = some x := by
  obtain ⟨R, r1, r2, r3⟩ := h.ex
  have hk : k < R.length := by rw [r1]; exact (List.getElem?_eq_some_iff.1 hd).1
  have hR : R[k]? = some R[k] := List.getElem?_eq_getElem hk
  have g0 : ∀ t, t < 9 → (R.flatMap actcell)[k * 9 + t]? = (actcell R[k])[t]? := fun t ht => flat_get (f := actcell) (m := 9) (fun _ => rfl) _ _ _ hR t ht
  obtain ⟨b, o, c, e, -⟩ := r2.at1 (k := k * 9 + 0) (u := .int .i64 R[k].kind) (by rw [g0 0 (by decide)]; rfl)
  refine ⟨b, o, c, R[k], e, r3 k _ d hR hd, fun u hu j x hj hx => ?_⟩
  obtain ⟨b', o', c', e', hc⟩ := r2.at1 (k := k * 9 + j) (u := x) (by rw [g0 j hj]; exact hx)
  rw [e] at e'
  obtain ⟨h1, -, -⟩ := Value.slice.inj e'
  simp only [Option.some.injEq, Addr.mk.injEq, and_true] at h1
  obtain ⟨rfl, rfl⟩ := h1
  rw [Nat.add_assoc]
  exact hc u hu
theorem built_wa (la pa : Option Addr) (ln lc pn pc : Nat) (ef et : Int) (ey : ByteArray) (ew : Nat) : Tryz.prog.built 71 [(3, .agg #[.slice la ln lc, .slice pa pn pc]), (4, .agg #[.int .i64 ef, .int .i64 et, .string ey, .float .f64 ew])] = some #[.bool false, .int .i64 0, .bool false, .slice la ln lc, .slice pa pn pc, .int .i64 ef, .int .i64 et, .string ey, .float .f64 ew] := by kernel_rfl
theorem strlow {d : NodeD} (h : NodeLow d) : StrLow d.L.length d.Q.length (d.L.map Value.string) (d.Q.flatMap pcell) := by
  refine ⟨fun k s hk e => ?_, fun k s s' hk e e' => ?_⟩
  · rw [List.getElem?_map, List.getElem?_eq_getElem hk] at e
    obtain rfl : d.L[k] = s := by simpa using e
    have := h.ls _ (List.getElem_mem hk)
    unfold Go.reachBytes at this
    omega
  · have hq : d.Q[k]? = some d.Q[k] := List.getElem?_eq_getElem hk
    have g0 := flat_get (f := pcell) (m := 6) (fun _ => rfl) d.Q k d.Q[k] hq 0 (by decide)
    have g5 := flat_get (f := pcell) (m := 6) (fun _ => rfl) d.Q k d.Q[k] hq 5 (by decide)
    rw [Nat.add_zero, e] at g0
    rw [e'] at g5
    obtain rfl : s = d.Q[k].key := by simpa [pcell] using g0
    obtain rfl : s' = d.Q[k].v.t := by simpa [pcell] using g5
    have := h.ps _ (List.getElem_mem hk)
    unfold Go.reachBytes at this
    omega
def actSum (d : ActD) : Nat := d.n.L.length + d.n.Q.length + d.e.type.size
structure LongEnd (w : World) (l : List ActD) (e : Ending) (w' : World) : Prop where
  ex : ∃ b, e = .returned (.bool b) ∧ (b = false → ∀ (i : Nat) (d : ActD), i < 50 → l[i]? = some d → actSum d < 5000)
  fr : Fr No w w'
set_option maxRecDepth 100000 in
set_option maxHeartbeats 4000000 in
theorem long_any (w : World) (v : Value) (l : List ActD) (h : ActsAt w v l) : Calls Tryz.prog 16 #[v] w (LongEnd w l) := by
  obtain ⟨R, r1, r2, r3⟩ := id h.ex
  obtain ⟨a0, c0, rfl, -⟩ := rd_len r2
  have hlow : l.length ≤ 140737488355328 := Nat.le_trans h.low (by decide)
  clear r1 r2 r3 R
  have HA := hid h
  clear h
  go_enter Tryz.func16, Tryz.ntmps16
  go_wp2_with fail
  generalize hLn : l.length = n at *
  have HL := hid hLn
  clear hLn
  go_loopw [3, 4] (fun vx vi wr => ∃ (x : Int) (i : Nat), i ≤ n ∧ i ≤ 50 ∧ 0 ≤ x ∧ x ≤ 5000 * (i : Int) ∧ vx = .int .i64 x ∧ vi = .int .i64 (i : Int) ∧ Hid (Fr No w wr ∧ ∀ k d, k < i → l[k]? = some d → actSum d < 5000)) (fun _ vi _ => n - (intOf vi).toNat)
  case atStart => exact ⟨0, 0, Nat.zero_le _, Nat.zero_le _, Int.le_refl _, Int.le_refl _, rfl, rfl, Fr.refl _ _, fun k d hk => absurd hk (Nat.not_lt_zero _)⟩
  case round =>
    obtain ⟨x, i, hi, hi5, hx0, hx5, rfl, rfl, HF⟩ := hrel
    by_cases hlt : i < n
    · by_cases hl5 : i < 50
      · obtain ⟨d, hd⟩ : ∃ d, l[i]? = some d := ⟨l[i]'(by have := HL.out; omega), List.getElem?_eq_getElem _⟩
        obtain ⟨b, o, c, ⟨ak, at_, aid, ⟨⟨la, ln, lc⟩, ⟨pa, pn, pc⟩⟩, ⟨ef, et, ey, ew⟩⟩, e1, hin, hc⟩ := acts_at HA.out hd
        obtain ⟨rfl, -, rfl⟩ := Value.slice.inj e1
        have y3 := hc wr HF.out.1 3 _ (by decide) rfl
        have y4 := hc wr HF.out.1 4 _ (by decide) rfl
        have y5 := hc wr HF.out.1 5 _ (by decide) rfl
        have y6 := hc wr HF.out.1 6 _ (by decide) rfl
        have y7 := hc wr HF.out.1 7 _ (by decide) rfl
        have y8 := hc wr HF.out.1 8 _ (by decide) rfl
        dsimp only at y3 y4 y5 y6 y7 y8
        have HI := hid (⟨hin, hc⟩ : _ ∧ _)
        clear hin hc e1
        go_wp2_with fail
        have ha0 : AgC [b] wr.drew wr.drew := AgC.refl _ _
        have HB := hid (World.block_lt_of_cell? wr _ y3)
        refine wp_region_sched (by kernel_rfl) 13 [11, 12] [0, 1, 2, 3, 4, 5, 6, 7, 8, 9, 10, 11, 12] (AgC [b] wr.drew) (by kernel_rfl) (AgC.refl _ _) ?_
        simp only [List.map_cons, List.map_nil, List.contains_cons, List.contains_nil, nth_zero, nth_succ, Nat.reduceBEq, Bool.false_or, Bool.or_false, Bool.or_true, Bool.true_or]
        repeat (first | (refine sched_build rfl 71 [(3, .tmp 19), (4, .tmp 24)] rfl [(3, .agg #[.slice la ln lc, .slice pa pn pc]), (4, .agg #[.int .i64 ef, .int .i64 et, .string ey, .float .f64 ew])] rfl _ (built_wa ..) ?_) | (refine sched_quiet (fun K hK => ?_); go_simp; refine hK _ ?_; clear hK K))
        refine sched_loud (wpList_buildSlice1 rfl 68 71 (.tmp 25) rfl _ 9 112 Tryz.underlying68 infoWr (by decide) (by decide) (.agg #[.bool false, .int .i64 0, .bool false, .slice la ln lc, .slice pa pn pc, .int .i64 ef, .int .i64 et, .string ey, .float .f64 ew]) rfl rfl ?_)
        intro w6 p6
        have hL6 : ∀ j ∈ [b], j < wr.drew.heap.size ∧ ¬ No j := fun j hj => by rw [List.mem_singleton.1 hj]; exact ⟨HB.out, id⟩
        have f06 : Fr No wr w6 := (Fr.refl No wr).drew.thenNo p6.fr
        refine sched_on (ha0.fr p6.fr hL6) ?_
        have hnl : StrLow d.n.L.length d.n.Q.length (d.n.L.map Value.string) (d.n.Q.flatMap pcell) := strlow HI.out.1.low
        have hnn := HI.out.1.n.frame (HF.out.1.thenNo f06)
        have HW := hid (wide_low w6 wr.drew.heap.size _ _ _ _ _ _ (NodeOf.rdW hnn) hnl (by have := HI.out.1.low.l; unfold Go.reachBytes at this; omega) (by have := HI.out.1.low.p; unfold Go.reachBytes at this; omega) ef et ey ew (by have := HI.out.1.elow.type; rw [← HI.out.1.e] at this; unfold Go.reachBytes at this; dsimp only at this; omega) p6.at_)
        have HP := hid (⟨p6.fr, f06⟩ : _ ∧ _)
        clear p6 f06 hnl hnn
        refine sched_hide (fun K hK => ?_); go_simp; refine hK _ ?_; clear hK K
        refine sched_call (by first | rfl | go_simp) 54 #[.slice (some ⟨wr.drew.heap.size, 0, none⟩) 1 1] (by first | kernel_rfl | go_simp) HW.out ?_
        rintro e w7 ⟨⟨bw, rfl, hbw⟩, f7⟩
        refine ⟨_, rfl, (ha0.fr HP.out.1 hL6).fr f7 hL6, ?_⟩
        refine sched_hide (fun K hK => ?_); go_simp; refine hK _ ?_; clear hK K
        refine sched_nil ?_
        have hf7 : Fr No w w7 := HF.out.1.thenNo (HP.out.2.thenNo f7)
        have HF7 := hid (⟨hf7, hbw⟩ : _ ∧ _)
        have z3 := HI.out.2 w7 hf7 3 _ (by decide) rfl
        have z4 := HI.out.2 w7 hf7 4 _ (by decide) rfl
        dsimp only at z3 z4
        clear hf7 hbw f7 hL6 ha0 y3 y4 y5 y6 y7 y8
        have hs1 := HI.out.1.n.l
        have hs2 := HI.out.1.n.p
        dsimp only at hs1 hs2
        obtain ⟨_, _, k1, -⟩ := rd_len hs1
        obtain ⟨-, k2, -⟩ := Value.slice.inj k1
        obtain ⟨_, _, k3, -⟩ := rd_len hs2
        obtain ⟨-, k4, -⟩ := Value.slice.inj k3
        clear hs1 hs2 k1 k3
        have HK := hid (show actSum d = ln + pn + ey.size by unfold actSum; rw [← k2, ← k4, ← HI.out.1.e])
        have HK2 := hid (show d.n.L.length + d.n.Q.length + ey.size = ln + pn + ey.size by rw [← k2, ← k4])
        clear k2 k4
        cases bw with
        | true =>
          go_wp2_with fail
          go_ret
          exact ⟨⟨_, rfl, fun h => (by cases h)⟩, HF7.out.1⟩
        | false =>
          have hb5 := HF7.out.2 rfl
          rw [HK2.out] at hb5
          go_wp2_with fail
          go_quiet (fail)
          go_wp2_with fail
          go_roundw
          case rel => exact ⟨x + (ln : Int) + (pn : Int), i + 1, by omega, by omega, by omega, by omega, by go_num, by go_num, HF7.out.1.drewN _, fun k d' hk hd' => by
            rcases Nat.lt_succ_iff_lt_or_eq.1 hk with h | rfl
            · exact HF.out.2 k d' h hd'
            · obtain rfl : d = d' := Option.some.inj (hd.symm.trans hd')
              rw [HK.out]
              exact hb5⟩
          case measure => simp [intOf]; omega
      · obtain rfl : i = 50 := by omega
        by_cases hx1 : (1000 : Int) < x
        · go_wp2_with fail
          go_ret
          exact ⟨⟨_, rfl, fun h => (by cases h)⟩, HF.out.1⟩
        · go_wp2_with fail
          go_ret
          exact ⟨⟨_, rfl, fun _ k d hk hd => HF.out.2 k d (by have := (List.getElem?_eq_some_iff.1 hd).1; have := HL.out; omega) hd⟩, HF.out.1⟩
    · obtain rfl : i = n := by omega
      by_cases hx1 : (1000 : Int) < x
      · go_wp2_with fail
        go_ret
        exact ⟨⟨_, rfl, fun h => (by cases h)⟩, HF.out.1⟩
      · go_wp2_with fail
        go_ret
        exact ⟨⟨_, rfl, fun _ k d hk hd => HF.out.2 k d (by have := (List.getElem?_eq_some_iff.1 hd).1; have := HL.out; omega) hd⟩, HF.out.1⟩
end Go.Proofs.YtibfpkfpmkghhaaGreatDoor

namespace Go.Proofs.YtibfpkfpmkghhaaGreatDoor
open Go.RowKit Go.Lig

theorem actP_len (p : PF) (d : ActD) : (actP p d).1.K.l.length ≤ p.1.K.l.length + 1 := by
  have ab : ∀ (q : PF) (t : Int), (exAbort q t).1.K.l.length = q.1.K.l.length := fun q t => by
    have := congrArg VS.K (exAbort_vs q t)
    have e : (exAbort q t).1.K = q.1.K.abort t := this
    rw [e, len_abort]
  have to : ∀ (t : Int) (l : List Int) (q : PF), (exTouch t q l).1.K = q.1.K := fun t l q => by
    have e : ∀ (l : List Int) (v : VS), (vTouch t v l).K = v.K := fun l => by
      induction l with
      | nil => intro v; rfl
      | cons x l ih =>
        intro v
        show (vTouch t (vTouch1 t v x) l).K = v.K
        rw [ih]
        unfold vTouch1
        split <;> rfl
    exact (congrArg VS.K (exTouch_vs t l q)).trans (e l q.1.vs)
  unfold actP
  split
  · unfold opBegin; split
    · show (p.1.K.begins).l.length ≤ _; simp [Ck.begins]
    · exact Nat.le_succ _
  split
  · unfold opCommit; split
    · show (p.1.K.commit d.t).l.length ≤ _; rw [len_commit]; exact Nat.le_succ _
    · exact Nat.le_succ _
  split
  · unfold opAbort; split
    · show (exAbort p d.t).1.K.l.length ≤ _; rw [ab]; exact Nat.le_succ _
    · exact Nat.le_succ _
  split
  · unfold opAddNode; repeat (first | exact Nat.le_succ _ | split)
  split
  · unfold opSetNode; repeat (first | exact Nat.le_succ _ | (show (exAbort p d.t).1.K.l.length ≤ _; rw [ab]; exact Nat.le_succ _) | split)
  split
  · unfold opDropNode; repeat (first | exact Nat.le_succ _ | (show (exAbort p d.t).1.K.l.length ≤ _; rw [ab]; exact Nat.le_succ _) | split)
  split
  · unfold opAddEdge
    have e1 : ∀ k, (tieM (growE (exTouch d.t p [d.e.from_, d.e.to_]).1) d.t k d.e false).K = p.1.K := fun k => by
      have : (tieM (growE (exTouch d.t p [d.e.from_, d.e.to_]).1) d.t k d.e false).K = (exTouch d.t p [d.e.from_, d.e.to_]).1.K := linkM_K _ _
      rw [this, to]
    repeat (first | exact Nat.le_succ _ | (show (exAbort p d.t).1.K.l.length ≤ _; rw [ab]; exact Nat.le_succ _) | (show (tieM _ _ _ _ false).K.l.length ≤ _; rw [e1]; exact Nat.le_succ _) | split)
  split
  · unfold opDropEdge
    have e1 : ∀ k (l : List Int), (exTouch d.t (tieM p.1 d.t k EdgeV.none true, p.2 + 3) l).1.K = p.1.K := fun k l => by
      rw [to]
      exact linkM_K _ _
    repeat (first | exact Nat.le_succ _ | (show (exAbort p d.t).1.K.l.length ≤ _; rw [ab]; exact Nat.le_succ _) | (show (exTouch d.t _ _).1.K.l.length ≤ _; rw [e1]; exact Nat.le_succ _) | split)
  · unfold opVac
    have e1 : ∀ j, (linkM (swE p.1 j) j).K = p.1.K := fun j => linkM_K _ _
    split
    · exact Nat.le_succ _
    · split
      · show (linkM (swE p.1 _) _).K.l.length ≤ _; rw [e1]; exact Nat.le_succ _
      · exact Nat.le_succ _
theorem actsP_len (l : List ActD) : ∀ i, (actsP l i).1.K.l.length ≤ i
  | 0 => Nat.le_refl _
  | i + 1 => by
    have ih := actsP_len l i
    by_cases hl : i < l.length
    · rw [actsP_succ (List.getElem?_eq_getElem hl)]
      have := actP_len (actsP l i) l[i]
      omega
    · have e : actsP l (i + 1) = actsP l i := by unfold actsP; rw [List.take_of_length_le (by omega), List.take_of_length_le (by omega)]
      rw [e]
      omega
/-- all edges that t reads have both ends -/
theorem GOk.edge_ends {p : PF} {a b c : Nat} (h : GOk p a b c) {t id : Int} (hm : id ∈ gEdges p.1 t) : ∃ v, gEdge p.1 t id = some v ∧ (gNode p.1 t v.from_).isSome = true ∧ (gNode p.1 t v.to_).isSome = true := by
  unfold gEdges at hm
  split at hm
  · rename_i hl
    unfold edsTo at hm
    obtain ⟨k, hk, rfl⟩ := List.mem_map.1 hm
    have hr := (List.mem_filter.1 hk).2
    obtain ⟨v, hv⟩ := Option.isSome_iff_exists.1 hr
    have hv' : p.1.vs.rdE t ((k : Int) + 1) = some v := by rw [← readE_vs]; exact hv
    refine ⟨v, by unfold gEdge; rw [if_pos hl]; exact hv, ?_, ?_⟩
    · unfold gNode; rw [if_pos hl, readN_vs]; exact h.vj.j2 t hl _ v hv' _ (.inl rfl)
    · unfold gNode; rw [if_pos hl, readN_vs]; exact h.vj.j2 t hl _ v hv' _ (.inr rfl)
  · cases hm
theorem gEdges_len (p : PF) {a b c : Nat} (h : GOk p a b c) (t : Int) : (gEdges p.1 t).length ≤ 32 := by
  unfold gEdges
  split
  · unfold edsTo
    rw [List.length_map]
    have h1 := List.length_filter_le (fun (k : Nat) => (readE p.1 t ((k : Int) + 1)).isSome) (List.range p.1.E.length)
    have h2 := h.rm.e32
    rw [List.length_range] at h1
    omega
  · simp
set_option maxRecDepth 100000 in
set_option maxHeartbeats 8000000 in
theorem joined_any (w : World) (v : Value) (l : List ActD) (h : ActsAt w v l) : Calls Tryz.prog 4 #[v] w fun e w' => e = .returned (.bool true) ∧ Fr No w w' := by
  have HLong := hid (long_any w v l h)
  obtain ⟨R, r1, r2, r3⟩ := id h.ex
  obtain ⟨a0, c0, rfl, -⟩ := rd_len r2
  have hlow : l.length ≤ 140737488355328 := Nat.le_trans h.low (by decide)
  clear r1 r2 r3 R
  have HA := hid h
  clear h
  obtain ⟨m, hm⟩ : ∃ m, l.length = m := ⟨_, rfl⟩
  rw [hm] at hlow HLong ⊢
  have HM := hid hm
  clear hm
  go_enter Tryz.func4, Tryz.ntmps4
  go_wp2_with fail
  refine HLong.out.mono ?_
  rintro e w1 ⟨⟨bl, rfl, hbl⟩, f1⟩
  have H1 := hid (⟨f1, hbl⟩ : _ ∧ _)
  clear f1 hbl
  cases bl with
  | true =>
    go_wp2_with fail
    go_ret
    exact ⟨rfl, H1.out.1⟩
  | false =>
    have HSum := hid (H1.out.2 rfl)
    go_wp2_with fail
    refine (x_new _).mono ?_
    rintro e w2 ⟨s, rfl, h2⟩
    have H2 := hid ((show OwS w w2 s (emptyM, 0) from OwS.ahead h2 H1.out.1))
    clear h2
    go_wp2_with fail
    go_loopw [4, 5] (fun vn vi wr => ∃ n i : Nat, i ≤ m ∧ i ≤ 50 ∧ n ≤ i ∧ vn = .int .i64 (n : Int) ∧ vi = .int .i64 (i : Int) ∧ Hid (OwS w wr s (actsP l i))) (fun _ vi _ => m - (intOf vi).toNat)
    case atStart => exact ⟨0, 0, Nat.zero_le _, Nat.zero_le _, Nat.le_refl _, rfl, rfl, H2.out⟩
    case round =>
      obtain ⟨n, i, hi, hi5, hni, rfl, rfl, HO⟩ := hrel
      have HG := hid (GOk.acts l i hi5)
      have hFp : Hid ((actsP l i).2 < 1000000) := hid (by have := HG.out.rm.F; omega)
      by_cases hlt : i < m
      · by_cases hl5 : i < 50
        · obtain ⟨d, hd⟩ : ∃ d, l[i]? = some d := ⟨l[i]'(by have := HM.out; omega), List.getElem?_eq_getElem _⟩
          obtain ⟨b, o, c, ⟨ak, at_, aid, ⟨⟨la, ln, lc⟩, ⟨pa, pn, pc⟩⟩, ⟨ef, et, ey, ew⟩⟩, e1, hin, hc⟩ := acts_at HA.out hd
          obtain ⟨rfl, -, rfl⟩ := Value.slice.inj e1
          have y0 := hc wr HO.out.fr 0 _ (by decide) rfl
          have y1 := hc wr HO.out.fr 1 _ (by decide) rfl
          have y2 := hc wr HO.out.fr 2 _ (by decide) rfl
          have y3 := hc wr HO.out.fr 3 _ (by decide) rfl
          have y4 := hc wr HO.out.fr 4 _ (by decide) rfl
          have y5 := hc wr HO.out.fr 5 _ (by decide) rfl
          have y6 := hc wr HO.out.fr 6 _ (by decide) rfl
          have y7 := hc wr HO.out.fr 7 _ (by decide) rfl
          have y8 := hc wr HO.out.fr 8 _ (by decide) rfl
          rw [Nat.add_zero] at y0
          dsimp only at y0 y1 y2 y3 y4 y5 y6 y7 y8
          have hsum := HSum.out i d hl5 hd
          have hkd : ak = d.kind := hin.kind
          have htd : at_ = d.t := hin.t
          have hid' : aid = d.id := hin.id
          have hed : (⟨ef, et, ey, ew⟩ : EdgeV) = d.e := hin.e
          have hnd : NodeOf w (.slice la ln lc) (.slice pa pn pc) d.n := hin.n
          have hfew : d.n.L.length ≤ 1000000 ∧ d.n.Q.length ≤ 1000000 := by unfold actSum at hsum; omega
          have HAN := hid (show ∀ u, Fr No w u → ArgN No w wr u la ln lc pa pn pc d.n from fun u hu => ⟨hnd.frame hu, hfew, fun k hk ne => .inl ⟨rd_block hnd.l hk (by simpa using ne), id⟩, fun k hk ne => .inl ⟨rd_block hnd.p hk (fun q => ne (by
            cases hq : d.n.Q with
            | nil => rfl
            | cons x y => rw [hq] at q; simp [pcell] at q)), id⟩⟩)
          have HIS := hid (show ∀ u, Fr No w u → ∀ u', Fr No u u' → Calls Tryz.prog 44 #[.agg #[.slice la ln lc, .slice pa pn pc]] u' fun e w' => e = .returned (.bool (isNodeB d.n)) ∧ Fr No u' w' from fun u hu u' hu' => isnode_any u' la pa ln lc pn pc d.n (hnd.frame (hu.thenNo hu')) hfew.1 hfew.2)
          have HIE := hid (show ∀ u', Calls Tryz.prog 63 #[.agg #[.int .i64 ef, .int .i64 et, .string ey, .float .f64 ew]] u' fun e w' => e = .returned (.bool (isEdgeB d.e)) ∧ Fr No u' w' from fun u' => by
            have := isedge_any u' d.e (Nat.le_trans hin.elow.type (by decide))
            rw [← hed] at this ⊢
            exact this)
          subst htd hid'
          clear hin hc e1 hnd hfew hsum
          by_cases k1 : ak = 1
          ·
            have HS : Hid (actsP l (i + 1) = (opBegin (actsP l i)).2) := hid (by rw [actsP_succ hd]; unfold actP; simp [← hkd, k1])
            clear hd hkd hed
            subst k1
            have HB := hid (x_begin HO.out hFp.out)
            have hlen := actsP_len l i
            clear y1 y2 y3 y4 y5 y6 y7 y8
            by_cases hb : (actsP l i).1.K.count < 4
            · have e1 : opBegin (actsP l i) = (((((actsP l i).1.K.l.length + 1 : Nat) : Int), 0), (opBegin (actsP l i)).2) := by unfold opBegin; rw [if_pos hb]
              rw [e1] at HB
              dsimp only at HB
              obtain ⟨q, hq⟩ : ∃ q, (actsP l i).1.K.l.length + 1 = q := ⟨_, rfl⟩
              rw [hq] at HB
              have hqi : q ≤ i + 1 := by omega
              clear e1 hb hlen hq
              go_wp2_with (go_at_call 10; refine HB.out.mono ?_; rintro e w3 ⟨rfl, h3⟩; have H3 := hid h3; clear h3)
              go_roundw
              case rel => exact ⟨q, i + 1, by omega, by omega, by omega, by first | rfl | go_num, by go_num, by rw [HS.out]; exact H3.out⟩
              case measure => simp [intOf]; omega
            · have e1 : opBegin (actsP l i) = ((0, 3), (opBegin (actsP l i)).2) := by unfold opBegin; rw [if_neg hb]
              rw [e1] at HB
              dsimp only at HB
              clear e1 hb hlen
              go_wp2_with (go_at_call 10; refine HB.out.mono ?_; rintro e w3 ⟨rfl, h3⟩; have H3 := hid h3; clear h3)
              go_roundw
              case rel => exact ⟨n, i + 1, by omega, by omega, by omega, by first | rfl | go_num, by go_num, by rw [HS.out]; exact H3.out⟩
              case measure => simp [intOf]; omega
          have q1 : ((ak : Int) == 1) = false := by rw [beq_eq_false_iff_ne]; exact k1
          by_cases k2 : ak = 2
          ·
            have HS : Hid (actsP l (i + 1) = (opCommit (actsP l i) d.t).2) := hid (by rw [actsP_succ hd]; unfold actP; simp [← hkd, k2])
            clear hd hkd hed k1 q1
            subst k2
            have HB := hid (x_commit HO.out d.t hFp.out)
            clear y2 y3 y4 y5 y6 y7 y8
            go_wp2_with (go_at_call 12; refine HB.out.mono ?_; rintro e w3 ⟨rfl, h3⟩; have H3 := hid h3; clear h3)
            go_roundw
            case rel => exact ⟨n, i + 1, by omega, by omega, by omega, by first | rfl | go_num, by go_num, by rw [HS.out]; exact H3.out⟩
            case measure => simp [intOf]; omega
          have q2 : ((ak : Int) == 2) = false := by rw [beq_eq_false_iff_ne]; exact k2
          by_cases k3 : ak = 3
          ·
            have HS : Hid (actsP l (i + 1) = (opAbort (actsP l i) d.t).2) := hid (by rw [actsP_succ hd]; unfold actP; simp [← hkd, k3])
            clear hd hkd hed k1 q1 k2 q2
            subst k3
            have HB := hid (x_abort HO.out d.t (HG.out.opAbort (by omega) (by omega) d.t).1)
            clear y2 y3 y4 y5 y6 y7 y8
            go_wp2_with (go_at_call 18; refine HB.out.mono ?_; rintro e w3 ⟨rfl, h3⟩; have H3 := hid h3; clear h3)
            go_roundw
            case rel => exact ⟨n, i + 1, by omega, by omega, by omega, by first | rfl | go_num, by go_num, by rw [HS.out]; exact H3.out⟩
            case measure => simp [intOf]; omega
          have q3 : ((ak : Int) == 3) = false := by rw [beq_eq_false_iff_ne]; exact k3
          have HBL := hid (World.block_lt_of_cell? wr _ y0)
          by_cases k4 : ak = 4
          ·
            have HS : Hid (actsP l (i + 1) = (opAddNode (actsP l i) d.t (isNodeB d.n) d.n).2) := hid (by rw [actsP_succ hd]; unfold actP; simp [← hkd, k4])
            clear hd hkd hed k1 q1 k2 q2 k3 q3
            subst k4
            have HB := hid (x_addnode (t := d.t) HO.out ((Fr.refl No wr).drew) (HAN.out wr.drew HO.out.fr.drew) (b := isNodeB d.n) (HIS.out wr.drew HO.out.fr.drew) hFp.out (HG.out.opAddNode (by omega) (by omega) d.t node_small).1)
            clear y2 y5 y6 y7 y8
            go_wp2_with fail
            refine wp_region_sched (by kernel_rfl) 11 [11] [0, 1, 2, 3, 4, 5, 6, 7, 8, 9, 10, 11] (AgC [b] wr.drew) (by kernel_rfl) (AgC.refl _ _) ?_
            simp only [List.map_cons, List.map_nil, List.contains_cons, List.contains_nil, nth_zero, nth_succ, Nat.reduceBEq, Bool.false_or, Bool.or_false, Bool.or_true, Bool.true_or]
            repeat (refine sched_quiet (fun K hK => ?_); go_simp; refine hK _ ?_; clear hK K)
            refine sched_callL (by first | rfl | go_simp) 19 #[.pointer (some ⟨s, 0, none⟩), .int .i64 d.t, .agg #[.slice la ln lc, .slice pa pn pc]] (by first | rfl | go_simp) HB.out ?_
            rintro e w3 ⟨rfl, h3⟩
            have H3 := hid h3
            clear h3
            refine ⟨_, rfl, ?_⟩
            refine sched_nil ?_
            go_wp2_with fail
            go_roundw
            case rel => exact ⟨n, i + 1, by omega, by omega, by omega, by first | rfl | go_num, by go_num, by rw [HS.out]; exact H3.out⟩
            case measure => simp [intOf]; omega
          have q4 : ((ak : Int) == 4) = false := by rw [beq_eq_false_iff_ne]; exact k4
          by_cases k5 : ak = 5
          ·
            have HS : Hid (actsP l (i + 1) = (opSetNode (actsP l i) d.t d.id (isNodeB d.n) d.n).2) := hid (by rw [actsP_succ hd]; unfold actP; simp [← hkd, k5])
            clear hd hkd hed k1 q1 k2 q2 k3 q3 k4 q4
            subst k5
            have HB := hid (x_setnode (HO.out.next (Fr.refl No wr).drew) d.t d.id (HAN.out wr.drew HO.out.fr.drew) (b := isNodeB d.n) (HIS.out wr.drew HO.out.fr.drew) hFp.out (HG.out.opSetNode (by omega) (by omega) d.t d.id node_small).1)
            clear y5 y6 y7 y8
            go_wp2_with fail
            refine wp_region_sched (by kernel_rfl) 16 [16] [0, 1, 2, 3, 4, 5, 6, 7, 8, 9, 10, 11, 12, 13, 14, 15, 16] (AgC [b] wr.drew) (by kernel_rfl) (AgC.refl _ _) ?_
            simp only [List.map_cons, List.map_nil, List.contains_cons, List.contains_nil, nth_zero, nth_succ, Nat.reduceBEq, Bool.false_or, Bool.or_false, Bool.or_true, Bool.true_or]
            repeat (refine sched_quiet (fun K hK => ?_); go_simp; refine hK _ ?_; clear hK K)
            refine sched_callL (by first | rfl | go_simp) 11 #[.pointer (some ⟨s, 0, none⟩), .int .i64 d.t, .int .i64 d.id, .agg #[.slice la ln lc, .slice pa pn pc]] (by first | rfl | go_simp) HB.out ?_
            rintro e w3 ⟨rfl, h3⟩
            have H3 := hid h3
            clear h3
            refine ⟨_, rfl, ?_⟩
            refine sched_nil ?_
            go_wp2_with fail
            go_roundw
            case rel => exact ⟨n, i + 1, by omega, by omega, by omega, by first | rfl | go_num, by go_num, by rw [HS.out]; exact H3.out⟩
            case measure => simp [intOf]; omega
          have q5 : ((ak : Int) == 5) = false := by rw [beq_eq_false_iff_ne]; exact k5
          by_cases k6 : ak = 6
          ·
            have HS : Hid (actsP l (i + 1) = (opDropNode (actsP l i) d.t d.id).2) := hid (by rw [actsP_succ hd]; unfold actP; simp [← hkd, k6])
            clear hd hkd hed k1 q1 k2 q2 k3 q3 k4 q4 k5 q5
            subst k6
            have HB := hid (x_dropnode (HO.out.next (Fr.refl No wr).drew) d.t d.id hFp.out (HG.out.opDropNode (by omega) (by omega) d.t d.id).1)
            clear y3 y4 y5 y6 y7 y8
            go_wp2_with fail
            refine wp_region_sched (by kernel_rfl) 11 [11] [0, 1, 2, 3, 4, 5, 6, 7, 8, 9, 10, 11] (AgC [b] wr.drew) (by kernel_rfl) (AgC.refl _ _) ?_
            simp only [List.map_cons, List.map_nil, List.contains_cons, List.contains_nil, nth_zero, nth_succ, Nat.reduceBEq, Bool.false_or, Bool.or_false, Bool.or_true, Bool.true_or]
            repeat (refine sched_quiet (fun K hK => ?_); go_simp; refine hK _ ?_; clear hK K)
            refine sched_callL (by first | rfl | go_simp) 20 #[.pointer (some ⟨s, 0, none⟩), .int .i64 d.t, .int .i64 d.id] (by first | rfl | go_simp) HB.out ?_
            rintro e w3 ⟨rfl, h3⟩
            have H3 := hid h3
            clear h3
            refine ⟨_, rfl, ?_⟩
            refine sched_nil ?_
            go_wp2_with fail
            go_roundw
            case rel => exact ⟨n, i + 1, by omega, by omega, by omega, by first | rfl | go_num, by go_num, by rw [HS.out]; exact H3.out⟩
            case measure => simp [intOf]; omega
          have q6 : ((ak : Int) == 6) = false := by rw [beq_eq_false_iff_ne]; exact k6
          by_cases k7 : ak = 7
          ·
            have HS : Hid (actsP l (i + 1) = (opAddEdge (actsP l i) d.t (isEdgeB d.e) d.e).2) := hid (by rw [actsP_succ hd]; unfold actP; simp [← hkd, k7])
            clear hd hkd k1 q1 k2 q2 k3 q3 k4 q4 k5 q5 k6 q6
            subst k7
            have HB := hid (x_addedge (HO.out.next (Fr.refl No wr).drew) d.t d.e (b := isEdgeB d.e) (fun u _ => by have q := HIE.out u; rw [← hed] at q ⊢; exact q) (HG.out.opAddEdge (by omega) (by omega) d.t).1)
            have HB2 : Hid (Calls Tryz.prog 21 #[.pointer (some ⟨s, 0, none⟩), .int .i64 d.t, .agg #[.int .i64 ef, .int .i64 et, .string ey, .float .f64 ew]] wr.drew fun e w' => (∃ v, e = .returned v) ∧ OwS w w' s (opAddEdge (actsP l i) d.t (isEdgeB d.e) d.e).2) := hid (by
              have e2 := HB.out
              have g1 : d.e.from_ = ef := by rw [← hed]
              have g2 : d.e.to_ = et := by rw [← hed]
              have g3 : d.e.type = ey := by rw [← hed]
              have g4 : d.e.w = ew := by rw [← hed]
              rw [g1, g2, g3, g4] at e2
              exact e2.mono (fun e w' q => ⟨⟨_, q.1⟩, q.2⟩))
            clear y2 y3 y4 HB hed
            go_wp2_with fail
            refine wp_region_sched (by kernel_rfl) 11 [11] [0, 1, 2, 3, 4, 5, 6, 7, 8, 9, 10, 11] (AgC [b] wr.drew) (by kernel_rfl) (AgC.refl _ _) ?_
            simp only [List.map_cons, List.map_nil, List.contains_cons, List.contains_nil, nth_zero, nth_succ, Nat.reduceBEq, Bool.false_or, Bool.or_false, Bool.or_true, Bool.true_or]
            repeat (refine sched_quiet (fun K hK => ?_); go_simp; refine hK _ ?_; clear hK K)
            refine sched_callL (by first | rfl | go_simp) 21 #[.pointer (some ⟨s, 0, none⟩), .int .i64 d.t, .agg #[.int .i64 ef, .int .i64 et, .string ey, .float .f64 ew]] (by first | rfl | go_simp) HB2.out ?_
            rintro e w3 ⟨⟨v3, rfl⟩, h3⟩
            have H3 := hid h3
            clear h3
            refine ⟨_, rfl, ?_⟩
            refine sched_nil ?_
            go_wp2_with fail
            go_roundw
            case rel => exact ⟨n, i + 1, by omega, by omega, by omega, by first | rfl | go_num, by go_num, by rw [HS.out]; exact H3.out⟩
            case measure => simp [intOf]; omega
          have q7 : ((ak : Int) == 7) = false := by rw [beq_eq_false_iff_ne]; exact k7
          by_cases k8 : ak = 8
          ·
            have HS : Hid (actsP l (i + 1) = (opDropEdge (actsP l i) d.t d.id).2) := hid (by rw [actsP_succ hd]; unfold actP; simp [← hkd, k8])
            clear hd hkd hed k1 q1 k2 q2 k3 q3 k4 q4 k5 q5 k6 q6 k7 q7
            subst k8
            have HB := hid (x_dropedge (HO.out.next (Fr.refl No wr).drew) d.t d.id (HG.out.opDropEdge (by omega) (by omega) d.t d.id).1)
            clear y3 y4 y5 y6 y7 y8
            go_wp2_with fail
            refine wp_region_sched (by kernel_rfl) 11 [11] [0, 1, 2, 3, 4, 5, 6, 7, 8, 9, 10, 11] (AgC [b] wr.drew) (by kernel_rfl) (AgC.refl _ _) ?_
            simp only [List.map_cons, List.map_nil, List.contains_cons, List.contains_nil, nth_zero, nth_succ, Nat.reduceBEq, Bool.false_or, Bool.or_false, Bool.or_true, Bool.true_or]
            repeat (refine sched_quiet (fun K hK => ?_); go_simp; refine hK _ ?_; clear hK K)
            refine sched_callL (by first | rfl | go_simp) 22 #[.pointer (some ⟨s, 0, none⟩), .int .i64 d.t, .int .i64 d.id] (by first | rfl | go_simp) HB.out ?_
            rintro e w3 ⟨rfl, h3⟩
            have H3 := hid h3
            clear h3
            refine ⟨_, rfl, ?_⟩
            refine sched_nil ?_
            go_wp2_with fail
            go_roundw
            case rel => exact ⟨n, i + 1, by omega, by omega, by omega, by first | rfl | go_num, by go_num, by rw [HS.out]; exact H3.out⟩
            case measure => simp [intOf]; omega
          have q8 : ((ak : Int) == 8) = false := by rw [beq_eq_false_iff_ne]; exact k8
          have HS : Hid (actsP l (i + 1) = (opVac (actsP l i)).2) := hid (by rw [actsP_succ hd]; unfold actP; simp [← hkd, k1, k2, k3, k4, k5, k6, k7, k8])
          clear hd hkd hed k1 k2 k3 k4 k5 k6 k7 k8
          have HB := hid (x_vacuum HO.out (HG.out.opVac (by omega) (by omega)).1)
          clear y1 y2 y3 y4 y5 y6 y7 y8
          go_wp2_with (go_at_call 23; refine HB.out.mono ?_; rintro e w3 ⟨rfl, h3⟩; have H3 := hid h3; clear h3)
          go_roundw
          case rel => exact ⟨n, i + 1, by omega, by omega, by omega, by first | rfl | go_num, by go_num, by rw [HS.out]; exact H3.out⟩
          case measure => simp [intOf]; omega
        · obtain rfl : i = 50 := by omega
          have hn200 : ¬ (200 : Int) < (n : Int) := by omega
          generalize actsP l _ = p at *
          go_wp2_with fail
          go_loopw [8] (fun vt w4 => ∃ t : Nat, 1 ≤ t ∧ t ≤ n + 1 ∧ vt = .int .i64 (t : Int) ∧ Hid (OwS w w4 s p)) (fun vt _ => n + 1 - (intOf vt).toNat)
          case atStart => exact ⟨1, Nat.le_refl _, by omega, rfl, HO.out⟩
          case round =>
            obtain ⟨t, ht1, htn, rfl, HP⟩ := hrel
            by_cases htl : t ≤ n
            · have HE := hid (x_edges HP.out (t : Int))
              have HL32 := hid (gEdges_len p HG.out (t : Int))
              have HEE := hid (fun id hm => HG.out.edge_ends (t := (t : Int)) (id := id) hm)
              obtain ⟨el, hel⟩ : ∃ el, gEdges p.1 (t : Int) = el := ⟨_, rfl⟩
              rw [hel] at HE HL32 HEE
              clear hel
              obtain ⟨z, hz⟩ : ∃ z, el.length = z := ⟨_, rfl⟩
              have HZ := hid hz
              have h32 : z ≤ 32 := by have := HL32.out; omega
              have h32' : ¬ (32 : Int) < (z : Int) := by omega
              go_wp2_with (go_at_call 24; refine HE.out.mono ?_; rintro e w5 ⟨v5, rfl, o5, h5⟩; obtain ⟨a5, c5, rfl⟩ := ownsRow_slice o5.row; rw [hz] at o5; have H5 := hid (⟨o5, h5⟩ : _ ∧ _); clear o5 h5)
              go_loopw [10] (fun vj w6 => ∃ j : Nat, j ≤ z ∧ vj = .int .i64 (j : Int) ∧ Hid (Fr No w5 w6 ∧ OwS w w6 s p)) (fun vj _ => z - (intOf vj).toNat)
              case atStart => exact ⟨0, Nat.zero_le _, rfl, Fr.refl _ _, H5.out.2⟩
              case round =>
                obtain ⟨j, hj, rfl, HJ⟩ := hrel
                by_cases hjz : j < z
                · obtain ⟨id, hid0⟩ : ∃ id, el[j]? = some id := ⟨el[j]'(by have := HZ.out; omega), List.getElem?_eq_getElem _⟩
                  have hrow := fd_owns H5.out.1.row HJ.out.1
                  rw [HZ.out] at hrow
                  obtain ⟨g5, cur5, rfl, -, -⟩ := owns_at hrow (by omega)
                  have ce : wr.cell? ⟨g5, j, none⟩ = some (.int .i64 id) := owns_cell hrow rfl (by rw [List.getElem?_map, hid0]; rfl)
                  obtain ⟨ev, hev, hs1, hs2⟩ := HEE.out id (List.mem_of_getElem? hid0)
                  have HEd := hid (x_edge HJ.out.2 (t : Int) id)
                  rw [hev] at HEd
                  have HN1 := hid (show ∀ u, OwS w u s p → Calls Tryz.prog 26 #[.pointer (some ⟨s, 0, none⟩), .int .i64 (t : Int), .int .i64 ev.from_] u fun e w' => ∃ (la : Option Addr) (ln lc : Nat) (pa : Option Addr) (pn pc : Nat), e = .returned (.tuple #[.agg #[.slice la ln lc, .slice pa pn pc], .bool true]) ∧ Fr No u w' ∧ OwS w w' s p from fun u hu => (x_node hu (t : Int) ev.from_).mono (by
                    rintro e w' ⟨la, ln, lc, pa, pn, pc, rfl, o, h⟩
                    rw [hs1]
                    exact ⟨la, ln, lc, pa, pn, pc, rfl, o.l.fr, h⟩))
                  have HN2 := hid (show ∀ u, OwS w u s p → Calls Tryz.prog 26 #[.pointer (some ⟨s, 0, none⟩), .int .i64 (t : Int), .int .i64 ev.to_] u fun e w' => ∃ (la : Option Addr) (ln lc : Nat) (pa : Option Addr) (pn pc : Nat), e = .returned (.tuple #[.agg #[.slice la ln lc, .slice pa pn pc], .bool true]) ∧ Fr No u w' ∧ OwS w w' s p from fun u hu => (x_node hu (t : Int) ev.to_).mono (by
                    rintro e w' ⟨la, ln, lc, pa, pn, pc, rfl, o, h⟩
                    rw [hs2]
                    exact ⟨la, ln, lc, pa, pn, pc, rfl, o.l.fr, h⟩))
                  obtain ⟨ef, et, ey, ew⟩ := ev
                  dsimp only [Option.getD_some, Option.isSome_some, edgeCs] at HEd HN1 HN2
                  clear hid0 hrow hev hs1 hs2
                  go_wp2_with (go_at_call 25; refine HEd.out.mono ?_; rintro e w7 ⟨rfl, h7, f7⟩; have b7 := heap1 w7 (.cells #[.int .i64 ef, .int .i64 et, .string ey, .float .f64 ew] 42); obtain ⟨g0, g1, -, -⟩ := cells4 b7; have H7 := hid (⟨(h7.next ((Fr.refl No w7).alloc (.cells #[.int .i64 ef, .int .i64 et, .string ey, .float .f64 ew] 42)) : OwS w _ s p), f7.alloc (.cells #[.int .i64 ef, .int .i64 et, .string ey, .float .f64 ew] 42), b7⟩ : _ ∧ _ ∧ _); clear h7 f7 b7)
                  refine (HN1.out _ H7.out.1).mono ?_
                  rintro e w8 ⟨la, ln, lc, pa, pn, pc, rfl, f8, h8⟩
                  have b8 := f8.keep H7.out.2.2 (fun e => e)
                  obtain ⟨-, d1, -, -⟩ := cells4 (hold' (o := .cells #[.slice la ln lc, .slice pa pn pc] 31) b8)
                  have H8 := hid (⟨(h8.next ((Fr.refl No w8).alloc (.cells #[.slice la ln lc, .slice pa pn pc] 31)) : OwS w _ s p), (H7.out.2.1.thenNo f8).alloc (.cells #[.slice la ln lc, .slice pa pn pc] 31)⟩ : _ ∧ _)
                  clear f8 h8 b8 g0 g1
                  go_wp2_with fail
                  refine (HN2.out _ H8.out.1).mono ?_
                  rintro e w9 ⟨lb, lm, ld, pb, pm, pd, rfl, f9, h9⟩
                  have H9 := hid (⟨(h9.next ((Fr.refl No w9).alloc (.cells #[.slice lb lm ld, .slice pb pm pd] 31)) : OwS w _ s p), HJ.out.1.thenNo ((H8.out.2.thenNo f9).alloc (.cells #[.slice lb lm ld, .slice pb pm pd] 31))⟩ : _ ∧ _)
                  clear f9 h9
                  go_wp2_with fail
                  go_roundw
                  case rel => exact ⟨j + 1, by omega, by go_num, H9.out.2, H9.out.1⟩
                  case measure => simp [intOf]; omega
                · obtain rfl : j = z := by omega
                  clear hjz
                  go_wp2_with fail
                  go_roundw
                  case rel => exact ⟨t + 1, by omega, by omega, by go_num, HJ.out.2⟩
                  case measure => simp [intOf]; omega
            · obtain rfl : t = n + 1 := by omega
              go_wp2_with (go_at_call 13; refine (known_any _).mono ?_; rintro e w9 ⟨rfl, f9⟩; have F9 := hid (HP.out.fr.thenNo f9); clear f9)
              go_ret
              exact ⟨rfl, F9.out⟩
      · obtain rfl : i = m := by omega
        clear hlt
        have hn200 : ¬ (200 : Int) < (n : Int) := by omega
        generalize actsP l _ = p at *
        go_wp2_with fail
        go_loopw [8] (fun vt w4 => ∃ t : Nat, 1 ≤ t ∧ t ≤ n + 1 ∧ vt = .int .i64 (t : Int) ∧ Hid (OwS w w4 s p)) (fun vt _ => n + 1 - (intOf vt).toNat)
        case atStart => exact ⟨1, Nat.le_refl _, by omega, rfl, HO.out⟩
        case round =>
          obtain ⟨t, ht1, htn, rfl, HP⟩ := hrel
          by_cases htl : t ≤ n
          · have HE := hid (x_edges HP.out (t : Int))
            have HL32 := hid (gEdges_len p HG.out (t : Int))
            have HEE := hid (fun id hm => HG.out.edge_ends (t := (t : Int)) (id := id) hm)
            obtain ⟨el, hel⟩ : ∃ el, gEdges p.1 (t : Int) = el := ⟨_, rfl⟩
            rw [hel] at HE HL32 HEE
            clear hel
            obtain ⟨z, hz⟩ : ∃ z, el.length = z := ⟨_, rfl⟩
            have HZ := hid hz
            have h32 : z ≤ 32 := by have := HL32.out; omega
            have h32' : ¬ (32 : Int) < (z : Int) := by omega
            go_wp2_with (go_at_call 24; refine HE.out.mono ?_; rintro e w5 ⟨v5, rfl, o5, h5⟩; obtain ⟨a5, c5, rfl⟩ := ownsRow_slice o5.row; rw [hz] at o5; have H5 := hid (⟨o5, h5⟩ : _ ∧ _); clear o5 h5)
            go_loopw [10] (fun vj w6 => ∃ j : Nat, j ≤ z ∧ vj = .int .i64 (j : Int) ∧ Hid (Fr No w5 w6 ∧ OwS w w6 s p)) (fun vj _ => z - (intOf vj).toNat)
            case atStart => exact ⟨0, Nat.zero_le _, rfl, Fr.refl _ _, H5.out.2⟩
            case round =>
              obtain ⟨j, hj, rfl, HJ⟩ := hrel
              by_cases hjz : j < z
              · obtain ⟨id, hid0⟩ : ∃ id, el[j]? = some id := ⟨el[j]'(by have := HZ.out; omega), List.getElem?_eq_getElem _⟩
                have hrow := fd_owns H5.out.1.row HJ.out.1
                rw [HZ.out] at hrow
                obtain ⟨g5, cur5, rfl, -, -⟩ := owns_at hrow (by omega)
                have ce : wr.cell? ⟨g5, j, none⟩ = some (.int .i64 id) := owns_cell hrow rfl (by rw [List.getElem?_map, hid0]; rfl)
                obtain ⟨ev, hev, hs1, hs2⟩ := HEE.out id (List.mem_of_getElem? hid0)
                have HEd := hid (x_edge HJ.out.2 (t : Int) id)
                rw [hev] at HEd
                have HN1 := hid (show ∀ u, OwS w u s p → Calls Tryz.prog 26 #[.pointer (some ⟨s, 0, none⟩), .int .i64 (t : Int), .int .i64 ev.from_] u fun e w' => ∃ (la : Option Addr) (ln lc : Nat) (pa : Option Addr) (pn pc : Nat), e = .returned (.tuple #[.agg #[.slice la ln lc, .slice pa pn pc], .bool true]) ∧ Fr No u w' ∧ OwS w w' s p from fun u hu => (x_node hu (t : Int) ev.from_).mono (by
                  rintro e w' ⟨la, ln, lc, pa, pn, pc, rfl, o, h⟩
                  rw [hs1]
                  exact ⟨la, ln, lc, pa, pn, pc, rfl, o.l.fr, h⟩))
                have HN2 := hid (show ∀ u, OwS w u s p → Calls Tryz.prog 26 #[.pointer (some ⟨s, 0, none⟩), .int .i64 (t : Int), .int .i64 ev.to_] u fun e w' => ∃ (la : Option Addr) (ln lc : Nat) (pa : Option Addr) (pn pc : Nat), e = .returned (.tuple #[.agg #[.slice la ln lc, .slice pa pn pc], .bool true]) ∧ Fr No u w' ∧ OwS w w' s p from fun u hu => (x_node hu (t : Int) ev.to_).mono (by
                  rintro e w' ⟨la, ln, lc, pa, pn, pc, rfl, o, h⟩
                  rw [hs2]
                  exact ⟨la, ln, lc, pa, pn, pc, rfl, o.l.fr, h⟩))
                obtain ⟨ef, et, ey, ew⟩ := ev
                dsimp only [Option.getD_some, Option.isSome_some, edgeCs] at HEd HN1 HN2
                clear hid0 hrow hev hs1 hs2
                go_wp2_with (go_at_call 25; refine HEd.out.mono ?_; rintro e w7 ⟨rfl, h7, f7⟩; have b7 := heap1 w7 (.cells #[.int .i64 ef, .int .i64 et, .string ey, .float .f64 ew] 42); obtain ⟨g0, g1, -, -⟩ := cells4 b7; have H7 := hid (⟨(h7.next ((Fr.refl No w7).alloc (.cells #[.int .i64 ef, .int .i64 et, .string ey, .float .f64 ew] 42)) : OwS w _ s p), f7.alloc (.cells #[.int .i64 ef, .int .i64 et, .string ey, .float .f64 ew] 42), b7⟩ : _ ∧ _ ∧ _); clear h7 f7 b7)
                refine (HN1.out _ H7.out.1).mono ?_
                rintro e w8 ⟨la, ln, lc, pa, pn, pc, rfl, f8, h8⟩
                have b8 := f8.keep H7.out.2.2 (fun e => e)
                obtain ⟨-, d1, -, -⟩ := cells4 (hold' (o := .cells #[.slice la ln lc, .slice pa pn pc] 31) b8)
                have H8 := hid (⟨(h8.next ((Fr.refl No w8).alloc (.cells #[.slice la ln lc, .slice pa pn pc] 31)) : OwS w _ s p), (H7.out.2.1.thenNo f8).alloc (.cells #[.slice la ln lc, .slice pa pn pc] 31)⟩ : _ ∧ _)
                clear f8 h8 b8 g0 g1
                go_wp2_with fail
                refine (HN2.out _ H8.out.1).mono ?_
                rintro e w9 ⟨lb, lm, ld, pb, pm, pd, rfl, f9, h9⟩
                have H9 := hid (⟨(h9.next ((Fr.refl No w9).alloc (.cells #[.slice lb lm ld, .slice pb pm pd] 31)) : OwS w _ s p), HJ.out.1.thenNo ((H8.out.2.thenNo f9).alloc (.cells #[.slice lb lm ld, .slice pb pm pd] 31))⟩ : _ ∧ _)
                clear f9 h9
                go_wp2_with fail
                go_roundw
                case rel => exact ⟨j + 1, by omega, by go_num, H9.out.2, H9.out.1⟩
                case measure => simp [intOf]; omega
              · obtain rfl : j = z := by omega
                clear hjz
                go_wp2_with fail
                go_roundw
                case rel => exact ⟨t + 1, by omega, by omega, by go_num, HJ.out.2⟩
                case measure => simp [intOf]; omega
          · obtain rfl : t = n + 1 := by omega
            go_wp2_with (go_at_call 13; refine (known_any _).mono ?_; rintro e w9 ⟨rfl, f9⟩; have F9 := hid (HP.out.fr.thenNo f9); clear f9)
            go_ret
            exact ⟨rfl, F9.out⟩
end Go.Proofs.YtibfpkfpmkghhaaGreatDoor
