/- Versions: slices.DeleteFunc; the cell: Undo. -/
import Derived.Test.YtofjbigojbnmfaaGreatDoorCellU
namespace Go.Proofs.YtofjbigojbnmfaaGreatDoor
open Go.RowKit Go.Lig

theorem filt_step {p : Ver NodeV → Bool} {L : List (Ver NodeV)} {j : Nat} {y : Ver NodeV} (h : L[j]? = some y) : (L.take (j + 1)).filter (fun z => !p z) = (L.take j).filter (fun z => !p z) ++ if p y then [] else [y] := by
  rw [List.take_add_one, h, Option.toList_some, List.filter_append]
  cases hp : p y <;> simp [hp]
/-- the row while it is gone through: what stays, then what was there from there on -/
def midL (p : Ver NodeV → Bool) (L : List (Ver NodeV)) (j : Nat) : List (Ver NodeV) := (L.take j).filter (fun z => !p z) ++ L.drop ((L.take j).filter (fun z => !p z)).length
theorem filt_le (p : Ver NodeV → Bool) (L : List (Ver NodeV)) (j : Nat) : ((L.take j).filter (fun z => !p z)).length ≤ j := by
  have h1 := List.length_filter_le (fun z => !p z) (L.take j)
  have h2 := List.length_take_le j L
  omega
theorem midL_len (p : Ver NodeV → Bool) (L : List (Ver NodeV)) (j : Nat) (hj : j ≤ L.length) : (midL p L j).length = L.length := by
  have := filt_le p L j
  simp [midL]
  omega
theorem midL_get {p : Ver NodeV → Bool} {L : List (Ver NodeV)} {j k : Nat} (hk : j ≤ k) : (midL p L j)[k]? = L[k]? := by
  have := filt_le p L j
  unfold midL
  rw [List.getElem?_append_right (by omega), List.getElem?_drop]
  congr 1
  omega
theorem midL_keep {p : Ver NodeV → Bool} {L : List (Ver NodeV)} {j : Nat} {y : Ver NodeV} (h : L[j]? = some y) (hp : p y = true) : midL p L (j + 1) = midL p L j := by
  unfold midL
  rw [filt_step h, hp]
  simp
theorem midL_put {p : Ver NodeV → Bool} {L : List (Ver NodeV)} {j : Nat} {y : Ver NodeV} (h : L[j]? = some y) (hp : p y = false) : (midL p L j).set ((L.take j).filter (fun z => !p z)).length y = midL p L (j + 1) := by
  have hl := filt_le p L j
  have hj := (List.getElem?_eq_some_iff.1 h).1
  unfold midL
  rw [filt_step h, hp]
  generalize hF : (L.take j).filter (fun z => !p z) = F at *
  simp only [Bool.false_eq_true, if_false, List.length_append, List.length_cons, List.length_nil]
  rw [List.set_append_right _ _ (Nat.le_refl _), Nat.sub_self, List.drop_eq_getElem_cons (by omega), List.set_cons_zero, List.append_assoc]
  rfl
theorem mid_seg (R : List (Ver NodeV)) (k : Nat) (hk : k < R.length) (y : Ver NodeV) : (R.flatMap ncell).take (k * 4) ++ ncell y ++ (R.flatMap ncell).drop (k * 4 + (ncell y).length) = (R.set k y).flatMap ncell := by
  induction R generalizing k with
  | nil => simp at hk
  | cons z R ih =>
    cases k with
    | zero => simp [ncell]
    | succ k =>
      have hk' : k < R.length := by simpa using hk
      have e : (k + 1) * 4 = (ncell z).length + k * 4 := by simp [ncell]; omega
      rw [List.set_cons_succ, List.flatMap_cons, List.flatMap_cons, ← ih k hk', e, List.take_append, List.take_of_length_le (by omega), Nat.add_sub_cancel_left, show (ncell z).length + k * 4 + (ncell y).length = (ncell z).length + (k * 4 + (ncell y).length) by omega, List.drop_append, List.drop_eq_nil_of_le (show (ncell z).length ≤ _ by omega), List.nil_append, Nat.add_sub_cancel_left]
      simp only [List.append_assoc]
theorem run_slice_from {P : Program} (w : World) (t e : TypeId) (j : TypeInfo) (ht : P.underlying t = some (.slice e)) (hj : P.info? e = some j) (g n cap q : Nat) (h1 : q < n) (h2 : n ≤ cap) : (Instr.slice t (.slice (some ⟨g, 0, none⟩) n cap) (some (.int .i64 (q : Int))) none none).run P w = .ok (.slice (some ⟨g, q * j.size, none⟩) (n - q) (cap - q)) w := by
  have c1 : q ≤ n := by omega
  have c2 : ¬ cap = q := by omega
  simp [Instr.slice, run_underlying ht, Instr.sliceBounds, Instr.sliceBound, asIntOf, sizeOf, typeInfo, hj, c1, c2, Addr.add]
  by_cases h0 : q * j.size = 0 <;> simp [h0]
theorem run_slice_to {P : Program} (w : World) (t e : TypeId) (j : TypeInfo) (ht : P.underlying t = some (.slice e)) (hj : P.info? e = some j) (g n cap q : Nat) (h1 : q ≤ cap) : (Instr.slice t (.slice (some ⟨g, 0, none⟩) n cap) none (some (.int .i64 (q : Int))) none).run P w = .ok (.slice (some ⟨g, 0, none⟩) q cap) w := by
  have c1 : q ≤ cap := by omega
  simp [Instr.slice, run_underlying ht, Instr.sliceBounds, Instr.sliceBound, asIntOf, sizeOf, typeInfo, hj, c1, Addr.add]
theorem filt_first {p : Ver NodeV → Bool} {L : List (Ver NodeV)} {i : Nat} {y : Ver NodeV} (hy : L[i]? = some y) (hp : p y = true) (hk : ∀ k z, k < i → L[k]? = some z → p z = false) : (L.take (i + 1)).filter (fun z => !p z) = L.take i := by
  rw [filt_step hy, hp, if_pos rfl, List.append_nil]
  refine List.filter_eq_self.2 (fun z hz => ?_)
  obtain ⟨k, hk1⟩ := List.getElem?_of_mem hz
  rw [List.getElem?_take] at hk1
  split at hk1
  · rename_i h; simp [hk k z h hk1]
  · cases hk1
/-- an owned row, seen as versions -/
theorem ownsN {w : World} {g n cap : Nat} {R : List (Ver NodeV)} (h : w.ownsRow 0 142 4 (.slice (some ⟨g, 0, none⟩) n cap) n (R.flatMap ncell)) {j : Nat} {y : Ver NodeV} (hy : R[j]? = some y) : NcAt w g j y := by
  have g0 : ∀ t, t < 4 → (R.flatMap ncell)[j * 4 + t]? = (ncell y)[t]? := fun t ht => flat_get (f := ncell) (m := 4) (fun _ => rfl) _ _ _ hy t ht
  exact ⟨owns_cell h rfl (by rw [← Nat.add_zero (j * 4), g0 0 (by decide)]; rfl), owns_cell h rfl (by rw [g0 1 (by decide)]; rfl), owns_cell h rfl (by rw [g0 2 (by decide)]; rfl), owns_cell h rfl (by rw [g0 3 (by decide)]; rfl)⟩
set_option maxHeartbeats 4000000 in
set_option maxRecDepth 100000 in
theorem delv_some (w : World) (g cap : Nat) (L : List (Ver NodeV)) (hs : L.length ≤ 1000000) (ho : w.ownsRow 0 142 4 (.slice (some ⟨g, 0, none⟩) L.length cap) L.length (L.flatMap ncell)) (cf : Nat) (clb : Array Value) (p : Ver NodeV → Bool)
    (hcf : ∀ args w, (callFunc cf args).run Tryz.prog w = .ok (.enter cf args) w)
    (hp : ∀ W y, Fr (fun k => k = g) w W → Calls Tryz.prog cf (#[.agg #[.int .i64 y.by_, .slice y.v.l.a y.v.l.n y.v.l.c, .slice y.v.p.a y.v.p.n y.v.p.c, .bool y.gone]] ++ clb) W fun e W' => e = .returned (.bool (p y)) ∧ Fr No W W') :
    Calls Tryz.prog 95 #[.slice (some ⟨g, 0, none⟩) L.length cap, .func (.func cf) #[] clb] w fun e w' =>
      e = .returned (.slice (some ⟨g, 0, none⟩) (L.filter (fun z => !p z)).length cap) ∧ w'.ownsRow 0 142 4 (.slice (some ⟨g, 0, none⟩) (L.filter (fun z => !p z)).length cap) (L.filter (fun z => !p z)).length ((L.filter (fun z => !p z)).flatMap ncell) ∧ Fr (fun k => k = g) w w' := by
  have HI := hid (idxv_any w (some ⟨g, 0, none⟩) g cap L (fun _ => rfl) hs (fun W hf j y hy => ownsN (fd_owns ho hf) hy) cf clb p hcf (fun W y hf => hp W y (hf.mono (fun _ _ e => e.elim))))
  have HO := hid ho
  have HP := hid hp
  have HCF := hid hcf
  clear hp hcf ho
  go_enter Tryz.func95, Tryz.ntmps95
  go_wp2_with fail
  refine HI.out.mono ?_
  rintro e w1 ⟨i, rfl, f1, hi⟩
  rcases hi with ⟨rfl, hn⟩ | ⟨i, rfl, hil, ⟨y, hy, hpy⟩, hk⟩
  · have H1 := hid (⟨f1, hn⟩ : _ ∧ _)
    clear f1 hn
    go_wp2_with fail
    go_ret
    rw [findIdx_none H1.out.2]
    exact ⟨rfl, fd_owns HO.out H1.out.1, H1.out.1.mono (fun _ _ e => e.elim)⟩
  · have H1 := hid (⟨f1, hy, hpy, hk⟩ : _ ∧ _ ∧ _ ∧ _)
    have n9 : ((i : Int) == -1) = false := by rw [beq_eq_false_iff_ne]; omega
    clear f1 hy hpy hk
    go_wp2_with fail
    go_loopw [5, 6] (fun v5 v6 wr => ∃ j q : Nat, i + 1 ≤ j ∧ j ≤ L.length ∧ q < j ∧ v5 = .int .i64 (q : Int) ∧ v6 = .int .i64 (j : Int) ∧ Hid (q = ((L.take j).filter (fun z => !p z)).length ∧ wr.ownsRow 0 142 4 (.slice (some ⟨g, 0, none⟩) L.length cap) L.length ((midL p L j).flatMap ncell) ∧ Fr (fun k => k = g) w wr)) (fun _ v6 _ => L.length - (intOf v6).toNat)
    case atStart =>
      obtain ⟨f1, hy, hpy, hk⟩ := H1.out
      have hf := filt_first hy hpy hk
      have hm : midL p L (i + 1) = L := by unfold midL; rw [hf, List.length_take, Nat.min_eq_left (by omega), List.take_append_drop]
      refine ⟨i + 1, i, Nat.le_refl _, by omega, by omega, rfl, by go_num, by rw [hf, List.length_take]; omega, ?_, f1.mono (fun _ _ e => e.elim)⟩
      rw [hm]
      exact fd_owns HO.out f1
    case round =>
      obtain ⟨j, q, hij, hjn, hqj, rfl, rfl, HR⟩ := hrel
      have HJ := hid (⟨hij, hjn, hqj, hil⟩ : _ ∧ _ ∧ _ ∧ _)
      generalize hLn : L.length = n at *
      have HLn := hid hLn
      clear hLn
      by_cases hlt : j < n
      · obtain ⟨y, hy⟩ : ∃ y, L[j]? = some y := ⟨_, List.getElem?_eq_getElem (by have := HLn.out; omega)⟩
        obtain ⟨y0, y1, y2, y3⟩ := ownsN HR.out.2.1 ((midL_get (Nat.le_refl j)).trans hy)
        have HY := hid hy
        clear hy hij hjn hqj hil
        cases hpy : p y with
        | true =>
          go_wp2_with (rw [HCF.out, Oper.upon_enter]; refine (HP.out _ y (HR.out.2.2.alloc _)).mono ?_; rintro e W' ⟨rfl, f⟩; rw [hpy]; have F := hid (((Fr.refl No wr).alloc _).thenNo f); clear f)
          go_roundw
          case rel => exact ⟨j + 1, q, by have := HJ.out; omega, by omega, by have := HJ.out; omega, rfl, by go_num, by rw [filt_step HY.out, hpy]; simpa using HR.out.1, by rw [midL_keep HY.out hpy]; exact fd_owns HR.out.2.1 F.out, HR.out.2.2.thenNo F.out⟩
          case measure => simp [intOf]; omega
        | false =>
          have hqn : Hid (q < n) := hid (by have := HJ.out; omega)
          go_wp2_with (first | (rw [HCF.out, Oper.upon_enter]; refine (HP.out _ y (HR.out.2.2.alloc _)).mono ?_; rintro e W' ⟨rfl, f⟩; rw [hpy]; obtain ⟨b0, b1, b2, b3⟩ := cells4 (f.keep (heap1 wr _) id); have F := hid (((Fr.refl No wr).alloc _).thenNo f); have o2 := fd_owns HR.out.2.1 F.out; obtain ⟨g', cur, e', -, hg, hnc, hcs, ht⟩ := owns_at o2 (by have := hqn.out; omega); obtain rfl : g = g' := (by simpa using e'); have G := hid (⟨o2, hg, hnc, hcs⟩ : _ ∧ _ ∧ _ ∧ _); clear f o2 hg hnc hcs ht e') | (refine wpList_storeO rfl 142 (.tmp 33) (.tmp 32) rfl g (q * 4) rfl cur.toList 142 (ncell y) rfl (by kernel_rfl) (by rw [Array.toArray_toList]; exact G.out.2.1) (by have := G.out.2.2; have := hqn.out; simp [ncell]; omega) (by simp [ncell, Value.oneCell']) ?_; intro W2 p2; have P2 := hid p2; clear p2))
          go_roundw
          case rel =>
            have hq := HR.out.1
            have o3 := owns_putSeg G.out.1 G.out.2.1 (cs := ncell y) (o := q * 4) (by have := hqn.out; simp [ncell]; omega) (by simp [ncell, Value.oneCell']) P2.out
            rw [mid_seg _ q (by rw [midL_len p L j (by have := HLn.out; omega), HLn.out]; exact hqn.out) y, hq, midL_put HY.out hpy] at o3
            exact ⟨j + 1, q + 1, by have := HJ.out; omega, by omega, by have := HJ.out; omega, by go_num, by go_num, by rw [filt_step HY.out, hpy, List.length_append, ← hq]; rfl, o3, (HR.out.2.2.thenNo F.out).thenS (P2.out.fr)⟩
          case measure => simp [intOf]; omega
      · obtain rfl : j = n := by omega
        obtain ⟨g', cur, e', -, hg, hnc, hcs, ht⟩ := owns_at HR.out.2.1 (by have := HJ.out; omega)
        obtain rfl : g = g' := by simpa using e'
        obtain ⟨iv, hiv, hz, hsz, hby⟩ := info_parts infoV
        have hG := hid (⟨hg, hnc, hcs, hiv, hz, hsz, e'⟩ : _ ∧ _ ∧ _ ∧ _ ∧ _ ∧ _ ∧ _)
        have hqn : Hid (q < j) := hid hqj
        clear hij hjn hqj hil hg hnc hcs ht hiv hz hsz hby e' hlt
        go_wp2_with (first | (refine wpList_slice rfl 139 142 Tryz.underlying139 (.tmp 36) (some (.tmp 37)) none rfl (.slice (some ⟨g, 0, none⟩) j cap) rfl (some (.int .i64 (q : Int))) none rfl rfl (.slice (some ⟨g, q * 4, none⟩) (j - q) (cap - q)) (fun w' => by have := run_slice_from w' 139 142 iv Tryz.underlying139 hG.out.2.2.2.1 g j cap q hqn.out hG.out.2.1; rwa [hG.out.2.2.2.2.2.1] at this) ?_) | (refine wpList_slice rfl 139 142 Tryz.underlying139 (.tmp 39) none (some (.tmp 40)) rfl (.slice (some ⟨g, 0, none⟩) j cap) rfl none (some (.int .i64 (q : Int))) rfl rfl (.slice (some ⟨g, 0, none⟩) q cap) (fun w' => run_slice_to w' 139 142 iv Tryz.underlying139 hG.out.2.2.2.1 g j cap q (by have := hqn.out; have := hG.out.2.1; omega)) ?_) | (refine wpList_clearRows rfl (.tmp 38) 139 142 rfl _ 4 64 Tryz.underlying139 infoV rfl (by decide) (by simp [Value.cells, Value.oneCell']) g (q * 4) (j - q) (cap - q) rfl (by have := hqn.out; omega) cur hG.out.1 (by have := hqn.out; have := hG.out.2; omega) ?_; intro W2 zs hzl p2; have P2 := hid (⟨hzl, p2⟩ : _ ∧ _); clear hzl p2))
        go_ret
        have o3 := owns_cut HR.out.2.1 hG.out.1 (Nat.le_of_lt hqn.out) P2.out.1 P2.out.2
        have hfl : (L.take j).filter (fun z => !p z) = L.filter (fun z => !p z) := by rw [List.take_of_length_le (by have := HLn.out; omega)]
        have hq := HR.out.1
        rw [hfl] at hq
        have hx : ((midL p L j).flatMap ncell).take (q * 4) = (L.filter (fun z => !p z)).flatMap ncell := by
          unfold midL
          rw [hfl, List.flatMap_append, List.take_append_of_le_length (by rw [flat_len (f := ncell) (m := 4) (fun _ => rfl), hq]; exact Nat.le_refl _), List.take_of_length_le (by rw [flat_len (f := ncell) (m := 4) (fun _ => rfl), hq]; exact Nat.le_refl _)]
        rw [hx] at o3
        rw [← hq]
        exact ⟨rfl, o3, HR.out.2.2.thenS P2.out.2.fr⟩
end Go.Proofs.YtofjbigojbnmfaaGreatDoor
