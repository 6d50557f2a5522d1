/- A part of the proof: contracts of functions of the program, for the row's text. -/
import Derived.Test.YtibfpkfpmkghhaaGreatDoorJ11
import Derived.Test.YtibfpkfpmkghhaaGreatDoorJ15
import Derived.Test.YtibfpkfpmkghhaaGreatDoorJ26
import Derived.Test.YtibfpkfpmkghhaaGreatDoorSrt
namespace Go.Proofs.YtibfpkfpmkghhaaGreatDoor.Di
open Go.RowKit Go.Lig

set_option maxHeartbeats 2000000 in
theorem idxi_any (w : World) (a : Option Addr) (g cap : Nat) (L : List (Int)) (ha : 0 < L.length → a = some ⟨g, 0, none⟩) (hs : L.length ≤ 1000000) (hc : ∀ W, Fr No w W → ∀ j y, L[j]? = some y → W.cell? ⟨g, j, none⟩ = some (iv y)) (cf : Nat) (clb : Array Value) (p : Int → Bool)
    (hcf : ∀ args w, (callFunc cf args).run Tryz.prog w = .ok (.enter cf args) w)
    (hp : ∀ W y, Fr No w W → Calls Tryz.prog cf (#[.int .i64 y] ++ clb) W fun e W' => e = .returned (.bool (p y)) ∧ Fr No W W') :
    Calls Tryz.prog 209 #[.slice a L.length cap, .func (.func cf) #[] clb] w fun e w' => ∃ i : Int, e = .returned (.int .i64 i) ∧ Fr No w w' ∧ ((i = -1 ∧ ∀ y ∈ L, p y = false) ∨ ∃ j : Nat, i = j ∧ j < L.length ∧ (∃ y, L[j]? = some y ∧ p y = true) ∧ ∀ k y, k < j → L[k]? = some y → p y = false) := by
  have HC := hid hc
  have HP := hid hp
  have HCF := hid hcf
  have HA := hid ha
  clear hc hp hcf ha
  go_enter Tryz.func209, Tryz.ntmps209
  go_wp2_with fail
  generalize hLn : L.length = n at *
  go_loopw [8] (fun vi wr => ∃ i : Nat, i ≤ n ∧ vi = .int .i64 (i : Int) ∧ Hid (Fr No w wr ∧ ∀ k y, k < i → L[k]? = some y → p y = false)) (fun vi _ => n - (intOf vi).toNat)
  case atStart => exact ⟨0, Nat.zero_le _, rfl, Fr.refl _ _, fun k y hk => absurd hk (Nat.not_lt_zero _)⟩
  case round =>
    obtain ⟨i, hi, rfl, HF⟩ := hrel
    by_cases hlt : i < n
    · obtain ⟨y, hy⟩ : ∃ y, L[i]? = some y := ⟨_, List.getElem?_eq_getElem (by omega)⟩
      obtain rfl := HA.out (by omega)
      have y0 := HC.out wr HF.out.1 i y hy
      unfold iv at y0
      have HY := hid hy
      clear hy
      cases hpy : p y with
      | false =>
        go_wp2_with (rw [HCF.out, Oper.upon_enter]; refine (HP.out wr y HF.out.1).mono ?_; rintro e W' ⟨rfl, f⟩; rw [hpy]; have F := hid f; clear f)
        go_roundw
        case rel => exact ⟨i + 1, by omega, by go_num, HF.out.1.thenNo F.out, fun k z hk hz => by
          rcases Nat.lt_succ_iff_lt_or_eq.1 hk with h | rfl
          · exact HF.out.2 k z h hz
          · rw [HY.out] at hz; obtain rfl := Option.some.inj hz; exact hpy⟩
        case measure => simp [intOf]; omega
      | true =>
        go_wp2_with (rw [HCF.out, Oper.upon_enter]; refine (HP.out wr y HF.out.1).mono ?_; rintro e W' ⟨rfl, f⟩; rw [hpy]; have F := hid f; clear f)
        go_ret
        exact ⟨_, rfl, HF.out.1.thenNo F.out, .inr ⟨i, rfl, by omega, ⟨y, HY.out, hpy⟩, HF.out.2⟩⟩
    · go_wp2_with fail
      go_ret
      refine ⟨_, rfl, HF.out.1, .inl ⟨rfl, fun y hy => ?_⟩⟩
      obtain ⟨k, hk⟩ := List.getElem?_of_mem hy
      exact HF.out.2 k y (by have := (List.getElem?_eq_some_iff.1 hk).1; omega) hk
theorem filt_step {p : Int → Bool} {L : List (Int)} {j : Nat} {y : Int} (h : L[j]? = some y) : (L.take (j + 1)).filter (fun z => !p z) = (L.take j).filter (fun z => !p z) ++ if p y then [] else [y] := by
  rw [List.take_add_one, h, Option.toList_some, List.filter_append]
  cases hp : p y <;> simp [hp]
/-- the row while it is gone through: what stays, then what was there from there on -/
def midL (p : Int → Bool) (L : List (Int)) (j : Nat) : List (Int) := (L.take j).filter (fun z => !p z) ++ L.drop ((L.take j).filter (fun z => !p z)).length
theorem filt_le (p : Int → Bool) (L : List (Int)) (j : Nat) : ((L.take j).filter (fun z => !p z)).length ≤ j := by
  have h1 := List.length_filter_le (fun z => !p z) (L.take j)
  have h2 := List.length_take_le j L
  omega
theorem midL_len (p : Int → Bool) (L : List (Int)) (j : Nat) (hj : j ≤ L.length) : (midL p L j).length = L.length := by
  have := filt_le p L j
  simp [midL]
  omega
theorem midL_get {p : Int → Bool} {L : List (Int)} {j k : Nat} (hk : j ≤ k) : (midL p L j)[k]? = L[k]? := by
  have := filt_le p L j
  unfold midL
  rw [List.getElem?_append_right (by omega), List.getElem?_drop]
  congr 1
  omega
theorem midL_keep {p : Int → Bool} {L : List (Int)} {j : Nat} {y : Int} (h : L[j]? = some y) (hp : p y = true) : midL p L (j + 1) = midL p L j := by
  unfold midL
  rw [filt_step h, hp]
  simp
theorem midL_put {p : Int → Bool} {L : List (Int)} {j : Nat} {y : Int} (h : L[j]? = some y) (hp : p y = false) : (midL p L j).set ((L.take j).filter (fun z => !p z)).length y = midL p L (j + 1) := by
  have hl := filt_le p L j
  have hj := (List.getElem?_eq_some_iff.1 h).1
  unfold midL
  rw [filt_step h, hp]
  generalize hF : (L.take j).filter (fun z => !p z) = F at *
  simp only [Bool.false_eq_true, if_false, List.length_append, List.length_cons, List.length_nil]
  rw [List.set_append_right _ _ (Nat.le_refl _), Nat.sub_self, List.drop_eq_getElem_cons (by omega), List.set_cons_zero, List.append_assoc]
  rfl
theorem filt_first {p : Int → Bool} {L : List (Int)} {i : Nat} {y : Int} (hy : L[i]? = some y) (hp : p y = true) (hk : ∀ k z, k < i → L[k]? = some z → p z = false) : (L.take (i + 1)).filter (fun z => !p z) = L.take i := by
  rw [filt_step hy, hp, if_pos rfl, List.append_nil]
  refine List.filter_eq_self.2 (fun z hz => ?_)
  obtain ⟨k, hk1⟩ := List.getElem?_of_mem hz
  rw [List.getElem?_take] at hk1
  split at hk1
  · rename_i h; simp [hk k z h hk1]
  · cases hk1
theorem ownsI {w : World} {g n cap : Nat} {R : List Int} (h : w.ownsRow 0 3 1 (.slice (some ⟨g, 0, none⟩) n cap) n (R.map iv)) {j : Nat} {y : Int} (hy : R[j]? = some y) : w.cell? ⟨g, j, none⟩ = some (iv y) :=
  owns_cell h rfl (by rw [List.getElem?_map, hy]; rfl)
set_option maxHeartbeats 4000000 in
set_option maxRecDepth 100000 in
theorem deli_some (w : World) (g cap : Nat) (L : List (Int)) (hs : L.length ≤ 1000000) (ho : w.ownsRow 0 3 1 (.slice (some ⟨g, 0, none⟩) L.length cap) L.length (L.map iv)) (cf : Nat) (clb : Array Value) (p : Int → Bool)
    (hcf : ∀ args w, (callFunc cf args).run Tryz.prog w = .ok (.enter cf args) w)
    (hp : ∀ W y, Fr (fun k => k = g) w W → Calls Tryz.prog cf (#[.int .i64 y] ++ clb) W fun e W' => e = .returned (.bool (p y)) ∧ Fr No W W') :
    Calls Tryz.prog 143 #[.slice (some ⟨g, 0, none⟩) L.length cap, .func (.func cf) #[] clb] w fun e w' =>
      e = .returned (.slice (some ⟨g, 0, none⟩) (L.filter (fun z => !p z)).length cap) ∧ w'.ownsRow 0 3 1 (.slice (some ⟨g, 0, none⟩) (L.filter (fun z => !p z)).length cap) (L.filter (fun z => !p z)).length ((L.filter (fun z => !p z)).map iv) ∧ Fr (fun k => k = g) w w' := by
  have HI := hid (idxi_any w (some ⟨g, 0, none⟩) g cap L (fun _ => rfl) hs (fun W hf j y hy => ownsI (fd_owns ho hf) hy) cf clb p hcf (fun W y hf => hp W y (hf.mono (fun _ _ e => e.elim))))
  have HO := hid ho
  have HP := hid hp
  have HCF := hid hcf
  clear hp hcf ho
  go_enter Tryz.func143, Tryz.ntmps143
  go_wp2_with fail
  refine HI.out.mono ?_
  rintro e w1 ⟨i, rfl, f1, hi⟩
  rcases hi with ⟨rfl, hn⟩ | ⟨i, rfl, hil, ⟨y, hy, hpy⟩, hk⟩
  · have H1 := hid (⟨f1, hn⟩ : _ ∧ _)
    clear f1 hn
    go_wp2_with fail
    go_ret
    rw [findIdx_none H1.out.2]
    exact ⟨rfl, fd_owns HO.out H1.out.1, H1.out.1.mono (fun _ _ e => e.elim)⟩
  · have H1 := hid (⟨f1, hy, hpy, hk⟩ : _ ∧ _ ∧ _ ∧ _)
    have n9 : ((i : Int) == -1) = false := by rw [beq_eq_false_iff_ne]; omega
    clear f1 hy hpy hk
    go_wp2_with fail
    go_loopw [5, 6] (fun v5 v6 wr => ∃ j q : Nat, i + 1 ≤ j ∧ j ≤ L.length ∧ q < j ∧ v5 = .int .i64 (q : Int) ∧ v6 = .int .i64 (j : Int) ∧ Hid (q = ((L.take j).filter (fun z => !p z)).length ∧ wr.ownsRow 0 3 1 (.slice (some ⟨g, 0, none⟩) L.length cap) L.length ((midL p L j).map iv) ∧ Fr (fun k => k = g) w wr)) (fun _ v6 _ => L.length - (intOf v6).toNat)
    case atStart =>
      obtain ⟨f1, hy, hpy, hk⟩ := H1.out
      have hf := filt_first hy hpy hk
      have hm : midL p L (i + 1) = L := by unfold midL; rw [hf, List.length_take, Nat.min_eq_left (by omega), List.take_append_drop]
      refine ⟨i + 1, i, Nat.le_refl _, by omega, by omega, rfl, by go_num, by rw [hf, List.length_take]; omega, ?_, f1.mono (fun _ _ e => e.elim)⟩
      rw [hm]
      exact fd_owns HO.out f1
    case round =>
      obtain ⟨j, q, hij, hjn, hqj, rfl, rfl, HR⟩ := hrel
      have HJ := hid (⟨hij, hjn, hqj, hil⟩ : _ ∧ _ ∧ _ ∧ _)
      generalize hLn : L.length = n at *
      have HLn := hid hLn
      clear hLn
      by_cases hlt : j < n
      · obtain ⟨y, hy⟩ : ∃ y, L[j]? = some y := ⟨_, List.getElem?_eq_getElem (by have := HLn.out; omega)⟩
        have y0 := ownsI HR.out.2.1 ((midL_get (Nat.le_refl j)).trans hy)
        unfold iv at y0
        have HY := hid hy
        clear hy hij hjn hqj hil
        cases hpy : p y with
        | true =>
          go_wp2_with (rw [HCF.out, Oper.upon_enter]; refine (HP.out _ y HR.out.2.2).mono ?_; rintro e W' ⟨rfl, f⟩; rw [hpy]; have F := hid f; clear f)
          go_roundw
          case rel => exact ⟨j + 1, q, by have := HJ.out; omega, by omega, by have := HJ.out; omega, rfl, by go_num, by rw [filt_step HY.out, hpy]; simpa using HR.out.1, by rw [midL_keep HY.out hpy]; exact fd_owns HR.out.2.1 F.out, HR.out.2.2.thenNo F.out⟩
          case measure => simp [intOf]; omega
        | false =>
          have hqn : Hid (q < n) := hid (by have := HJ.out; omega)
          go_wp2_with (first | (rw [HCF.out, Oper.upon_enter]; refine (HP.out _ y HR.out.2.2).mono ?_; rintro e W' ⟨rfl, f⟩; rw [hpy]; have F := hid f; have o2 := fd_owns HR.out.2.1 F.out; obtain ⟨g', cur, e', -, hg, hnc, hcs, ht⟩ := owns_at o2 (by have := hqn.out; omega); obtain rfl : g = g' := (by simpa using e'); have G := hid (⟨o2, hg, hnc, hcs⟩ : _ ∧ _ ∧ _ ∧ _); clear f o2 hg hnc hcs ht e') | (refine wpList_store1 rfl 3 (.tmp 33) (.tmp 32) rfl g q rfl cur 3 (.int .i64 y) rfl (by kernel_rfl) G.out.2.1 (by have := G.out.2.2; have := hqn.out; omega) rfl ?_; intro W2 p2; have P2 := hid p2; clear p2))
          go_roundw
          case rel =>
            have hq := HR.out.1
            have o3 := owns_setN G.out.1 G.out.2.1 P2.out
            have e3 : ((midL p L j).map iv).set q (.int .i64 y) = (midL p L (j + 1)).map iv := by
              rw [← midL_put HY.out hpy, ← hq, List.map_set]
              rfl
            rw [e3] at o3
            exact ⟨j + 1, q + 1, by have := HJ.out; omega, by omega, by have := HJ.out; omega, by go_num, by go_num, by rw [filt_step HY.out, hpy, List.length_append, ← hq]; rfl, o3, (HR.out.2.2.thenNo F.out).thenS (P2.out.fr)⟩
          case measure => simp [intOf]; omega
      · obtain rfl : j = n := by omega
        obtain ⟨g', cur, e', -, hg, hnc, hcs, ht⟩ := owns_at HR.out.2.1 (by have := HJ.out; omega)
        obtain rfl : g = g' := by simpa using e'
        obtain ⟨jv, hiv, hz, hsz, hby⟩ := info_parts infoInt
        have hG := hid (⟨hg, hnc, hcs, hiv, hz, hsz, e'⟩ : _ ∧ _ ∧ _ ∧ _ ∧ _ ∧ _ ∧ _)
        have hqn : Hid (q < j) := hid hqj
        clear hij hjn hqj hil hg hnc hcs ht hiv hz hsz hby e' hlt
        go_wp2_with (first | (refine wpList_slice rfl 35 3 Tryz.underlying35 (.tmp 36) (some (.tmp 37)) none rfl (.slice (some ⟨g, 0, none⟩) j cap) rfl (some (.int .i64 (q : Int))) none rfl rfl (.slice (some ⟨g, q, none⟩) (j - q) (cap - q)) (fun w' => by have := run_slice_from w' 35 3 jv Tryz.underlying35 hG.out.2.2.2.1 g j cap q hqn.out hG.out.2.1; rw [hG.out.2.2.2.2.2.1, Nat.mul_one] at this; exact this) ?_) | (refine wpList_slice rfl 35 3 Tryz.underlying35 (.tmp 39) none (some (.tmp 40)) rfl (.slice (some ⟨g, 0, none⟩) j cap) rfl none (some (.int .i64 (q : Int))) rfl rfl (.slice (some ⟨g, 0, none⟩) q cap) (fun w' => run_slice_to w' 35 3 jv Tryz.underlying35 hG.out.2.2.2.1 g j cap q (by have := hqn.out; have := hG.out.2.1; omega)) ?_) | (refine wpList_clearRows rfl (.tmp 38) 35 3 rfl _ 1 8 Tryz.underlying35 infoInt rfl (by decide) (by simp [Value.cells, Value.oneCell']) g (q) (j - q) (cap - q) rfl (by have := hqn.out; omega) cur hG.out.1 (by have := hqn.out; have := hG.out.2; omega) ?_; intro W2 zs hzl p2; have P2 := hid (⟨hzl, p2⟩ : _ ∧ _); clear hzl p2))
        go_ret
        have o3 := owns_cut HR.out.2.1 hG.out.1 (Nat.le_of_lt hqn.out) P2.out.1 (by simpa only [Nat.mul_one] using P2.out.2)
        have hfl : (L.take j).filter (fun z => !p z) = L.filter (fun z => !p z) := by rw [List.take_of_length_le (by have := HLn.out; omega)]
        have hq := HR.out.1
        rw [hfl] at hq
        have hx : ((midL p L j).map iv).take (q * 1) = (L.filter (fun z => !p z)).map iv := by
          unfold midL
          rw [hfl, Nat.mul_one, List.map_append, List.take_append_of_le_length (by rw [List.length_map, hq]; exact Nat.le_refl _), List.take_of_length_le (by rw [List.length_map, hq]; exact Nat.le_refl _)]
        rw [hx] at o3
        rw [← hq]
        exact ⟨rfl, o3, HR.out.2.2.thenS P2.out.2.fr⟩
end Go.Proofs.YtibfpkfpmkghhaaGreatDoor.Di

namespace Go.Proofs.YtibfpkfpmkghhaaGreatDoor
open Go.RowKit Go.Lig

set_option maxRecDepth 100000 in
set_option maxHeartbeats 1000000 in
theorem chained1_any (w : World) (ρ : Nat → Option Pt) (s : Nat) (A : Ad) (M : PSt) (F : Nat) (h : StAt w ρ s A M F) (t id : Int) (b1 b2 : Nat) (h1 : w.cell? ⟨b1, 0, none⟩ = some (.pointer (some ⟨s, 0, none⟩))) (h2 : w.cell? ⟨b2, 0, none⟩ = some (.int .i64 t)) :
    Calls Tryz.prog 144 #[.int .i64 id, .pointer (some ⟨b1, 0, none⟩), .pointer (some ⟨b2, 0, none⟩)] w fun e w' => e = .returned (.bool (!(readE M t id).isSome)) ∧ Fr No w w' := by
  obtain ⟨c, hce⟩ : ∃ c, A.c = c := ⟨_, rfl⟩
  have hr := h.rdE t id
  have HN : Hid (∀ u, Fr No w u → Calls Tryz.prog 66 #[.pointer (some ⟨s, 0, none⟩), .int .i64 id] u fun e w' => e = .returned (.pointer (edP A M id)) ∧ u = w') := hid (fun u hu => edge_any u ρ s A M F (h.frame hu) id)
  have x0 := h.cells.1
  rw [hce] at hr x0
  have HSC : Hid (∀ j ∈ [s, b1, b2], j < w.heap.size) := hid (fun j hj => by
    rcases List.mem_cons.1 hj with rfl | hj
    · exact h.lt
    rcases List.mem_cons.1 hj with rfl | hj
    · exact World.block_lt_of_cell? _ _ h1
    rw [List.mem_singleton.1 hj]
    exact World.block_lt_of_cell? _ _ h2)
  generalize edP A M id = nx at *
  generalize (readE M t id).getD EdgeV.none = v at *
  generalize (readE M t id).isSome = rb at *
  obtain ⟨ef, et, ey, ew⟩ := v
  dsimp only [edgeCs] at hr
  have HR := hid hr
  clear h hr hce
  go_enter Tryz.func144, Tryz.ntmps144
  go_wp2_with fail
  refine region_cut (fun b => [(8, .pointer (some ⟨s, 0, none⟩)), (9, .int .i64 id), (10, .pointer nx), (11, .pointer (some ⟨s, 0, none⟩)), (12, .pointer (some ⟨s, 0, none⟩)), (13, .pointer (some ⟨s, 0, none⟩)), (14, .pointer (some ⟨c, 0, none⟩)), (15, .int .i64 t), (16, .tuple #[.agg #[.int .i64 ef, .int .i64 et, .string ey, .float .f64 ew], .bool rb]), (7, .tuple #[.agg #[.int .i64 ef, .int .i64 et, .string ey, .float .f64 ew], .bool rb]), (17, .agg #[.int .i64 ef, .int .i64 et, .string ey, .float .f64 ew]), (18, .bool rb), (5, .pointer (some ⟨b, 0, none⟩)), (6, .bool rb)])
    (fun b W => Fr No w W ∧ W.heap[b]? = some (.cells #[.int .i64 ef, .int .i64 et, .string ey, .float .f64 ew] 42 (0, 0)) ∧ w.heap.size ≤ b) ?_ ?_
  · refine wp_region_tree (by kernel_rfl) (.quiet 0 (.quiet 1 (.quiet 3 (.quiet 4 (.quiet 5 (.quiet 6 (.quiet 7 (.two 2 (.two 8 (.quiet 9 (.quiet 10 (.quiet 11 (.one 12 (.one 13 (.quiet 14 .done)))))) 12 (.one 8 (.quiet 9 (.quiet 10 (.quiet 11 (.one 13 (.quiet 14 .done))))))) 12 (.one 2 (.one 8 (.quiet 9 (.quiet 10 (.quiet 11 (.one 13 (.quiet 14 .done))))))))))))))) (AgC [s, b1, b2] w.drew) (by kernel_rfl) (AgC.refl _ _) ?_
    simp only [fill, nth_zero, nth_succ]
    repeat (refine tree_quiet (fun K hK => ?_); go_simp; refine hK _ ?_; clear hK K)
    refine tree_two ?_ ?_
    · refine tree_call (by first | rfl | go_simp) 66 #[.pointer (some ⟨s, 0, none⟩), .int .i64 id] (by first | kernel_rfl | go_simp) (HN.out _ (Fr.refl No w).drew) ?_
      rintro e wn ⟨rfl, rfl⟩
      refine ⟨_, rfl, AgC.refl _ _, ?_⟩
      refine tree_two ?_ ?_
      · refine tree_call (by first | rfl | go_simp) 67 #[.pointer nx, .pointer (some ⟨c, 0, none⟩), .int .i64 t] (by first | kernel_rfl | go_simp) (HR.out _ (Fr.refl No w).drew) ?_
        rintro e w8 ⟨rfl, f8⟩
        have a8 := (AgC.refl _ _).fr f8 (fun j hj => ⟨HSC.out j hj, fun e => e⟩)
        have F8 := hid ((Fr.refl No w).drew.thenNo f8)
        refine ⟨_, rfl, a8, ?_⟩
        clear f8
        repeat (refine tree_quiet (fun K hK => ?_); go_simp; refine hK _ ?_; clear hK K)
        refine tree_one (wpList_allocO rfl 42 rfl _ 4 40 infoEd ?_)
        intro w3 p3
        have a3 := a8.fr p3.fr (fun j hj => ⟨HSC.out j hj, fun e => e⟩)
        have F3 := hid (F8.out.thenNo p3.fr)
        have B3 := hid (show w3.heap[w8.heap.size]? = some (.cells #[.int .i64 0, .int .i64 0, .string ⟨#[]⟩, .float .f64 0] 42 (0, 0)) from p3.at_)
        have Z3 := hid (show w.heap.size ≤ w8.heap.size from F8.out.size)
        refine tree_on a3 ?_
        generalize w8.heap.size = b3 at *
        clear p3
        repeat (refine tree_quiet (fun K hK => ?_); go_simp; refine hK _ ?_; clear hK K)
        refine tree_one (wpList_storeO rfl 42 (.tmp 5) (.tmp 17) rfl b3 0 rfl [.int .i64 0, .int .i64 0, .string ⟨#[]⟩, .float .f64 0] 42 [.int .i64 ef, .int .i64 et, .string ey, .float .f64 ew] rfl (by kernel_rfl) B3.out (by simp) (by simp [Value.oneCell']) ?_)
        intro w5 p5
        have P5 := hid (⟨F3.out.fresh p5.fr (fun k e => by subst e; exact Z3.out), p5.at_⟩ : _ ∧ _)
        refine tree_on (a3.fr p5.fr (fun j hj => ⟨HSC.out j hj, fun e => by have h1 := Z3.out; have h2 := HSC.out j hj; omega⟩)) ?_
        clear p5
        repeat (refine tree_quiet (fun K hK => ?_); go_simp; refine hK _ ?_; clear hK K)
        refine tree_nil ?_
        refine CutPost.mk rfl ⟨b3, ?_, P5.out.1, P5.out.2, Z3.out⟩
        simp only [putsOf_cons, putsOf_nil]
        go_simp
      · refine tree_one (wpList_allocO rfl 42 rfl _ 4 40 infoEd ?_)
        intro w3 p3
        have a3 := (AgC.refl _ _).fr p3.fr (fun j hj => ⟨HSC.out j hj, fun e => e⟩)
        have F3 := hid ((Fr.refl No w).drew.thenNo p3.fr)
        have B3 := hid (show w3.heap[w.drew.heap.size]? = some (.cells #[.int .i64 0, .int .i64 0, .string ⟨#[]⟩, .float .f64 0] 42 (0, 0)) from p3.at_)
        have Z3 := hid (show w.heap.size ≤ w.drew.heap.size from (Fr.refl No w).drew.size)
        refine tree_on a3 ?_
        generalize w.drew.heap.size = b3 at *
        clear p3
        refine tree_call (by first | rfl | go_simp) 67 #[.pointer nx, .pointer (some ⟨c, 0, none⟩), .int .i64 t] (by first | kernel_rfl | go_simp) (HR.out _ F3.out) ?_
        rintro e w8 ⟨rfl, f8⟩
        have a8 := a3.fr f8 (fun j hj => ⟨HSC.out j hj, fun e => e⟩)
        have F8 := hid (F3.out.thenNo f8)
        have B8 := hid (f8.keep B3.out (fun e => e))
        refine ⟨_, rfl, a8, ?_⟩
        clear f8
        repeat (refine tree_quiet (fun K hK => ?_); go_simp; refine hK _ ?_; clear hK K)
        refine tree_one (wpList_storeO rfl 42 (.tmp 5) (.tmp 17) rfl b3 0 rfl [.int .i64 0, .int .i64 0, .string ⟨#[]⟩, .float .f64 0] 42 [.int .i64 ef, .int .i64 et, .string ey, .float .f64 ew] rfl (by kernel_rfl) B8.out (by simp) (by simp [Value.oneCell']) ?_)
        intro w5 p5
        have P5 := hid (⟨F8.out.fresh p5.fr (fun k e => by subst e; exact Z3.out), p5.at_⟩ : _ ∧ _)
        refine tree_on (a8.fr p5.fr (fun j hj => ⟨HSC.out j hj, fun e => by have h1 := Z3.out; have h2 := HSC.out j hj; omega⟩)) ?_
        clear p5
        repeat (refine tree_quiet (fun K hK => ?_); go_simp; refine hK _ ?_; clear hK K)
        refine tree_nil ?_
        refine CutPost.mk rfl ⟨b3, ?_, P5.out.1, P5.out.2, Z3.out⟩
        simp only [putsOf_cons, putsOf_nil]
        go_simp
    · refine tree_one (wpList_allocO rfl 42 rfl _ 4 40 infoEd ?_)
      intro w3 p3
      have a3 := (AgC.refl _ _).fr p3.fr (fun j hj => ⟨HSC.out j hj, fun e => e⟩)
      have F3 := hid ((Fr.refl No w).drew.thenNo p3.fr)
      have B3 := hid (show w3.heap[w.drew.heap.size]? = some (.cells #[.int .i64 0, .int .i64 0, .string ⟨#[]⟩, .float .f64 0] 42 (0, 0)) from p3.at_)
      have Z3 := hid (show w.heap.size ≤ w.drew.heap.size from (Fr.refl No w).drew.size)
      refine tree_on a3 ?_
      generalize w.drew.heap.size = b3 at *
      clear p3
      refine tree_call (by first | rfl | go_simp) 66 #[.pointer (some ⟨s, 0, none⟩), .int .i64 id] (by first | kernel_rfl | go_simp) (HN.out _ F3.out) ?_
      rintro e wn ⟨rfl, rfl⟩
      refine ⟨_, rfl, a3, ?_⟩
      refine tree_call (by first | rfl | go_simp) 67 #[.pointer nx, .pointer (some ⟨c, 0, none⟩), .int .i64 t] (by first | kernel_rfl | go_simp) (HR.out _ F3.out) ?_
      rintro e w8 ⟨rfl, f8⟩
      have a8 := a3.fr f8 (fun j hj => ⟨HSC.out j hj, fun e => e⟩)
      have F8 := hid (F3.out.thenNo f8)
      have B8 := hid (f8.keep B3.out (fun e => e))
      refine ⟨_, rfl, a8, ?_⟩
      clear f8
      repeat (refine tree_quiet (fun K hK => ?_); go_simp; refine hK _ ?_; clear hK K)
      refine tree_one (wpList_storeO rfl 42 (.tmp 5) (.tmp 17) rfl b3 0 rfl [.int .i64 0, .int .i64 0, .string ⟨#[]⟩, .float .f64 0] 42 [.int .i64 ef, .int .i64 et, .string ey, .float .f64 ew] rfl (by kernel_rfl) B8.out (by simp) (by simp [Value.oneCell']) ?_)
      intro w5 p5
      have P5 := hid (⟨F8.out.fresh p5.fr (fun k e => by subst e; exact Z3.out), p5.at_⟩ : _ ∧ _)
      refine tree_on (a8.fr p5.fr (fun j hj => ⟨HSC.out j hj, fun e => by have h1 := Z3.out; have h2 := HSC.out j hj; omega⟩)) ?_
      clear p5
      repeat (refine tree_quiet (fun K hK => ?_); go_simp; refine hK _ ?_; clear hK K)
      refine tree_nil ?_
      refine CutPost.mk rfl ⟨b3, ?_, P5.out.1, P5.out.2, Z3.out⟩
      simp only [putsOf_cons, putsOf_nil]
      go_simp
  rintro b w5 ⟨f5, h5, z5⟩
  have H5 := hid f5
  clear f5 h5 z5
  simp only [putsOf_cons, putsOf_nil]
  go_wp2_with fail
  go_ret
  exact ⟨rfl, H5.out⟩
theorem enter_chained1 : ∀ args w, (callFunc 144 args).run Tryz.prog w = .ok (.enter 144 args) w := enters_of Tryz.func144 (by kernel_rfl) rfl
end Go.Proofs.YtibfpkfpmkghhaaGreatDoor

namespace Go.Lig
open Go.RowKit Go.Sort
theorem putCells_size (enc : Int → Value) (d : Array Int) (c : Array Value) : (putCells enc 0 d c).size = c.size := by simp [putCells]
theorem putCells_get (enc : Int → Value) (d : Array Int) (c : Array Value) (hc : d.size ≤ c.size) (i : Nat) (hi : i < d.size) : (putCells enc 0 d c)[i]? = some (enc d[i]!) := by
  simp only [putCells, Array.getElem?_mapIdx, Array.getElem?_eq_getElem (show i < c.size by omega), Option.map_some]
  rw [if_pos (by omega), Nat.sub_zero]
theorem heap_mapBlock {w : World} {g : Nat} {f : Array Value → Array Value} {cur : Array Value} {e : TypeId} {fr : Nat × Nat} (hg : w.heap[g]? = some (.cells cur e fr)) : (mapBlock w g f).heap[g]? = some (.cells (f cur) e fr) := by
  simp [mapBlock, Array.getElem?_modify, hg, onCells]
theorem heap_mapBlock_other {w : World} {g b : Nat} {f : Array Value → Array Value} (h : b ≠ g) : (mapBlock w g f).heap[b]? = w.heap[b]? := by
  simp [mapBlock, Array.getElem?_modify, h.symm]
end Go.Lig
namespace Go.Proofs.YtibfpkfpmkghhaaGreatDoor
open Go.RowKit Go.Lig Go.Sort
def srt (zs : List Int) : List Int := zs.mergeSort fun x y => decide (x ≤ y)
theorem srt_len (zs : List Int) : (srt zs).length = zs.length := List.length_mergeSort _
theorem sort_row (w : World) (g cap : Nat) (zs : List Int) (h : w.ownsRow 0 3 1 (.slice (some ⟨g, 0, none⟩) zs.length cap) zs.length (zs.map iv)) (hs : zs.length ≤ 1000000) :
    Calls Tryz.prog 145 #[.slice (some ⟨g, 0, none⟩) zs.length cap] w fun e w' => e = .returned (.tuple #[]) ∧ w'.ownsRow 0 3 1 (.slice (some ⟨g, 0, none⟩) zs.length cap) zs.length ((srt zs).map iv) ∧ Fr (fun k => k = g) w w' := by
  obtain ⟨hl, ⟨e', _⟩ | ⟨g', c', cur, e', -, hg, hnc, hcm, hcs, htk⟩⟩ := id h
  · cases e'
  simp only [Value.slice.injEq, Option.some.injEq, Addr.mk.injEq, and_true, true_and] at e'
  obtain ⟨rfl, rfl⟩ := e'
  have hlt := lt_of_block hg
  have hH : Go.Sort.Holds (Value.int .i64) w g 0 zs.toArray := by
    intro j hj
    have hj' : j < zs.length := by simpa using hj
    refine ⟨?_, by simp [World.frozen?, hg]⟩
    rw [Nat.zero_add]
    have e1 : zs.toArray[j]! = zs[j] := by simp [getElem!_pos, hj']
    rw [e1]
    exact owns_cell h rfl (by rw [List.getElem?_map, List.getElem?_eq_getElem hj']; rfl)
  refine (Go.Proofs.Any.slices_Sort_int laySort g 0 cap zs w hH hlt (by omega)).mono ?_
  rintro e w' ⟨rfl, n, os, hw⟩
  have hw2 : w' = Go.Sort.grow (Go.Sort.putRow (Value.int .i64) (Go.Sort.ahead w n) g 0 (srt zs).toArray) os := hw
  clear hw
  subst hw2
  have hg1 : (Go.Sort.ahead w n).heap[g]? = some (.cells cur 3 (0, 0)) := hg
  have hg2 := heap_mapBlock (f := putCells (Value.int .i64) 0 (srt zs).toArray) hg1
  have hsz : (Go.Sort.putRow (Value.int .i64) (Go.Sort.ahead w n) g 0 (srt zs).toArray).heap.size = w.heap.size := by simp
  have hgr : ∀ b, b < w.heap.size → (Go.Sort.grow (Go.Sort.putRow (Value.int .i64) (Go.Sort.ahead w n) g 0 (srt zs).toArray) os).heap[b]? = (Go.Sort.putRow (Value.int .i64) (Go.Sort.ahead w n) g 0 (srt zs).toArray).heap[b]? := fun b hb => by
    unfold Go.Sort.grow
    simp only []
    rw [Array.getElem?_append_left (by rw [hsz]; exact hb)]
  have hcl : cur.size = cap := by simpa using hcs
  have hsl : (srt zs).toArray.size = zs.length := by simp [srt_len]
  refine ⟨rfl, ⟨by simp [srt_len], .inr ⟨g, cap, _, rfl, Nat.zero_le _, (hgr g hlt).trans hg2, hnc, hcm, by rw [putCells_size]; exact hcs, ?_⟩⟩, ⟨rfl, rfl, rfl, ?_, fun k hk hne => ?_⟩⟩
  · apply List.ext_getElem?
    intro i
    rw [Nat.mul_one, List.getElem?_take]
    by_cases hi : i < zs.length
    · rw [if_pos hi, Array.getElem?_toList, putCells_get _ _ _ (by omega) i (by omega), List.getElem?_map, List.getElem?_eq_getElem (by rw [srt_len]; exact hi)]
      simp [getElem!_pos, srt_len, hi, iv]
    · rw [if_neg hi, List.getElem?_eq_none (by simp [srt_len]; omega)]
  · unfold Go.Sort.grow
    simp only [Array.size_append, hsz]
    omega
  · rw [hgr k hk]
    exact heap_mapBlock_other (w := Go.Sort.ahead w n) hne
end Go.Proofs.YtibfpkfpmkghhaaGreatDoor

namespace Go.Proofs.YtibfpkfpmkghhaaGreatDoor
open Go.RowKit Go.Lig

set_option maxRecDepth 100000 in
theorem blen64_zero (w : World) : Calls Tryz.prog 261 #[.int .u64 0] w fun e w' => e = .returned (.int .i64 0) ∧ w = w' := by
  go_enter Tryz.func261, Tryz.ntmps261
  go_wp2
  go_ret
  exact ⟨by kernel_rfl, rfl⟩
theorem blen_zero (w : World) : Calls Tryz.prog 211 #[.int .u64 0] w fun e w' => e = .returned (.int .i64 0) ∧ w = w' := by
  go_enter Tryz.func211, Tryz.ntmps211
  go_wp2_with (go_at_call 261; refine (blen64_zero _).mono ?_; rintro e w' ⟨rfl, rfl⟩)
  go_ret
  exact ⟨rfl, rfl⟩
theorem insort_nil (w : World) : Calls Tryz.prog 251 #[.slice none 0 0, .int .i64 0, .int .i64 0] w fun e w' => e = .returned (.tuple #[]) ∧ w = w' := by
  go_enter Tryz.func251, Tryz.ntmps251
  go_wp2
  go_loopw [6] (fun vi wr => vi = .int .i64 1 ∧ w = wr) (fun _ _ => 0)
  case atStart => exact ⟨rfl, rfl⟩
  case round =>
    obtain ⟨rfl, rfl⟩ := hrel
    go_wp2
    go_end0
    exact ⟨rfl, rfl⟩
theorem pdq_nil (w : World) : Calls Tryz.prog 210 #[.slice none 0 0, .int .i64 0, .int .i64 0, .int .i64 0] w fun e w' => e = .returned (.tuple #[]) ∧ w = w' := by
  go_enter Tryz.func210, Tryz.ntmps210
  go_wp2
  go_loopw [1, 2, 3, 8, 9] (fun v1 v2 v3 v8 v9 wr => v1 = .int .i64 0 ∧ v2 = .int .i64 0 ∧ v3 = .int .i64 0 ∧ v8 = .bool true ∧ v9 = .bool true ∧ w = wr) (fun _ _ _ _ _ _ => 0)
  case atStart => exact ⟨rfl, rfl, rfl, rfl, rfl, rfl⟩
  case round =>
    obtain ⟨rfl, rfl, rfl, rfl, rfl, rfl⟩ := hrel
    go_wp2_with (go_at_call 251; refine (insort_nil _).mono ?_; rintro e w' ⟨rfl, rfl⟩)
    (try simp only [Exit.inBlock, Exit.then])
    refine bodyPost_ret (results_none rfl _ _ _) rfl ?_
    exact ⟨rfl, rfl⟩
theorem sort_nil (w : World) : Calls Tryz.prog 145 #[.slice none 0 0] w fun e w' => e = .returned (.tuple #[]) ∧ Fr No w w' := by
  go_enter Tryz.func145, Tryz.ntmps145
  go_wp2_with (first | (go_at_call 211; refine (blen_zero _).mono ?_; rintro e w' ⟨rfl, rfl⟩) | (go_at_call 210; refine (pdq_nil _).mono ?_; rintro e w2 ⟨rfl, rfl⟩))
  go_end0
  exact ⟨rfl, Fr.refl _ _⟩
theorem ixint_nil (w : World) (f : Value) : Calls Tryz.prog 209 #[.slice none 0 0, f] w fun e w' => e = .returned (.int .i64 (-1)) ∧ w = w' := by
  go_enter Tryz.func209, Tryz.ntmps209
  go_wp2
  go_loopw [8] (fun vi wr => vi = .int .i64 0 ∧ w = wr) (fun _ _ => 0)
  case atStart => exact ⟨rfl, rfl⟩
  case round =>
    obtain ⟨rfl, rfl⟩ := hrel
    go_wp2
    go_ret
    exact ⟨rfl, rfl⟩
theorem delint_nil (w : World) (f : Value) : Calls Tryz.prog 143 #[.slice none 0 0, f] w fun e w' => e = .returned (.slice none 0 0) ∧ w = w' := by
  go_enter Tryz.func143, Tryz.ntmps143
  go_wp2_with (go_at_call 209; refine (ixint_nil _ _).mono ?_; rintro e w' ⟨rfl, rfl⟩)
  go_ret
  exact ⟨rfl, rfl⟩
theorem chained_nil (w : World) (s t : Value) (hs : s.oneCell' = true) (ht : t.oneCell' = true) : Calls Tryz.prog 71 #[s, t, .slice none 0 0] w fun e w' => e = .returned (.slice none 0 0) ∧ Fr No w w' := by
  go_enter Tryz.func71, Tryz.ntmps71
  go_wp2_with (first | (go_at_call 143; refine (delint_nil _ _).mono ?_; rintro e w' ⟨rfl, rfl⟩) | (go_at_call 145; refine (sort_nil _).mono ?_; rintro e w' ⟨rfl, f2⟩; have F2 := hid f2; clear f2))
  go_ret
  exact ⟨rfl, (((Fr.refl No w).alloc _).alloc _).thenNo F2.out⟩
/-- what stands at t of a list of edges, in their order -/
def seen (M : PSt) (t : Int) (l : List Int) : List Int := srt (l.filter (fun id => (readE M t id).isSome))
set_option maxRecDepth 100000 in
set_option maxHeartbeats 1000000 in
theorem chained_any (w : World) (ρ : Nat → Option Pt) (s : Nat) (A : Ad) (M : PSt) (F : Nat) (h : StAt w ρ s A M F) (t : Int) (v : Value) (l : List Int) (hv : w.ownsRow 0 3 1 v l.length (l.map iv)) (hn : ∀ b, v.ownBlock = some b → ¬ Go.Lig.Own ρ b) (hl : l.length ≤ 1000000) :
    Calls Tryz.prog 71 #[.pointer (some ⟨s, 0, none⟩), .int .i64 t, v] w fun e w' => ∃ v', e = .returned v' ∧ w'.ownsRow 0 3 1 v' (seen M t l).length ((seen M t l).map iv) ∧ Fr (fun b => v.ownBlock = some b) w w' ∧ (∀ b, v'.ownBlock = some b → v.ownBlock = some b) := by
  obtain ⟨a, cap, rfl⟩ := ownsRow_slice hv
  rcases hv.2 with ⟨e0, e1⟩ | ⟨g, c', cur, e0, -, hg, hnc, -⟩
  · obtain ⟨rfl, e2, rfl⟩ := Value.slice.inj e0
    have hl0 : l = [] := List.eq_nil_of_length_eq_zero (by omega)
    subst hl0
    refine (chained_nil w _ _ rfl rfl).mono ?_
    rintro e w' ⟨rfl, f⟩
    refine ⟨_, rfl, ?_, f.mono (fun _ _ E => E.elim), fun b E => by cases E⟩
    have : seen M t [] = [] := by unfold seen srt; simp
    rw [this]
    exact World.ownsRow_nil _ _ _ _
  · obtain ⟨rfl, -, rfl⟩ := Value.slice.inj e0
    have hgn : ¬ Go.Lig.Own ρ g := hn g rfl
    obtain ⟨k1, k2⟩ := heap2 w (.cells #[.pointer (some ⟨s, 0, none⟩)] 22) (.cells #[.int .i64 t] 3)
    have hf : Fr No w ((w.alloc (.cells #[.pointer (some ⟨s, 0, none⟩)] 22)).alloc (.cells #[.int .i64 t] 3)) := ((Fr.refl No w).alloc _).alloc _
    have HG := hid (lt_of_block hg)
    have hsl := h.lt
    generalize hw2 : (w.alloc (.cells #[.pointer (some ⟨s, 0, none⟩)] 22)).alloc (.cells #[.int .i64 t] 3) = w2 at *
    have h2 := h.frame hf
    have HD := hid (Di.deli_some w2 g cap l hl (fd_owns hv hf) 144 #[.pointer (some ⟨w.heap.size, 0, none⟩), .pointer (some ⟨w.heap.size + 1, 0, none⟩)] (fun id => !(readE M t id).isSome) enter_chained1 (fun W y hW => by
      have hW2 : StAt W ρ s A M F := ⟨fun b hb => Nat.lt_of_lt_of_le (h2.bound b hb) hW.size, fun p => (h2.at_ p).frame hW (fun k hk E => hgn (by rw [← E]; exact at_own k hk)) (fun k hk E => hgn (by rw [← E]; exact at_own k hk))⟩
      have g1 : ¬ w.heap.size = g := fun E => by have := HG.out; omega
      have g2 : ¬ w.heap.size + 1 = g := fun E => by have := HG.out; omega
      exact chained1_any W ρ s A M F hW2 t y w.heap.size (w.heap.size + 1) (cells1 (hW.keep k1 g1)) (cells1 (hW.keep k2 g2))))
    have e9 : (fun z => !(fun id => !(readE M t id).isSome) z) = fun id => (readE M t id).isSome := by funext z; simp
    simp only [e9] at HD
    have HF := hid hf
    have hsub : ∀ y, y ∈ l.filter (fun id => (readE M t id).isSome) → True := fun _ _ => trivial
    have HL := hid (List.length_filter_le (fun id => (readE M t id).isSome) l)
    have HS : Hid (seen M t l = srt (l.filter (fun id => (readE M t id).isSome))) := hid rfl
    generalize l.filter (fun id => (readE M t id).isSome) = l2 at *
    generalize seen M t l = l3 at *
    have hw3 := hid hw2
    clear h h2 hv hn hg hnc k1 k2 hf hw2 hsub
    go_enter Tryz.func71, Tryz.ntmps71
    go_wp2_with (first | (go_at_call 143; rw [hw3.out]; refine HD.out.mono ?_; rintro e w3 ⟨rfl, o3, f3⟩; have H3 := hid (⟨o3, f3⟩ : _ ∧ _); clear o3 f3) | (go_at_call 145; refine (sort_row _ g cap l2 H3.out.1 (by have := HL.out; omega)).mono ?_; rintro e w4 ⟨rfl, o4, f4⟩; have H4 := hid (⟨o4, f4⟩ : _ ∧ _); clear o4 f4))
    go_ret
    have hlen : l3.length = l2.length := by rw [HS.out, srt_len]
    refine ⟨_, rfl, ?_, ?_, fun b E => E⟩
    · rw [HS.out, srt_len]
      exact H4.out.1
    · exact ((HF.out.mono (fun _ _ E => E.elim)).thenS (H3.out.2.mono (fun k _ E => by rw [E]; rfl))).thenS (H4.out.2.mono (fun k _ E => by rw [E]; rfl))
end Go.Proofs.YtibfpkfpmkghhaaGreatDoor

namespace Go.Proofs.YtibfpkfpmkghhaaGreatDoor
open Go.RowKit Go.Lig

theorem ids_len (I : List (Int × Int)) (k : Int) : (ids I k).length ≤ I.length := by
  unfold ids
  simp only [List.length_map]
  exact List.length_filter_le _ _
/-- what $1 answers -/
def outM (M : PSt) (t id : Int) : List Int := if M.K.live t then seen M t (ids M.O id) else []
set_option maxRecDepth 100000 in
set_option maxHeartbeats 1000000 in
theorem out_any (w : World) (ρ : Nat → Option Pt) (s : Nat) (A : Ad) (M : PSt) (F : Nat) (h : StAt w ρ s A M F) (hF : F ≤ 1000000) (t id : Int) (hk : keyOk id) :
    Calls Tryz.prog 28 #[.pointer (some ⟨s, 0, none⟩), .int .i64 t, .int .i64 id] w fun e w' => ∃ v, e = .returned v ∧ OwnI w w' v (outM M t id) := by
  have HI := hid (islive_any w ρ s A M F h t)
  unfold outM
  cases hl : M.K.live t with
  | false =>
    rw [hl] at HI
    clear h hl
    go_enter Tryz.func28, Tryz.ntmps28
    go_wp2_with (go_at_call 43; refine HI.out.mono ?_; rintro e w1 ⟨rfl, rfl⟩)
    go_ret
    exact ⟨_, rfl, OwnI.nil _⟩
  | true =>
    rw [hl] at HI
    obtain ⟨x0, x1, x2, x3, x4, x5, x6, x7⟩ := h.cells
    have HW := hid (ChP.walk (h.at_ .out) hF id hk)
    have hlen : (ids M.O id).length ≤ 1000000 := by
      have h1 : ChP w (At ρ .out) A.o M.O F := h.at_ .out
      have := h1.len
      have h2 : (ids M.O id).length ≤ M.O.length := ids_len _ _
      omega
    have HH := hid h
    have HLe := hid hlen
    clear h hl hlen x0 x1 x2 x3 x6 x7
    go_enter Tryz.func28, Tryz.ntmps28
    go_wp2_with (first | (go_at_call 43; refine HI.out.mono ?_; rintro e w1 ⟨rfl, rfl⟩) | (go_at_call 72; refine HW.out.mono ?_; rintro e w2 ⟨v, rfl, o2⟩; have H2 := hid o2; clear o2) | (go_at_call 71; refine (chained_any _ ρ s A M F (HH.out.frame H2.out.fr) t v _ H2.out.row (fun b hb E => by have h1 := H2.out.blk b hb; have h2 := HH.out.bound b E; omega) HLe.out).mono ?_; rintro e w3 ⟨v3, rfl, o3, f3, b3⟩; have H3 := hid (⟨o3, f3, b3⟩ : _ ∧ _ ∧ _); clear o3 f3 b3))
    go_ret
    exact ⟨_, rfl, H3.out.1, fun j hj => H2.out.blk j (H3.out.2.2 j hj), H2.out.fr.trans H3.out.2.1 (fun k hk E => by have := H2.out.blk k E; omega)⟩
/-- what $1 answers -/
def inM (M : PSt) (t id : Int) : List Int := if M.K.live t then seen M t (ids M.I id) else []
set_option maxRecDepth 100000 in
set_option maxHeartbeats 1000000 in
theorem in_any (w : World) (ρ : Nat → Option Pt) (s : Nat) (A : Ad) (M : PSt) (F : Nat) (h : StAt w ρ s A M F) (hF : F ≤ 1000000) (t id : Int) (hk : keyOk id) :
    Calls Tryz.prog 29 #[.pointer (some ⟨s, 0, none⟩), .int .i64 t, .int .i64 id] w fun e w' => ∃ v, e = .returned v ∧ OwnI w w' v (inM M t id) := by
  have HI := hid (islive_any w ρ s A M F h t)
  unfold inM
  cases hl : M.K.live t with
  | false =>
    rw [hl] at HI
    clear h hl
    go_enter Tryz.func29, Tryz.ntmps29
    go_wp2_with (go_at_call 43; refine HI.out.mono ?_; rintro e w1 ⟨rfl, rfl⟩)
    go_ret
    exact ⟨_, rfl, OwnI.nil _⟩
  | true =>
    rw [hl] at HI
    obtain ⟨x0, x1, x2, x3, x4, x5, x6, x7⟩ := h.cells
    have HW := hid (ChP.walk (h.at_ .inn) hF id hk)
    have hlen : (ids M.I id).length ≤ 1000000 := by
      have h1 : ChP w (At ρ .inn) A.i M.I F := h.at_ .inn
      have := h1.len
      have h2 : (ids M.I id).length ≤ M.I.length := ids_len _ _
      omega
    have HH := hid h
    have HLe := hid hlen
    clear h hl hlen x0 x1 x2 x3 x6 x7
    go_enter Tryz.func29, Tryz.ntmps29
    go_wp2_with (first | (go_at_call 43; refine HI.out.mono ?_; rintro e w1 ⟨rfl, rfl⟩) | (go_at_call 72; refine HW.out.mono ?_; rintro e w2 ⟨v, rfl, o2⟩; have H2 := hid o2; clear o2) | (go_at_call 71; refine (chained_any _ ρ s A M F (HH.out.frame H2.out.fr) t v _ H2.out.row (fun b hb E => by have h1 := H2.out.blk b hb; have h2 := HH.out.bound b E; omega) HLe.out).mono ?_; rintro e w3 ⟨v3, rfl, o3, f3, b3⟩; have H3 := hid (⟨o3, f3, b3⟩ : _ ∧ _ ∧ _); clear o3 f3 b3))
    go_ret
    exact ⟨_, rfl, H3.out.1, fun j hj => H2.out.blk j (H3.out.2.2 j hj), H2.out.fr.trans H3.out.2.1 (fun k hk E => by have := H2.out.blk k E; omega)⟩
end Go.Proofs.YtibfpkfpmkghhaaGreatDoor

namespace Go.Proofs.YtibfpkfpmkghhaaGreatDoor
open Go.RowKit Go.Lig

theorem seen_len (M : PSt) (t : Int) (l : List Int) : (seen M t l).length ≤ l.length := by
  unfold seen
  rw [srt_len]
  exact List.length_filter_le _ _
theorem outM_len {w : World} {ρ : Nat → Option Pt} {s : Nat} {A : Ad} {M : PSt} {F : Nat} (h : StAt w ρ s A M F) (t id : Int) : (outM M t id).length ≤ F := by
  have h1 : ChP w (At ρ .out) A.o M.O F := h.at_ .out
  have h2 := h1.len
  have h3 := seen_len M t (ids M.O id)
  have h4 := ids_len M.O id
  unfold outM
  split
  · omega
  · exact Nat.zero_le _
theorem inM_len {w : World} {ρ : Nat → Option Pt} {s : Nat} {A : Ad} {M : PSt} {F : Nat} (h : StAt w ρ s A M F) (t id : Int) : (inM M t id).length ≤ F := by
  have h1 : ChP w (At ρ .inn) A.i M.I F := h.at_ .inn
  have h2 := h1.len
  have h3 := seen_len M t (ids M.I id)
  have h4 := ids_len M.I id
  unfold inM
  split
  · omega
  · exact Nat.zero_le _
section
variable (w : World) (ρ : Nat → Option Pt) (s : Nat) (A : Ad) (M : PSt) (F : Nat) (h : StAt w ρ s A M F) (t : Int)
include h
theorem dropnode_dead (hl : M.K.live t = false) (id : Int) :
    Calls Tryz.prog 20 #[.pointer (some ⟨s, 0, none⟩), .int .i64 t, .int .i64 id] w fun e w' => e = .returned (.int .i64 5) ∧ w = w' := by
  have HI := hid (islive_any w ρ s A M F h t)
  rw [hl] at HI
  clear h hl
  go_enter Tryz.func20, Tryz.ntmps20
  go_wp2_with (go_at_call 43; refine HI.out.mono ?_; rintro e w1 ⟨rfl, rfl⟩)
  go_ret
  exact ⟨rfl, rfl⟩
variable (hl : M.K.live t = true)
include hl
theorem dropnode_none (id : Int) (hn : readN M t id = none) :
    Calls Tryz.prog 20 #[.pointer (some ⟨s, 0, none⟩), .int .i64 t, .int .i64 id] w fun e w' => e = .returned (.int .i64 4) ∧ Fr No w w' := by
  have HI := hid (islive_any w ρ s A M F h t)
  rw [hl] at HI
  have HR := hid (reads_any w ρ s A M F h t id)
  rw [hn] at HR
  dsimp only [Option.isSome] at HR
  clear h hl hn
  go_enter Tryz.func20, Tryz.ntmps20
  go_wp2_with (first | (go_at_call 43; refine HI.out.mono ?_; rintro e w1 ⟨rfl, rfl⟩) | (go_at_call 45; refine HR.out.mono ?_; rintro e w1 ⟨rfl, f1⟩; have F1 := hid f1; clear f1))
  go_ret
  exact ⟨rfl, F1.out⟩
variable (k : Nat) (d : NodeD) (hv : readN M t ((k : Int) + 1) = some d) (hk : k < M.N.length) (hF : F ≤ 1000000)
include hv hk hF
set_option maxRecDepth 100000 in
set_option maxHeartbeats 1000000 in
theorem dropnode_busy (ho : 0 < (outM M t ((k : Int) + 1)).length + (inM M t ((k : Int) + 1)).length) :
    Calls Tryz.prog 20 #[.pointer (some ⟨s, 0, none⟩), .int .i64 t, .int .i64 ((k : Int) + 1)] w fun e w' => e = .returned (.int .i64 7) ∧ Fr No w w' := by
  obtain ⟨id, hid0⟩ : ∃ id : Int, (k : Int) + 1 = id := ⟨_, rfl⟩
  have hks : k < 1000 := by have := h.nlen; omega
  have hkey : keyOk ((k : Int) + 1) := by have := key_small (n := k + 1) (by omega); simpa using this
  have hb1 := outM_len h t ((k : Int) + 1)
  have hb2 := inM_len h t ((k : Int) + 1)
  have hb1 : (outM M t ((k : Int) + 1)).length ≤ 1000000 := by omega
  have hb2 : (inM M t ((k : Int) + 1)).length ≤ 1000000 := by omega
  rw [hid0] at hb1 hb2
  have HI := hid (islive_any w ρ s A M F h t)
  rw [hl] at HI
  have HL := hid hl
  have HR := hid (reads_any w ρ s A M F h t ((k : Int) + 1))
  rw [hv] at HR
  dsimp only [Option.isSome] at HR
  rw [hid0] at HR hkey
  have HKy := hid hkey
  have HKk := hid hk
  have HH := hid h
  have HF := hid hF
  have HId := hid hid0
  rw [hid0]
  rw [hid0] at ho
  have HO := hid ho
  clear h hl hv hk hF hkey ho
  go_enter Tryz.func20, Tryz.ntmps20
  go_wp2_with (first | (go_at_call 43; refine HI.out.mono ?_; rintro e w1 ⟨rfl, rfl⟩) | (go_at_call 45; refine HR.out.mono ?_; rintro e w1 ⟨rfl, f1⟩; have F1 := hid f1; clear f1) | (go_at_call 28; refine (out_any _ ρ s A M F (HH.out.frame F1.out) HF.out t id HKy.out).mono ?_; rintro e w2 ⟨v2, rfl, o2⟩; obtain ⟨a2, n2, rfl⟩ := ownsRow_slice o2.row; have F2 := hid (F1.out.thenNo o2.fr); clear o2) | (go_at_call 29; refine (in_any _ ρ s A M F (HH.out.frame F2.out) HF.out t id HKy.out).mono ?_; rintro e w3 ⟨v3, rfl, o3⟩; obtain ⟨a3, n3, rfl⟩ := ownsRow_slice o3.row; have F3 := hid (F2.out.thenNo o3.fr); clear o3; have hp : (0 : Int) < ((outM M t id).length : Int) + ((inM M t id).length : Int) := by have := HO.out; omega))
  go_ret
  exact ⟨rfl, F3.out⟩
set_option maxRecDepth 100000 in
set_option maxHeartbeats 1000000 in
theorem dropnode_clash (ho : outM M t ((k : Int) + 1) = [] ∧ inM M t ((k : Int) + 1) = []) (hc : mayB M t 0 [(k : Int) + 1] = true) (M1 : PSt) (G1 : Nat) (ht : UndoTo t M1 G1 { M with K := M.K.abort t } F 0 ∧ G1 + 3000 < 1000000) :
    Calls Tryz.prog 20 #[.pointer (some ⟨s, 0, none⟩), .int .i64 t, .int .i64 ((k : Int) + 1)] w fun e w' => e = .returned (.int .i64 6) ∧ TurnsA w ρ s A (undoEs t M1 M1.E.length) (G1 + 2 * M1.E.length) w' := by
  have HC := hid (⟨hc, ht⟩ : _ ∧ _)
  clear hc ht
  obtain ⟨id, hid0⟩ : ∃ id : Int, (k : Int) + 1 = id := ⟨_, rfl⟩
  have hks : k < 1000 := by have := h.nlen; omega
  have hkey : keyOk ((k : Int) + 1) := by have := key_small (n := k + 1) (by omega); simpa using this
  have hb1 := outM_len h t ((k : Int) + 1)
  have hb2 := inM_len h t ((k : Int) + 1)
  have hb1 : (outM M t ((k : Int) + 1)).length ≤ 1000000 := by omega
  have hb2 : (inM M t ((k : Int) + 1)).length ≤ 1000000 := by omega
  rw [hid0] at hb1 hb2
  have HI := hid (islive_any w ρ s A M F h t)
  rw [hl] at HI
  have HL := hid hl
  have HR := hid (reads_any w ρ s A M F h t ((k : Int) + 1))
  rw [hv] at HR
  dsimp only [Option.isSome] at HR
  rw [hid0] at HR hkey
  have HKy := hid hkey
  have HKk := hid hk
  have HH := hid h
  have HF := hid hF
  have HId := hid hid0
  rw [hid0]
  rw [hid0] at ho
  have HO := hid ho
  clear h hl hv hk hF hkey ho
  go_enter Tryz.func20, Tryz.ntmps20
  go_wp2_with (first | (go_at_call 43; refine HI.out.mono ?_; rintro e w1 ⟨rfl, rfl⟩) | (go_at_call 45; refine HR.out.mono ?_; rintro e w1 ⟨rfl, f1⟩; have F1 := hid f1; clear f1) | (go_at_call 28; refine (out_any _ ρ s A M F (HH.out.frame F1.out) HF.out t id HKy.out).mono ?_; rintro e w2 ⟨v2, rfl, o2⟩; obtain ⟨a2, n2, rfl⟩ := ownsRow_slice o2.row; have F2 := hid (F1.out.thenNo o2.fr); clear o2) | (go_at_call 29; refine (in_any _ ρ s A M F (HH.out.frame F2.out) HF.out t id HKy.out).mono ?_; rintro e w3 ⟨v3, rfl, o3⟩; obtain ⟨a3, n3, rfl⟩ := ownsRow_slice o3.row; have F3 := hid (F2.out.thenNo o3.fr); clear o3; have hz1 : (outM M t id).length = 0 := (by rw [HO.out.1]; rfl); have hz2 : (inM M t id).length = 0 := (by rw [HO.out.2]; rfl)))
  have f4 : Fr No w (w3.alloc (.cells #[.int .i64 id] 3)) := F3.out.alloc _
  have hb4 := heap1 w3 (.cells #[.int .i64 id] 3)
  have F4 := hid f4
  have B4 := hid (show (w3.alloc (.cells #[.int .i64 id] 3)).heap[w3.heap.size]? = some (.cells [iv id].toArray 3 (0, 0)) from hb4)
  generalize w3.alloc (.cells #[.int .i64 id] 3) = w4 at *
  clear f4 hb4 hz1 hz2
  refine (may_any _ ρ s A M F (HH.out.frame F4.out) t 0 HL.out (.slice (some ⟨w3.heap.size, 0, none⟩) 1 1) [id] (Rd.block B4.out 1 1 1 rfl (by simp [iv, Value.oneCell']) (Nat.le_refl _) (by simp [maxLen])) (by simp) M1 G1 (fun _ => HC.out.2)).mono ?_
  have hcc : mayB M t 0 [id] = true := by rw [← HId.out]; exact HC.out.1
  rintro e w7 ⟨rfl, -, h7⟩
  have G7 := hid (TurnsA.trans (Gone.no F4.out) (h7 hcc))
  rw [hcc, show errN true = 6 from rfl]
  clear h7 hcc
  go_wp2_with fail
  go_ret
  exact ⟨rfl, G7.out⟩
set_option maxRecDepth 100000 in
set_option maxHeartbeats 1000000 in
theorem dropnode_ok (ho : outM M t ((k : Int) + 1) = [] ∧ inM M t ((k : Int) + 1) = []) (hc : mayB M t 0 [(k : Int) + 1] = false) (M' : PSt) (F' : Nat) (hF1 : F < 1000000) (hfind : FindsTo (putM M t k NodeD.none true) M' (F + 1) F' k) :
    Calls Tryz.prog 20 #[.pointer (some ⟨s, 0, none⟩), .int .i64 t, .int .i64 ((k : Int) + 1)] w fun e w' => e = .returned (.int .i64 0) ∧ TurnsA w ρ s A M' F' w' := by
  have HC := hid (⟨hc, hfind, hF1⟩ : _ ∧ _ ∧ _)
  clear hc hfind hF1
  obtain ⟨id, hid0⟩ : ∃ id : Int, (k : Int) + 1 = id := ⟨_, rfl⟩
  have hks : k < 1000 := by have := h.nlen; omega
  have hkey : keyOk ((k : Int) + 1) := by have := key_small (n := k + 1) (by omega); simpa using this
  have hb1 := outM_len h t ((k : Int) + 1)
  have hb2 := inM_len h t ((k : Int) + 1)
  have hb1 : (outM M t ((k : Int) + 1)).length ≤ 1000000 := by omega
  have hb2 : (inM M t ((k : Int) + 1)).length ≤ 1000000 := by omega
  rw [hid0] at hb1 hb2
  have HI := hid (islive_any w ρ s A M F h t)
  rw [hl] at HI
  have HL := hid hl
  have HR := hid (reads_any w ρ s A M F h t ((k : Int) + 1))
  rw [hv] at HR
  dsimp only [Option.isSome] at HR
  rw [hid0] at HR hkey
  have HKy := hid hkey
  have HKk := hid hk
  have HH := hid h
  have HF := hid hF
  have HId := hid hid0
  rw [hid0]
  rw [hid0] at ho
  have HO := hid ho
  clear h hl hv hk hF hkey ho
  go_enter Tryz.func20, Tryz.ntmps20
  go_wp2_with (first | (go_at_call 43; refine HI.out.mono ?_; rintro e w1 ⟨rfl, rfl⟩) | (go_at_call 45; refine HR.out.mono ?_; rintro e w1 ⟨rfl, f1⟩; have F1 := hid f1; clear f1) | (go_at_call 28; refine (out_any _ ρ s A M F (HH.out.frame F1.out) HF.out t id HKy.out).mono ?_; rintro e w2 ⟨v2, rfl, o2⟩; obtain ⟨a2, n2, rfl⟩ := ownsRow_slice o2.row; have F2 := hid (F1.out.thenNo o2.fr); clear o2) | (go_at_call 29; refine (in_any _ ρ s A M F (HH.out.frame F2.out) HF.out t id HKy.out).mono ?_; rintro e w3 ⟨v3, rfl, o3⟩; obtain ⟨a3, n3, rfl⟩ := ownsRow_slice o3.row; have F3 := hid (F2.out.thenNo o3.fr); clear o3; have hz1 : (outM M t id).length = 0 := (by rw [HO.out.1]; rfl); have hz2 : (inM M t id).length = 0 := (by rw [HO.out.2]; rfl)))
  have f4 : Fr No w (w3.alloc (.cells #[.int .i64 id] 3)) := F3.out.alloc _
  have hb4 := heap1 w3 (.cells #[.int .i64 id] 3)
  have F4 := hid f4
  have B4 := hid (show (w3.alloc (.cells #[.int .i64 id] 3)).heap[w3.heap.size]? = some (.cells [iv id].toArray 3 (0, 0)) from hb4)
  generalize w3.alloc (.cells #[.int .i64 id] 3) = w4 at *
  clear f4 hb4 hz1 hz2
  refine (may_any _ ρ s A M F (HH.out.frame F4.out) t 0 HL.out (.slice (some ⟨w3.heap.size, 0, none⟩) 1 1) [id] (Rd.block B4.out 1 1 1 rfl (by simp [iv, Value.oneCell']) (Nat.le_refl _) (by simp [maxLen])) (by simp) M F (fun e => by rw [← HId.out, HC.out.1] at e; cases e)).mono ?_
  have hcc : mayB M t 0 [id] = false := by rw [← HId.out]; exact HC.out.1
  rintro e w7 ⟨rfl, h7, -⟩
  have F7 := hid (F4.out.thenNo (h7 hcc))
  rw [hcc, show errN false = 0 from rfl]
  clear h7 hcc
  go_wp2_with fail
  rw [← HId.out]
  refine (puts_any _ ρ s A M F (HH.out.frame F7.out) t k HKk.out none none 0 0 0 0 NodeD.none (NodeOf.none _) (Nat.zero_le _) (Nat.zero_le _) true HC.out.2.2 M' F' HC.out.2.1).mono ?_
  rintro e w8 ⟨rfl, t8⟩
  have T8 := hid (TurnsA.trans (Gone.no F7.out) t8)
  clear t8
  go_wp2_with fail
  go_ret
  exact ⟨rfl, T8.out⟩
end
end Go.Proofs.YtibfpkfpmkghhaaGreatDoor
