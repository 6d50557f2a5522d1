/- A part of the proof: contracts of functions of the program, for the row's text. -/
import Derived.Test.YtibfpkfpmkghhaaGreatDoorJ33
import Derived.Test.YtibfpkfpmkghhaaGreatDoorJ11
import Derived.Test.YtibfpkfpmkghhaaGreatDoorJ08
import Derived.Test.YtibfpkfpmkghhaaGreatDoorJ21
import Derived.Test.YtibfpkfpmkghhaaGreatDoorJ04
import Derived.Test.YtibfpkfpmkghhaaGreatDoorJ02
namespace Go.Proofs.YtibfpkfpmkghhaaGreatDoor
open Go.RowKit Go.Lig

set_option maxRecDepth 100000 in
set_option maxHeartbeats 4000000 in
theorem known_any (w : World) : Calls Tryz.prog 13 #[] w fun e w' => e = .returned (.bool true) ∧ Fr No w w' := by
  go_enter Tryz.func13, Tryz.ntmps13
  go_wp2_with fail
  refine (stnew_any _).mono ?_
  rintro e w1 ⟨s, ρ, A, rfl, h1, f1, n1⟩
  have H1 := hid (⟨h1, Nu.mk f1 n1⟩ : _ ∧ _)
  clear h1 f1 n1
  go_wp2_with fail
  refine (stbegin_any _ ρ s A emptyM 0 H1.out.1 (by decide) (by decide)).mono ?_
  rintro e w2 ⟨rfl, ρ2, h2, g2⟩
  rw [show ((emptyM.K.l.length + 1 : Nat) : Int) = 1 from rfl]
  have H2 := hid (⟨h2, H1.out.2.next g2⟩ : StAt w2 ρ2 s A kA 1 ∧ _)
  clear h2 g2
  go_wp2_with fail
  refine (addnode_ok w2 ρ2 s A kA 1 H2.out.1 1 none none 0 0 0 0 (by kernel_rfl) (fun u _ => isnode_nil u) NodeD.none (NodeOf.none _) (by decide) (by decide) (fun k hk => by cases hk) (fun k hk => by cases hk) (by decide) (by decide) kB 2 g_b).mono ?_
  rintro e w3 ⟨rfl, ρ3, A3, h3, g3⟩
  rw [show ((kA.N.length : Nat) : Int) + 1 = 1 from rfl]
  have H3 := hid (⟨h3, H2.out.2.next g3⟩ : _ ∧ _)
  clear h3 g3
  go_wp2_with fail
  refine (stcommit_any _ ρ3 s A3 kB 2 H3.out.1 1 (by kernel_rfl) (by decide)).mono ?_
  rintro e w4 ⟨rfl, ρ4, h4, g4⟩
  have H4 := hid (⟨h4, H3.out.2.next g4⟩ : StAt w4 ρ4 s A3 kC 3 ∧ _)
  clear h4 g4
  go_wp2_with fail
  refine (stbegin_any _ ρ4 s A3 kC 3 H4.out.1 (by rw [show kC.K.count = 0 by kernel_rfl]; decide) (by decide)).mono ?_
  rintro e w5 ⟨rfl, ρ5, h5, g5⟩
  rw [show kC.K.l.length = 1 by kernel_rfl]
  have H5 := hid (⟨h5, H4.out.2.next g5⟩ : StAt w5 ρ5 s A3 kD 4 ∧ _)
  clear h5 g5
  go_wp2_with fail
  refine (stbegin_any _ ρ5 s A3 kD 4 H5.out.1 (by rw [show kD.K.count = 1 by kernel_rfl]; decide) (by decide)).mono ?_
  rintro e w6 ⟨rfl, ρ6, h6, g6⟩
  rw [show kD.K.l.length = 2 by kernel_rfl]
  have H6 := hid (⟨h6, H5.out.2.next g6⟩ : StAt w6 ρ6 s A3 kE 5 ∧ _)
  clear h6 g6
  go_wp2_with fail
  refine (dropnode_ok _ ρ6 s A3 kE 5 H6.out.1 2 (by kernel_rfl) 0 NodeD.none kE_r (by rw [show kE.N.length = 1 by kernel_rfl]; decide) (by decide) kE_o kE_m kF 6 (by decide) g_f).mono ?_
  rintro e w7 ⟨rfl, ρ7, h7, g7⟩
  have H7 := hid (⟨h7, H6.out.2.next g7⟩ : _ ∧ _)
  clear h7 g7
  go_wp2_with fail
  refine (addedge_clash _ ρ7 s A3 kF 6 H7.out.1 3 1 1 ⟨#[101]⟩ 0 kF_l (fun u _ => isedge_ok u 1 1 ⟨#[101]⟩ (.float .f64 0) (by decide) (by decide) isnE (by decide) rfl (fun u => weight_zero u)) (by rw [kF_r]; rfl) (by rw [kF_r]; rfl) (by rw [show kF.E.length = 0 by kernel_rfl]; decide) kF_m kG 6 undo_known (by decide)).mono ?_
  rintro e w8 ⟨rfl, ρ8, h8, g8⟩
  have H8 := hid (⟨h8, H7.out.2.next g8⟩ : StAt w8 ρ8 s A3 kH _ ∧ _)
  clear h8 g8
  go_wp2_with (go_at_call 41; refine (stlive_any _ ρ8 s A3 kH _ H8.out.1).mono ?_; rintro e w9 ⟨rfl, f9⟩; rw [kH_c]; have F9 := hid (H8.out.2.fr.thenNo f9); clear f9)
  go_ret
  exact ⟨rfl, F9.out⟩
end Go.Proofs.YtibfpkfpmkghhaaGreatDoor

namespace Go.Proofs.YtibfpkfpmkghhaaGreatDoor
open Go.RowKit Go.Lig

theorem ncell_one {l : List (Ver NodeV)} {u : Value} (h : u ∈ l.flatMap ncell) : u.oneCell' = true := by
  obtain ⟨y, -, hu⟩ := List.mem_flatMap.1 h
  simp only [ncell, List.mem_cons, List.not_mem_nil, or_false] at hu
  rcases hu with rfl | rfl | rfl | rfl <;> rfl
set_option maxRecDepth 100000 in
set_option maxHeartbeats 1000000 in
theorem vdel_any (w : World) (g cap : Nat) (l : List (Ver NodeV)) (ho : w.ownsRow 0 161 4 (.slice (some ⟨g, 0, none⟩) l.length cap) l.length (l.flatMap ncell)) (i : Nat) (hi : i < l.length) (hs : l.length ≤ 1000000) :
    Calls Tryz.prog 138 #[.slice (some ⟨g, 0, none⟩) l.length cap, .int .i64 (i : Int), .int .i64 ((i : Int) + 1)] w fun e w' =>
      e = .returned (.slice (some ⟨g, 0, none⟩) (l.length - 1) cap) ∧ w'.ownsRow 0 161 4 (.slice (some ⟨g, 0, none⟩) (l.length - 1) cap) (l.length - 1) ((l.take i ++ l.drop (i + 1)).flatMap ncell) ∧ Fr (fun k => k = g) w w' := by
  obtain ⟨g', cur, hg', -, hg, hnc, hcs, htk⟩ := owns_at ho (by omega)
  obtain rfl : g = g' := by simpa using hg'
  have HO := hid ho
  have HG := hid hg
  have HZ := hid (⟨hnc, hcs, htk⟩ : _ ∧ _ ∧ _)
  generalize hn : l.length = n at *
  have HN := hid hn
  clear ho hg hg' hcs htk hn
  have hin : (i : Int) + 1 ≤ (n : Int) := by omega
  have hne : ¬ (i : Int) = (i : Int) + 1 := by omega
  have hni : i + 1 ≤ cap := by omega
  go_enter Tryz.func138, Tryz.ntmps138
  go_wp2_with fail
  have hln : (l.drop (i + 1)).length = n - (i + 1) := by rw [List.length_drop, HN.out]
  have HL := hid (show ((l.drop (i + 1)).flatMap ncell).length = (n - (i + 1)) * 4 by rw [flat_len (f := ncell) (m := 4) (fun _ => rfl), hln])
  have HD := hid (flat_drop (f := ncell) (m := 4) (fun _ => rfl) l (i + 1))
  have HT := hid (flat_take (f := ncell) (m := 4) (fun _ => rfl) l i)
  obtain ⟨ad, had, hadn⟩ : ∃ ad : Addr, ad = (if cap = i + 1 then ⟨g, 0, none⟩ else ⟨g, (i + 1) * 4, none⟩ : Addr) ∧ ∀ j u, ((l.drop (i + 1)).flatMap ncell)[j]? = some u → w.cell? (ad.add j) = some u := by
    by_cases hc : cap = i + 1
    · refine ⟨_, rfl, fun j u hj => ?_⟩
      have : ((l.drop (i + 1)).flatMap ncell) = [] := List.eq_nil_of_length_eq_zero (by rw [HL.out]; omega)
      rw [this] at hj
      simp at hj
    · refine ⟨_, rfl, fun j u hj => ?_⟩
      rw [if_neg hc, Addr.add_lit]
      exact owns_cell HO.out rfl (by rw [← HD.out, List.getElem?_drop] at hj; exact hj)
  have HA := hid hadn
  replace had := hid had
  clear hadn hln
  refine wp_region_sched (by kernel_rfl) 8 [6] [0, 1, 2, 3, 4, 5, 6, 7] (AgC [] w.drew) (by kernel_rfl) (AgC.refl _ _) ?_
  simp only [List.map_cons, List.map_nil, List.contains_cons, List.contains_nil, nth_zero, nth_succ, Nat.reduceBEq, Bool.or_false]
  repeat (refine sched_quiet (fun K hK => ?_); go_simp; refine hK _ ?_; clear hK K)
  refine sched_slice rfl 158 161 Tryz.underlying158 (.tmp 20) none (some (.tmp 21)) rfl (.slice (some ⟨g, 0, none⟩) n cap) rfl none (some (.int .i64 (i : Int))) rfl rfl (.slice (some ⟨g, 0, none⟩) i cap) (fun w' => by obtain ⟨j, hj, -⟩ := info_parts infoV; exact run_slice_to w' _ _ j Tryz.underlying158 hj g n cap i (by omega)) ?_
  repeat (refine sched_quiet (fun K hK => ?_); go_simp; refine hK _ ?_; clear hK K)
  refine sched_slice rfl 158 161 Tryz.underlying158 (.tmp 23) (some (.tmp 24)) none rfl (.slice (some ⟨g, 0, none⟩) n cap) rfl (some (.int .i64 ((i : Int) + 1))) none rfl rfl (.slice (some ad) (n - (i + 1)) (cap - (i + 1))) (fun w' => by rw [had.out]; exact run_slice_fromI w' _ _ 4 Tryz.underlying158 (by kernel_rfl) g n cap (i + 1) _ rfl hi HZ.out.1) ?_
  refine sched_loud (wpList_append_at rfl (.tmp 22) (.tmp 25) 158 161 rfl _ 4 64 Tryz.underlying158 infoV g i cap rfl cur HG.out ad (n - (i + 1)) (cap - (i + 1)) _ rfl HL.out (fun j u hj => HA.out j u hj) (fun u hu => ncell_one hu) (by omega) (by rw [HL.out]; have := HZ.out.2.1; omega) ?_)
  intro w1 p1
  refine sched_on (AgC.mk (fun _ h => by cases h)) ?_
  repeat (refine sched_quiet (fun K hK => ?_); go_simp; refine hK _ ?_; clear hK K)
  refine sched_nil ?_
  have o1 := owns_putSeg (w := w.drew) HO.out HG.out (by rw [HL.out]; omega) (fun u hu => ncell_one hu) p1
  have g1 := p1.at_
  have F1 := hid ((Fr.refl (fun k => k = g) w).drew.trans p1.fr (fun _ _ e => e))
  have O1 := hid o1
  have G1 := hid g1
  clear p1 o1 g1
  have hnn : i + (n - (i + 1)) = n - 1 := by omega
  have hnn1 : ((n - 1 : Nat) : Int) ≤ (n : Int) := by omega
  rw [hnn]
  obtain ⟨cur1, hcur1, hcs1⟩ : ∃ cur1 : Array Value, w1.heap[g]? = some (.cells cur1 161 (0, 0)) ∧ cur1.size = cap * 4 := ⟨_, G1.out, by
    have := HZ.out.2.1
    have hh : ∀ ns : List Value, ns.length = (n - (i + 1)) * 4 → (cur.toList.take (i * 4) ++ ns ++ cur.toList.drop (i * 4 + ns.length)).toArray.size = cap * 4 := by
      intro ns h2
      simp
      omega
    exact hh _ HL.out⟩
  obtain ⟨w2, zs, hzl, p2, hcl⟩ : ∃ (w2 : World) (zs : List Value), zs.length = (n - (n - 1)) * 4 ∧ Put g (cur1.toList.take ((n - 1) * 4) ++ zs ++ cur1.toList.drop ((n - 1) * 4 + (n - (n - 1)) * 4)).toArray 161 w1 w2 ∧ ∀ ty c, (Builtin.clear_ #[158] ty #[.slice (some ⟨g, (n - 1) * 4, none⟩) (n - (n - 1)) c]).run Tryz.prog w1 = .ok (.tuple #[]) w2 := by
    obtain ⟨j, hj, hz, hsz, -⟩ := info_parts infoV
    refine ⟨_, _, ?_, Put.row hcur1, fun ty c => run_clear_rows w1 158 161 ty j _ Tryz.underlying158 hj hz g ((n - 1) * 4) (n - (n - 1)) c (by omega) cur1 hcur1 ?_ ?_ (by decide)⟩
    · simp [Builtin.zeroCells, Value.cells]
    · rw [hcs1]; show (n - 1) * 4 + (n - (n - 1)) * 4 ≤ cap * 4; have := HZ.out.1; omega
    · intro v hv
      simp [Value.cells] at hv
      rcases hv with rfl | rfl | rfl | rfl <;> rfl
  have o2 := owns_cut O1.out hcur1 (q := n - 1) (by omega) hzl p2
  have O2 := hid o2
  have F2 := hid (F1.out.thenS p2.fr)
  clear o2 p2 hcs1 hcur1 hzl F1 O1 G1
  go_wp2_with fail
  go_ret
  refine ⟨rfl, ?_, F2.out⟩
  have hx : ((l.flatMap ncell).take (i * 4) ++ (l.drop (i + 1)).flatMap ncell ++ (l.flatMap ncell).drop (i * 4 + ((l.drop (i + 1)).flatMap ncell).length)).take ((n - 1) * 4) = (l.take i ++ l.drop (i + 1)).flatMap ncell := by
    have l1 : ((l.flatMap ncell).take (i * 4) ++ (l.drop (i + 1)).flatMap ncell).length = (n - 1) * 4 := by
      rw [List.length_append, HL.out, HT.out, flat_len (f := ncell) (m := 4) (fun _ => rfl), List.length_take, HN.out]; omega
    rw [← l1, List.take_left, HT.out, List.flatMap_append]
  rw [← hx]
  exact O2.out
end Go.Proofs.YtibfpkfpmkghhaaGreatDoor

namespace Go.Proofs.YtibfpkfpmkghhaaGreatDoor.Ec
open Go.RowKit Go.Lig

theorem ecell_one {l : List (Ver EdgeV)} {u : Value} (h : u ∈ l.flatMap ecell) : u.oneCell' = true := by
  obtain ⟨y, -, hu⟩ := List.mem_flatMap.1 h
  simp only [ecell, List.mem_cons, List.not_mem_nil, or_false] at hu
  rcases hu with rfl | rfl | rfl | rfl | rfl | rfl <;> rfl
set_option maxRecDepth 100000 in
set_option maxHeartbeats 1000000 in
theorem vdel_any (w : World) (g cap : Nat) (l : List (Ver EdgeV)) (ho : w.ownsRow 0 176 6 (.slice (some ⟨g, 0, none⟩) l.length cap) l.length (l.flatMap ecell)) (i : Nat) (hi : i < l.length) (hs : l.length ≤ 1000000) :
    Calls Tryz.prog 140 #[.slice (some ⟨g, 0, none⟩) l.length cap, .int .i64 (i : Int), .int .i64 ((i : Int) + 1)] w fun e w' =>
      e = .returned (.slice (some ⟨g, 0, none⟩) (l.length - 1) cap) ∧ w'.ownsRow 0 176 6 (.slice (some ⟨g, 0, none⟩) (l.length - 1) cap) (l.length - 1) ((l.take i ++ l.drop (i + 1)).flatMap ecell) ∧ Fr (fun k => k = g) w w' := by
  obtain ⟨g', cur, hg', -, hg, hnc, hcs, htk⟩ := owns_at ho (by omega)
  obtain rfl : g = g' := by simpa using hg'
  have HO := hid ho
  have HG := hid hg
  have HZ := hid (⟨hnc, hcs, htk⟩ : _ ∧ _ ∧ _)
  generalize hn : l.length = n at *
  have HN := hid hn
  clear ho hg hg' hcs htk hn
  have hin : (i : Int) + 1 ≤ (n : Int) := by omega
  have hne : ¬ (i : Int) = (i : Int) + 1 := by omega
  have hni : i + 1 ≤ cap := by omega
  go_enter Tryz.func140, Tryz.ntmps140
  go_wp2_with fail
  have hln : (l.drop (i + 1)).length = n - (i + 1) := by rw [List.length_drop, HN.out]
  have HL := hid (show ((l.drop (i + 1)).flatMap ecell).length = (n - (i + 1)) * 6 by rw [flat_len (f := ecell) (m := 6) (fun _ => rfl), hln])
  have HD := hid (flat_drop (f := ecell) (m := 6) (fun _ => rfl) l (i + 1))
  have HT := hid (flat_take (f := ecell) (m := 6) (fun _ => rfl) l i)
  obtain ⟨ad, had, hadn⟩ : ∃ ad : Addr, ad = (if cap = i + 1 then ⟨g, 0, none⟩ else ⟨g, (i + 1) * 6, none⟩ : Addr) ∧ ∀ j u, ((l.drop (i + 1)).flatMap ecell)[j]? = some u → w.cell? (ad.add j) = some u := by
    by_cases hc : cap = i + 1
    · refine ⟨_, rfl, fun j u hj => ?_⟩
      have : ((l.drop (i + 1)).flatMap ecell) = [] := List.eq_nil_of_length_eq_zero (by rw [HL.out]; omega)
      rw [this] at hj
      simp at hj
    · refine ⟨_, rfl, fun j u hj => ?_⟩
      rw [if_neg hc, Addr.add_lit]
      exact owns_cell HO.out rfl (by rw [← HD.out, List.getElem?_drop] at hj; exact hj)
  have HA := hid hadn
  replace had := hid had
  clear hadn hln
  refine wp_region_sched (by kernel_rfl) 8 [6] [0, 1, 2, 3, 4, 5, 6, 7] (AgC [] w.drew) (by kernel_rfl) (AgC.refl _ _) ?_
  simp only [List.map_cons, List.map_nil, List.contains_cons, List.contains_nil, nth_zero, nth_succ, Nat.reduceBEq, Bool.or_false]
  repeat (refine sched_quiet (fun K hK => ?_); go_simp; refine hK _ ?_; clear hK K)
  refine sched_slice rfl 173 176 Tryz.underlying173 (.tmp 20) none (some (.tmp 21)) rfl (.slice (some ⟨g, 0, none⟩) n cap) rfl none (some (.int .i64 (i : Int))) rfl rfl (.slice (some ⟨g, 0, none⟩) i cap) (fun w' => by obtain ⟨j, hj, -⟩ := info_parts infoV; exact run_slice_to w' _ _ j Tryz.underlying173 hj g n cap i (by omega)) ?_
  repeat (refine sched_quiet (fun K hK => ?_); go_simp; refine hK _ ?_; clear hK K)
  refine sched_slice rfl 173 176 Tryz.underlying173 (.tmp 23) (some (.tmp 24)) none rfl (.slice (some ⟨g, 0, none⟩) n cap) rfl (some (.int .i64 ((i : Int) + 1))) none rfl rfl (.slice (some ad) (n - (i + 1)) (cap - (i + 1))) (fun w' => by rw [had.out]; exact run_slice_fromI w' _ _ 6 Tryz.underlying173 (by kernel_rfl) g n cap (i + 1) _ rfl hi HZ.out.1) ?_
  refine sched_loud (wpList_append_at rfl (.tmp 22) (.tmp 25) 173 176 rfl _ 6 56 Tryz.underlying173 infoV g i cap rfl cur HG.out ad (n - (i + 1)) (cap - (i + 1)) _ rfl HL.out (fun j u hj => HA.out j u hj) (fun u hu => ecell_one hu) (by omega) (by rw [HL.out]; have := HZ.out.2.1; omega) ?_)
  intro w1 p1
  refine sched_on (AgC.mk (fun _ h => by cases h)) ?_
  repeat (refine sched_quiet (fun K hK => ?_); go_simp; refine hK _ ?_; clear hK K)
  refine sched_nil ?_
  have o1 := owns_putSeg (w := w.drew) HO.out HG.out (by rw [HL.out]; omega) (fun u hu => ecell_one hu) p1
  have g1 := p1.at_
  have F1 := hid ((Fr.refl (fun k => k = g) w).drew.trans p1.fr (fun _ _ e => e))
  have O1 := hid o1
  have G1 := hid g1
  clear p1 o1 g1
  have hnn : i + (n - (i + 1)) = n - 1 := by omega
  have hnn1 : ((n - 1 : Nat) : Int) ≤ (n : Int) := by omega
  rw [hnn]
  obtain ⟨cur1, hcur1, hcs1⟩ : ∃ cur1 : Array Value, w1.heap[g]? = some (.cells cur1 176 (0, 0)) ∧ cur1.size = cap * 6 := ⟨_, G1.out, by
    have := HZ.out.2.1
    have hh : ∀ ns : List Value, ns.length = (n - (i + 1)) * 6 → (cur.toList.take (i * 6) ++ ns ++ cur.toList.drop (i * 6 + ns.length)).toArray.size = cap * 6 := by
      intro ns h2
      simp
      omega
    exact hh _ HL.out⟩
  obtain ⟨w2, zs, hzl, p2, hcl⟩ : ∃ (w2 : World) (zs : List Value), zs.length = (n - (n - 1)) * 6 ∧ Put g (cur1.toList.take ((n - 1) * 6) ++ zs ++ cur1.toList.drop ((n - 1) * 6 + (n - (n - 1)) * 6)).toArray 176 w1 w2 ∧ ∀ ty c, (Builtin.clear_ #[173] ty #[.slice (some ⟨g, (n - 1) * 6, none⟩) (n - (n - 1)) c]).run Tryz.prog w1 = .ok (.tuple #[]) w2 := by
    obtain ⟨j, hj, hz, hsz, -⟩ := info_parts infoV
    refine ⟨_, _, ?_, Put.row hcur1, fun ty c => run_clear_rows w1 173 176 ty j _ Tryz.underlying173 hj hz g ((n - 1) * 6) (n - (n - 1)) c (by omega) cur1 hcur1 ?_ ?_ (by decide)⟩
    · simp [Builtin.zeroCells, Value.cells]
    · rw [hcs1]; show (n - 1) * 6 + (n - (n - 1)) * 6 ≤ cap * 6; have := HZ.out.1; omega
    · intro v hv
      simp [Value.cells] at hv
      rcases hv with rfl | rfl | rfl | rfl | rfl | rfl <;> rfl
  have o2 := owns_cut O1.out hcur1 (q := n - 1) (by omega) hzl p2
  have O2 := hid o2
  have F2 := hid (F1.out.thenS p2.fr)
  clear o2 p2 hcs1 hcur1 hzl F1 O1 G1
  go_wp2_with fail
  go_ret
  refine ⟨rfl, ?_, F2.out⟩
  have hx : ((l.flatMap ecell).take (i * 6) ++ (l.drop (i + 1)).flatMap ecell ++ (l.flatMap ecell).drop (i * 6 + ((l.drop (i + 1)).flatMap ecell).length)).take ((n - 1) * 6) = (l.take i ++ l.drop (i + 1)).flatMap ecell := by
    have l1 : ((l.flatMap ecell).take (i * 6) ++ (l.drop (i + 1)).flatMap ecell).length = (n - 1) * 6 := by
      rw [List.length_append, HL.out, HT.out, flat_len (f := ecell) (m := 6) (fun _ => rfl), List.length_take, HN.out]; omega
    rw [← l1, List.take_left, HT.out, List.flatMap_append]
  rw [← hx]
  exact O2.out
end Go.Proofs.YtibfpkfpmkghhaaGreatDoor.Ec

namespace Go.Proofs.YtibfpkfpmkghhaaGreatDoor
open Go.RowKit Go.Lig

/-- one that keeps y from being settled -/
def keeps (y x : Tx) : Bool := x.state == 0 && decide (x.mark < y.commit)
theorem settled_of {K : Ck} {b : Int} {y : Tx} (hx : K.tx b = some y) (hs : y.state = 1) : K.settled b = K.l.all (fun x => !keeps y x) := by
  unfold Ck.settled keeps
  rw [hx]
  simp [hs]
set_option maxRecDepth 100000 in
set_option maxHeartbeats 2000000 in
theorem settled_any (w : World) (c g : Nat) (K : Ck) (h : ClkRow w c g K) (hs : K.l.length ≤ 1000000) (b : Int) :
    Calls Tryz.prog 201 #[.pointer (some ⟨c, 0, none⟩), .int .i64 b] w fun e w' => e = .returned (.bool (K.settled b)) ∧ Fr No w w' := by
  have HA := hid (clkat_any w c g K h hs b)
  cases hx : K.tx b with
  | none =>
    have hr : K.settled b = false := by unfold Ck.settled; rw [hx]
    rw [hr]
    rw [atV_none hx] at HA
    clear h hr hx
    go_enter Tryz.func201, Tryz.ntmps201
    go_wp2_with (first | (go_at_call 109; refine HA.out.mono ?_; rintro e w' ⟨rfl, rfl⟩))
    go_ret
    exact ⟨rfl, Fr.refl _ _⟩
  | some y =>
    obtain ⟨c0, c1, c2⟩ := h.cell hx
    rw [atV_some hx] at HA
    obtain ⟨o, ho⟩ : ∃ o, (b - 1).toNat * 3 = o := ⟨_, rfl⟩
    have HO := hid ho
    rw [ho] at c0 c1 c2 HA
    by_cases hz : y.state = 1
    · have HR : Hid (K.settled b = K.l.all (fun x => !keeps y x)) := hid (settled_of hx hz)
      rw [HR.out]
      have HK : Hid (∀ x, keeps y x = (x.state == 0 && decide (x.mark < y.commit))) := hid (fun _ => rfl)
      obtain ⟨a, n, h1, h2, h3, h4⟩ := id h.ex
      obtain ⟨d0, d1⟩ := cells2 h1
      have n1 : ((y.state : Int) != 1) = false := by rw [hz]; rfl
      have H := hid (⟨h, hx, h3⟩ : _ ∧ _ ∧ _)
      have HE : Hid ((∀ k x, k < K.l.length → K.l[k]? = some x → keeps y x = false) → K.l.all (fun x => !keeps y x) = true) := hid (fun hb => by
        rw [List.all_eq_true]
        intro x hx
        obtain ⟨k, hk, rfl⟩ := List.getElem_of_mem hx
        rw [hb k _ hk (List.getElem?_eq_getElem hk)]
        rfl)
      have HX : Hid (∀ k x, K.l[k]? = some x → keeps y x = true → K.l.all (fun x => !keeps y x) = false) := hid (fun k x hk hx => by
        rw [List.all_eq_false]
        exact ⟨x, List.mem_of_getElem? hk, by simp [hx]⟩)
      generalize K.l.all (fun x => !keeps y x) = r at *
      clear h h1 h2 h3 h4 hx hz ho d1 c1
      go_enter Tryz.func201, Tryz.ntmps201
      go_wp2_with (first | (go_at_call 109; refine HA.out.mono ?_; rintro e w' ⟨rfl, rfl⟩))
      go_loopw [25] (fun vi wr => ∃ i : Nat, i ≤ K.l.length ∧ vi = .int .i64 (i : Int) ∧ Hid (Fr No w wr ∧ ∀ k x, k < i → K.l[k]? = some x → keeps y x = false)) (fun vi _ => K.l.length - (intOf vi).toNat)
      case atStart => exact ⟨0, Nat.zero_le _, rfl, Fr.refl _ _, fun k x hk => absurd hk (Nat.not_lt_zero _)⟩
      case round =>
        obtain ⟨i, hi, rfl, hF⟩ := hrel
        by_cases hlt : i < K.l.length
        · obtain ⟨x, hx⟩ : ∃ x, K.l[i]? = some x := ⟨_, List.getElem?_eq_getElem hlt⟩
          obtain rfl := H.out.2.2 (by omega)
          have htx : K.tx ((i : Int) + 1) = some x := by unfold Ck.tx; rw [if_pos (by omega), show ((i : Int) + 1 - 1).toNat = i by omega]; exact hx
          obtain ⟨y0, y1, y2⟩ := (H.out.1.frame hF.out.1).cell htx
          rw [show ((i : Int) + 1 - 1).toNat = i by omega] at y0 y1 y2
          have HC := hid (tx_src y0 y1 y2)
          have HXI := hid hx
          clear hx htx y0 y1 y2 c0 c2
          by_cases hz : x.state = 0
          · have n2 : ((x.state : Int) == 0) = true := by rw [beq_iff_eq]; exact hz
            by_cases hm : x.mark < y.commit
            · have HKI : Hid (keeps y x = true) := hid (by rw [HK.out, n2, decide_eq_true hm]; rfl)
              clear hz
              go_wp2_with (first | (refine wpList_load_seg rfl 143 (.tmp 27) rfl _ underTx (by kernel_rfl) (tcell x) sizeTx ⟨g, i * 3, none⟩ rfl HC.out ?_) | (refine wpList_local rfl rfl 143 7 (.tmp 28) rfl rfl rfl _ 3 24 infoTx3 rfl (fun _ => rfl) (.agg (tcell x).toArray) (fun _ => rfl) (tcell x) rfl rfl (by simp [tcell, Value.oneCell']) ?_; intro w2 hB f2 z2; obtain ⟨B0, B1, B2⟩ := cells3 hB; have hyc := (H.out.1.frame (hF.out.1.thenNo f2)).cell H.out.2.1; rw [HO.out] at hyc; have hy2 := hyc.2.2; have H2 := hid (⟨f2, lt_of_block hB⟩ : _ ∧ _); have HG := hid (Nat.lt_of_lt_of_le (World.block_lt_of_cell? _ _ hy2) (Nat.le_refl _)); clear hB f2 z2 hyc))
              have hsc : True := trivial
              refine wp_region_sched (by kernel_rfl) 12 [] [0, 1, 2, 3, 4, 5, 6, 7, 8, 9, 10, 11] (AgC [wr.heap.size, g] w2.drew) (by kernel_rfl) (AgC.refl _ _) ?_
              simp only [List.map_cons, List.map_nil, List.contains_nil, nth_zero, nth_succ]
              repeat (refine sched_quiet (fun K hK => ?_); go_simp; refine hK _ ?_; clear hK K)
              refine sched_nil ?_
              go_wp2_with fail
              go_ret
              have e1 := HX.out i x HXI.out HKI.out
              exact ⟨by rw [e1]; rfl, (hF.out.1.thenNo H2.out.1).drew⟩
            · have HKI : Hid (keeps y x = false) := hid (by rw [HK.out, decide_eq_false hm, Bool.and_false])
              clear hz
              go_wp2_with (first | (refine wpList_load_seg rfl 143 (.tmp 27) rfl _ underTx (by kernel_rfl) (tcell x) sizeTx ⟨g, i * 3, none⟩ rfl HC.out ?_) | (refine wpList_local rfl rfl 143 7 (.tmp 28) rfl rfl rfl _ 3 24 infoTx3 rfl (fun _ => rfl) (.agg (tcell x).toArray) (fun _ => rfl) (tcell x) rfl rfl (by simp [tcell, Value.oneCell']) ?_; intro w2 hB f2 z2; obtain ⟨B0, B1, B2⟩ := cells3 hB; have hyc := (H.out.1.frame (hF.out.1.thenNo f2)).cell H.out.2.1; rw [HO.out] at hyc; have hy2 := hyc.2.2; have H2 := hid (⟨f2, lt_of_block hB⟩ : _ ∧ _); have HG := hid (Nat.lt_of_lt_of_le (World.block_lt_of_cell? _ _ hy2) (Nat.le_refl _)); clear hB f2 z2 hyc))
              have hsc : True := trivial
              refine wp_region_sched (by kernel_rfl) 12 [] [0, 1, 2, 3, 4, 5, 6, 7, 8, 9, 10, 11] (AgC [wr.heap.size, g] w2.drew) (by kernel_rfl) (AgC.refl _ _) ?_
              simp only [List.map_cons, List.map_nil, List.contains_nil, nth_zero, nth_succ]
              repeat (refine sched_quiet (fun K hK => ?_); go_simp; refine hK _ ?_; clear hK K)
              refine sched_nil ?_
              go_wp2_with fail
              go_roundw
              case rel => exact ⟨i + 1, by omega, by go_num, (hF.out.1.thenNo H2.out.1).drew, fun k z hk hz => by
                rcases Nat.lt_succ_iff_lt_or_eq.1 hk with h | rfl
                · exact hF.out.2 k z h hz
                · rw [HXI.out] at hz; obtain rfl := Option.some.inj hz; exact HKI.out⟩
              case measure => simp [intOf]; omega
          · have n2 : ((x.state : Int) == 0) = false := by rw [beq_eq_false_iff_ne]; exact hz
            have HKI : Hid (keeps y x = false) := hid (by rw [HK.out, n2]; rfl)
            clear hz
            go_wp2_with (first | (refine wpList_load_seg rfl 143 (.tmp 27) rfl _ underTx (by kernel_rfl) (tcell x) sizeTx ⟨g, i * 3, none⟩ rfl HC.out ?_) | (refine wpList_local rfl rfl 143 7 (.tmp 28) rfl rfl rfl _ 3 24 infoTx3 rfl (fun _ => rfl) (.agg (tcell x).toArray) (fun _ => rfl) (tcell x) rfl rfl (by simp [tcell, Value.oneCell']) ?_; intro w2 hB f2 z2; obtain ⟨B0, B1, B2⟩ := cells3 hB; have hyc := (H.out.1.frame (hF.out.1.thenNo f2)).cell H.out.2.1; rw [HO.out] at hyc; have hy2 := hyc.2.2; have H2 := hid (⟨f2, lt_of_block hB⟩ : _ ∧ _); have HG := hid (Nat.lt_of_lt_of_le (World.block_lt_of_cell? _ _ hy2) (Nat.le_refl _)); clear hB f2 z2 hyc))
            have hsc : True := trivial
            refine wp_region_sched (by kernel_rfl) 12 [] [0, 1, 2, 3, 4, 5, 6, 7, 8, 9, 10, 11] (AgC [wr.heap.size, g] w2.drew) (by kernel_rfl) (AgC.refl _ _) ?_
            simp only [List.map_cons, List.map_nil, List.contains_nil, nth_zero, nth_succ]
            repeat (refine sched_quiet (fun K hK => ?_); go_simp; refine hK _ ?_; clear hK K)
            refine sched_nil ?_
            go_wp2_with fail
            go_roundw
            case rel => exact ⟨i + 1, by omega, by go_num, (hF.out.1.thenNo H2.out.1).drew, fun k z hk hz => by
              rcases Nat.lt_succ_iff_lt_or_eq.1 hk with h | rfl
              · exact hF.out.2 k z h hz
              · rw [HXI.out] at hz; obtain rfl := Option.some.inj hz; exact HKI.out⟩
            case measure => simp [intOf]; omega
        · obtain rfl : i = K.l.length := by omega
          have e1 := HE.out hF.out.2
          have HE1 := hid e1
          clear e1 hlt
          go_wp2_with fail
          go_ret
          exact ⟨by rw [HE1.out]; rfl, hF.out.1⟩
    · have hr : K.settled b = false := by unfold Ck.settled; rw [hx]; simp [hz]
      have n1 : ((y.state : Int) != 1) = true := by rw [bne_iff_ne]; exact hz
      rw [hr]
      clear h hr hx hz c1 c2 ho
      go_enter Tryz.func201, Tryz.ntmps201
      go_wp2_with (first | (go_at_call 109; refine HA.out.mono ?_; rintro e w' ⟨rfl, rfl⟩))
      go_ret
      exact ⟨rfl, Fr.refl _ _⟩
end Go.Proofs.YtibfpkfpmkghhaaGreatDoor
