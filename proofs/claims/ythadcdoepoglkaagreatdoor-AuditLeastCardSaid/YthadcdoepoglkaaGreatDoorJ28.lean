/- A part of the proof: contracts of functions of the program, for the row's text. -/
import Derived.Test.YthadcdoepoglkaaGreatDoorJ27
import Derived.Test.YthadcdoepoglkaaGreatDoorJ24
namespace Go.Lig
open Go.RowKit
theorem ins_lists {A X D : List Value} {C C1 : List Value} {i n : Nat} (hA : A.length = i * 6) (hX : X.length = 6) (hD : D.length = (n - i) * 6) (hin : i < n) (hC : C.take (n * 6) = A ++ D) (hl : n * 6 + 6 ≤ C.length)
  (h1 : C1 = C.take ((i + 1) * 6) ++ D ++ C.drop ((i + 1) * 6 + D.length)) : (C1.take (i * 6) ++ X ++ C1.drop (i * 6 + X.length)).take ((n + 1) * 6) = A ++ X ++ D ∧ (C1.take (i * 6) ++ X ++ C1.drop (i * 6 + X.length)).length = C.length := by
 have e1 : C.take (i * 6) = A := by
  have : (C.take (n * 6)).take (i * 6) = C.take (i * 6) := by rw [List.take_take, Nat.min_eq_left (by omega)]
  rw [← this, hC, ← hA, List.take_left]
 have l1 : (C.take ((i + 1) * 6)).length = (i + 1) * 6 := by rw [List.length_take]; omega
 have e2 : C1.take (i * 6) = A := by
  rw [h1, List.append_assoc, List.take_append_of_le_length (by omega), List.take_take, Nat.min_eq_left (by omega), e1]
 have e3 : C1.drop (i * 6 + X.length) = D ++ C.drop ((i + 1) * 6 + D.length) := by
  have : i * 6 + X.length = (C.take ((i + 1) * 6)).length := by omega
  rw [h1, this, List.append_assoc, List.drop_left]
 rw [e2, e3]
 constructor
 ·rw [← List.append_assoc]
  have : (n + 1) * 6 = (A ++ X ++ D).length := by simp only [List.length_append]; omega
  rw [this, List.take_left]
 ·simp only [List.length_append, List.length_drop]
  omega
end Go.Lig
namespace Go.Proofs.YthadcdoepoglkaaGreatDoor
open Go.RowKit Go.Lig
set_option maxRecDepth 100000 in
set_option maxHeartbeats 1000000 in
theorem insert_room (w : World) (g cap : Nat) (l : List EntR) (ho : w.ownsRow 0 165 6 (.slice (some ⟨g, 0, none⟩) l.length cap) l.length (l.flatMap ncellE)) (hs : l.length ≤ 1000000) (i : Nat) (hi : i < l.length) (hroom : l.length + 1 ≤ cap) (gv : Nat) (x : EntR) (hx : w.heap[gv]? = some (.cells (ncellE x).toArray 165 (0, 0))) (hgv : gv ≠ g) :
  Calls Tryz.prog 173 #[.slice (some ⟨g, 0, none⟩) l.length cap, .int .i64 (i : Int), .slice (some ⟨gv, 0, none⟩) 1 1] w fun e w' =>
   e = .returned (.slice (some ⟨g, 0, none⟩) (l.length + 1) cap) ∧ w'.ownsRow 0 165 6 (.slice (some ⟨g, 0, none⟩) (l.length + 1) cap) (l.length + 1) ((l.take i ++ x :: l.drop i).flatMap ncellE) ∧ Fr (fun k => k = g) w w' := by
 obtain ⟨hll, ⟨e', _⟩ | ⟨g', c', cur, e', -, hg, hnc, hcm, hcs, htk⟩⟩ := id ho
 ·cases e'
 simp only [Value.slice.injEq, Option.some.injEq, Addr.mk.injEq, and_true, true_and] at e'
 obtain ⟨rfl, rfl⟩ := e'
 have HO := hid ho
 have HG := hid hg
 have HX := hid hx
 have HXR := hid (rd_entry hx)
 have HL := hid (show ((l.take i ++ x :: l.drop i).flatMap ncellE = (l.take i).flatMap ncellE ++ ncellE x ++ (l.drop i).flatMap ncellE) by simp)
 have HD := hid (flat_drop (f := ncellE) (m := 6) (fun _ => rfl) l i)
 have HDl := hid (show ((l.drop i).flatMap ncellE).length = (l.length - i) * 6 by rw [flat_len (f := ncellE) (m := 6) (fun _ => rfl), List.length_drop])
 have HAl := hid (show ((l.take i).flatMap ncellE).length = i * 6 by rw [flat_len (f := ncellE) (m := 6) (fun _ => rfl), List.length_take]; congr 1; omega)
 have HAD := hid (show (l.flatMap ncellE) = (l.take i).flatMap ncellE ++ (l.drop i).flatMap ncellE by rw [← List.flatMap_append, List.take_append_drop])
 have HZ := hid (⟨hcm, hcs, htk⟩ : _ ∧ _ ∧ _)
 rw [HL.out]
 have HDo := hid (fun u (hu : u ∈ (l.drop i).flatMap ncellE) => ncellE_one hu)
 generalize hn : l.length = n at *
 generalize hD : (l.drop i).flatMap ncellE = D at *
 generalize hA : (l.take i).flatMap ncellE = A at *
 generalize hX : ncellE x = X at *
 have HXl := hid (show X.length = 6 by rw [← hX]; rfl)
 have HXo := hid (fun u (hu : u ∈ X) => ncellE_one (l := [x]) (by simpa [hX] using hu))
 have hov : ∀ lb cb, (callFunc 208 #[.slice (some ⟨gv, 0, none⟩) 1 1, .slice (some ⟨g, (i + 1) * 6, none⟩) lb cb]).run Tryz.prog w = .ok (.value (.bool false)) w := fun lb cb => by
  rw [run_callFunc_extern Tryz.func208 (by kernel_rfl) (by kernel_rfl) (by kernel_rfl) (e := Extern.SlicesOverlaps.overlaps #[189, 189] #[4]) (by kernel_rfl),
   Go.Lib.run_overlaps_apart w 189 4 165 Tryz.underlying189 6 (fun w => by kernel_rfl) ⟨gv, 0, none⟩ ⟨g, (i + 1) * 6, none⟩ 1 1 lb cb hgv 165 165 6 cur.size (by simp [World.shape?, HX.out, HXl.out]) (by simp [World.shape?, HG.out]) (by have := HZ.out.2.1; omega) (by simp [World.frozen?, HX.out]) (by simp [World.frozen?, HX.out])]
  rfl
 clear ho hg hx hll hcm hcs htk hn hD hA hX
 have hw1 : (i : Int) + 1 ≤ (n : Int) + 1 := by omega
 have hne : ¬ (i : Int) = (n : Int) := by omega
 have hb2 : ¬ cap = i + 1 := by omega
 have hb3 : ¬ cap = i := by omega
 have hb4 : ¬ (cap : Int) < (n : Int) + 1 := by omega
 go_enter Tryz.func173, Tryz.ntmps173
 go_wp2_with fail
 obtain ⟨jn, hjn, -, hjs, -⟩ := info_parts infoEntry
 have HJ := hid (⟨hjn, hjs⟩ : _ ∧ _)
 clear hjn hjs hov
 have hwr : IntKind.i64.wrap ((i : Int) + 1) = (i : Int) + 1 := by rw [IntKind.wrap_i64]; omega
 refine wp_region_sched (by kernel_rfl) 9 [8] [0, 1, 2, 3, 4, 5, 6, 7, 8] (AgC [] w.drew) (by kernel_rfl) (AgC.refl _ _) ?_
 simp only [List.map_cons, List.map_nil, List.contains_cons, List.contains_nil, nth_zero, nth_succ, Nat.reduceBEq, Bool.or_false]
 repeat (refine sched_quiet (fun K hK => ?_); go_simp; refine hK _ ?_; clear hK K)
 refine sched_slice rfl 189 165 Tryz.underlying189 (.tmp 69) (some (.tmp 72)) none rfl (.slice (some ⟨g, 0, none⟩) (n + 1) cap) rfl (some (.int .i64 ((i : Int) + 1))) none rfl rfl (.slice (some ⟨g, (i + 1) * 6, none⟩) (n - i) (cap - (i + 1))) (fun w' => by have := run_slice_fromI w' _ _ 6 Tryz.underlying189 (by kernel_rfl) g (n + 1) cap (i + 1) ((i : Int) + 1) rfl (by omega) hroom; rw [if_neg hb2, show n + 1 - (i + 1) = n - i by omega] at this; exact this) ?_
 repeat (refine sched_quiet (fun K hK => ?_); go_simp; refine hK _ ?_; clear hK K)
 refine sched_slice rfl 189 165 Tryz.underlying189 (.tmp 74) (some (.tmp 75)) none rfl (.slice (some ⟨g, 0, none⟩) (n + 1) cap) rfl (some (.int .i64 (i : Int))) none rfl rfl (.slice (some ⟨g, i * 6, none⟩) (n + 1 - i) (cap - i)) (fun w' => by have := run_slice_fromI w' _ _ 6 Tryz.underlying189 (by kernel_rfl) g (n + 1) cap i (i : Int) rfl (by omega) hroom; rw [if_neg hb3] at this; exact this) ?_
 refine sched_loud (wpList_copy_rows (w := w.drew) rfl (.tmp 73) (.tmp 76) 189 189 rfl 165 jn 6 Tryz.underlying189 HJ.out.1 HJ.out.2 g ((i + 1) * 6) (n - i) (cap - (i + 1)) ⟨g, i * 6, none⟩ (n + 1 - i) (cap - i) rfl rfl cur 165 D HG.out (by rw [HDl.out]; show _ = min (n + 1 - i) (n - i) * 6; rw [Nat.min_eq_right (by omega)]) (fun j u hj => by rw [Addr.add_lit]; exact owns_cell (w := w.drew) HO.out rfl (by rw [← HD.out, List.getElem?_drop] at hj; exact hj)) (by rw [HDl.out]; have := HZ.out.2.1; omega) HDo.out ?_)
 have p1 : Put g (cur.toList.take ((i + 1) * 6) ++ D ++ cur.toList.drop ((i + 1) * 6 + D.length)).toArray 165 w.drew (w.drew.setRow g (cur.toList.take ((i + 1) * 6) ++ D ++ cur.toList.drop ((i + 1) * 6 + D.length)).toArray) := Put.row HG.out
 generalize w.drew.setRow g (cur.toList.take ((i + 1) * 6) ++ D ++ cur.toList.drop ((i + 1) * 6 + D.length)).toArray = w1 at *
 refine sched_on (AgC.mk (fun _ h => by cases h)) ?_
 repeat (refine sched_quiet (fun K hK => ?_); go_simp; refine hK _ ?_; clear hK K)
 refine sched_nil ?_
 have F1 := hid ((Fr.refl (fun k => k = g) w).drew.trans p1.fr (fun _ _ e => e))
 obtain ⟨C1, hC1⟩ : ∃ C1 : List Value, C1 = cur.toList.take ((i + 1) * 6) ++ D ++ cur.toList.drop ((i + 1) * 6 + D.length) := ⟨_, rfl⟩
 rw [← hC1] at p1
 have hlists := ins_lists (A := A) (X := X) (D := D) (C := cur.toList) HAl.out HXl.out HDl.out hi (by rw [HZ.out.2.2, HAD.out]) (by have := HZ.out.2.1; simp; omega) hC1
 have hC1l : i * 6 + X.length ≤ C1.toArray.size := by
  have h1 := HDl.out; have h2 := HZ.out.2.1; have h3 := HXl.out
  rw [hC1]; simp only [List.size_toArray, List.length_append, List.length_take, List.length_drop, Array.length_toList]; omega
 have g1 := p1.at_
 have x1 := F1.out.keep HX.out (fun e => hgv e)
 obtain ⟨w2, p2, hcp⟩ : ∃ w2, Put g (C1.take (i * 6) ++ X ++ C1.drop (i * 6 + X.length)).toArray 165 w1 w2 ∧ ∀ ty dc, (Builtin.copy_ #[189, 189] ty #[.slice (some ⟨g, i * 6, none⟩) (n + 1 - i) dc, .slice (some ⟨gv, 0, none⟩) 1 1]).run Tryz.prog w1 = .ok (goInt 1) w2 := ⟨_, Put.row g1, fun ty dc => by
  have := run_copy_rows (P := Tryz.prog) (w := w1) 189 189 ty 165 jn 6 Tryz.underlying189 HJ.out.1 HJ.out.2 g (i * 6) (n + 1 - i) dc ⟨gv, 0, none⟩ 1 1 C1.toArray 165 X g1 (by rw [HXl.out]; show _ = min 1 (n + 1 - i) * 6; rw [Nat.min_eq_left (by omega)]) (fun j u hj => by rw [Addr.add_lit, Nat.zero_add]; simp [World.cell?, x1, hj]) hC1l HXo.out
  have e1 : Nat.min 1 (n + 1 - i) = 1 := Nat.min_eq_left (by omega)
  rw [e1] at this
  exact this⟩
 have F2 := hid (F1.out.thenS p2.fr)
 have G2 := hid p2.at_
 have HLi := hid hlists
 clear p1 p2 g1 x1 hC1l hC1 hlists F1
 go_wp2_with fail
 go_ret
 refine ⟨rfl, ⟨?_, .inr ⟨g, cap, _, rfl, Nat.zero_le _, G2.out, hroom, HZ.out.1, ?_, ?_⟩⟩, F2.out⟩
 ·have h1 := HDl.out; have h2 := HXl.out; have h3 := HAl.out
  simp only [List.length_append]; omega
 ·rw [List.size_toArray, HLi.out.2, Array.length_toList]; exact HZ.out.2.1
 ·exact HLi.out.1
end Go.Proofs.YthadcdoepoglkaaGreatDoor
namespace Go.Lig
open Go.RowKit
theorem ins_grow {A X D : List Value} {C C1 : List Value} {i n : Nat} (hA : A.length = i * 6) (hX : X.length = 6) (hD : D.length = (n - i) * 6) (hin : i < n) (hC : C.take (i * 6) = A) (hl : n * 6 + 6 ≤ C.length)
  (h1 : C1 = C.take (i * 6) ++ X ++ C.drop (i * 6 + X.length)) : (C1.take ((i + 1) * 6) ++ D ++ C1.drop ((i + 1) * 6 + D.length)).take ((n + 1) * 6) = A ++ X ++ D ∧ (C1.take ((i + 1) * 6) ++ D ++ C1.drop ((i + 1) * 6 + D.length)).length = C.length := by
 have e0 : (A ++ X).length = (i + 1) * 6 := by rw [List.length_append]; omega
 have e1 : C1.take ((i + 1) * 6) = A ++ X := by rw [h1, hC, ← e0, List.take_left]
 have l1 : C1.length = C.length := by
  rw [h1]; simp only [List.length_append, List.length_take, List.length_drop]; omega
 rw [e1]
 constructor
 ·have : (n + 1) * 6 = (A ++ X ++ D).length := by simp only [List.length_append]; omega
  rw [this, List.take_left]
 ·simp only [List.length_append, List.length_drop]
  omega
theorem wpList_copy_run {P : Program} {w : World} {ops : Array Oper} {rest : List Oper} {o : Oper} {a : Act} {Q : Exit → Act → World → Prop} (hgd : o.guard = none) (d s : Operand) (t t' : TypeId)
  (ho : o.op = .call { callee := .builtin .copy, args := #[d, s], argTypes := #[t, t'] }) (v u : Value) (hd : a.eval d = v) (hs : a.eval s = u) {v' : Value} {w' : World}
  (hr : (Builtin.copy_ #[t, t'] o.type #[v, u]).run P w = .ok v' w') (h : wpList P ops Q rest (a.put o.dst v') w') : wpList P ops Q (o :: rest) a w := by
 refine wpList_run hgd (v := v') ?_ h
 simp [execOp, ho, resolve, invoke, builtin, hd, hs, hr, Result.andThen]
end Go.Lig
namespace Go.Proofs.YthadcdoepoglkaaGreatDoor
open Go.RowKit Go.Lig
set_option maxRecDepth 100000 in
set_option maxHeartbeats 8000000 in
theorem insert_grow (w : World) (g cap : Nat) (l : List EntR) (ho : w.ownsRow 0 165 6 (.slice (some ⟨g, 0, none⟩) l.length cap) l.length (l.flatMap ncellE)) (hs : l.length ≤ 1000000) (i : Nat) (hi : i < l.length) (hroom : cap < l.length + 1) (gv : Nat) (x : EntR) (hx : w.heap[gv]? = some (.cells (ncellE x).toArray 165 (0, 0))) :
  Calls Tryz.prog 173 #[.slice (some ⟨g, 0, none⟩) l.length cap, .int .i64 (i : Int), .slice (some ⟨gv, 0, none⟩) 1 1] w fun e w' =>
   ∃ G, e = .returned (.slice (some ⟨w.heap.size, 0, none⟩) (l.length + 1) G) ∧ w'.ownsRow 0 165 6 (.slice (some ⟨w.heap.size, 0, none⟩) (l.length + 1) G) (l.length + 1) ((l.take i ++ x :: l.drop i).flatMap ncellE) ∧ Fr No w w' := by
 obtain ⟨hll, ⟨e', _⟩ | ⟨g', c', cur, e', -, hg, hnc, hcm, hcs, htk⟩⟩ := id ho
 ·cases e'
 simp only [Value.slice.injEq, Option.some.injEq, Addr.mk.injEq, and_true, true_and] at e'
 obtain ⟨rfl, rfl⟩ := e'
 have HO := hid ho
 have HG := hid hg
 have HX := hid hx
 have HL := hid (show ((l.take i ++ x :: l.drop i).flatMap ncellE = (l.take i).flatMap ncellE ++ ncellE x ++ (l.drop i).flatMap ncellE) by simp)
 have HD := hid (flat_drop (f := ncellE) (m := 6) (fun _ => rfl) l i)
 have HT := hid (flat_take (f := ncellE) (m := 6) (fun _ => rfl) l i)
 have HDl := hid (show ((l.drop i).flatMap ncellE).length = (l.length - i) * 6 by rw [flat_len (f := ncellE) (m := 6) (fun _ => rfl), List.length_drop])
 have HAl := hid (show ((l.take i).flatMap ncellE).length = i * 6 by rw [flat_len (f := ncellE) (m := 6) (fun _ => rfl), List.length_take]; congr 1; omega)
 rw [HL.out]
 have HDo := hid (fun u (hu : u ∈ (l.drop i).flatMap ncellE) => ncellE_one hu)
 generalize hn : l.length = n at *
 generalize hD : (l.drop i).flatMap ncellE = D at *
 generalize hA : (l.take i).flatMap ncellE = A at *
 generalize hX : ncellE x = X at *
 have HXl := hid (show X.length = 6 by rw [← hX]; rfl)
 have HXo := hid (fun u (hu : u ∈ X) => ncellE_one (l := [x]) (by simpa [hX] using hu))
 obtain ⟨jn, hjn, hjz, hjs, hjb⟩ := info_parts infoEntry
 have hkk : (n : Int) + 1 - (i : Int) = ((n + 1 - i : Nat) : Int) := by omega
 have hik : i + (n + 1 - i) = n + 1 := by omega
 obtain ⟨G, W1, ROW, hrz, hW1, hWf, hRs, hRA, hG1, hG2⟩ : ∃ (G : Nat) (W1 : World) (ROW : Array Value), (∀ ty, (Builtin.append_ #[189, 3] ty #[.slice (some ⟨g, 0, none⟩) i cap, .int .i64 ((n : Int) + 1 - (i : Int))]).run Tryz.prog w = .ok (.slice (some ⟨w.heap.size, 0, none⟩) (n + 1) G) W1)
   ∧ W1.heap[w.heap.size]? = some (.cells ROW 165 (0, 0)) ∧ Fr No w W1 ∧ ROW.size = G * 6 ∧ ROW.toList.take (i * 6) = A ∧ n + 1 ≤ G ∧ G ≤ maxLen := by
  have hold : (Builtin.firstCells jn.size i (.slice (some ⟨g, 0, none⟩) i cap)).run Tryz.prog w.drew = .ok A.toArray w.drew := by
   rw [hjs]
   exact run_firstCells_some w.drew 6 i ⟨g, 0, none⟩ i cap A (by rw [HAl.out]) (fun j v hj => by
    rw [Addr.add_lit, Nat.zero_add]
    rw [← HT.out, List.getElem?_take] at hj
    split at hj
    ·exact owns_cell (w := w.drew) HO.out rfl hj
    ·cases hj)
  have hgr := grownCap_ge w (n + 1) cap 165
  have hgm := grownCap_le_maxLen w (n + 1) cap 165 (by unfold maxLen; omega)
  obtain ⟨Z, hjz, hzs⟩ : ∃ Z, jn.zero = some Z ∧ Z.cells.size = 6 := ⟨_, hjz, rfl⟩
  refine ⟨grownCap w (n + 1) cap 165, _, A.toArray ++ Builtin.zeroCells Z.cells (n + 1 - i) ++ Builtin.zeroCells Z.cells (grownCap w (n + 1) cap 165 - (n + 1)), fun ty => ?_, heap_alloc_new w.drew _, (Fr.refl No w).drew.alloc _, ?_, ?_, hgr, hgm⟩
  ·have h := Go.Lib.run_append_grow_zeros w 189 3 ty 165 jn Z .i64 .i64 Tryz.underlying189 Tryz.underlying3 hjn hjz (some ⟨g, 0, none⟩) i cap A hold (n + 1 - i) (by omega) (by rw [hjs]; decide) (by omega) (by omega) (by rw [hjb]; omega) (by rw [hjb, hik]; exact growslice_fits hroom (by omega))
   rw [hik] at h
   rw [hkk]
   exact h
  ·simp only [Array.size_append, List.size_toArray, size_zeroCells, HAl.out, hzs]
   omega
  ·simp only [Array.toList_append, List.append_assoc]
   rw [← HAl.out, List.take_left]
 have HGL := hid (lt_of_block hg)
 have HXL := hid (lt_of_block hx)
 have x1 := hWf.keep HX.out (fun e => e)
 obtain ⟨C1, hC1⟩ : ∃ C1 : List Value, C1 = ROW.toList.take (i * 6) ++ X ++ ROW.toList.drop (i * 6 + X.length) := ⟨_, rfl⟩
 obtain ⟨w2, p2, hcp⟩ : ∃ w2, Put w.heap.size C1.toArray 165 W1 w2 ∧ ∀ ty dc, (Builtin.copy_ #[189, 189] ty #[.slice (some ⟨w.heap.size, i * 6, none⟩) (n + 1 - i) dc, .slice (some ⟨gv, 0, none⟩) 1 1]).run Tryz.prog W1 = .ok (goInt 1) w2 := ⟨W1.setRow w.heap.size C1.toArray, Put.row hW1, fun ty dc => by
  have := run_copy_rows (P := Tryz.prog) (w := W1) 189 189 ty 165 jn 6 Tryz.underlying189 hjn hjs w.heap.size (i * 6) (n + 1 - i) dc ⟨gv, 0, none⟩ 1 1 ROW 165 X hW1 (by rw [HXl.out]; show _ = min 1 (n + 1 - i) * 6; rw [Nat.min_eq_left (by omega)]) (fun j u hj => by rw [Addr.add_lit, Nat.zero_add]; simp [World.cell?, x1, hj]) (by rw [HXl.out]; omega) HXo.out
  have e1 : Nat.min 1 (n + 1 - i) = 1 := Nat.min_eq_left (by omega)
  rw [e1, ← hC1] at this
  exact this⟩
 have hC1l : C1.length = G * 6 := by
  have h3 := HXl.out
  rw [hC1]; simp only [List.length_append, List.length_take, List.length_drop, Array.length_toList]; omega
 have hlists := ins_grow (A := A) (X := X) (D := D) (C := ROW.toList) HAl.out HXl.out HDl.out hi hRA (by simp only [Array.length_toList]; omega) hC1
 have F2 := hid ((hWf.trans p2.fr (fun k hk e => by omega) : Fr No w w2))
 have G2 := hid p2.at_
 have HJ := hid (⟨hjn, hjs⟩ : _ ∧ _)
 have HLi := hid hlists
 have HRS := hid hRs
 have HC1 := hid hC1l
 have HM := hid hG2
 generalize hng : w.heap.size = ng at *
 have HNG := hid hng
 have HRZ := hid hrz
 have HCP := hid hcp
 clear hrz hcp
 clear ho hg hx hll hcm hcs htk hn hD hA hX hW1 hWf hRs hRA hG2 hkk hik hjn hjz hjs hjb hC1 hC1l hlists p2 x1 hng
 have hw1 : (i : Int) + 1 ≤ (n : Int) + 1 := by omega
 have hne : ¬ (i : Int) = (n : Int) := by omega
 have hb2 : ¬ G = i + 1 := by omega
 have hb3 : ¬ G = i := by omega
 have hb5 : ¬ cap = i := by omega
 have hb4 : (cap : Int) < (n : Int) + 1 := by omega
 go_enter Tryz.func173, Tryz.ntmps173
 go_wp2_with (first | (refine Go.Lib.wpList_append_run _ rfl (.tmp 34) (.tmp 39) 189 3 rfl (.slice (some ⟨g, 0, none⟩) i cap) (.int .i64 ((n : Int) + 1 - (i : Int))) rfl rfl (.slice (some ⟨ng, 0, none⟩) (n + 1) G) W1 (HRZ.out _) ?_) | (refine wpList_copy_run rfl (.tmp 43) (.tmp 44) 189 189 rfl (.slice (some ⟨ng, i * 6, none⟩) (n + 1 - i) (G - i)) (.slice (some ⟨gv, 0, none⟩) 1 1) rfl rfl (HCP.out _ _) ?_))
 have hwr : IntKind.i64.wrap ((i : Int) + 1) = (i : Int) + 1 := by rw [IntKind.wrap_i64]; omega
 refine wp_region_sched (by kernel_rfl) 9 [8] [0, 1, 2, 3, 4, 5, 6, 7, 8] (AgC [] w2.drew) (by kernel_rfl) (AgC.refl _ _) ?_
 simp only [List.map_cons, List.map_nil, List.contains_cons, List.contains_nil, nth_zero, nth_succ, Nat.reduceBEq, Bool.or_false]
 repeat (refine sched_quiet (fun K hK => ?_); go_simp; refine hK _ ?_; clear hK K)
 refine sched_slice rfl 189 165 Tryz.underlying189 (.tmp 46) (some (.tmp 49)) none rfl (.slice (some ⟨ng, 0, none⟩) (n + 1) G) rfl (some (.int .i64 ((i : Int) + 1))) none rfl rfl (.slice (some ⟨ng, (i + 1) * 6, none⟩) (n - i) (G - (i + 1))) (fun w' => by have := run_slice_fromI w' _ _ 6 Tryz.underlying189 (by kernel_rfl) ng (n + 1) G (i + 1) ((i : Int) + 1) rfl (by omega) hG1; rw [if_neg hb2, show n + 1 - (i + 1) = n - i by omega] at this; exact this) ?_
 repeat (refine sched_quiet (fun K hK => ?_); go_simp; refine hK _ ?_; clear hK K)
 refine sched_slice rfl 189 165 Tryz.underlying189 (.tmp 51) (some (.tmp 52)) none rfl (.slice (some ⟨g, 0, none⟩) n cap) rfl (some (.int .i64 (i : Int))) none rfl rfl (.slice (some ⟨g, i * 6, none⟩) (n - i) (cap - i)) (fun w' => by have := run_slice_fromI w' _ _ 6 Tryz.underlying189 (by kernel_rfl) g n cap i (i : Int) rfl (by omega) hnc; rw [if_neg hb5] at this; exact this) ?_
 refine sched_loud (wpList_copy_rows (w := w2.drew) rfl (.tmp 50) (.tmp 53) 189 189 rfl 165 jn 6 Tryz.underlying189 HJ.out.1 HJ.out.2 ng ((i + 1) * 6) (n - i) (G - (i + 1)) ⟨g, i * 6, none⟩ (n - i) (cap - i) rfl rfl C1.toArray 165 D G2.out (by rw [HDl.out]; show _ = min (n - i) (n - i) * 6; rw [Nat.min_self]) (fun j u hj => by rw [Addr.add_lit]; exact owns_cell (w := w2.drew) (fd_owns HO.out F2.out.drew) rfl (by rw [← HD.out, List.getElem?_drop] at hj; exact hj)) (by rw [HDl.out, List.size_toArray, HC1.out]; omega) HDo.out ?_)
 have p3 : Put ng (C1.take ((i + 1) * 6) ++ D ++ C1.drop ((i + 1) * 6 + D.length)).toArray 165 w2.drew (w2.drew.setRow ng (C1.take ((i + 1) * 6) ++ D ++ C1.drop ((i + 1) * 6 + D.length)).toArray) := Put.row G2.out
 generalize w2.drew.setRow ng (C1.toArray.toList.take ((i + 1) * 6) ++ D ++ C1.toArray.toList.drop ((i + 1) * 6 + D.length)).toArray = w3 at *
 refine sched_on (AgC.mk (fun _ h => by cases h)) ?_
 repeat (refine sched_quiet (fun K hK => ?_); go_simp; refine hK _ ?_; clear hK K)
 refine sched_nil ?_
 have F3 := hid ((F2.out.drew.trans p3.fr (fun k hk e => by have := HNG.out; omega) : Fr No w w3))
 have G3 := hid p3.at_
 clear p3
 go_wp2_with fail
 go_ret
 refine ⟨G, rfl, ⟨?_, .inr ⟨ng, G, _, rfl, Nat.zero_le _, G3.out, hG1, HM.out, ?_, ?_⟩⟩, F3.out⟩
 ·have h1 := HDl.out; have h2 := HXl.out; have h3 := HAl.out
  simp only [List.length_append]; omega
 ·rw [List.size_toArray, HLi.out.2, Array.length_toList]; exact HRS.out
 ·exact HLi.out.1
set_option maxHeartbeats 1000000 in
theorem insert_any (w : World) (v : Value) (l : List EntR) (ho : w.ownsRow 0 165 6 v l.length (l.flatMap ncellE)) (hs : l.length ≤ 1000000) (i : Nat) (hi : i ≤ l.length) (gv : Nat) (x : EntR) (hx : w.heap[gv]? = some (.cells (ncellE x).toArray 165 (0, 0))) (hgv : v.ownBlock ≠ some gv) :
  Calls Tryz.prog 173 #[v, .int .i64 (i : Int), .slice (some ⟨gv, 0, none⟩) 1 1] w fun e w' =>
   ∃ v', e = .returned v' ∧ w'.ownsRow 0 165 6 v' (l.length + 1) ((l.take i ++ x :: l.drop i).flatMap ncellE) ∧ Fr (fun k => v.ownBlock = some k) w w' ∧ (∀ k, v'.ownBlock = some k → v.ownBlock = some k ∨ w.heap.size ≤ k) := by
 by_cases he : i = l.length
 ·subst he
  rw [List.take_length, List.drop_length]
  exact insert_end w v l ho hs gv x hx
 ·obtain ⟨a, cap, rfl⟩ := ownsRow_slice ho
  obtain ⟨g, cur, rfl, -, hg, -⟩ := owns_at ho (by omega)
  by_cases hr : l.length + 1 ≤ cap
  ·refine (insert_room w g cap l ho hs i (by omega) hr gv x hx (fun e => hgv (by rw [e]; rfl))).mono ?_
   rintro e w' ⟨rfl, o, f⟩
   exact ⟨_, rfl, o, f.mono (fun k _ e => by rw [e]; rfl), fun k e => .inl e⟩
  ·refine (insert_grow w g cap l ho hs i (by omega) (by omega) gv x hx).mono ?_
   rintro e w' ⟨G, rfl, o, f⟩
   refine ⟨_, rfl, o, f.mono (fun k _ e => e.elim), fun k e => .inr ?_⟩
   obtain rfl : w.heap.size = k := by simpa [Value.ownBlock] using e
   exact Nat.le_refl _
end Go.Proofs.YthadcdoepoglkaaGreatDoor
namespace Go.Proofs.YthadcdoepoglkaaGreatDoor
open Go.RowKit Go.Lig
def placeV (l : List EntR) (e : EntR) : Nat := place cmpV l e
def isV (l : List EntR) (e : EntR) : Bool := isThere cmpV l e
def addT (l : List EntR) (e : EntR) : List EntR := if isV l e then l else l.take (placeV l e) ++ e :: l.drop (placeV l e)
def delT (l : List EntR) (e : EntR) : List EntR := if isV l e then l.take (placeV l e) ++ l.drop (placeV l e + 1) else l
theorem isV_lt {l : List EntR} {e : EntR} (h : isV l e = true) : placeV l e < l.length := by
 unfold isV isThere at h
 simp only [Bool.and_eq_true, decide_eq_true_eq] at h
 exact h.1
theorem addT_len (l : List EntR) (e : EntR) : (addT l e).length ≤ l.length + 1 := by
 unfold addT
 split
 ·omega
 ·simp only [List.length_append, List.length_take, List.length_cons, List.length_drop]; omega
theorem delT_len (l : List EntR) (e : EntR) : (delT l e).length ≤ l.length := by
 unfold delT
 split
 ·simp only [List.length_append, List.length_take, List.length_drop]; omega
 ·omega
theorem delT_mem {l : List EntR} {e y : EntR} (h : y ∈ delT l e) : y ∈ l := by
 unfold delT at h
 split at h
 ·rcases List.mem_append.1 h with h | h
  ·exact List.mem_of_mem_take h
  ·exact List.mem_of_mem_drop h
 ·exact h
theorem addT_mem {l : List EntR} {e y : EntR} (h : y ∈ addT l e) : y ∈ l ∨ y = e := by
 unfold addT at h
 split at h
 ·exact .inl h
 ·rcases List.mem_append.1 h with h | h
  ·exact .inl (List.mem_of_mem_take h)
  ·rcases List.mem_cons.1 h with h | h
   ·exact .inr h
   ·exact .inl (List.mem_of_mem_drop h)
theorem search_any (w : World) (l : List EntR) (v : Value) (ho : w.ownsRow 0 165 6 v l.length (l.flatMap ncellE)) (hs : l.length ≤ 1000000) (e : EntR) :
  Calls Tryz.prog 170 #[v, .agg #[.int .i64 e.v.kind, .bool e.v.b, .int .i64 e.v.n, .float .f64 e.v.f, .string e.v.t, .int .i64 e.id], .func (.func 171) #[] #[]] w fun r w' => r = .returned (.tuple #[.int .i64 (placeV l e : Int), .bool (isV l e)]) ∧ Fr No w w' :=
 bsearch_any cmp_all w l v ho hs e (fun _ _ => trivial) trivial
set_option maxRecDepth 100000 in
set_option maxHeartbeats 1000000 in
theorem tree_del (w : World) (T : Nat → Prop) (x : Nat) (l : List EntR) (h : TreeAt w T x l) (hl : l.length ≤ 1000000) (e : EntR) (hbd : ∀ b, T b → b < w.heap.size) :
  Calls Tryz.prog 97 #[.pointer (some ⟨x, 0, none⟩), .agg #[.int .i64 e.v.kind, .bool e.v.b, .int .i64 e.v.n, .float .f64 e.v.f, .string e.v.t, .int .i64 e.id]] w fun r w' => r = .returned (.bool (isV l e)) ∧ TreeAt w' T x (delT l e) ∧ Fr T w w' := by
 have HDe : Hid (delT l e = if isV l e then l.take (placeV l e) ++ l.drop (placeV l e + 1) else l) := hid rfl
 have HDm := hid (fun y => @delT_mem l e y)
 generalize delT l e = l' at *
 obtain ⟨is, his⟩ : ∃ is, isV l e = is := ⟨_, rfl⟩
 obtain ⟨p, hpp⟩ : ∃ p, placeV l e = p := ⟨_, rfl⟩
 have HPI := hid (⟨his, hpp⟩ : _ ∧ _)
 rw [his]
 rw [his, hpp] at HDe
 clear his hpp
 obtain ⟨v, hx, ho, hv⟩ := h.ex
 have hb := heap1 w (.cells #[.int .i64 e.v.kind, .bool e.v.b, .int .i64 e.v.n, .float .f64 e.v.f, .string e.v.t, .int .i64 e.id] 165)
 have hf : Fr No w (w.alloc (.cells #[.int .i64 e.v.kind, .bool e.v.b, .int .i64 e.v.n, .float .f64 e.v.f, .string e.v.t, .int .i64 e.id] 165)) := (Fr.refl No w).alloc _
 have hxn : x ≠ w.heap.size := fun E => by have := lt_of_block hx; omega
 have HH := hid h
 have HBd := hid hbd
 have HV := hid hv
 have HLt := hid (lt_of_block hx)
 clear h hbd hv
 go_enter Tryz.func97, Tryz.ntmps97
 go_wp2_with fail
 have hx2 := hf.keep hx (fun E => E)
 have ho2 := fd_owns ho hf
 generalize w.alloc (.cells #[.int .i64 e.v.kind, .bool e.v.b, .int .i64 e.v.n, .float .f64 e.v.f, .string e.v.t, .int .i64 e.id] 165) = w2 at *
 generalize hB : w.heap.size = B at *
 have HB := hid hB
 have HF := hid hf
 have H2 := hid (⟨hx2, ho2, hb⟩ : _ ∧ _ ∧ _)
 have HLx := hid (lt_of_block hx2)
 have HLb := hid (lt_of_block hb)
 have x0 := cells1 hx2
 obtain ⟨c0, c1, c2, c3, c4, c5⟩ := cells6 hb
 clear hx ho hf hB hx2 ho2 hb
 have hsc : ∀ q ∈ [x, B], q < w2.drew.heap.size ∧ ¬ No q := fun q hq => ⟨by
  rcases List.mem_cons.1 hq with rfl | hq
  ·exact HLx.out
  ·rw [List.mem_singleton.1 hq]; exact HLb.out, fun E => E⟩
 refine wp_region_sched (by kernel_rfl) 11 [5] [0, 1, 2, 3, 4, 5, 6, 7, 8, 9, 10] (AgC [x, B] w2.drew) (by kernel_rfl) (AgC.refl _ _) ?_
 simp only [List.map_cons, List.map_nil, List.contains_cons, List.contains_nil, nth_zero, nth_succ, Nat.reduceBEq, Bool.or_false, Bool.or_true]
 repeat (refine sched_quiet (fun K hK => ?_); go_simp; refine hK _ ?_; clear hK K)
 refine sched_call (by first | rfl | go_simp) 170 #[v, .agg #[.int .i64 e.v.kind, .bool e.v.b, .int .i64 e.v.n, .float .f64 e.v.f, .string e.v.t, .int .i64 e.id], .func (.func 171) #[] #[]] (by first | kernel_rfl | go_simp) (search_any w2.drew l v H2.out.2.1 hl e) ?_
 rintro r w3 ⟨rfl, f3⟩
 have a3 := (AgC.refl [x, B] w2.drew).fr f3 hsc
 refine ⟨_, rfl, a3, ?_⟩
 clear c0 c1 c2 c3 c4 c5 x0 hsc a3
 repeat (refine sched_quiet (fun K hK => ?_); go_simp; refine hK _ ?_; clear hK K)
 refine sched_nil ?_
 have F3 := hid ((HF.out.drew).thenNo f3)
 have x3 := f3.keep (w := w2.drew) H2.out.1 (fun E => E)
 have b3 := f3.keep (w := w2.drew) H2.out.2.2 (fun E => E)
 have o3 := fd_owns (w := w2.drew) H2.out.2.1 f3
 have HP := hid (place_le cmpV l e : placeV l e ≤ l.length)
 have HI := hid (@isV_lt l e)
 have hplt := HI.out
 rw [HPI.out.1, HPI.out.2] at hplt ⊢
 cases is with
 | false =>
  have H3 := hid (⟨x3, o3⟩ : _ ∧ _)
  clear x3 b3 o3 f3
  go_wp2_with fail
  go_ret
  have hl' : l' = l := by have := HDe.out; simpa using this
  rw [hl']
  exact ⟨rfl, ⟨⟨v, H3.out.1, H3.out.2, HV.out⟩, HH.out.root, HH.out.ok⟩, F3.out.mono (fun _ _ E => E.elim)⟩
 | true =>
  have hp : p < l.length := hplt rfl
  obtain ⟨a, cap, rfl⟩ := ownsRow_slice o3
  obtain ⟨g, cur, rfl, -, hg, -⟩ := owns_at o3 (by omega)
  have H3 := hid (⟨x3, o3⟩ : _ ∧ _)
  have HC := hid (delete_any w3 g cap l o3 p hp hl)
  have hgx : x ≠ g := fun E => (HV.out g rfl).2 E.symm
  have x0 := cells1 x3
  have hwr : IntKind.i64.wrap ((p : Int) + 1) = (p : Int) + 1 := by rw [IntKind.wrap_i64]; omega
  clear b3 o3 f3 hg hplt
  go_wp2_with (
         go_at_call 172; refine HC.out.mono ?_; rintro r w4 ⟨rfl, o4, f4⟩; have x4 := f4.keep x3 hgx; clear x3 x0; have x0 := cells1 x4; have z0 : w4.frozen? ⟨x, 0, none⟩ = false := by simp [World.frozen?, x4]
         have H4 := hid (⟨o4, f4, x4⟩ : _ ∧ _ ∧ _); clear o4 f4 x4)
  go_ret
  have hl' : l' = l.take p ++ l.drop (p + 1) := by have := HDe.out; simpa using this
  have hn : l'.length = l.length - 1 := by rw [hl']; simp only [List.length_append, List.length_take, List.length_drop]; omega
  have q5 : Put x #[.slice (some ⟨g, 0, none⟩) (l.length - 1) cap] 191 w4 (w4.setCell ⟨x, 0, none⟩ (.slice (some ⟨g, 0, none⟩) (l.length - 1) cap)) := by simpa using Put.cell (k := 0) (v := .slice (some ⟨g, 0, none⟩) (l.length - 1) cap) H4.out.2.2
  have o5 := q5.fr.owns H4.out.1 (fun k hk E => (HV.out k hk).2 E)
  rw [← hl', ← hn] at o5
  refine ⟨rfl, ⟨⟨_, q5.at_, by rw [hn]; rw [hn] at o5; exact o5, fun k hk => ?_⟩, HH.out.root, fun y hy => HH.out.ok y (HDm.out y hy)⟩, ?_⟩
  ·exact HV.out k hk
  ·exact ((F3.out.mono (fun _ _ E => E.elim)).thenS (H4.out.2.1.mono (fun k _ E => by subst E; exact (HV.out k rfl).1))).thenS (q5.fr.mono (fun k _ E => by rw [E]; exact HH.out.root))
set_option maxRecDepth 100000 in
set_option maxHeartbeats 1000000 in
theorem tree_add (w : World) (T : Nat → Prop) (x : Nat) (l : List EntR) (h : TreeAt w T x l) (hl : l.length ≤ 1000000) (e : EntR) (hok : ValOk e.v ∧ (Lit.int .i64 e.id).wf = true) (hbd : ∀ b, T b → b < w.heap.size) :
  Calls Tryz.prog 99 #[.pointer (some ⟨x, 0, none⟩), .agg #[.int .i64 e.v.kind, .bool e.v.b, .int .i64 e.v.n, .float .f64 e.v.f, .string e.v.t, .int .i64 e.id]] w fun r w' => r = .returned (.bool (!isV l e)) ∧ ∃ T', TreeAt w' T' x (addT l e) ∧ Fr T w w' ∧ Grown w T T' ∧ (∀ b, T' b → b < w'.heap.size) := by
 have HDe : Hid (addT l e = if isV l e then l else l.take (placeV l e) ++ e :: l.drop (placeV l e)) := hid rfl
 have HDm := hid (fun y => @addT_mem l e y)
 generalize addT l e = l' at *
 obtain ⟨is, his⟩ : ∃ is, isV l e = is := ⟨_, rfl⟩
 obtain ⟨p, hpp⟩ : ∃ p, placeV l e = p := ⟨_, rfl⟩
 have HPI := hid (⟨his, hpp⟩ : _ ∧ _)
 rw [his]
 rw [his, hpp] at HDe
 clear his hpp
 have HOK := hid hok
 clear hok
 obtain ⟨v, hx, ho, hv⟩ := h.ex
 have hb := heap1 w (.cells #[.int .i64 e.v.kind, .bool e.v.b, .int .i64 e.v.n, .float .f64 e.v.f, .string e.v.t, .int .i64 e.id] 165)
 have hf : Fr No w (w.alloc (.cells #[.int .i64 e.v.kind, .bool e.v.b, .int .i64 e.v.n, .float .f64 e.v.f, .string e.v.t, .int .i64 e.id] 165)) := (Fr.refl No w).alloc _
 have hxn : x ≠ w.heap.size := fun E => by have := lt_of_block hx; omega
 have HH := hid h
 have HBd := hid hbd
 have HV := hid hv
 have HLt := hid (lt_of_block hx)
 clear h hbd hv
 go_enter Tryz.func99, Tryz.ntmps99
 go_wp2_with fail
 have hx2 := hf.keep hx (fun E => E)
 have ho2 := fd_owns ho hf
 generalize w.alloc (.cells #[.int .i64 e.v.kind, .bool e.v.b, .int .i64 e.v.n, .float .f64 e.v.f, .string e.v.t, .int .i64 e.id] 165) = w2 at *
 generalize hB : w.heap.size = B at *
 have HB := hid hB
 have HF := hid hf
 have H2 := hid (⟨hx2, ho2, hb⟩ : _ ∧ _ ∧ _)
 have HLx := hid (lt_of_block hx2)
 have HLb := hid (lt_of_block hb)
 have x0 := cells1 hx2
 obtain ⟨c0, c1, c2, c3, c4, c5⟩ := cells6 hb
 clear hx ho hf hB hx2 ho2 hb
 have hsc : ∀ q ∈ [x, B], q < w2.drew.heap.size ∧ ¬ No q := fun q hq => ⟨by
  rcases List.mem_cons.1 hq with rfl | hq
  ·exact HLx.out
  ·rw [List.mem_singleton.1 hq]; exact HLb.out, fun E => E⟩
 refine wp_region_sched (by kernel_rfl) 11 [5] [0, 1, 2, 3, 4, 5, 6, 7, 8, 9, 10] (AgC [x, B] w2.drew) (by kernel_rfl) (AgC.refl _ _) ?_
 simp only [List.map_cons, List.map_nil, List.contains_cons, List.contains_nil, nth_zero, nth_succ, Nat.reduceBEq, Bool.or_false, Bool.or_true]
 repeat (refine sched_quiet (fun K hK => ?_); go_simp; refine hK _ ?_; clear hK K)
 refine sched_call (by first | rfl | go_simp) 170 #[v, .agg #[.int .i64 e.v.kind, .bool e.v.b, .int .i64 e.v.n, .float .f64 e.v.f, .string e.v.t, .int .i64 e.id], .func (.func 171) #[] #[]] (by first | kernel_rfl | go_simp) (search_any w2.drew l v H2.out.2.1 hl e) ?_
 rintro r w3 ⟨rfl, f3⟩
 have a3 := (AgC.refl [x, B] w2.drew).fr f3 hsc
 refine ⟨_, rfl, a3, ?_⟩
 clear c0 c1 c2 c3 c4 c5 x0 hsc a3
 repeat (refine sched_quiet (fun K hK => ?_); go_simp; refine hK _ ?_; clear hK K)
 refine sched_nil ?_
 have F3 := hid ((HF.out.drew).thenNo f3)
 have x3 := f3.keep (w := w2.drew) H2.out.1 (fun E => E)
 have b3 := f3.keep (w := w2.drew) H2.out.2.2 (fun E => E)
 have o3 := fd_owns (w := w2.drew) H2.out.2.1 f3
 have HP := hid (place_le cmpV l e : placeV l e ≤ l.length)
 have HI := hid (@isV_lt l e)
 have hplt := HP.out
 have e1 : place cmpV l e = p := HPI.out.2
 rw [e1] at hplt
 rw [HPI.out.1, HPI.out.2]
 cases is with
 | true =>
  have H3 := hid (⟨x3, o3⟩ : _ ∧ _)
  clear x3 b3 o3 f3
  go_wp2_with fail
  go_ret
  have hl' : l' = l := by have := HDe.out; simpa using this
  rw [hl']
  exact ⟨rfl, T, ⟨⟨v, H3.out.1, H3.out.2, HV.out⟩, HH.out.root, HH.out.ok⟩, F3.out.mono (fun _ _ E => E.elim), Grown.refl _ _, fun b hb => Nat.lt_of_lt_of_le (by rw [HB.out]; exact HBd.out b hb) F3.out.size⟩
 | false =>
  have H3 := hid (⟨x3, o3, b3⟩ : _ ∧ _ ∧ _)
  have x0 := cells1 x3
  obtain ⟨c0, c1, c2, c3, c4, c5⟩ := cells6 b3
  have hlx := lt_of_block x3
  have hlb := lt_of_block b3
  clear x3 b3 o3 f3
  go_wp2_with fail
  have hsc : ∀ q ∈ [x, B], q < w3.drew.heap.size ∧ ¬ No q := fun q hq => ⟨by
   rcases List.mem_cons.1 hq with rfl | hq
   ·exact hlx
   ·rw [List.mem_singleton.1 hq]; exact hlb, fun E => E⟩
  refine wp_region_sched (by kernel_rfl) 11 [7, 8, 11] [0, 1, 2, 3, 4, 5, 6, 7, 8, 9, 10, 11] (AgC [x, B] w3.drew) (by kernel_rfl) (AgC.refl _ _) ?_
  simp only [List.map_cons, List.map_nil, List.contains_cons, List.contains_nil, nth_zero, nth_succ, Nat.reduceBEq, Bool.or_false, Bool.or_true]
  repeat (refine sched_quiet (fun K hK => ?_); go_simp; refine hK _ ?_; clear hK K)
  refine sched_loud (wpList_buildSlice1 rfl 189 165 (.tmp 26) rfl _ 6 56 Tryz.underlying189 infoEntry (by first | decide | rfl) (by first | decide | rfl) (.agg #[.int .i64 e.v.kind, .bool e.v.b, .int .i64 e.v.n, .float .f64 e.v.f, .string e.v.t, .int .i64 e.id]) rfl rfl ?_)
  intro w5 p5
  have p5' : New (ncellE e).toArray 165 w3.drew w5 := p5
  have a5 := (AgC.refl [x, B] w3.drew).fr p5.fr hsc
  refine sched_on a5 ?_
  repeat (refine sched_quiet (fun K hK => ?_); go_simp; refine hK _ ?_; clear hK K)
  have o5 := fd_owns (w := w3.drew) H3.out.2.1 p5.fr
  have x5 := p5.fr.keep (w := w3.drew) H3.out.1 (fun E => E)
  have hvT : ∀ k, v.ownBlock = some k → k < B := fun k hk => HBd.out k (HV.out k hk).1
  have hB3 := hid hlb
  have hgv : v.ownBlock ≠ some w3.drew.heap.size := fun E => by have h1 := hvT _ E; have h2 := hB3.out; have h3 : w3.drew.heap.size = w3.heap.size := rfl; omega
  refine sched_call (by first | rfl | go_simp) 173 #[v, .int .i64 (p : Int), .slice (some ⟨w3.drew.heap.size, 0, none⟩) 1 1] (by first | kernel_rfl | go_simp) (insert_any w5 v l o5 hl p hplt w3.drew.heap.size e p5'.at_ hgv) ?_
  rintro r w6 ⟨v6, rfl, o6, f6, b6⟩
  have hsc5 : ∀ q ∈ [x, B], q < w3.drew.heap.size ∧ ¬ v.ownBlock = some q := fun q hq => ⟨(hsc q hq).1, by
   rcases List.mem_cons.1 hq with rfl | hq
   ·exact fun E => (HV.out _ E).2 rfl
   ·rw [List.mem_singleton.1 hq]; exact fun E => Nat.lt_irrefl _ (hvT _ E)⟩
  have a6 := a5.fr f6 hsc5
  have x6 := f6.keep x5 (fun E => (HV.out _ E).2 rfl)
  obtain ⟨av, cv, rfl⟩ := ownsRow_slice o6
  refine ⟨_, rfl, a6, ?_⟩
  have H6 := hid (⟨o6, f6, b6, x6, p5.fr⟩ : _ ∧ _ ∧ _ ∧ _ ∧ _)
  clear o6 f6 b6 x6 p5 p5' a5 a6 o5 x5 hsc hsc5 hgv
  repeat (refine sched_quiet (fun K hK => ?_); go_simp; refine hK _ ?_; clear hK K)
  refine sched_loud (wpList_store1 rfl 189 (.tmp 30) (.tmp 28) rfl x 0 rfl _ _ (.slice av (l.length + 1) cv) rfl (by kernel_rfl) H6.out.2.2.2.1 (by simp) rfl ?_)
  intro w7 p7
  have p7' : Put x #[.slice av (l.length + 1) cv] 191 w6 w7 := p7
  refine sched_last ?_
  refine sched_nil ?_
  have H7 := hid (⟨p7'.at_, p7'.fr⟩ : _ ∧ _)
  clear p7 p7'
  go_wp2_with fail
  go_ret
  have hl' : l' = l.take p ++ e :: l.drop p := by have := HDe.out; simpa using this
  have hn : l'.length = l.length + 1 := by rw [hl']; simp only [List.length_append, List.length_take, List.length_cons, List.length_drop]; omega
  have o7 := H7.out.2.owns H6.out.1 (fun k hk E => by
   subst E
   rcases H6.out.2.2.1 _ hk with h1 | h1
   ·exact (HV.out _ h1).2 rfl
   ·have h2 := HLt.out; have h3 := hB3.out; have h4 := H6.out.2.2.2.2.size; have h5 : w3.drew.heap.size = w3.heap.size := rfl; omega)
  have f36 : Fr (fun k => v.ownBlock = some k) w3 w6 := ((Fr.refl No w3).drew.thenNo H6.out.2.2.2.2).mono (fun _ _ E => E.elim) |>.thenS H6.out.2.1
  have fall : Fr T w w7 := ((F3.out.mono (fun _ _ E => E.elim)).thenS (f36.mono (fun k _ E => (HV.out k E).1))).thenS (H7.out.2.mono (fun k _ E => by rw [E]; exact HH.out.root))
  refine ⟨rfl, fun k => T k ∨ (Value.slice av (l.length + 1) cv).ownBlock = some k, ⟨⟨_, H7.out.1, by rw [hn, hl']; exact o7, fun k hk => ⟨.inr hk, fun E => ?_⟩⟩, .inl HH.out.root, fun y hy => ?_⟩, fall, ?_, ?_⟩
  ·subst E
   rcases H6.out.2.2.1 _ hk with h1 | h1
   ·exact (HV.out _ h1).2 rfl
   ·have h2 := HLt.out; have h3 := hB3.out; have h4 := H6.out.2.2.2.2.size; have h5 : w3.drew.heap.size = w3.heap.size := rfl; omega
  ·rcases HDm.out y hy with h1 | rfl
   ·exact HH.out.ok y h1
   ·exact HOK.out
  ·intro b hb
   rcases hb with hb | hb
   ·exact .inl hb
   ·rcases H6.out.2.2.1 _ hb with h1 | h1
    ·exact .inl (HV.out _ h1).1
    ·refine .inr ?_
     have h4 := H6.out.2.2.2.2.size; have h5 : w3.drew.heap.size = w3.heap.size := rfl; have h6 := F3.out.size; omega
  ·intro b hb
   rcases hb with hb | hb
   ·exact Nat.lt_of_lt_of_le (by rw [HB.out]; exact HBd.out b hb) fall.size
   ·exact (o7.lt b hb).2
end Go.Proofs.YthadcdoepoglkaaGreatDoor
