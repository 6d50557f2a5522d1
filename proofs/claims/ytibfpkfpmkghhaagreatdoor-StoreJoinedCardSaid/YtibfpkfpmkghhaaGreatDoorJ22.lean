/- A part of the proof: contracts of functions of the program, for the row's text. -/
import Derived.Lib.Overlaps
import Derived.Lib.AppendZerosOnto
import Derived.Laws.Externs
import Derived.Test.YtibfpkfpmkghhaaGreatDoorJ21
namespace Go.Proofs.YtibfpkfpmkghhaaGreatDoor
open Go.RowKit Go.Lig

/-- one entry in a block of its own -/
theorem rd_entry {w : World} {gv : Nat} {x : EntR} (h : w.heap[gv]? = some (.cells (ncellE x).toArray 91 (0, 0))) : Rd w (.slice (some ⟨gv, 0, none⟩) 1 1) 1 6 (ncellE x) :=
  Rd.block h 1 6 1 rfl (fun u hu => ncellE_one (l := [x]) (by simpa using hu)) (Nat.le_refl _) (by simp [maxLen])
set_option maxRecDepth 100000 in
set_option maxHeartbeats 1000000 in
theorem insert_end (w : World) (v : Value) (l : List EntR) (ho : w.ownsRow 0 91 6 v l.length (l.flatMap ncellE)) (hs : l.length ≤ 1000000) (gv : Nat) (x : EntR) (hx : w.heap[gv]? = some (.cells (ncellE x).toArray 91 (0, 0))) :
    Calls Tryz.prog 195 #[v, .int .i64 (l.length : Int), .slice (some ⟨gv, 0, none⟩) 1 1] w fun e w' =>
      ∃ v', e = .returned v' ∧ w'.ownsRow 0 91 6 v' (l.length + 1) ((l ++ [x]).flatMap ncellE) ∧ Fr (fun k => v.ownBlock = some k) w w' ∧ (∀ k, v'.ownBlock = some k → v.ownBlock = some k ∨ w.heap.size ≤ k) := by
  obtain ⟨a, cap, rfl⟩ := ownsRow_slice ho
  have HO := hid ho
  have HX := hid hx
  have HL := hid (show (l ++ [x]).flatMap ncellE = l.flatMap ncellE ++ ncellE x by simp)
  rw [HL.out]
  generalize hn : l.length = n at *
  have hnc : n ≤ cap := by
    rcases Nat.eq_zero_or_pos n with h0 | h0
    · omega
    · obtain ⟨g, cur, -, -, -, h, -⟩ := owns_at ho h0; exact h
  clear ho hx hn
  rcases Nat.eq_or_lt_of_le hnc with hc | hc
  · subst hc
    go_enter Tryz.func195, Tryz.ntmps195
    go_wp2_with (refine wpList_app rfl (.tmp 23) (.tmp 24) 86 rfl 91 _ 6 56 Tryz.underlying86 infoEntry (by kernel_rfl) (by decide) (.slice a n n) n (l.flatMap ncellE) rfl HO.out (.slice (some ⟨gv, 0, none⟩) 1 1) 1 (ncellE x) rfl (rd_entry HX.out) (by unfold maxLen; omega) (by omega) ?_; rintro v' w' o4 f4 b4 -; have H4 := hid (⟨o4, f4, b4⟩ : _ ∧ _ ∧ _); clear o4 f4 b4)
    go_ret
    exact ⟨_, rfl, H4.out.1, H4.out.2.1, H4.out.2.2⟩
  · have hc2 : ¬ cap = n := by omega
    go_enter Tryz.func195, Tryz.ntmps195
    go_wp2_with (refine wpList_app rfl (.tmp 23) (.tmp 24) 86 rfl 91 _ 6 56 Tryz.underlying86 infoEntry (by kernel_rfl) (by decide) (.slice a n cap) n (l.flatMap ncellE) rfl HO.out (.slice (some ⟨gv, 0, none⟩) 1 1) 1 (ncellE x) rfl (rd_entry HX.out) (by unfold maxLen; omega) (by omega) ?_; rintro v' w' o4 f4 b4 -; have H4 := hid (⟨o4, f4, b4⟩ : _ ∧ _ ∧ _); clear o4 f4 b4)
    go_ret
    exact ⟨_, rfl, H4.out.1, H4.out.2.1, H4.out.2.2⟩
end Go.Proofs.YtibfpkfpmkghhaaGreatDoor

namespace Go.Lig
open Go.RowKit
theorem ins_lists {A X D : List Value} {C C1 : List Value} {i n : Nat} (hA : A.length = i * 6) (hX : X.length = 6) (hD : D.length = (n - i) * 6) (hin : i < n) (hC : C.take (n * 6) = A ++ D) (hl : n * 6 + 6 ≤ C.length)
    (h1 : C1 = C.take ((i + 1) * 6) ++ D ++ C.drop ((i + 1) * 6 + D.length)) : (C1.take (i * 6) ++ X ++ C1.drop (i * 6 + X.length)).take ((n + 1) * 6) = A ++ X ++ D ∧ (C1.take (i * 6) ++ X ++ C1.drop (i * 6 + X.length)).length = C.length := by
  have e1 : C.take (i * 6) = A := by
    have : (C.take (n * 6)).take (i * 6) = C.take (i * 6) := by rw [List.take_take, Nat.min_eq_left (by omega)]
    rw [← this, hC, ← hA, List.take_left]
  have l1 : (C.take ((i + 1) * 6)).length = (i + 1) * 6 := by rw [List.length_take]; omega
  have e2 : C1.take (i * 6) = A := by
    rw [h1, List.append_assoc, List.take_append_of_le_length (by omega), List.take_take, Nat.min_eq_left (by omega), e1]
  have e3 : C1.drop (i * 6 + X.length) = D ++ C.drop ((i + 1) * 6 + D.length) := by
    have : i * 6 + X.length = (C.take ((i + 1) * 6)).length := by omega
    rw [h1, this, List.append_assoc, List.drop_left]
  rw [e2, e3]
  constructor
  · rw [← List.append_assoc]
    have : (n + 1) * 6 = (A ++ X ++ D).length := by simp only [List.length_append]; omega
    rw [this, List.take_left]
  · simp only [List.length_append, List.length_drop]
    omega
end Go.Lig
namespace Go.Proofs.YtibfpkfpmkghhaaGreatDoor
open Go.RowKit Go.Lig

set_option maxRecDepth 100000 in
set_option maxHeartbeats 1000000 in
theorem insert_room (w : World) (g cap : Nat) (l : List EntR) (ho : w.ownsRow 0 91 6 (.slice (some ⟨g, 0, none⟩) l.length cap) l.length (l.flatMap ncellE)) (hs : l.length ≤ 1000000) (i : Nat) (hi : i < l.length) (hroom : l.length + 1 ≤ cap) (gv : Nat) (x : EntR) (hx : w.heap[gv]? = some (.cells (ncellE x).toArray 91 (0, 0))) (hgv : gv ≠ g) :
    Calls Tryz.prog 195 #[.slice (some ⟨g, 0, none⟩) l.length cap, .int .i64 (i : Int), .slice (some ⟨gv, 0, none⟩) 1 1] w fun e w' =>
      e = .returned (.slice (some ⟨g, 0, none⟩) (l.length + 1) cap) ∧ w'.ownsRow 0 91 6 (.slice (some ⟨g, 0, none⟩) (l.length + 1) cap) (l.length + 1) ((l.take i ++ x :: l.drop i).flatMap ncellE) ∧ Fr (fun k => k = g) w w' := by
  obtain ⟨hll, ⟨e', _⟩ | ⟨g', c', cur, e', -, hg, hnc, hcm, hcs, htk⟩⟩ := id ho
  · cases e'
  simp only [Value.slice.injEq, Option.some.injEq, Addr.mk.injEq, and_true, true_and] at e'
  obtain ⟨rfl, rfl⟩ := e'
  have HO := hid ho
  have HG := hid hg
  have HX := hid hx
  have HXR := hid (rd_entry hx)
  have HL := hid (show ((l.take i ++ x :: l.drop i).flatMap ncellE = (l.take i).flatMap ncellE ++ ncellE x ++ (l.drop i).flatMap ncellE) by simp)
  have HD := hid (flat_drop (f := ncellE) (m := 6) (fun _ => rfl) l i)
  have HDl := hid (show ((l.drop i).flatMap ncellE).length = (l.length - i) * 6 by rw [flat_len (f := ncellE) (m := 6) (fun _ => rfl), List.length_drop])
  have HAl := hid (show ((l.take i).flatMap ncellE).length = i * 6 by rw [flat_len (f := ncellE) (m := 6) (fun _ => rfl), List.length_take]; congr 1; omega)
  have HAD := hid (show (l.flatMap ncellE) = (l.take i).flatMap ncellE ++ (l.drop i).flatMap ncellE by rw [← List.flatMap_append, List.take_append_drop])
  have HZ := hid (⟨hcm, hcs, htk⟩ : _ ∧ _ ∧ _)
  rw [HL.out]
  have HDo := hid (fun u (hu : u ∈ (l.drop i).flatMap ncellE) => ncellE_one hu)
  generalize hn : l.length = n at *
  generalize hD : (l.drop i).flatMap ncellE = D at *
  generalize hA : (l.take i).flatMap ncellE = A at *
  generalize hX : ncellE x = X at *
  have HXl := hid (show X.length = 6 by rw [← hX]; rfl)
  have HXo := hid (fun u (hu : u ∈ X) => ncellE_one (l := [x]) (by simpa [hX] using hu))
  have hov : ∀ lb cb, (callFunc 241 #[.slice (some ⟨gv, 0, none⟩) 1 1, .slice (some ⟨g, (i + 1) * 6, none⟩) lb cb]).run Tryz.prog w = .ok (.value (.bool false)) w := fun lb cb => by
    rw [run_callFunc_extern Tryz.func241 (by kernel_rfl) (by kernel_rfl) (by kernel_rfl) (e := Extern.SlicesOverlaps.overlaps #[86, 86] #[4]) (by kernel_rfl),
      Go.Lib.run_overlaps_apart w 86 4 91 Tryz.underlying86 6 (fun w => by kernel_rfl) ⟨gv, 0, none⟩ ⟨g, (i + 1) * 6, none⟩ 1 1 lb cb hgv 91 91 6 cur.size (by simp [World.shape?, HX.out, HXl.out]) (by simp [World.shape?, HG.out]) (by have := HZ.out.2.1; omega) (by simp [World.frozen?, HX.out]) (by simp [World.frozen?, HX.out])]
    rfl
  clear ho hg hx hll hcm hcs htk hn hD hA hX
  have hw1 : (i : Int) + 1 ≤ (n : Int) + 1 := by omega
  have hne : ¬ (i : Int) = (n : Int) := by omega
  have hb2 : ¬ cap = i + 1 := by omega
  have hb3 : ¬ cap = i := by omega
  have hb4 : ¬ (cap : Int) < (n : Int) + 1 := by omega
  go_enter Tryz.func195, Tryz.ntmps195
  go_wp2_with fail
  obtain ⟨jn, hjn, -, hjs, -⟩ := info_parts infoEntry
  have HJ := hid (⟨hjn, hjs⟩ : _ ∧ _)
  clear hjn hjs hov
  have hwr : IntKind.i64.wrap ((i : Int) + 1) = (i : Int) + 1 := by rw [IntKind.wrap_i64]; omega
  refine wp_region_sched (by kernel_rfl) 9 [8] [0, 1, 2, 3, 4, 5, 6, 7, 8] (AgC [] w.drew) (by kernel_rfl) (AgC.refl _ _) ?_
  simp only [List.map_cons, List.map_nil, List.contains_cons, List.contains_nil, nth_zero, nth_succ, Nat.reduceBEq, Bool.or_false]
  repeat (refine sched_quiet (fun K hK => ?_); go_simp; refine hK _ ?_; clear hK K)
  refine sched_slice rfl 86 91 Tryz.underlying86 (.tmp 69) (some (.tmp 72)) none rfl (.slice (some ⟨g, 0, none⟩) (n + 1) cap) rfl (some (.int .i64 ((i : Int) + 1))) none rfl rfl (.slice (some ⟨g, (i + 1) * 6, none⟩) (n - i) (cap - (i + 1))) (fun w' => by have := run_slice_fromI w' _ _ 6 Tryz.underlying86 (by kernel_rfl) g (n + 1) cap (i + 1) ((i : Int) + 1) rfl (by omega) hroom; rw [if_neg hb2, show n + 1 - (i + 1) = n - i by omega] at this; exact this) ?_
  repeat (refine sched_quiet (fun K hK => ?_); go_simp; refine hK _ ?_; clear hK K)
  refine sched_slice rfl 86 91 Tryz.underlying86 (.tmp 74) (some (.tmp 75)) none rfl (.slice (some ⟨g, 0, none⟩) (n + 1) cap) rfl (some (.int .i64 (i : Int))) none rfl rfl (.slice (some ⟨g, i * 6, none⟩) (n + 1 - i) (cap - i)) (fun w' => by have := run_slice_fromI w' _ _ 6 Tryz.underlying86 (by kernel_rfl) g (n + 1) cap i (i : Int) rfl (by omega) hroom; rw [if_neg hb3] at this; exact this) ?_
  refine sched_loud (wpList_copy_rows (w := w.drew) rfl (.tmp 73) (.tmp 76) 86 86 rfl 91 jn 6 Tryz.underlying86 HJ.out.1 HJ.out.2 g ((i + 1) * 6) (n - i) (cap - (i + 1)) ⟨g, i * 6, none⟩ (n + 1 - i) (cap - i) rfl rfl cur 91 D HG.out (by rw [HDl.out]; show _ = min (n + 1 - i) (n - i) * 6; rw [Nat.min_eq_right (by omega)]) (fun j u hj => by rw [Addr.add_lit]; exact owns_cell (w := w.drew) HO.out rfl (by rw [← HD.out, List.getElem?_drop] at hj; exact hj)) (by rw [HDl.out]; have := HZ.out.2.1; omega) HDo.out ?_)
  have p1 : Put g (cur.toList.take ((i + 1) * 6) ++ D ++ cur.toList.drop ((i + 1) * 6 + D.length)).toArray 91 w.drew (w.drew.setRow g (cur.toList.take ((i + 1) * 6) ++ D ++ cur.toList.drop ((i + 1) * 6 + D.length)).toArray) := Put.row HG.out
  generalize w.drew.setRow g (cur.toList.take ((i + 1) * 6) ++ D ++ cur.toList.drop ((i + 1) * 6 + D.length)).toArray = w1 at *
  refine sched_on (AgC.mk (fun _ h => by cases h)) ?_
  repeat (refine sched_quiet (fun K hK => ?_); go_simp; refine hK _ ?_; clear hK K)
  refine sched_nil ?_
  have F1 := hid ((Fr.refl (fun k => k = g) w).drew.trans p1.fr (fun _ _ e => e))
  obtain ⟨C1, hC1⟩ : ∃ C1 : List Value, C1 = cur.toList.take ((i + 1) * 6) ++ D ++ cur.toList.drop ((i + 1) * 6 + D.length) := ⟨_, rfl⟩
  rw [← hC1] at p1
  have hlists := ins_lists (A := A) (X := X) (D := D) (C := cur.toList) HAl.out HXl.out HDl.out hi (by rw [HZ.out.2.2, HAD.out]) (by have := HZ.out.2.1; simp; omega) hC1
  have hC1l : i * 6 + X.length ≤ C1.toArray.size := by
    have h1 := HDl.out; have h2 := HZ.out.2.1; have h3 := HXl.out
    rw [hC1]; simp only [List.size_toArray, List.length_append, List.length_take, List.length_drop, Array.length_toList]; omega
  have g1 := p1.at_
  have x1 := F1.out.keep HX.out (fun e => hgv e)
  obtain ⟨w2, p2, hcp⟩ : ∃ w2, Put g (C1.take (i * 6) ++ X ++ C1.drop (i * 6 + X.length)).toArray 91 w1 w2 ∧ ∀ ty dc, (Builtin.copy_ #[86, 86] ty #[.slice (some ⟨g, i * 6, none⟩) (n + 1 - i) dc, .slice (some ⟨gv, 0, none⟩) 1 1]).run Tryz.prog w1 = .ok (goInt 1) w2 := ⟨_, Put.row g1, fun ty dc => by
    have := run_copy_rows (P := Tryz.prog) (w := w1) 86 86 ty 91 jn 6 Tryz.underlying86 HJ.out.1 HJ.out.2 g (i * 6) (n + 1 - i) dc ⟨gv, 0, none⟩ 1 1 C1.toArray 91 X g1 (by rw [HXl.out]; show _ = min 1 (n + 1 - i) * 6; rw [Nat.min_eq_left (by omega)]) (fun j u hj => by rw [Addr.add_lit, Nat.zero_add]; simp [World.cell?, x1, hj]) hC1l HXo.out
    have e1 : Nat.min 1 (n + 1 - i) = 1 := Nat.min_eq_left (by omega)
    rw [e1] at this
    exact this⟩
  have F2 := hid (F1.out.thenS p2.fr)
  have G2 := hid p2.at_
  have HLi := hid hlists
  clear p1 p2 g1 x1 hC1l hC1 hlists F1
  go_wp2_with fail
  go_ret
  refine ⟨rfl, ⟨?_, .inr ⟨g, cap, _, rfl, Nat.zero_le _, G2.out, hroom, HZ.out.1, ?_, ?_⟩⟩, F2.out⟩
  · have h1 := HDl.out; have h2 := HXl.out; have h3 := HAl.out
    simp only [List.length_append]; omega
  · rw [List.size_toArray, HLi.out.2, Array.length_toList]; exact HZ.out.2.1
  · exact HLi.out.1
end Go.Proofs.YtibfpkfpmkghhaaGreatDoor

namespace Go.Lig
open Go.RowKit
theorem ins_grow {A X D : List Value} {C C1 : List Value} {i n : Nat} (hA : A.length = i * 6) (hX : X.length = 6) (hD : D.length = (n - i) * 6) (hin : i < n) (hC : C.take (i * 6) = A) (hl : n * 6 + 6 ≤ C.length)
    (h1 : C1 = C.take (i * 6) ++ X ++ C.drop (i * 6 + X.length)) : (C1.take ((i + 1) * 6) ++ D ++ C1.drop ((i + 1) * 6 + D.length)).take ((n + 1) * 6) = A ++ X ++ D ∧ (C1.take ((i + 1) * 6) ++ D ++ C1.drop ((i + 1) * 6 + D.length)).length = C.length := by
  have e0 : (A ++ X).length = (i + 1) * 6 := by rw [List.length_append]; omega
  have e1 : C1.take ((i + 1) * 6) = A ++ X := by rw [h1, hC, ← e0, List.take_left]
  have l1 : C1.length = C.length := by
    rw [h1]; simp only [List.length_append, List.length_take, List.length_drop]; omega
  rw [e1]
  constructor
  · have : (n + 1) * 6 = (A ++ X ++ D).length := by simp only [List.length_append]; omega
    rw [this, List.take_left]
  · simp only [List.length_append, List.length_drop]
    omega
theorem wpList_copy_run {P : Program} {w : World} {ops : Array Oper} {rest : List Oper} {o : Oper} {a : Act} {Q : Exit → Act → World → Prop} (hgd : o.guard = none) (d s : Operand) (t t' : TypeId)
    (ho : o.op = .call { callee := .builtin .copy, args := #[d, s], argTypes := #[t, t'] }) (v u : Value) (hd : a.eval d = v) (hs : a.eval s = u) {v' : Value} {w' : World}
    (hr : (Builtin.copy_ #[t, t'] o.type #[v, u]).run P w = .ok v' w') (h : wpList P ops Q rest (a.put o.dst v') w') : wpList P ops Q (o :: rest) a w := by
  refine wpList_run hgd (v := v') ?_ h
  simp [execOp, ho, resolve, invoke, builtin, hd, hs, hr, Result.andThen]
end Go.Lig
namespace Go.Proofs.YtibfpkfpmkghhaaGreatDoor
open Go.RowKit Go.Lig

set_option maxRecDepth 100000 in
set_option maxHeartbeats 8000000 in
theorem insert_grow (w : World) (g cap : Nat) (l : List EntR) (ho : w.ownsRow 0 91 6 (.slice (some ⟨g, 0, none⟩) l.length cap) l.length (l.flatMap ncellE)) (hs : l.length ≤ 1000000) (i : Nat) (hi : i < l.length) (hroom : cap < l.length + 1) (gv : Nat) (x : EntR) (hx : w.heap[gv]? = some (.cells (ncellE x).toArray 91 (0, 0))) :
    Calls Tryz.prog 195 #[.slice (some ⟨g, 0, none⟩) l.length cap, .int .i64 (i : Int), .slice (some ⟨gv, 0, none⟩) 1 1] w fun e w' =>
      ∃ G, e = .returned (.slice (some ⟨w.heap.size, 0, none⟩) (l.length + 1) G) ∧ w'.ownsRow 0 91 6 (.slice (some ⟨w.heap.size, 0, none⟩) (l.length + 1) G) (l.length + 1) ((l.take i ++ x :: l.drop i).flatMap ncellE) ∧ Fr No w w' := by
  obtain ⟨hll, ⟨e', _⟩ | ⟨g', c', cur, e', -, hg, hnc, hcm, hcs, htk⟩⟩ := id ho
  · cases e'
  simp only [Value.slice.injEq, Option.some.injEq, Addr.mk.injEq, and_true, true_and] at e'
  obtain ⟨rfl, rfl⟩ := e'
  have HO := hid ho
  have HG := hid hg
  have HX := hid hx
  have HL := hid (show ((l.take i ++ x :: l.drop i).flatMap ncellE = (l.take i).flatMap ncellE ++ ncellE x ++ (l.drop i).flatMap ncellE) by simp)
  have HD := hid (flat_drop (f := ncellE) (m := 6) (fun _ => rfl) l i)
  have HT := hid (flat_take (f := ncellE) (m := 6) (fun _ => rfl) l i)
  have HDl := hid (show ((l.drop i).flatMap ncellE).length = (l.length - i) * 6 by rw [flat_len (f := ncellE) (m := 6) (fun _ => rfl), List.length_drop])
  have HAl := hid (show ((l.take i).flatMap ncellE).length = i * 6 by rw [flat_len (f := ncellE) (m := 6) (fun _ => rfl), List.length_take]; congr 1; omega)
  rw [HL.out]
  have HDo := hid (fun u (hu : u ∈ (l.drop i).flatMap ncellE) => ncellE_one hu)
  generalize hn : l.length = n at *
  generalize hD : (l.drop i).flatMap ncellE = D at *
  generalize hA : (l.take i).flatMap ncellE = A at *
  generalize hX : ncellE x = X at *
  have HXl := hid (show X.length = 6 by rw [← hX]; rfl)
  have HXo := hid (fun u (hu : u ∈ X) => ncellE_one (l := [x]) (by simpa [hX] using hu))
  obtain ⟨jn, hjn, hjz, hjs, hjb⟩ := info_parts infoEntry
  have hkk : (n : Int) + 1 - (i : Int) = ((n + 1 - i : Nat) : Int) := by omega
  have hik : i + (n + 1 - i) = n + 1 := by omega
  obtain ⟨G, W1, ROW, hrz, hW1, hWf, hRs, hRA, hG1, hG2⟩ : ∃ (G : Nat) (W1 : World) (ROW : Array Value), (∀ ty, (Builtin.append_ #[86, 3] ty #[.slice (some ⟨g, 0, none⟩) i cap, .int .i64 ((n : Int) + 1 - (i : Int))]).run Tryz.prog w = .ok (.slice (some ⟨w.heap.size, 0, none⟩) (n + 1) G) W1)
      ∧ W1.heap[w.heap.size]? = some (.cells ROW 91 (0, 0)) ∧ Fr No w W1 ∧ ROW.size = G * 6 ∧ ROW.toList.take (i * 6) = A ∧ n + 1 ≤ G ∧ G ≤ maxLen := by
    have hold : (Builtin.firstCells jn.size i (.slice (some ⟨g, 0, none⟩) i cap)).run Tryz.prog w.drew = .ok A.toArray w.drew := by
      rw [hjs]
      exact run_firstCells_some w.drew 6 i ⟨g, 0, none⟩ i cap A (by rw [HAl.out]) (fun j v hj => by
        rw [Addr.add_lit, Nat.zero_add]
        rw [← HT.out, List.getElem?_take] at hj
        split at hj
        · exact owns_cell (w := w.drew) HO.out rfl hj
        · cases hj)
    have hgr := grownCap_ge w (n + 1) cap 91
    have hgm := grownCap_le_maxLen w (n + 1) cap 91 (by unfold maxLen; omega)
    obtain ⟨Z, hjz, hzs⟩ : ∃ Z, jn.zero = some Z ∧ Z.cells.size = 6 := ⟨_, hjz, rfl⟩
    refine ⟨grownCap w (n + 1) cap 91, _, A.toArray ++ Builtin.zeroCells Z.cells (n + 1 - i) ++ Builtin.zeroCells Z.cells (grownCap w (n + 1) cap 91 - (n + 1)), fun ty => ?_, heap_alloc_new w.drew _, (Fr.refl No w).drew.alloc _, ?_, ?_, hgr, hgm⟩
    · have h := Go.Lib.run_append_grow_zeros w 86 3 ty 91 jn Z .i64 .i64 Tryz.underlying86 Tryz.underlying3 hjn hjz (some ⟨g, 0, none⟩) i cap A hold (n + 1 - i) (by omega) (by rw [hjs]; decide) (by omega) (by omega) (by rw [hjb]; omega) (by rw [hjb, hik]; exact growslice_fits hroom (by omega))
      rw [hik] at h
      rw [hkk]
      exact h
    · simp only [Array.size_append, List.size_toArray, size_zeroCells, HAl.out, hzs]
      omega
    · simp only [Array.toList_append, List.append_assoc]
      rw [← HAl.out, List.take_left]
  have HGL := hid (lt_of_block hg)
  have HXL := hid (lt_of_block hx)
  have x1 := hWf.keep HX.out (fun e => e)
  obtain ⟨C1, hC1⟩ : ∃ C1 : List Value, C1 = ROW.toList.take (i * 6) ++ X ++ ROW.toList.drop (i * 6 + X.length) := ⟨_, rfl⟩
  obtain ⟨w2, p2, hcp⟩ : ∃ w2, Put w.heap.size C1.toArray 91 W1 w2 ∧ ∀ ty dc, (Builtin.copy_ #[86, 86] ty #[.slice (some ⟨w.heap.size, i * 6, none⟩) (n + 1 - i) dc, .slice (some ⟨gv, 0, none⟩) 1 1]).run Tryz.prog W1 = .ok (goInt 1) w2 := ⟨W1.setRow w.heap.size C1.toArray, Put.row hW1, fun ty dc => by
    have := run_copy_rows (P := Tryz.prog) (w := W1) 86 86 ty 91 jn 6 Tryz.underlying86 hjn hjs w.heap.size (i * 6) (n + 1 - i) dc ⟨gv, 0, none⟩ 1 1 ROW 91 X hW1 (by rw [HXl.out]; show _ = min 1 (n + 1 - i) * 6; rw [Nat.min_eq_left (by omega)]) (fun j u hj => by rw [Addr.add_lit, Nat.zero_add]; simp [World.cell?, x1, hj]) (by rw [HXl.out]; omega) HXo.out
    have e1 : Nat.min 1 (n + 1 - i) = 1 := Nat.min_eq_left (by omega)
    rw [e1, ← hC1] at this
    exact this⟩
  have hC1l : C1.length = G * 6 := by
    have h3 := HXl.out
    rw [hC1]; simp only [List.length_append, List.length_take, List.length_drop, Array.length_toList]; omega
  have hlists := ins_grow (A := A) (X := X) (D := D) (C := ROW.toList) HAl.out HXl.out HDl.out hi hRA (by simp only [Array.length_toList]; omega) hC1
  have F2 := hid ((hWf.trans p2.fr (fun k hk e => by omega) : Fr No w w2))
  have G2 := hid p2.at_
  have HJ := hid (⟨hjn, hjs⟩ : _ ∧ _)
  have HLi := hid hlists
  have HRS := hid hRs
  have HC1 := hid hC1l
  have HM := hid hG2
  generalize hng : w.heap.size = ng at *
  have HNG := hid hng
  have HRZ := hid hrz
  have HCP := hid hcp
  clear hrz hcp
  clear ho hg hx hll hcm hcs htk hn hD hA hX hW1 hWf hRs hRA hG2 hkk hik hjn hjz hjs hjb hC1 hC1l hlists p2 x1 hng
  have hw1 : (i : Int) + 1 ≤ (n : Int) + 1 := by omega
  have hne : ¬ (i : Int) = (n : Int) := by omega
  have hb2 : ¬ G = i + 1 := by omega
  have hb3 : ¬ G = i := by omega
  have hb5 : ¬ cap = i := by omega
  have hb4 : (cap : Int) < (n : Int) + 1 := by omega
  go_enter Tryz.func195, Tryz.ntmps195
  go_wp2_with (first | (refine Go.Lib.wpList_append_run _ rfl (.tmp 34) (.tmp 39) 86 3 rfl (.slice (some ⟨g, 0, none⟩) i cap) (.int .i64 ((n : Int) + 1 - (i : Int))) rfl rfl (.slice (some ⟨ng, 0, none⟩) (n + 1) G) W1 (HRZ.out _) ?_) | (refine wpList_copy_run rfl (.tmp 43) (.tmp 44) 86 86 rfl (.slice (some ⟨ng, i * 6, none⟩) (n + 1 - i) (G - i)) (.slice (some ⟨gv, 0, none⟩) 1 1) rfl rfl (HCP.out _ _) ?_))
  have hwr : IntKind.i64.wrap ((i : Int) + 1) = (i : Int) + 1 := by rw [IntKind.wrap_i64]; omega
  refine wp_region_sched (by kernel_rfl) 9 [8] [0, 1, 2, 3, 4, 5, 6, 7, 8] (AgC [] w2.drew) (by kernel_rfl) (AgC.refl _ _) ?_
  simp only [List.map_cons, List.map_nil, List.contains_cons, List.contains_nil, nth_zero, nth_succ, Nat.reduceBEq, Bool.or_false]
  repeat (refine sched_quiet (fun K hK => ?_); go_simp; refine hK _ ?_; clear hK K)
  refine sched_slice rfl 86 91 Tryz.underlying86 (.tmp 46) (some (.tmp 49)) none rfl (.slice (some ⟨ng, 0, none⟩) (n + 1) G) rfl (some (.int .i64 ((i : Int) + 1))) none rfl rfl (.slice (some ⟨ng, (i + 1) * 6, none⟩) (n - i) (G - (i + 1))) (fun w' => by have := run_slice_fromI w' _ _ 6 Tryz.underlying86 (by kernel_rfl) ng (n + 1) G (i + 1) ((i : Int) + 1) rfl (by omega) hG1; rw [if_neg hb2, show n + 1 - (i + 1) = n - i by omega] at this; exact this) ?_
  repeat (refine sched_quiet (fun K hK => ?_); go_simp; refine hK _ ?_; clear hK K)
  refine sched_slice rfl 86 91 Tryz.underlying86 (.tmp 51) (some (.tmp 52)) none rfl (.slice (some ⟨g, 0, none⟩) n cap) rfl (some (.int .i64 (i : Int))) none rfl rfl (.slice (some ⟨g, i * 6, none⟩) (n - i) (cap - i)) (fun w' => by have := run_slice_fromI w' _ _ 6 Tryz.underlying86 (by kernel_rfl) g n cap i (i : Int) rfl (by omega) hnc; rw [if_neg hb5] at this; exact this) ?_
  refine sched_loud (wpList_copy_rows (w := w2.drew) rfl (.tmp 50) (.tmp 53) 86 86 rfl 91 jn 6 Tryz.underlying86 HJ.out.1 HJ.out.2 ng ((i + 1) * 6) (n - i) (G - (i + 1)) ⟨g, i * 6, none⟩ (n - i) (cap - i) rfl rfl C1.toArray 91 D G2.out (by rw [HDl.out]; show _ = min (n - i) (n - i) * 6; rw [Nat.min_self]) (fun j u hj => by rw [Addr.add_lit]; exact owns_cell (w := w2.drew) (fd_owns HO.out F2.out.drew) rfl (by rw [← HD.out, List.getElem?_drop] at hj; exact hj)) (by rw [HDl.out, List.size_toArray, HC1.out]; omega) HDo.out ?_)
  have p3 : Put ng (C1.take ((i + 1) * 6) ++ D ++ C1.drop ((i + 1) * 6 + D.length)).toArray 91 w2.drew (w2.drew.setRow ng (C1.take ((i + 1) * 6) ++ D ++ C1.drop ((i + 1) * 6 + D.length)).toArray) := Put.row G2.out
  generalize w2.drew.setRow ng (C1.toArray.toList.take ((i + 1) * 6) ++ D ++ C1.toArray.toList.drop ((i + 1) * 6 + D.length)).toArray = w3 at *
  refine sched_on (AgC.mk (fun _ h => by cases h)) ?_
  repeat (refine sched_quiet (fun K hK => ?_); go_simp; refine hK _ ?_; clear hK K)
  refine sched_nil ?_
  have F3 := hid ((F2.out.drew.trans p3.fr (fun k hk e => by have := HNG.out; omega) : Fr No w w3))
  have G3 := hid p3.at_
  clear p3
  go_wp2_with fail
  go_ret
  refine ⟨G, rfl, ⟨?_, .inr ⟨ng, G, _, rfl, Nat.zero_le _, G3.out, hG1, HM.out, ?_, ?_⟩⟩, F3.out⟩
  · have h1 := HDl.out; have h2 := HXl.out; have h3 := HAl.out
    simp only [List.length_append]; omega
  · rw [List.size_toArray, HLi.out.2, Array.length_toList]; exact HRS.out
  · exact HLi.out.1
set_option maxHeartbeats 1000000 in
theorem insert_any (w : World) (v : Value) (l : List EntR) (ho : w.ownsRow 0 91 6 v l.length (l.flatMap ncellE)) (hs : l.length ≤ 1000000) (i : Nat) (hi : i ≤ l.length) (gv : Nat) (x : EntR) (hx : w.heap[gv]? = some (.cells (ncellE x).toArray 91 (0, 0))) (hgv : v.ownBlock ≠ some gv) :
    Calls Tryz.prog 195 #[v, .int .i64 (i : Int), .slice (some ⟨gv, 0, none⟩) 1 1] w fun e w' =>
      ∃ v', e = .returned v' ∧ w'.ownsRow 0 91 6 v' (l.length + 1) ((l.take i ++ x :: l.drop i).flatMap ncellE) ∧ Fr (fun k => v.ownBlock = some k) w w' ∧ (∀ k, v'.ownBlock = some k → v.ownBlock = some k ∨ w.heap.size ≤ k) := by
  by_cases he : i = l.length
  · subst he
    rw [List.take_length, List.drop_length]
    exact insert_end w v l ho hs gv x hx
  · obtain ⟨a, cap, rfl⟩ := ownsRow_slice ho
    obtain ⟨g, cur, rfl, -, hg, -⟩ := owns_at ho (by omega)
    by_cases hr : l.length + 1 ≤ cap
    · refine (insert_room w g cap l ho hs i (by omega) hr gv x hx (fun e => hgv (by rw [e]; rfl))).mono ?_
      rintro e w' ⟨rfl, o, f⟩
      exact ⟨_, rfl, o, f.mono (fun k _ e => by rw [e]; rfl), fun k e => .inl e⟩
    · refine (insert_grow w g cap l ho hs i (by omega) (by omega) gv x hx).mono ?_
      rintro e w' ⟨G, rfl, o, f⟩
      refine ⟨_, rfl, o, f.mono (fun k _ e => e.elim), fun k e => .inr ?_⟩
      obtain rfl : w.heap.size = k := by simpa [Value.ownBlock] using e
      exact Nat.le_refl _
end Go.Proofs.YtibfpkfpmkghhaaGreatDoor

namespace Go.Proofs.YtibfpkfpmkghhaaGreatDoor
open Go.RowKit Go.Lig

def nanF (a : Nat) : Bool := FloatKind.f64.format.order a a != some Ordering.eq
theorem isnan_any (w : World) (a : Nat) : Calls Tryz.prog 266 #[.float .f64 a] w fun e w' => e = .returned (.bool (nanF a)) ∧ w = w' := by
  unfold nanF
  go_enter Tryz.func266, Tryz.ntmps266
  go_wp2_with fail
  go_ret
  exact ⟨rfl, rfl⟩
def normF (a : Nat) : Nat := if nanF a then 9221120237041090560 else a
set_option maxRecDepth 100000 in
theorem norm_any (w : World) (a : Nat) : Calls Tryz.prog 230 #[.float .f64 a] w fun e w' => e = .returned (.float .f64 (normF a)) ∧ w = w' := by
  have hfb : (callFunc 267 #[.int .u64 9221120237041090560]).run Tryz.prog w = .ok (.value (.float .f64 9221120237041090560)) w := by
    rw [run_callFunc_extern Tryz.func267 (by kernel_rfl) (by kernel_rfl) (by kernel_rfl) (e := Extern.MathFloatBits.float64frombits) (by kernel_rfl)]
    rfl
  unfold normF
  cases hn : nanF a with
  | true =>
    go_enter Tryz.func230, Tryz.ntmps230
    go_wp2_with (go_at_call 266; refine (isnan_any _ _).mono ?_; rintro e w1 ⟨rfl, rfl⟩; rw [hn])
    go_ret
    exact ⟨rfl, rfl⟩
  | false =>
    go_enter Tryz.func230, Tryz.ntmps230
    go_wp2_with (go_at_call 266; refine (isnan_any _ _).mono ?_; rintro e w1 ⟨rfl, rfl⟩; rw [hn])
    go_ret
    exact ⟨rfl, rfl⟩
theorem bits_run (w : World) (b : Nat) : (callFunc 179 #[.float .f64 b]).run Tryz.prog w = .ok (.value (.int .u64 (b : Int))) w := by
  rw [run_callFunc_extern Tryz.func179 (by kernel_rfl) (by kernel_rfl) (by kernel_rfl) (e := Extern.MathFloatBits.float64bits) (by kernel_rfl)]
  rfl
def keyF (a : Nat) : Int := if Go.bits .and .u64 (normF a : Int) 9223372036854775808 = 0 then Go.bits .or .u64 (normF a : Int) 9223372036854775808 else Go.bits .xor .u64 IntKind.u64.max (normF a : Int)
set_option maxRecDepth 100000 in
theorem key_any (w : World) (a : Nat) : Calls Tryz.prog 271 #[.float .f64 a] w fun e w' => e = .returned (.int .u64 (keyF a)) ∧ w = w' := by
  have hfb := bits_run w (normF a)
  unfold keyF
  by_cases hz : Go.bits .and .u64 (normF a : Int) 9223372036854775808 = 0
  · rw [if_pos hz]
    go_enter Tryz.func271, Tryz.ntmps271
    go_wp2_with (go_at_call 230; refine (norm_any _ _).mono ?_; rintro e w1 ⟨rfl, rfl⟩)
    go_ret
    exact ⟨rfl, rfl⟩
  · rw [if_neg hz]
    go_enter Tryz.func271, Tryz.ntmps271
    go_wp2_with (go_at_call 230; refine (norm_any _ _).mono ?_; rintro e w1 ⟨rfl, rfl⟩)
    go_ret
    exact ⟨rfl, rfl⟩
theorem rcmp_any (w : World) (a b : Nat) : Calls Tryz.prog 235 #[.float .f64 a, .float .f64 b] w fun e w' => e = .returned (.int .i64 (cmpI (keyF a) (keyF b))) ∧ w = w' := by
  go_enter Tryz.func235, Tryz.ntmps235
  go_wp2_with (first | (go_at_call 271; refine (key_any _ _).mono ?_; rintro e w1 ⟨rfl, rfl⟩) | (go_at_call 270; refine (cmpu64_any _ _ _).mono ?_; rintro e w1 ⟨rfl, rfl⟩))
  go_ret
  exact ⟨rfl, rfl⟩
/-- how two values stand to one another -/
def cmpV (a b : ValR) : Int := if a.kind ≠ b.kind then cmpI a.kind b.kind else if a.kind = 1 then boolN a.b - boolN b.b else if a.kind = 2 then cmpI a.n b.n else if a.kind = 3 then cmpI (keyF a.f) (keyF b.f) else if a.kind = 4 then cmpS a.t b.t else 0
set_option maxRecDepth 100000 in
set_option maxHeartbeats 1000000 in
theorem cmp_all : CmpOk (fun _ => True) cmpV := by
  intro a b _ _ w
  obtain ⟨ak, ab, an, af, at'⟩ := a
  obtain ⟨bk, bb, bn, bf, bt⟩ := b
  obtain ⟨k1, k2⟩ := heap2 w (.cells #[.int .i64 ak, .bool ab, .int .i64 an, .float .f64 af, .string at'] 60) (.cells #[.int .i64 bk, .bool bb, .int .i64 bn, .float .f64 bf, .string bt] 60)
  have hf : Hid (Fr No w ((w.alloc (.cells #[.int .i64 ak, .bool ab, .int .i64 an, .float .f64 af, .string at'] 60)).alloc (.cells #[.int .i64 bk, .bool bb, .int .i64 bn, .float .f64 bf, .string bt] 60))) := hid (((Fr.refl No w).alloc _).alloc _)
  obtain ⟨c0, c1, c2, c3, c4⟩ := cells5 k1
  obtain ⟨d0, d1, d2, d3, d4⟩ := cells5 k2
  dsimp only
  clear k1 k2
  by_cases hk : ak = bk
  · subst hk
    by_cases h1 : ak = 1
    · subst h1
      have HV : Hid (cmpV ⟨1, ab, an, af, at'⟩ ⟨1, bb, bn, bf, bt⟩ = boolN ab - boolN bb) := hid (by unfold cmpV; simp)
      rw [HV.out]
      clear HV
      go_enter Tryz.func181, Tryz.ntmps181
      go_wp2_with fail
      have hlt := hid (⟨World.block_lt_of_cell? _ _ c0, World.block_lt_of_cell? _ _ d0⟩ : _ ∧ _)
      generalize (w.alloc (.cells #[.int .i64 1, .bool ab, .int .i64 an, .float .f64 af, .string at'] 60)).alloc (.cells #[.int .i64 1, .bool bb, .int .i64 bn, .float .f64 bf, .string bt] 60) = w2 at *
      generalize hb1 : w.heap.size + 1 = b1 at *
      clear hb1
      have hwr : IntKind.i64.wrap (boolN ab - boolN bb) = boolN ab - boolN bb := by cases ab <;> cases bb <;> rfl
      refine wp_region_sched (by kernel_rfl) 8 [2, 5] [0, 1, 3, 4, 2, 5, 6, 7] (AgC [w.heap.size, b1] w2.drew) (by kernel_rfl) (AgC.refl _ _) ?_
      simp only [List.map_cons, List.map_nil, List.contains_cons, List.contains_nil, nth_zero, nth_succ, Nat.reduceBEq, Bool.or_false, Bool.or_true]
      repeat (refine sched_quiet (fun K hK => ?_); go_simp; refine hK _ ?_; clear hK K)
      refine sched_call (by first | rfl | go_simp) 234 #[.bool ab] (by first | kernel_rfl | go_simp) (vnumber_any _ _) ?_
      rintro e w3 ⟨rfl, rfl⟩
      refine ⟨_, rfl, AgC.refl _ _, ?_⟩
      repeat (refine sched_quiet (fun K hK => ?_); go_simp; refine hK _ ?_; clear hK K)
      refine sched_call (by first | rfl | go_simp) 234 #[.bool bb] (by first | kernel_rfl | go_simp) (vnumber_any _ _) ?_
      rintro e w3 ⟨rfl, rfl⟩
      refine ⟨_, rfl, AgC.refl _ _, ?_⟩
      repeat (refine sched_quiet (fun K hK => ?_); go_simp; refine hK _ ?_; clear hK K)
      refine sched_nil ?_
      go_wp2_with fail
      go_ret
      exact ⟨rfl, hf.out.drew⟩
    · by_cases h2 : ak = 2
      · subst h2
        have HV : Hid (cmpV ⟨2, ab, an, af, at'⟩ ⟨2, bb, bn, bf, bt⟩ = cmpI an bn) := hid (by unfold cmpV; simp)
        rw [HV.out]
        clear HV
        go_enter Tryz.func181, Tryz.ntmps181
        go_wp2_with (go_at_call 233; refine (cmpint_any _ _ _).mono ?_; rintro e w1 ⟨rfl, rfl⟩)
        go_ret
        exact ⟨rfl, hf.out⟩
      · by_cases h3 : ak = 3
        · subst h3
          have HV : Hid (cmpV ⟨3, ab, an, af, at'⟩ ⟨3, bb, bn, bf, bt⟩ = cmpI (keyF af) (keyF bf)) := hid (by unfold cmpV; simp)
          rw [HV.out]
          clear HV
          go_enter Tryz.func181, Tryz.ntmps181
          go_wp2_with (go_at_call 235; refine (rcmp_any _ _ _).mono ?_; rintro e w1 ⟨rfl, rfl⟩)
          go_ret
          exact ⟨rfl, hf.out⟩
        · by_cases h4 : ak = 4
          · subst h4
            have HV : Hid (cmpV ⟨4, ab, an, af, at'⟩ ⟨4, bb, bn, bf, bt⟩ = cmpS at' bt) := hid (by unfold cmpV; simp)
            rw [HV.out]
            clear HV
            go_enter Tryz.func181, Tryz.ntmps181
            go_wp2_with (go_at_call 236; refine (cmpstr_any _ _ _).mono ?_; rintro e w1 ⟨rfl, rfl⟩)
            go_ret
            exact ⟨rfl, hf.out⟩
          · skip
            have HV : Hid (cmpV ⟨ak, ab, an, af, at'⟩ ⟨ak, bb, bn, bf, bt⟩ = 0) := hid (by unfold cmpV; simp [h1, h2, h3, h4])
            rw [HV.out]
            clear HV
            go_enter Tryz.func181, Tryz.ntmps181
            go_wp2_with fail
            go_ret
            exact ⟨rfl, hf.out⟩
  · skip
    have HV : Hid (cmpV ⟨ak, ab, an, af, at'⟩ ⟨bk, bb, bn, bf, bt⟩ = cmpI ak bk) := hid (by unfold cmpV; simp [hk])
    rw [HV.out]
    clear HV
    go_enter Tryz.func181, Tryz.ntmps181
    go_wp2_with (go_at_call 233; refine (cmpint_any _ _ _).mono ?_; rintro e w1 ⟨rfl, rfl⟩)
    go_ret
    exact ⟨rfl, hf.out⟩
end Go.Proofs.YtibfpkfpmkghhaaGreatDoor
