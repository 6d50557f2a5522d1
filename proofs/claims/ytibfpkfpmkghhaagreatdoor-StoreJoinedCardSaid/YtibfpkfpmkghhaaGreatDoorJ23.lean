/- A part of the proof: contracts of functions of the program, for the row's text. -/
import Derived.Test.YtibfpkfpmkghhaaGreatDoorJ22
namespace Go.Proofs.YtibfpkfpmkghhaaGreatDoor
open Go.RowKit Go.Lig

def placeV (l : List EntR) (e : EntR) : Nat := place cmpV l e
def isV (l : List EntR) (e : EntR) : Bool := isThere cmpV l e
def addT (l : List EntR) (e : EntR) : List EntR := if isV l e then l else l.take (placeV l e) ++ e :: l.drop (placeV l e)
def delT (l : List EntR) (e : EntR) : List EntR := if isV l e then l.take (placeV l e) ++ l.drop (placeV l e + 1) else l
theorem isV_lt {l : List EntR} {e : EntR} (h : isV l e = true) : placeV l e < l.length := by
  unfold isV isThere at h
  simp only [Bool.and_eq_true, decide_eq_true_eq] at h
  exact h.1
theorem addT_len (l : List EntR) (e : EntR) : (addT l e).length ≤ l.length + 1 := by
  unfold addT
  split
  · omega
  · simp only [List.length_append, List.length_take, List.length_cons, List.length_drop]; omega
theorem delT_len (l : List EntR) (e : EntR) : (delT l e).length ≤ l.length := by
  unfold delT
  split
  · simp only [List.length_append, List.length_take, List.length_drop]; omega
  · omega
theorem delT_mem {l : List EntR} {e y : EntR} (h : y ∈ delT l e) : y ∈ l := by
  unfold delT at h
  split at h
  · rcases List.mem_append.1 h with h | h
    · exact List.mem_of_mem_take h
    · exact List.mem_of_mem_drop h
  · exact h
theorem addT_mem {l : List EntR} {e y : EntR} (h : y ∈ addT l e) : y ∈ l ∨ y = e := by
  unfold addT at h
  split at h
  · exact .inl h
  · rcases List.mem_append.1 h with h | h
    · exact .inl (List.mem_of_mem_take h)
    · rcases List.mem_cons.1 h with h | h
      · exact .inr h
      · exact .inl (List.mem_of_mem_drop h)
theorem search_any (w : World) (l : List EntR) (v : Value) (ho : w.ownsRow 0 91 6 v l.length (l.flatMap ncellE)) (hs : l.length ≤ 1000000) (e : EntR) :
    Calls Tryz.prog 192 #[v, .agg #[.int .i64 e.v.kind, .bool e.v.b, .int .i64 e.v.n, .float .f64 e.v.f, .string e.v.t, .int .i64 e.id], .func (.func 193) #[] #[]] w fun r w' => r = .returned (.tuple #[.int .i64 (placeV l e : Int), .bool (isV l e)]) ∧ Fr No w w' :=
  bsearch_any cmp_all w l v ho hs e (fun _ _ => trivial) trivial
set_option maxRecDepth 100000 in
set_option maxHeartbeats 1000000 in
theorem tree_del (w : World) (T : Nat → Prop) (x : Nat) (l : List EntR) (h : TreeAt w T x l) (hl : l.length ≤ 1000000) (e : EntR) (hbd : ∀ b, T b → b < w.heap.size) :
    Calls Tryz.prog 118 #[.pointer (some ⟨x, 0, none⟩), .agg #[.int .i64 e.v.kind, .bool e.v.b, .int .i64 e.v.n, .float .f64 e.v.f, .string e.v.t, .int .i64 e.id]] w fun r w' => r = .returned (.bool (isV l e)) ∧ TreeAt w' T x (delT l e) ∧ Fr T w w' := by
  have HDe : Hid (delT l e = if isV l e then l.take (placeV l e) ++ l.drop (placeV l e + 1) else l) := hid rfl
  have HDm := hid (fun y => @delT_mem l e y)
  generalize delT l e = l' at *
  obtain ⟨is, his⟩ : ∃ is, isV l e = is := ⟨_, rfl⟩
  obtain ⟨p, hpp⟩ : ∃ p, placeV l e = p := ⟨_, rfl⟩
  have HPI := hid (⟨his, hpp⟩ : _ ∧ _)
  rw [his]
  rw [his, hpp] at HDe
  clear his hpp
  obtain ⟨v, hx, ho, hv⟩ := h.ex
  have hb := heap1 w (.cells #[.int .i64 e.v.kind, .bool e.v.b, .int .i64 e.v.n, .float .f64 e.v.f, .string e.v.t, .int .i64 e.id] 91)
  have hf : Fr No w (w.alloc (.cells #[.int .i64 e.v.kind, .bool e.v.b, .int .i64 e.v.n, .float .f64 e.v.f, .string e.v.t, .int .i64 e.id] 91)) := (Fr.refl No w).alloc _
  have hxn : x ≠ w.heap.size := fun E => by have := lt_of_block hx; omega
  have HH := hid h
  have HBd := hid hbd
  have HV := hid hv
  have HLt := hid (lt_of_block hx)
  clear h hbd hv
  go_enter Tryz.func118, Tryz.ntmps118
  go_wp2_with fail
  have hx2 := hf.keep hx (fun E => E)
  have ho2 := fd_owns ho hf
  generalize w.alloc (.cells #[.int .i64 e.v.kind, .bool e.v.b, .int .i64 e.v.n, .float .f64 e.v.f, .string e.v.t, .int .i64 e.id] 91) = w2 at *
  generalize hB : w.heap.size = B at *
  have HB := hid hB
  have HF := hid hf
  have H2 := hid (⟨hx2, ho2, hb⟩ : _ ∧ _ ∧ _)
  have HLx := hid (lt_of_block hx2)
  have HLb := hid (lt_of_block hb)
  have x0 := cells1 hx2
  obtain ⟨c0, c1, c2, c3, c4, c5⟩ := cells6 hb
  clear hx ho hf hB hx2 ho2 hb
  have hsc : ∀ q ∈ [x, B], q < w2.drew.heap.size ∧ ¬ No q := fun q hq => ⟨by
    rcases List.mem_cons.1 hq with rfl | hq
    · exact HLx.out
    · rw [List.mem_singleton.1 hq]; exact HLb.out, fun E => E⟩
  refine wp_region_sched (by kernel_rfl) 11 [5] [0, 1, 2, 3, 4, 5, 6, 7, 8, 9, 10] (AgC [x, B] w2.drew) (by kernel_rfl) (AgC.refl _ _) ?_
  simp only [List.map_cons, List.map_nil, List.contains_cons, List.contains_nil, nth_zero, nth_succ, Nat.reduceBEq, Bool.or_false, Bool.or_true]
  repeat (refine sched_quiet (fun K hK => ?_); go_simp; refine hK _ ?_; clear hK K)
  refine sched_call (by first | rfl | go_simp) 192 #[v, .agg #[.int .i64 e.v.kind, .bool e.v.b, .int .i64 e.v.n, .float .f64 e.v.f, .string e.v.t, .int .i64 e.id], .func (.func 193) #[] #[]] (by first | kernel_rfl | go_simp) (search_any w2.drew l v H2.out.2.1 hl e) ?_
  rintro r w3 ⟨rfl, f3⟩
  have a3 := (AgC.refl [x, B] w2.drew).fr f3 hsc
  refine ⟨_, rfl, a3, ?_⟩
  clear c0 c1 c2 c3 c4 c5 x0 hsc a3
  repeat (refine sched_quiet (fun K hK => ?_); go_simp; refine hK _ ?_; clear hK K)
  refine sched_nil ?_
  have F3 := hid ((HF.out.drew).thenNo f3)
  have x3 := f3.keep (w := w2.drew) H2.out.1 (fun E => E)
  have b3 := f3.keep (w := w2.drew) H2.out.2.2 (fun E => E)
  have o3 := fd_owns (w := w2.drew) H2.out.2.1 f3
  have HP := hid (place_le cmpV l e : placeV l e ≤ l.length)
  have HI := hid (@isV_lt l e)
  have hplt := HI.out
  rw [HPI.out.1, HPI.out.2] at hplt ⊢
  cases is with
  | false =>
    have H3 := hid (⟨x3, o3⟩ : _ ∧ _)
    clear x3 b3 o3 f3
    go_wp2_with fail
    go_ret
    have hl' : l' = l := by have := HDe.out; simpa using this
    rw [hl']
    exact ⟨rfl, ⟨⟨v, H3.out.1, H3.out.2, HV.out⟩, HH.out.root, HH.out.ok⟩, F3.out.mono (fun _ _ E => E.elim)⟩
  | true =>
    have hp : p < l.length := hplt rfl
    obtain ⟨a, cap, rfl⟩ := ownsRow_slice o3
    obtain ⟨g, cur, rfl, -, hg, -⟩ := owns_at o3 (by omega)
    have H3 := hid (⟨x3, o3⟩ : _ ∧ _)
    have HC := hid (delete_any w3 g cap l o3 p hp hl)
    have hgx : x ≠ g := fun E => (HV.out g rfl).2 E.symm
    have x0 := cells1 x3
    have hwr : IntKind.i64.wrap ((p : Int) + 1) = (p : Int) + 1 := by rw [IntKind.wrap_i64]; omega
    clear b3 o3 f3 hg hplt
    go_wp2_with (go_at_call 194; refine HC.out.mono ?_; rintro r w4 ⟨rfl, o4, f4⟩; have x4 := f4.keep x3 hgx; clear x3 x0; have x0 := cells1 x4; have z0 : w4.frozen? ⟨x, 0, none⟩ = false := by simp [World.frozen?, x4]
                 have H4 := hid (⟨o4, f4, x4⟩ : _ ∧ _ ∧ _); clear o4 f4 x4)
    go_ret
    have hl' : l' = l.take p ++ l.drop (p + 1) := by have := HDe.out; simpa using this
    have hn : l'.length = l.length - 1 := by rw [hl']; simp only [List.length_append, List.length_take, List.length_drop]; omega
    have q5 : Put x #[.slice (some ⟨g, 0, none⟩) (l.length - 1) cap] 152 w4 (w4.setCell ⟨x, 0, none⟩ (.slice (some ⟨g, 0, none⟩) (l.length - 1) cap)) := by simpa using Put.cell (k := 0) (v := .slice (some ⟨g, 0, none⟩) (l.length - 1) cap) H4.out.2.2
    have o5 := q5.fr.owns H4.out.1 (fun k hk E => (HV.out k hk).2 E)
    rw [← hl', ← hn] at o5
    refine ⟨rfl, ⟨⟨_, q5.at_, by rw [hn]; rw [hn] at o5; exact o5, fun k hk => ?_⟩, HH.out.root, fun y hy => HH.out.ok y (HDm.out y hy)⟩, ?_⟩
    · exact HV.out k hk
    · exact ((F3.out.mono (fun _ _ E => E.elim)).thenS (H4.out.2.1.mono (fun k _ E => by subst E; exact (HV.out k rfl).1))).thenS (q5.fr.mono (fun k _ E => by rw [E]; exact HH.out.root))
set_option maxRecDepth 100000 in
set_option maxHeartbeats 1000000 in
theorem tree_add (w : World) (T : Nat → Prop) (x : Nat) (l : List EntR) (h : TreeAt w T x l) (hl : l.length ≤ 1000000) (e : EntR) (hok : ValOk e.v ∧ (Lit.int .i64 e.id).wf = true) (hbd : ∀ b, T b → b < w.heap.size) :
    Calls Tryz.prog 120 #[.pointer (some ⟨x, 0, none⟩), .agg #[.int .i64 e.v.kind, .bool e.v.b, .int .i64 e.v.n, .float .f64 e.v.f, .string e.v.t, .int .i64 e.id]] w fun r w' => r = .returned (.bool (!isV l e)) ∧ ∃ T', TreeAt w' T' x (addT l e) ∧ Fr T w w' ∧ Grown w T T' ∧ (∀ b, T' b → b < w'.heap.size) := by
  have HDe : Hid (addT l e = if isV l e then l else l.take (placeV l e) ++ e :: l.drop (placeV l e)) := hid rfl
  have HDm := hid (fun y => @addT_mem l e y)
  generalize addT l e = l' at *
  obtain ⟨is, his⟩ : ∃ is, isV l e = is := ⟨_, rfl⟩
  obtain ⟨p, hpp⟩ : ∃ p, placeV l e = p := ⟨_, rfl⟩
  have HPI := hid (⟨his, hpp⟩ : _ ∧ _)
  rw [his]
  rw [his, hpp] at HDe
  clear his hpp
  have HOK := hid hok
  clear hok
  obtain ⟨v, hx, ho, hv⟩ := h.ex
  have hb := heap1 w (.cells #[.int .i64 e.v.kind, .bool e.v.b, .int .i64 e.v.n, .float .f64 e.v.f, .string e.v.t, .int .i64 e.id] 91)
  have hf : Fr No w (w.alloc (.cells #[.int .i64 e.v.kind, .bool e.v.b, .int .i64 e.v.n, .float .f64 e.v.f, .string e.v.t, .int .i64 e.id] 91)) := (Fr.refl No w).alloc _
  have hxn : x ≠ w.heap.size := fun E => by have := lt_of_block hx; omega
  have HH := hid h
  have HBd := hid hbd
  have HV := hid hv
  have HLt := hid (lt_of_block hx)
  clear h hbd hv
  go_enter Tryz.func120, Tryz.ntmps120
  go_wp2_with fail
  have hx2 := hf.keep hx (fun E => E)
  have ho2 := fd_owns ho hf
  generalize w.alloc (.cells #[.int .i64 e.v.kind, .bool e.v.b, .int .i64 e.v.n, .float .f64 e.v.f, .string e.v.t, .int .i64 e.id] 91) = w2 at *
  generalize hB : w.heap.size = B at *
  have HB := hid hB
  have HF := hid hf
  have H2 := hid (⟨hx2, ho2, hb⟩ : _ ∧ _ ∧ _)
  have HLx := hid (lt_of_block hx2)
  have HLb := hid (lt_of_block hb)
  have x0 := cells1 hx2
  obtain ⟨c0, c1, c2, c3, c4, c5⟩ := cells6 hb
  clear hx ho hf hB hx2 ho2 hb
  have hsc : ∀ q ∈ [x, B], q < w2.drew.heap.size ∧ ¬ No q := fun q hq => ⟨by
    rcases List.mem_cons.1 hq with rfl | hq
    · exact HLx.out
    · rw [List.mem_singleton.1 hq]; exact HLb.out, fun E => E⟩
  refine wp_region_sched (by kernel_rfl) 11 [5] [0, 1, 2, 3, 4, 5, 6, 7, 8, 9, 10] (AgC [x, B] w2.drew) (by kernel_rfl) (AgC.refl _ _) ?_
  simp only [List.map_cons, List.map_nil, List.contains_cons, List.contains_nil, nth_zero, nth_succ, Nat.reduceBEq, Bool.or_false, Bool.or_true]
  repeat (refine sched_quiet (fun K hK => ?_); go_simp; refine hK _ ?_; clear hK K)
  refine sched_call (by first | rfl | go_simp) 192 #[v, .agg #[.int .i64 e.v.kind, .bool e.v.b, .int .i64 e.v.n, .float .f64 e.v.f, .string e.v.t, .int .i64 e.id], .func (.func 193) #[] #[]] (by first | kernel_rfl | go_simp) (search_any w2.drew l v H2.out.2.1 hl e) ?_
  rintro r w3 ⟨rfl, f3⟩
  have a3 := (AgC.refl [x, B] w2.drew).fr f3 hsc
  refine ⟨_, rfl, a3, ?_⟩
  clear c0 c1 c2 c3 c4 c5 x0 hsc a3
  repeat (refine sched_quiet (fun K hK => ?_); go_simp; refine hK _ ?_; clear hK K)
  refine sched_nil ?_
  have F3 := hid ((HF.out.drew).thenNo f3)
  have x3 := f3.keep (w := w2.drew) H2.out.1 (fun E => E)
  have b3 := f3.keep (w := w2.drew) H2.out.2.2 (fun E => E)
  have o3 := fd_owns (w := w2.drew) H2.out.2.1 f3
  have HP := hid (place_le cmpV l e : placeV l e ≤ l.length)
  have HI := hid (@isV_lt l e)
  have hplt := HP.out
  have e1 : place cmpV l e = p := HPI.out.2
  rw [e1] at hplt
  rw [HPI.out.1, HPI.out.2]
  cases is with
  | true =>
    have H3 := hid (⟨x3, o3⟩ : _ ∧ _)
    clear x3 b3 o3 f3
    go_wp2_with fail
    go_ret
    have hl' : l' = l := by have := HDe.out; simpa using this
    rw [hl']
    exact ⟨rfl, T, ⟨⟨v, H3.out.1, H3.out.2, HV.out⟩, HH.out.root, HH.out.ok⟩, F3.out.mono (fun _ _ E => E.elim), Grown.refl _ _, fun b hb => Nat.lt_of_lt_of_le (by rw [HB.out]; exact HBd.out b hb) F3.out.size⟩
  | false =>
    have H3 := hid (⟨x3, o3, b3⟩ : _ ∧ _ ∧ _)
    have x0 := cells1 x3
    obtain ⟨c0, c1, c2, c3, c4, c5⟩ := cells6 b3
    have hlx := lt_of_block x3
    have hlb := lt_of_block b3
    clear x3 b3 o3 f3
    go_wp2_with fail
    have hsc : ∀ q ∈ [x, B], q < w3.drew.heap.size ∧ ¬ No q := fun q hq => ⟨by
      rcases List.mem_cons.1 hq with rfl | hq
      · exact hlx
      · rw [List.mem_singleton.1 hq]; exact hlb, fun E => E⟩
    refine wp_region_sched (by kernel_rfl) 11 [7, 8, 11] [0, 1, 2, 3, 4, 5, 6, 7, 8, 9, 10, 11] (AgC [x, B] w3.drew) (by kernel_rfl) (AgC.refl _ _) ?_
    simp only [List.map_cons, List.map_nil, List.contains_cons, List.contains_nil, nth_zero, nth_succ, Nat.reduceBEq, Bool.or_false, Bool.or_true]
    repeat (refine sched_quiet (fun K hK => ?_); go_simp; refine hK _ ?_; clear hK K)
    refine sched_loud (wpList_buildSlice1 rfl 86 91 (.tmp 26) rfl _ 6 56 Tryz.underlying86 infoEntry (by first | decide | rfl) (by first | decide | rfl) (.agg #[.int .i64 e.v.kind, .bool e.v.b, .int .i64 e.v.n, .float .f64 e.v.f, .string e.v.t, .int .i64 e.id]) rfl rfl ?_)
    intro w5 p5
    have p5' : New (ncellE e).toArray 91 w3.drew w5 := p5
    have a5 := (AgC.refl [x, B] w3.drew).fr p5.fr hsc
    refine sched_on a5 ?_
    repeat (refine sched_quiet (fun K hK => ?_); go_simp; refine hK _ ?_; clear hK K)
    have o5 := fd_owns (w := w3.drew) H3.out.2.1 p5.fr
    have x5 := p5.fr.keep (w := w3.drew) H3.out.1 (fun E => E)
    have hvT : ∀ k, v.ownBlock = some k → k < B := fun k hk => HBd.out k (HV.out k hk).1
    have hB3 := hid hlb
    have hgv : v.ownBlock ≠ some w3.drew.heap.size := fun E => by have h1 := hvT _ E; have h2 := hB3.out; have h3 : w3.drew.heap.size = w3.heap.size := rfl; omega
    refine sched_call (by first | rfl | go_simp) 195 #[v, .int .i64 (p : Int), .slice (some ⟨w3.drew.heap.size, 0, none⟩) 1 1] (by first | kernel_rfl | go_simp) (insert_any w5 v l o5 hl p hplt w3.drew.heap.size e p5'.at_ hgv) ?_
    rintro r w6 ⟨v6, rfl, o6, f6, b6⟩
    have hsc5 : ∀ q ∈ [x, B], q < w3.drew.heap.size ∧ ¬ v.ownBlock = some q := fun q hq => ⟨(hsc q hq).1, by
      rcases List.mem_cons.1 hq with rfl | hq
      · exact fun E => (HV.out _ E).2 rfl
      · rw [List.mem_singleton.1 hq]; exact fun E => Nat.lt_irrefl _ (hvT _ E)⟩
    have a6 := a5.fr f6 hsc5
    have x6 := f6.keep x5 (fun E => (HV.out _ E).2 rfl)
    obtain ⟨av, cv, rfl⟩ := ownsRow_slice o6
    refine ⟨_, rfl, a6, ?_⟩
    have H6 := hid (⟨o6, f6, b6, x6, p5.fr⟩ : _ ∧ _ ∧ _ ∧ _ ∧ _)
    clear o6 f6 b6 x6 p5 p5' a5 a6 o5 x5 hsc hsc5 hgv
    repeat (refine sched_quiet (fun K hK => ?_); go_simp; refine hK _ ?_; clear hK K)
    refine sched_loud (wpList_store1 rfl 86 (.tmp 30) (.tmp 28) rfl x 0 rfl _ _ (.slice av (l.length + 1) cv) rfl (by kernel_rfl) H6.out.2.2.2.1 (by simp) rfl ?_)
    intro w7 p7
    have p7' : Put x #[.slice av (l.length + 1) cv] 152 w6 w7 := p7
    refine sched_last ?_
    refine sched_nil ?_
    have H7 := hid (⟨p7'.at_, p7'.fr⟩ : _ ∧ _)
    clear p7 p7'
    go_wp2_with fail
    go_ret
    have hl' : l' = l.take p ++ e :: l.drop p := by have := HDe.out; simpa using this
    have hn : l'.length = l.length + 1 := by rw [hl']; simp only [List.length_append, List.length_take, List.length_cons, List.length_drop]; omega
    have o7 := H7.out.2.owns H6.out.1 (fun k hk E => by
      subst E
      rcases H6.out.2.2.1 _ hk with h1 | h1
      · exact (HV.out _ h1).2 rfl
      · have h2 := HLt.out; have h3 := hB3.out; have h4 := H6.out.2.2.2.2.size; have h5 : w3.drew.heap.size = w3.heap.size := rfl; omega)
    have f36 : Fr (fun k => v.ownBlock = some k) w3 w6 := ((Fr.refl No w3).drew.thenNo H6.out.2.2.2.2).mono (fun _ _ E => E.elim) |>.thenS H6.out.2.1
    have fall : Fr T w w7 := ((F3.out.mono (fun _ _ E => E.elim)).thenS (f36.mono (fun k _ E => (HV.out k E).1))).thenS (H7.out.2.mono (fun k _ E => by rw [E]; exact HH.out.root))
    refine ⟨rfl, fun k => T k ∨ (Value.slice av (l.length + 1) cv).ownBlock = some k, ⟨⟨_, H7.out.1, by rw [hn, hl']; exact o7, fun k hk => ⟨.inr hk, fun E => ?_⟩⟩, .inl HH.out.root, fun y hy => ?_⟩, fall, ?_, ?_⟩
    · subst E
      rcases H6.out.2.2.1 _ hk with h1 | h1
      · exact (HV.out _ h1).2 rfl
      · have h2 := HLt.out; have h3 := hB3.out; have h4 := H6.out.2.2.2.2.size; have h5 : w3.drew.heap.size = w3.heap.size := rfl; omega
    · rcases HDm.out y hy with h1 | rfl
      · exact HH.out.ok y h1
      · exact HOK.out
    · intro b hb
      rcases hb with hb | hb
      · exact .inl hb
      · rcases H6.out.2.2.1 _ hb with h1 | h1
        · exact .inl (HV.out _ h1).1
        · refine .inr ?_
          have h4 := H6.out.2.2.2.2.size; have h5 : w3.drew.heap.size = w3.heap.size := rfl; have h6 := F3.out.size; omega
    · intro b hb
      rcases hb with hb | hb
      · exact Nat.lt_of_lt_of_le (by rw [HB.out]; exact HBd.out b hb) fall.size
      · exact (o7.lt b hb).2
end Go.Proofs.YtibfpkfpmkghhaaGreatDoor

namespace Go.Lig
end Go.Lig
namespace Go.Proofs.YtibfpkfpmkghhaaGreatDoor
open Go.RowKit Go.Lig

/-- an index, its blocks told apart -/
structure IxO (w : World) (T : Nat → Prop) (m : Nat) (X : List (ByteArray × List EntR)) (F : Nat) (q : Nat → Option Xp) (a : Nat → Nat) : Prop where
  mp : At q .mp m
  map : MapS w Tryz.prog 9 m F (kvs a X)
  tr : ∀ j key l, X[j]? = some (key, l) → TreeAt w (At q (.tree j)) (a j) l ∧ l.length ≤ F
  bd : ∀ b, q b ≠ none → T b ∧ b < w.heap.size
  keys : ∀ p ∈ X, p.1.size ≤ maxLen
theorem IxAt.open_ {w : World} {T : Nat → Prop} {m F : Nat} {X : List (ByteArray × List EntR)} (h : IxAt w T m X F) : ∃ q a, IxO w T m X F q a := by
  obtain ⟨q, a, h1, h2, h3, h4⟩ := h.ex
  exact ⟨q, a, h1, h2, h3, h4, h.keys⟩
theorem IxO.close {w : World} {T : Nat → Prop} {m F : Nat} {X : List (ByteArray × List EntR)} {q : Nat → Option Xp} {a : Nat → Nat} (h : IxO w T m X F q a) : IxAt w T m X F := ⟨⟨q, a, h.mp, h.map, h.tr, h.bd⟩, h.keys⟩
theorem IxO.frame {w w' : World} {T S : Nat → Prop} {m F : Nat} {X : List (ByteArray × List EntR)} {q : Nat → Option Xp} {a : Nat → Nat} (h : IxO w T m X F q a) (hf : Fr S w w') (hd : ∀ k, T k → ¬ S k) : IxO w' T m X F q a := by
  have hq : ∀ p b, At q p b → ¬ S b := fun p b hb => hd b (h.bd b (by rw [show q b = some p from hb]; simp)).1
  exact ⟨h.mp, h.map.frame hf (hq _ _ h.mp), fun j key l e => ⟨(h.tr j key l e).1.frame hf (hq _), (h.tr j key l e).2⟩, fun b hb => ⟨(h.bd b hb).1, Nat.lt_of_lt_of_le (h.bd b hb).2 hf.size⟩, h.keys⟩
theorem IxO.more {w : World} {T : Nat → Prop} {m F G : Nat} {X : List (ByteArray × List EntR)} {q : Nat → Option Xp} {a : Nat → Nat} (h : IxO w T m X F q a) (hg : F ≤ G) : IxO w T m X G q a :=
  ⟨h.mp, h.map.more hg, fun j key l e => ⟨(h.tr j key l e).1, Nat.le_trans (h.tr j key l e).2 hg⟩, h.bd, h.keys⟩
theorem IxO.wide {w : World} {T T' : Nat → Prop} {m F : Nat} {X : List (ByteArray × List EntR)} {q : Nat → Option Xp} {a : Nat → Nat} (h : IxO w T m X F q a) (hg : ∀ b, T b → T' b) : IxO w T' m X F q a :=
  ⟨h.mp, h.map, h.tr, fun b hb => ⟨hg b (h.bd b hb).1, (h.bd b hb).2⟩, h.keys⟩
/-- where the key stands -/
def slot (X : List (ByteArray × List EntR)) (key : ByteArray) : Option Nat := X.findIdx? (fun p => decide (p.1 = key))
def openX (X : List (ByteArray × List EntR)) (key : ByteArray) : List (ByteArray × List EntR) := match slot X key with
  | some _ => X
  | none => X ++ [(key, [])]
def ptrAt (a : Nat → Nat) (j : Nat) : Value := .pointer (some ⟨a j, 0, none⟩)
theorem kvs_find (key : ByteArray) (a : Nat → Nat) : ∀ (X : List (ByteArray × List EntR)) (k : Nat), ((X.zipIdx k).map fun p => (p.1.1, ptrAt a p.2)).find? (fun p => decide (p.1 = key)) = (X.findIdx? (fun p => decide (p.1 = key))).map (fun j => (key, ptrAt a (j + k)))
  | [], _ => rfl
  | p :: X, k => by
    rw [List.zipIdx_cons, List.map_cons, List.find?_cons, List.findIdx?_cons]
    by_cases h : p.1 = key
    · simp [h]
    · simp only [h, decide_false]
      rw [kvs_find key a X (k + 1)]
      simp only [Bool.false_eq_true, if_false, Option.map_map]
      congr 1
      funext j
      simp only [Function.comp]
      congr 2
      omega
theorem getS_kvs (a : Nat → Nat) (X : List (ByteArray × List EntR)) (key : ByteArray) : getS (kvs a X) key = match slot X key with
    | some j => ptrAt a j
    | none => .pointer none := by
  unfold getS kvs slot
  have := kvs_find key a X 0
  unfold ptrAt at this ⊢
  rw [this]
  cases X.findIdx? (fun p => decide (p.1 = key)) <;> simp
theorem slot_some {X : List (ByteArray × List EntR)} {key : ByteArray} {j : Nat} (h : slot X key = some j) : ∃ l, X[j]? = some (key, l) := by
  unfold slot at h
  obtain ⟨hj, hp, -⟩ := List.findIdx?_eq_some_iff_getElem.1 h
  refine ⟨(X[j]).2, ?_⟩
  rw [List.getElem?_eq_getElem hj]
  have : X[j].1 = key := by simpa using hp
  rw [← this]
theorem slot_none {X : List (ByteArray × List EntR)} {key : ByteArray} (h : slot X key = none) : ∀ p ∈ X, p.1 ≠ key := by
  unfold slot at h
  intro p hp e
  have := List.findIdx?_eq_none_iff.1 h p hp
  simp [e] at this
theorem kvs_snoc (a : Nat → Nat) (X : List (ByteArray × List EntR)) (key : ByteArray) (l : List EntR) : kvs a (X ++ [(key, l)]) = kvs a X ++ [(key, ptrAt a X.length)] := by
  simp [kvs, ptrAt, List.zipIdx_append]
theorem kvs_congr {a a' : Nat → Nat} {X : List (ByteArray × List EntR)} (h : ∀ j, j < X.length → a j = a' j) : kvs a X = kvs a' X := by
  unfold kvs
  refine List.map_congr_left (fun p hp => ?_)
  have := List.mem_zipIdx hp
  rw [h p.2 (by omega)]
theorem kvs_keys (a : Nat → Nat) (X : List (ByteArray × List EntR)) : ∀ p ∈ kvs a X, ∃ x ∈ X, x.1 = p.1 := by
  intro p hp
  obtain ⟨y, hy, rfl⟩ := List.mem_map.1 hp
  have := List.mem_zipIdx hy
  exact ⟨y.1, by rw [this.2.2]; exact List.getElem_mem _, rfl⟩
theorem treenew_any (w : World) : Calls Tryz.prog 191 #[] w fun e w' => e = .returned (.pointer (some ⟨w.heap.size, 0, none⟩)) ∧ New #[.slice none 0 0] 152 w w' := by
  go_enter Tryz.func191, Tryz.ntmps191
  go_wp2_with fail
  go_ret
  exact ⟨rfl, New.alloc _ _ _⟩
set_option maxRecDepth 100000 in
set_option maxHeartbeats 1000000 in
theorem open_hit (w : World) (T : Nat → Prop) (m F s : Nat) (X : List (ByteArray × List EntR)) (q : Nat → Option Xp) (a : Nat → Nat) (h : IxO w T m X F q a) (hs : w.cell? ⟨s, 6, none⟩ = some (.map (some m))) (key : ByteArray) (hk : key.size ≤ maxLen) (j : Nat) (hj : slot X key = some j) :
    Calls Tryz.prog 117 #[.pointer (some ⟨s, 0, none⟩), .string key] w fun e w' => e = .returned (ptrAt a j) ∧ Fr No w w' := by
  have hz : (zeroValue 87).run Tryz.prog w = .ok (.pointer none) w := by kernel_rfl
  have HM := hid (⟨h.map, getS_kvs a X key⟩ : _ ∧ _)
  rw [hj] at HM
  unfold ptrAt at *
  clear h hj
  go_enter Tryz.func117, Tryz.ntmps117
  go_wp2_with (first | (refine wpList_slook rfl (.tmp 8) (.tmp 9) 77 rfl Tryz.underlying9 Tryz.underlying77 hz rfl HM.out.1 key rfl hk _ HM.out.2 ?_) | (refine wpList_slook rfl (.tmp 21) (.tmp 22) 77 rfl Tryz.underlying9 Tryz.underlying77 hz rfl HM.out.1 key rfl hk _ HM.out.2 ?_))
  go_ret
  exact ⟨rfl, Fr.refl _ _⟩
end Go.Proofs.YtibfpkfpmkghhaaGreatDoor

namespace Go.Proofs.YtibfpkfpmkghhaaGreatDoor
open Go.RowKit Go.Lig

/-- what a turn of the index leaves -/
def IxTo (w : World) (T : Nat → Prop) (m : Nat) (X' : List (ByteArray × List EntR)) (F' : Nat) (q' : Nat → Option Xp) (a' : Nat → Nat) (w' : World) : Prop := ∃ T', IxO w' T' m X' F' q' a' ∧ Fr T w w' ∧ Grown w T T' ∧ ∀ b, T' b → b < w'.heap.size
set_option maxRecDepth 100000 in
set_option maxHeartbeats 1000000 in
theorem open_miss (w : World) (T : Nat → Prop) (m F s : Nat) (X : List (ByteArray × List EntR)) (q : Nat → Option Xp) (a : Nat → Nat) (h : IxO w T m X F q a) (hb : ∀ b, T b → b < w.heap.size) (hF : F < 1000000) (hs : w.cell? ⟨s, 6, none⟩ = some (.map (some m))) (hsT : ¬ T s) (key : ByteArray) (hk : key.size ≤ maxLen) (hj : slot X key = none) :
    Calls Tryz.prog 117 #[.pointer (some ⟨s, 0, none⟩), .string key] w fun e w' => ∃ q' a', e = .returned (ptrAt a' X.length) ∧ IxTo w T m (X ++ [(key, [])]) (F + 1) q' a' w' := by
  have hz : ∀ w, (zeroValue 87).run Tryz.prog w = .ok (.pointer none) w := fun w => by kernel_rfl
  have HM := hid (⟨h.map, getS_kvs a X key⟩ : _ ∧ _)
  have hsm : s ≠ m := fun E => hsT (by rw [E]; exact (h.bd m (by rw [show q m = some .mp from h.mp]; simp)).1)
  have HH := hid (⟨h, hb, hsT⟩ : _ ∧ _ ∧ _)
  have HS := hid hs
  have HJ := hid hj
  rw [hj] at HM
  have hls := World.block_lt_of_cell? _ _ hs
  clear h hj hb hsT
  go_enter Tryz.func117, Tryz.ntmps117
  go_wp2_with (refine wpList_slook rfl (.tmp 8) (.tmp 9) 77 rfl Tryz.underlying9 Tryz.underlying77 (hz _) rfl HM.out.1 key rfl hk _ HM.out.2 ?_)
  have hsc : ∀ b ∈ [s], b < w.drew.heap.size ∧ ¬ No b := fun b hb => ⟨by rw [List.mem_singleton.1 hb]; exact hls, fun E => E⟩
  refine wp_region_sched (by kernel_rfl) 7 [5, 6] [0, 1, 2, 3, 4, 5, 6] (AgC [s] w.drew) (by kernel_rfl) (AgC.refl _ _) ?_
  simp only [List.map_cons, List.map_nil, List.contains_cons, List.contains_nil, nth_zero, nth_succ, Nat.reduceBEq, Bool.or_false, Bool.or_true]
  repeat (refine sched_quiet (fun K hK => ?_); go_simp; refine hK _ ?_; clear hK K)
  refine sched_call (by first | rfl | go_simp) 191 #[] (by first | kernel_rfl | go_simp) (treenew_any _) ?_
  rintro e w2 ⟨rfl, p2⟩
  refine ⟨_, rfl, (AgC.refl [s] w.drew).fr p2.fr hsc, ?_⟩
  have f2 : Fr No w w2 := (Fr.refl No w).drew.thenNo p2.fr
  have m2 : MapS w2 Tryz.prog 9 m F (kvs a X) := HM.out.1.frame f2 (fun E => E)
  refine sched_loud (wpList_sstore rfl (.tmp 15) (.tmp 16) (.tmp 17) 77 rfl Tryz.underlying9 Tryz.underlying77 rfl m2 (by unfold maxLen; omega) key rfl hk (fun p hp => ?_) (.pointer (some ⟨w.drew.heap.size, 0, none⟩)) rfl ?_)
  · obtain ⟨x, hx, hxe⟩ := kvs_keys a X p hp
    rw [← hxe]
    exact slot_none HJ.out x hx
  intro w3 m3 f3 e3
  refine sched_on (((AgC.refl [s] w.drew).fr p2.fr hsc).fr f3 (fun b hb => ⟨(hsc b hb).1, by rw [List.mem_singleton.1 hb]; exact hsm⟩)) ?_
  repeat (refine sched_quiet (fun K hK => ?_); go_simp; refine hK _ ?_; clear hK K)
  refine sched_nil ?_
  have s3 : w3.cell? ⟨s, 6, none⟩ = some (.map (some m)) := by
    rw [World.cell?_of_block (w := w) ((f3.block s (Nat.lt_of_lt_of_le hls f2.size) hsm).trans (f2.block s hls (fun E => E)))]
    exact HS.out
  have H3 := hid (⟨m3, f3, p2.at_, p2.fr⟩ : _ ∧ _ ∧ _ ∧ _)
  obtain ⟨a', ha'⟩ : ∃ a' : Nat → Nat, a' = fun i => if i = X.length then w.drew.heap.size else a i := ⟨_, rfl⟩
  have haL : a' X.length = w.drew.heap.size := by rw [ha']; simp
  have hao : ∀ i, i ≠ X.length → a' i = a i := fun i hi => by rw [ha']; simp [hi]
  have hkv : kvs a' (X ++ [(key, [])]) = kvs a X ++ [(key, .pointer (some ⟨w.drew.heap.size, 0, none⟩))] := by
    rw [kvs_snoc, ← kvs_congr (a := a) (a' := a') (fun i hi => (hao i (by omega)).symm)]
    unfold ptrAt
    rw [haL]
  have hsl : slot (X ++ [(key, [])]) key = some X.length := by
    unfold slot at HJ ⊢
    rw [List.findIdx?_append, HJ.out]
    simp
  have m4 : MapS w3 Tryz.prog 9 m (F + 1) (kvs a' (X ++ [(key, [])])) := by rw [hkv]; exact m3
  have HG := hid (⟨m4, getS_kvs a' (X ++ [(key, [])]) key⟩ : _ ∧ _)
  rw [hsl] at HG
  have HA := hid (⟨haL, hao⟩ : _ ∧ _)
  have HF2 := hid (⟨f2, f3, e3⟩ : _ ∧ _ ∧ _)
  clear m3 f3 p2 m2 f2 e3 m4 hkv ha' haL hao hsl hsc
  unfold ptrAt at *
  go_wp2_with (refine wpList_slook rfl (.tmp 21) (.tmp 22) 77 rfl Tryz.underlying9 Tryz.underlying77 (hz _) rfl HG.out.1 key rfl hk _ HG.out.2 ?_)
  go_ret
  have hm := HH.out.1.mp
  have hdz : w.drew.heap.size = w.heap.size := rfl
  have hn2 : w.heap.size < w2.heap.size := lt_of_block H3.out.2.2.1
  have hlt : ∀ p b, At q p b → b < w.heap.size := fun p b hb => (HH.out.1.bd b (by rw [show q b = some p from hb]; simp)).2
  have hmn : w.heap.size ≠ m := fun E => by have := hlt _ _ hm; omega
  obtain ⟨q', hq'⟩ : ∃ q' : Nat → Option Xp, q' = fun b => if b = w.heap.size then some (.tree X.length) else if q b = some (.tree X.length) then none else q b := ⟨_, rfl⟩
  have hqs : At q' (.tree X.length) = fun b => b = w.heap.size := by
    funext b
    refine propext ?_
    unfold At
    rw [hq']
    simp only []
    by_cases h1 : b = w.heap.size
    · simp [h1]
    · by_cases h2 : q b = some (.tree X.length) <;> simp [h1, h2]
  have hqo : ∀ p, p ≠ .tree X.length → At q' p = At q p := fun p hp => by
    funext b
    refine propext ?_
    unfold At
    rw [hq']
    simp only []
    by_cases h1 : b = w.heap.size
    · subst h1
      simp only [if_true, Option.some.injEq]
      exact ⟨fun E => absurd E.symm hp, fun E => absurd (hlt _ _ E) (Nat.lt_irrefl _)⟩
    · by_cases h2 : q b = some (.tree X.length)
      · rw [if_neg h1, if_pos h2, h2]
        exact ⟨fun E => by simp at E, fun E => absurd (Option.some.inj E).symm hp⟩
      · simp [h1, h2]
  have hbt : w3.heap[w.heap.size]? = some (.cells #[.slice none 0 0] 152 (0, 0)) := HF2.out.2.1.keep H3.out.2.2.1 hmn
  have fT : Fr T w w3 := (HF2.out.1.mono (fun _ _ E => E.elim)).thenS (HF2.out.2.1.mono (fun b _ E => by rw [E]; exact (HH.out.1.bd m (by rw [show q m = some .mp from hm]; simp)).1))
  refine ⟨q', a', by unfold ptrAt; rw [HA.out.1]; rfl, fun b => T b ∨ b = w.heap.size, ⟨?_, HG.out.1, ?_, ?_, ?_⟩, fT, ?_, ?_⟩
  · rw [hqo _ (by simp)]; exact hm
  · intro j k2 l e
    rcases Nat.lt_or_ge j X.length with h1 | h1
    · rw [List.getElem?_append_left h1] at e
      have := HH.out.1.tr j k2 l e
      rw [hqo _ (by simp; omega), HA.out.2 j (by omega)]
      refine ⟨this.1.frame (HF2.out.1.mono (fun _ _ E => E.elim) |>.thenS HF2.out.2.1) (fun b hb E => ?_), by omega⟩
      have h2 : q b = some (.tree j) := hb
      rw [E, show q m = some .mp from hm] at h2
      cases h2
    · have h2 : j = X.length := by
        rcases Nat.eq_or_lt_of_le h1 with h2 | h2
        · exact h2.symm
        · rw [List.getElem?_eq_none (by simp; omega)] at e; cases e
      subst h2
      simp only [List.getElem?_append_right (Nat.le_refl _), Nat.sub_self, List.getElem?_cons_zero, Option.some.injEq, Prod.mk.injEq] at e
      obtain ⟨rfl, rfl⟩ := e
      rw [hqs, HA.out.1]
      exact ⟨⟨⟨.slice none 0 0, hbt, World.ownsRow_nil _ _ _ _, fun k E => by cases E⟩, hdz, fun y hy => by cases hy⟩, Nat.zero_le _⟩
  · intro b hb
    by_cases h1 : b = w.heap.size
    · exact ⟨.inr h1, by rw [h1]; exact lt_of_block hbt⟩
    · have : q b ≠ none := fun E => hb (by rw [hq']; simp [h1, E])
      exact ⟨.inl (HH.out.1.bd b this).1, Nat.lt_of_lt_of_le (HH.out.1.bd b this).2 fT.size⟩
  · intro p hp
    rcases List.mem_append.1 hp with h1 | h1
    · exact HH.out.1.keys p h1
    · rw [List.mem_singleton.1 h1]; exact hk
  · intro b hb
    rcases hb with h1 | h1
    · exact .inl h1
    · exact .inr (by omega)
  · intro b hb
    rcases hb with h1 | h1
    · exact Nat.lt_of_lt_of_le (HH.out.2.1 b h1) fT.size
    · rw [h1]; exact lt_of_block hbt
theorem tree_any (w : World) (T : Nat → Prop) (m F s : Nat) (X : List (ByteArray × List EntR)) (h : IxAt w T m X F) (hb : ∀ b, T b → b < w.heap.size) (hF : F < 1000000) (hs : w.cell? ⟨s, 6, none⟩ = some (.map (some m))) (hsT : ¬ T s) (key : ByteArray) (hk : key.size ≤ maxLen) :
    Calls Tryz.prog 117 #[.pointer (some ⟨s, 0, none⟩), .string key] w fun e w' => ∃ q' a' j, e = .returned (ptrAt a' j) ∧ slot (openX X key) key = some j ∧ IxTo w T m (openX X key) (F + 1) q' a' w' := by
  obtain ⟨q, a, ho⟩ := h.open_
  unfold openX
  cases hj : slot X key with
  | some j =>
    refine (open_hit w T m F s X q a ho hs key hk j hj).mono ?_
    rintro e w' ⟨rfl, f⟩
    exact ⟨q, a, j, rfl, hj, T, (ho.more (Nat.le_succ F)).frame f (fun _ _ E => E), f.mono (fun _ _ E => E.elim), Grown.refl _ _, fun b hb' => Nat.lt_of_lt_of_le (hb b hb') f.size⟩
  | none =>
    refine (open_miss w T m F s X q a ho hb hF hs hsT key hk hj).mono ?_
    rintro e w' ⟨q', a', rfl, h2⟩
    refine ⟨q', a', X.length, rfl, ?_, h2⟩
    unfold slot at hj ⊢
    simp only []
    rw [List.findIdx?_append, hj]
    simp
end Go.Proofs.YtibfpkfpmkghhaaGreatDoor
