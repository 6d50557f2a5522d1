/- A part of the proof: contracts of functions of the program, for the row's text. -/
import Derived.Test.YthadcdoepoglkaaGreatDoorJ06
import Derived.Test.YthadcdoepoglkaaGreatDoorJ02
namespace Go.Proofs.YthadcdoepoglkaaGreatDoor
open Go.RowKit Go.Lig
theorem filt_step {p : Ver NodeV → Bool} {L : List (Ver NodeV)} {j : Nat} {y : Ver NodeV} (h : L[j]? = some y) : (L.take (j + 1)).filter (fun z => !p z) = (L.take j).filter (fun z => !p z) ++ if p y then [] else [y] := by
 rw [List.take_add_one, h, Option.toList_some, List.filter_append]
 cases hp : p y <;> simp [hp]
def midL (p : Ver NodeV → Bool) (L : List (Ver NodeV)) (j : Nat) : List (Ver NodeV) := (L.take j).filter (fun z => !p z) ++ L.drop ((L.take j).filter (fun z => !p z)).length
theorem filt_le (p : Ver NodeV → Bool) (L : List (Ver NodeV)) (j : Nat) : ((L.take j).filter (fun z => !p z)).length ≤ j := by
 have h1 := List.length_filter_le (fun z => !p z) (L.take j)
 have h2 := List.length_take_le j L
 omega
theorem midL_len (p : Ver NodeV → Bool) (L : List (Ver NodeV)) (j : Nat) (hj : j ≤ L.length) : (midL p L j).length = L.length := by
 have := filt_le p L j
 simp [midL]
 omega
theorem midL_get {p : Ver NodeV → Bool} {L : List (Ver NodeV)} {j k : Nat} (hk : j ≤ k) : (midL p L j)[k]? = L[k]? := by
 have := filt_le p L j
 unfold midL
 rw [List.getElem?_append_right (by omega), List.getElem?_drop]
 congr 1
 omega
theorem midL_keep {p : Ver NodeV → Bool} {L : List (Ver NodeV)} {j : Nat} {y : Ver NodeV} (h : L[j]? = some y) (hp : p y = true) : midL p L (j + 1) = midL p L j := by
 unfold midL
 rw [filt_step h, hp]
 simp
theorem midL_put {p : Ver NodeV → Bool} {L : List (Ver NodeV)} {j : Nat} {y : Ver NodeV} (h : L[j]? = some y) (hp : p y = false) : (midL p L j).set ((L.take j).filter (fun z => !p z)).length y = midL p L (j + 1) := by
 have hl := filt_le p L j
 have hj := (List.getElem?_eq_some_iff.1 h).1
 unfold midL
 rw [filt_step h, hp]
 generalize hF : (L.take j).filter (fun z => !p z) = F at *
 simp only [Bool.false_eq_true, if_false, List.length_append, List.length_cons, List.length_nil]
 rw [List.set_append_right _ _ (Nat.le_refl _), Nat.sub_self, List.drop_eq_getElem_cons (by omega), List.set_cons_zero, List.append_assoc]
 rfl
theorem mid_seg (R : List (Ver NodeV)) (k : Nat) (hk : k < R.length) (y : Ver NodeV) : (R.flatMap ncell).take (k * 4) ++ ncell y ++ (R.flatMap ncell).drop (k * 4 + (ncell y).length) = (R.set k y).flatMap ncell := by
 induction R generalizing k with
 | nil => simp at hk
 | cons z R ih =>
  cases k with
  | zero => simp [ncell]
  | succ k =>
   have hk' : k < R.length := by simpa using hk
   have e : (k + 1) * 4 = (ncell z).length + k * 4 := by simp [ncell]; omega
   rw [List.set_cons_succ, List.flatMap_cons, List.flatMap_cons, ← ih k hk', e, List.take_append, List.take_of_length_le (by omega), Nat.add_sub_cancel_left, show (ncell z).length + k * 4 + (ncell y).length = (ncell z).length + (k * 4 + (ncell y).length) by omega, List.drop_append, List.drop_eq_nil_of_le (show (ncell z).length ≤ _ by omega), List.nil_append, Nat.add_sub_cancel_left]
   simp only [List.append_assoc]
theorem run_slice_from {P : Program} (w : World) (t e : TypeId) (j : TypeInfo) (ht : P.underlying t = some (.slice e)) (hj : P.info? e = some j) (g n cap q : Nat) (h1 : q < n) (h2 : n ≤ cap) : (Instr.slice t (.slice (some ⟨g, 0, none⟩) n cap) (some (.int .i64 (q : Int))) none none).run P w = .ok (.slice (some ⟨g, q * j.size, none⟩) (n - q) (cap - q)) w := by
 have c1 : q ≤ n := by omega
 have c2 : ¬ cap = q := by omega
 simp [Instr.slice, run_underlying ht, Instr.sliceBounds, Instr.sliceBound, asIntOf, sizeOf, typeInfo, hj, c1, c2, Addr.add]
 by_cases h0 : q * j.size = 0 <;> simp [h0]
theorem run_slice_to {P : Program} (w : World) (t e : TypeId) (j : TypeInfo) (ht : P.underlying t = some (.slice e)) (hj : P.info? e = some j) (g n cap q : Nat) (h1 : q ≤ cap) : (Instr.slice t (.slice (some ⟨g, 0, none⟩) n cap) none (some (.int .i64 (q : Int))) none).run P w = .ok (.slice (some ⟨g, 0, none⟩) q cap) w := by
 have c1 : q ≤ cap := by omega
 simp [Instr.slice, run_underlying ht, Instr.sliceBounds, Instr.sliceBound, asIntOf, sizeOf, typeInfo, hj, c1, Addr.add]
theorem filt_first {p : Ver NodeV → Bool} {L : List (Ver NodeV)} {i : Nat} {y : Ver NodeV} (hy : L[i]? = some y) (hp : p y = true) (hk : ∀ k z, k < i → L[k]? = some z → p z = false) : (L.take (i + 1)).filter (fun z => !p z) = L.take i := by
 rw [filt_step hy, hp, if_pos rfl, List.append_nil]
 refine List.filter_eq_self.2 (fun z hz => ?_)
 obtain ⟨k, hk1⟩ := List.getElem?_of_mem hz
 rw [List.getElem?_take] at hk1
 split at hk1
 ·rename_i h; simp [hk k z h hk1]
 ·cases hk1
theorem ownsN {w : World} {g n cap : Nat} {R : List (Ver NodeV)} (h : w.ownsRow 0 160 4 (.slice (some ⟨g, 0, none⟩) n cap) n (R.flatMap ncell)) {j : Nat} {y : Ver NodeV} (hy : R[j]? = some y) : NcAt w g j y := by
 have g0 : ∀ t, t < 4 → (R.flatMap ncell)[j * 4 + t]? = (ncell y)[t]? := fun t ht => flat_get (f := ncell) (m := 4) (fun _ => rfl) _ _ _ hy t ht
 exact ⟨owns_cell h rfl (by rw [← Nat.add_zero (j * 4), g0 0 (by decide)]; rfl), owns_cell h rfl (by rw [g0 1 (by decide)]; rfl), owns_cell h rfl (by rw [g0 2 (by decide)]; rfl), owns_cell h rfl (by rw [g0 3 (by decide)]; rfl)⟩
set_option maxHeartbeats 4000000 in
set_option maxRecDepth 100000 in
theorem delv_some (w : World) (g cap : Nat) (L : List (Ver NodeV)) (hs : L.length ≤ 1000000) (ho : w.ownsRow 0 160 4 (.slice (some ⟨g, 0, none⟩) L.length cap) L.length (L.flatMap ncell)) (cf : Nat) (clb : Array Value) (p : Ver NodeV → Bool)
  (hcf : ∀ args w, (callFunc cf args).run Tryz.prog w = .ok (.enter cf args) w)
  (hp : ∀ W y, Fr (fun k => k = g) w W → Calls Tryz.prog cf (#[.agg #[.int .i64 y.by_, .slice y.v.l.a y.v.l.n y.v.l.c, .slice y.v.p.a y.v.p.n y.v.p.c, .bool y.gone]] ++ clb) W fun e W' => e = .returned (.bool (p y)) ∧ Fr No W W') :
  Calls Tryz.prog 124 #[.slice (some ⟨g, 0, none⟩) L.length cap, .func (.func cf) #[] clb] w fun e w' =>
   e = .returned (.slice (some ⟨g, 0, none⟩) (L.filter (fun z => !p z)).length cap) ∧ w'.ownsRow 0 160 4 (.slice (some ⟨g, 0, none⟩) (L.filter (fun z => !p z)).length cap) (L.filter (fun z => !p z)).length ((L.filter (fun z => !p z)).flatMap ncell) ∧ Fr (fun k => k = g) w w' := by
 have HI := hid (idxv_any w (some ⟨g, 0, none⟩) g cap L (fun _ => rfl) hs (fun W hf j y hy => ownsN (fd_owns ho hf) hy) cf clb p hcf (fun W y hf => hp W y (hf.mono (fun _ _ e => e.elim))))
 have HO := hid ho
 have HP := hid hp
 have HCF := hid hcf
 clear hp hcf ho
 go_enter Tryz.func124, Tryz.ntmps124
 go_wp2_with fail
 refine HI.out.mono ?_
 rintro e w1 ⟨i, rfl, f1, hi⟩
 rcases hi with ⟨rfl, hn⟩ | ⟨i, rfl, hil, ⟨y, hy, hpy⟩, hk⟩
 ·have H1 := hid (⟨f1, hn⟩ : _ ∧ _)
  clear f1 hn
  go_wp2_with fail
  go_ret
  rw [findIdx_none H1.out.2]
  exact ⟨rfl, fd_owns HO.out H1.out.1, H1.out.1.mono (fun _ _ e => e.elim)⟩
 ·have H1 := hid (⟨f1, hy, hpy, hk⟩ : _ ∧ _ ∧ _ ∧ _)
  have n9 : ((i : Int) == -1) = false := by rw [beq_eq_false_iff_ne]; omega
  clear f1 hy hpy hk
  go_wp2_with fail
  go_loopw [5, 6] (fun v5 v6 wr => ∃ j q : Nat, i + 1 ≤ j ∧ j ≤ L.length ∧ q < j ∧ v5 = .int .i64 (q : Int) ∧ v6 = .int .i64 (j : Int) ∧ Hid (q = ((L.take j).filter (fun z => !p z)).length ∧ wr.ownsRow 0 160 4 (.slice (some ⟨g, 0, none⟩) L.length cap) L.length ((midL p L j).flatMap ncell) ∧ Fr (fun k => k = g) w wr)) (fun _ v6 _ => L.length - (intOf v6).toNat)
  case atStart =>
   obtain ⟨f1, hy, hpy, hk⟩ := H1.out
   have hf := filt_first hy hpy hk
   have hm : midL p L (i + 1) = L := by unfold midL; rw [hf, List.length_take, Nat.min_eq_left (by omega), List.take_append_drop]
   refine ⟨i + 1, i, Nat.le_refl _, by omega, by omega, rfl, by go_num, by rw [hf, List.length_take]; omega, ?_, f1.mono (fun _ _ e => e.elim)⟩
   rw [hm]
   exact fd_owns HO.out f1
  case round =>
   obtain ⟨j, q, hij, hjn, hqj, rfl, rfl, HR⟩ := hrel
   have HJ := hid (⟨hij, hjn, hqj, hil⟩ : _ ∧ _ ∧ _ ∧ _)
   generalize hLn : L.length = n at *
   have HLn := hid hLn
   clear hLn
   by_cases hlt : j < n
   ·obtain ⟨y, hy⟩ : ∃ y, L[j]? = some y := ⟨_, List.getElem?_eq_getElem (by have := HLn.out; omega)⟩
    obtain ⟨y0, y1, y2, y3⟩ := ownsN HR.out.2.1 ((midL_get (Nat.le_refl j)).trans hy)
    have HY := hid hy
    clear hy hij hjn hqj hil
    cases hpy : p y with
    | true =>
     go_wp2_with (rw [HCF.out, Oper.upon_enter]; refine (HP.out _ y (HR.out.2.2.alloc _)).mono ?_; rintro e W' ⟨rfl, f⟩; rw [hpy]; have F := hid (((Fr.refl No wr).alloc _).thenNo f); clear f)
     go_roundw
     case rel => exact ⟨j + 1, q, by have := HJ.out; omega, by omega, by have := HJ.out; omega, rfl, by go_num, by rw [filt_step HY.out, hpy]; simpa using HR.out.1, by rw [midL_keep HY.out hpy]; exact fd_owns HR.out.2.1 F.out, HR.out.2.2.thenNo F.out⟩
     case measure => simp [intOf]; omega
    | false =>
     have hqn : Hid (q < n) := hid (by have := HJ.out; omega)
     go_wp2_with (first | (rw [HCF.out, Oper.upon_enter]; refine (HP.out _ y (HR.out.2.2.alloc _)).mono ?_; rintro e W' ⟨rfl, f⟩; rw [hpy]; obtain ⟨b0, b1, b2, b3⟩ := cells4 (f.keep (heap1 wr _) id); have F := hid (((Fr.refl No wr).alloc _).thenNo f); have o2 := fd_owns HR.out.2.1 F.out; obtain ⟨g', cur, e', -, hg, hnc, hcs, ht⟩ := owns_at o2 (by have := hqn.out; omega); obtain rfl : g = g' := (by simpa using e'); have G := hid (⟨o2, hg, hnc, hcs⟩ : _ ∧ _ ∧ _ ∧ _); clear f o2 hg hnc hcs ht e') | (refine wpList_storeO rfl 160 (.tmp 33) (.tmp 32) rfl g (q * 4) rfl cur.toList 160 (ncell y) rfl (by kernel_rfl) (by rw [Array.toArray_toList]; exact G.out.2.1) (by have := G.out.2.2; have := hqn.out; simp [ncell]; omega) (by simp [ncell, Value.oneCell']) ?_; intro W2 p2; have P2 := hid p2; clear p2))
     go_roundw
     case rel =>
      have hq := HR.out.1
      have o3 := owns_putSeg G.out.1 G.out.2.1 (cs := ncell y) (o := q * 4) (by have := hqn.out; simp [ncell]; omega) (by simp [ncell, Value.oneCell']) P2.out
      rw [mid_seg _ q (by rw [midL_len p L j (by have := HLn.out; omega), HLn.out]; exact hqn.out) y, hq, midL_put HY.out hpy] at o3
      exact ⟨j + 1, q + 1, by have := HJ.out; omega, by omega, by have := HJ.out; omega, by go_num, by go_num, by rw [filt_step HY.out, hpy, List.length_append, ← hq]; rfl, o3, (HR.out.2.2.thenNo F.out).thenS (P2.out.fr)⟩
     case measure => simp [intOf]; omega
   ·obtain rfl : j = n := by omega
    obtain ⟨g', cur, e', -, hg, hnc, hcs, ht⟩ := owns_at HR.out.2.1 (by have := HJ.out; omega)
    obtain rfl : g = g' := by simpa using e'
    obtain ⟨iv, hiv, hz, hsz, hby⟩ := info_parts infoV
    have hG := hid (⟨hg, hnc, hcs, hiv, hz, hsz, e'⟩ : _ ∧ _ ∧ _ ∧ _ ∧ _ ∧ _ ∧ _)
    have hqn : Hid (q < j) := hid hqj
    clear hij hjn hqj hil hg hnc hcs ht hiv hz hsz hby e' hlt
    go_wp2_with (first | (refine wpList_slice rfl 157 160 Tryz.underlying157 (.tmp 36) (some (.tmp 37)) none rfl (.slice (some ⟨g, 0, none⟩) j cap) rfl (some (.int .i64 (q : Int))) none rfl rfl (.slice (some ⟨g, q * 4, none⟩) (j - q) (cap - q)) (fun w' => by have := run_slice_from w' 157 160 iv Tryz.underlying157 hG.out.2.2.2.1 g j cap q hqn.out hG.out.2.1; rwa [hG.out.2.2.2.2.2.1] at this) ?_) | (refine wpList_slice rfl 157 160 Tryz.underlying157 (.tmp 39) none (some (.tmp 40)) rfl (.slice (some ⟨g, 0, none⟩) j cap) rfl none (some (.int .i64 (q : Int))) rfl rfl (.slice (some ⟨g, 0, none⟩) q cap) (fun w' => run_slice_to w' 157 160 iv Tryz.underlying157 hG.out.2.2.2.1 g j cap q (by have := hqn.out; have := hG.out.2.1; omega)) ?_) | (refine wpList_clearRows rfl (.tmp 38) 157 160 rfl _ 4 64 Tryz.underlying157 infoV rfl (by decide) (by simp [Value.cells, Value.oneCell']) g (q * 4) (j - q) (cap - q) rfl (by have := hqn.out; omega) cur hG.out.1 (by have := hqn.out; have := hG.out.2; omega) ?_; intro W2 zs hzl p2; have P2 := hid (⟨hzl, p2⟩ : _ ∧ _); clear hzl p2))
    go_ret
    have o3 := owns_cut HR.out.2.1 hG.out.1 (Nat.le_of_lt hqn.out) P2.out.1 P2.out.2
    have hfl : (L.take j).filter (fun z => !p z) = L.filter (fun z => !p z) := by rw [List.take_of_length_le (by have := HLn.out; omega)]
    have hq := HR.out.1
    rw [hfl] at hq
    have hx : ((midL p L j).flatMap ncell).take (q * 4) = (L.filter (fun z => !p z)).flatMap ncell := by
     unfold midL
     rw [hfl, List.flatMap_append, List.take_append_of_le_length (by rw [flat_len (f := ncell) (m := 4) (fun _ => rfl), hq]; exact Nat.le_refl _), List.take_of_length_le (by rw [flat_len (f := ncell) (m := 4) (fun _ => rfl), hq]; exact Nat.le_refl _)]
    rw [hx] at o3
    rw [← hq]
    exact ⟨rfl, o3, HR.out.2.2.thenS P2.out.2.fr⟩
end Go.Proofs.YthadcdoepoglkaaGreatDoor
namespace Go.Proofs.YthadcdoepoglkaaGreatDoor
open Go.RowKit Go.Lig
set_option maxHeartbeats 1000000 in
theorem delv_nil (w : World) (cf : Nat) (clb : Array Value) :
  Calls Tryz.prog 124 #[.slice none 0 0, .func (.func cf) #[] clb] w fun e w' => e = .returned (.slice none 0 0) ∧ Fr No w w' := by
 have HI : Hid (Calls Tryz.prog 165 #[.slice none 0 0, .func (.func cf) #[] clb] w fun e w' => e = .returned (.int .i64 (-1)) ∧ w = w') := by
  refine hid ?_
  go_enter Tryz.func165, Tryz.ntmps165
  go_wp2_with fail
  go_loopw [8] (fun vi wr => vi = .int .i64 0 ∧ wr = w) (fun _ _ => 0)
  case atStart => exact ⟨rfl, rfl⟩
  case round =>
   obtain ⟨rfl, rfl⟩ := hrel
   go_wp2
   go_ret
   exact ⟨rfl, rfl⟩
 go_enter Tryz.func124, Tryz.ntmps124
 go_wp2_with (go_at_call 165; refine HI.out.mono ?_; rintro e w1 ⟨rfl, rfl⟩)
 go_ret
 exact ⟨rfl, Fr.refl _ _⟩
theorem enter_undo1 : ∀ args w, (callFunc 125 args).run Tryz.prog w = .ok (.enter 125 args) w := enters_of Tryz.func125 (by kernel_rfl) rfl
def undoL (t : Int) (L : List (Ver NodeV)) : List (Ver NodeV) := L.filter (fun z => !(z.by_ == t))
set_option maxHeartbeats 1000000 in
theorem undo_any (w : World) (T : Nat → Prop) (x : Nat) (L : List (Ver NodeV)) (h : CellAt w T x L) (t : Int) :
  Calls Tryz.prog 61 #[.pointer (some ⟨x, 0, none⟩), .int .i64 t] w fun e w' => e = .returned (.tuple #[]) ∧ CellAt w' T x (undoL t L) ∧ Fr T w w' := by
 obtain ⟨v, g1, g2, g3⟩ := h.ex
 obtain ⟨a, cap, rfl⟩ := ownsRow_slice g2
 have hf : Fr No w (w.alloc (.cells #[.int .i64 t] 3)) := (Fr.refl No w).alloc _
 have hb := heap1 w (.cells #[.int .i64 t] 3)
 have x1 := cells1 (hf.keep g1 id)
 have hxl := lt_of_block g1
 have HH := hid (⟨h, g1, g2, g3, hf, hb⟩ : _ ∧ _ ∧ _ ∧ _ ∧ _ ∧ _)
 cases a with
 | none =>
  have hL : L = [] := by
   rcases g2.2 with ⟨-, e⟩ | ⟨g, c, cur, e, _⟩
   ·exact List.length_eq_zero_iff.1 e
   ·simp at e
  subst hL
  obtain rfl : cap = 0 := by
   rcases g2.2 with ⟨e, -⟩ | ⟨g, c, cur, e, _⟩
   ·simpa using e
   ·simp at e
  clear h g1 g2 g3 hf hb
  go_enter Tryz.func61, Tryz.ntmps61
  go_wp2_with (first | (go_at_call 124; refine (delv_nil _ _ _).mono ?_; rintro e w2 ⟨rfl, f2⟩; have H2 := hid (HH.out.2.2.2.2.1.thenNo f2); clear f2) | (refine wpList_store1 rfl 157 (.tmp 14) (.tmp 12) rfl x 0 rfl _ _ (.slice none 0 0) rfl (by kernel_rfl) (H2.out.keep HH.out.2.1 id) (by simp) rfl ?_; intro w3 p3; have P3 := hid p3; clear p3))
  go_end0
  obtain ⟨h, g1, g2, g3, hf, hb⟩ := HH.out
  have hF : Fr T w w3 := (H2.out.mono (fun _ _ e => e.elim)).thenS (P3.out.fr.mono (fun k _ e => by subst e; exact h.root))
  exact ⟨rfl, ⟨⟨_, P3.out.at_, World.ownsRow_nil _ _ _ _, fun k hk => by cases hk⟩, h.root, fun k hk => Nat.lt_of_lt_of_le (h.bound k hk) hF.size, by simp [undoL]⟩, hF⟩
 | some ad =>
  obtain ⟨g, hg0⟩ : ∃ g, ad = ⟨g, 0, none⟩ := by
   rcases g2.2 with ⟨e, -⟩ | ⟨g, c, cur, e, _⟩
   ·simp at e
   ·exact ⟨g, by simpa using (Value.slice.inj e).1⟩
  subst hg0
  have hgx := g3 g rfl
  have hgl := (g2.lt g rfl).2
  have HD := hid (delv_some _ g cap L h.small (fd_owns g2 hf) 125 #[.pointer (some ⟨w.heap.size, 0, none⟩)] (fun y => y.by_ == t) enter_undo1 (fun W y hW => undo1_any W y t _ (cells1 (hW.keep hb (by omega)))))
  have HG := hid hgx
  clear h g1 g2 g3 hf hb hgx hgl
  go_enter Tryz.func61, Tryz.ntmps61
  go_wp2_with (first | (go_at_call 124; refine HD.out.mono ?_; rintro e w2 ⟨rfl, o2, f2⟩; have hx2 := f2.keep (HH.out.2.2.2.2.1.keep HH.out.2.1 id) (fun e => HG.out.2 e.symm); have H2 := hid (⟨o2, f2, hx2⟩ : _ ∧ _ ∧ _); clear f2 o2 hx2) | (refine wpList_store1 rfl 157 (.tmp 14) (.tmp 12) rfl x 0 rfl _ _ _ rfl (by kernel_rfl) H2.out.2.2 (by simp) rfl ?_; intro w3 p3; have P3 := hid p3; clear p3))
  go_end0
  obtain ⟨h, g1, g2, g3, hf, hb⟩ := HH.out
  have hF : Fr T w w3 := ((hf.mono (fun _ _ e => e.elim)).thenS (H2.out.2.1.mono (fun k _ e => by subst e; exact HG.out.1))).thenS (P3.out.fr.mono (fun k _ e => by subst e; exact h.root))
  exact ⟨rfl, ⟨⟨_, P3.out.at_, P3.out.fr.owns H2.out.1 (fun k hk e => by obtain rfl : g = k := Option.some.inj hk; exact HG.out.2 e), fun k hk => by obtain rfl : g = k := Option.some.inj hk; exact HG.out⟩, h.root, fun k hk => Nat.lt_of_lt_of_le (h.bound k hk) hF.size, Nat.le_trans (List.length_filter_le _ _) h.small⟩, hF⟩
set_option maxRecDepth 100000 in
set_option maxHeartbeats 1000000 in
theorem each_any (w : World) (x g : Nat) (L : List (Ver NodeV)) (hs : L.length ≤ 1000000) (cf : Nat) (clb : Array Value) (hcf : ∀ args w, (callFunc cf args).run Tryz.prog w = .ok (.enter cf args) w) (I : Nat → World → Prop) (h0 : I 0 w)
  (hst : ∀ i W W', I i W → Fr No W W' → I i W') (hrow : ∀ i W, I i W → CelRow W x g L) (hskip : ∀ i y W, L[i]? = some y → y.gone = true → I i W → I (i + 1) W)
  (hstep : ∀ i y W, L[i]? = some y → y.gone = false → I i W → Calls Tryz.prog cf (#[.agg #[.slice y.v.l.a y.v.l.n y.v.l.c, .slice y.v.p.a y.v.p.n y.v.p.c]] ++ clb) W fun e W' => e = .returned (.tuple #[]) ∧ I (i + 1) W') :
  Calls Tryz.prog 101 #[.pointer (some ⟨x, 0, none⟩), .func (.func cf) #[] clb] w fun e w' => e = .returned (.tuple #[]) ∧ I L.length w' := by
 obtain ⟨a, cap, g1, -, g3, -⟩ := (hrow 0 w h0).ex
 have x0 := cells1 g1
 have HS := hid (⟨h0, hst, hrow, hskip, hstep, g3⟩ : _ ∧ _ ∧ _ ∧ _ ∧ _ ∧ _)
 have HCF := hid hcf
 clear h0 hst hrow hskip hstep hcf g1 g3
 go_enter Tryz.func101, Tryz.ntmps101
 go_wp2_with fail
 generalize hLn : L.length = n at *
 have HLn := hid hLn
 clear hLn
 go_loopw [13] (fun vi wr => ∃ i : Nat, i ≤ n ∧ vi = .int .i64 (i : Int) ∧ Hid (I i wr)) (fun vi _ => n - (intOf vi).toNat)
 case atStart => exact ⟨0, Nat.zero_le _, rfl, HS.out.1⟩
 case round =>
  obtain ⟨h0, hst, hrow, hskip, hstep, g3⟩ := HS.out
  obtain ⟨i, hi, rfl, HI⟩ := hrel
  by_cases hlt : i < n
  ·obtain ⟨y, hy⟩ : ∃ y, L[i]? = some y := ⟨_, List.getElem?_eq_getElem (by have := HLn.out; omega)⟩
   obtain rfl := g3 (by omega)
   obtain ⟨y0, y1, y2, y3⟩ := (hrow i wr HI.out).cell hy
   obtain ⟨yb, ⟨⟨yla, yln, ylc⟩, ⟨ypa, ypn, ypc⟩⟩, yg⟩ := y
   dsimp only at y0 y1 y2 y3
   have HY := hid hy
   clear hy
   cases yg with
   | true =>
    have HI2 := hid (hskip i _ _ HY.out rfl (hst i _ _ HI.out ((Fr.refl No wr).alloc (.cells #[.int .i64 yb, .slice yla yln ylc, .slice ypa ypn ypc, .bool true] 160))))
    clear h0 hst hrow hskip hstep g3
    go_wp2_with fail
    go_roundw
    case rel => exact ⟨i + 1, by omega, by go_num, HI2.out⟩
    case measure => simp [intOf]; omega
   | false =>
    have HI2 := hid (hstep i _ _ HY.out rfl (hst i _ _ HI.out ((Fr.refl No wr).alloc (.cells #[.int .i64 yb, .slice yla yln ylc, .slice ypa ypn ypc, .bool false] 160))))
    clear h0 hst hrow hskip hstep g3
    go_wp2_with (rw [HCF.out, Oper.upon_enter]; refine HI2.out.mono ?_; rintro e W' ⟨rfl, f⟩; have F := hid f; clear f)
    go_roundw
    case rel => exact ⟨i + 1, by omega, by go_num, F.out⟩
    case measure => simp [intOf]; omega
  ·obtain rfl : i = n := by omega
   clear h0 hst hrow hskip hstep g3
   go_wp2_with fail
   go_end0
   exact ⟨rfl, by rw [HLn.out]; exact HI.out⟩
end Go.Proofs.YthadcdoepoglkaaGreatDoor
namespace Go.Lig
open Go.RowKit
structure EdgeV where
 from_ : Int
 to_ : Int
 type : ByteArray
 w : Nat
instance : Inhabited EdgeV := ⟨⟨0, 0, ⟨#[]⟩, 0⟩⟩
def EdgeV.none : EdgeV := ⟨0, 0, ⟨#[]⟩, 0⟩
def ecell (y : Ver EdgeV) : List Value := [.int .i64 y.by_, .int .i64 y.v.from_, .int .i64 y.v.to_, .string y.v.type, .float .f64 y.v.w, .bool y.gone]
theorem cells6 {w : World} {b : Nat} {t : TypeId} {fr : Nat × Nat} {v0 v1 v2 v3 v4 v5 : Value} (h : w.heap[b]? = some (.cells #[v0, v1, v2, v3, v4, v5] t fr)) :
  w.cell? ⟨b, 0, none⟩ = some v0 ∧ w.cell? ⟨b, 1, none⟩ = some v1 ∧ w.cell? ⟨b, 2, none⟩ = some v2 ∧ w.cell? ⟨b, 3, none⟩ = some v3 ∧ w.cell? ⟨b, 4, none⟩ = some v4 ∧ w.cell? ⟨b, 5, none⟩ = some v5 := by
 have := cellOf h
 exact ⟨this 0, this 1, this 2, this 3, this 4, this 5⟩
end Go.Lig
namespace Go
@[go_sem] theorem run_store_float {P : Program} {w : World} {a : Addr} {m : Mode} (k : FloatKind) (b : Nat) : (store a (.float k b) m).run P w = stored P w a (.float k b) m := run_store P w a _ m rfl
end Go
namespace Go.Proofs.YthadcdoepoglkaaGreatDoor.Ec
open Go.RowKit Go.Lig
structure CellAt (w : World) (T : Nat → Prop) (x : Nat) (L : List (Ver EdgeV)) : Prop where
 ex : ∃ v, w.heap[x]? = some (.cells #[v] 180 (0, 0)) ∧ w.ownsRow 0 178 6 v L.length (L.flatMap ecell) ∧ ∀ k, v.ownBlock = some k → T k ∧ k ≠ x
 root : T x
 bound : ∀ k, T k → k < w.heap.size
 small : L.length ≤ 1000000
theorem CellAt.frame {w w' : World} {T U : Nat → Prop} {x : Nat} {L : List (Ver EdgeV)} (h : CellAt w T x L) (hf : Fr U w w') (hd : ∀ k, T k → ¬ U k) : CellAt w' T x L := by
 obtain ⟨v, h1, h2, h3⟩ := h.ex
 exact ⟨⟨v, hf.keep h1 (hd x h.root), hf.owns h2 (fun k hk => hd k (h3 k hk).1), h3⟩, h.root, fun k hk => Nat.lt_of_lt_of_le (h.bound k hk) hf.size, h.small⟩
structure CelRow (w : World) (x g : Nat) (L : List (Ver EdgeV)) : Prop where
 ex : ∃ a n, w.heap[x]? = some (.cells #[.slice a L.length n] 180 (0, 0)) ∧ w.ownsRow 0 178 6 (.slice a L.length n) L.length (L.flatMap ecell) ∧ (0 < L.length → a = some ⟨g, 0, none⟩) ∧ g ≠ x
theorem CellAt.row {w : World} {T : Nat → Prop} {x : Nat} {L : List (Ver EdgeV)} (h : CellAt w T x L) : ∃ g, CelRow w x g L ∧ (0 < L.length → T g) := by
 obtain ⟨v, h1, h2, h3⟩ := h.ex
 obtain ⟨a, n, rfl⟩ := ownsRow_slice h2
 by_cases hl : 0 < L.length
 ·obtain ⟨g, cur, rfl, -, -⟩ := owns_at h2 hl
  exact ⟨g, ⟨_, n, h1, h2, fun _ => rfl, (h3 g rfl).2⟩, fun _ => (h3 g rfl).1⟩
 ·exact ⟨x + 1, ⟨a, n, h1, h2, fun e => absurd e hl, by omega⟩, fun e => absurd e hl⟩
theorem CelRow.frame {w w' : World} {x g : Nat} {L : List (Ver EdgeV)} (h : CelRow w x g L) (hf : Fr No w w') : CelRow w' x g L := by
 obtain ⟨a, n, h1, h2, h3, h4⟩ := h.ex
 exact ⟨a, n, hf.keep h1 (fun e => e), fd_owns h2 hf, h3, h4⟩
def NcAt (w : World) (g j : Nat) (y : Ver EdgeV) : Prop := w.cell? ⟨g, j * 6, none⟩ = some (.int .i64 y.by_) ∧ w.cell? ⟨g, j * 6 + 1, none⟩ = some (.int .i64 y.v.from_) ∧ w.cell? ⟨g, j * 6 + 2, none⟩ = some (.int .i64 y.v.to_) ∧ w.cell? ⟨g, j * 6 + 3, none⟩ = some (.string y.v.type) ∧ w.cell? ⟨g, j * 6 + 4, none⟩ = some (.float .f64 y.v.w) ∧ w.cell? ⟨g, j * 6 + 5, none⟩ = some (.bool y.gone)
theorem CelRow.cell {w : World} {x g : Nat} {L : List (Ver EdgeV)} (h : CelRow w x g L) {j : Nat} {y : Ver EdgeV} (hy : L[j]? = some y) : NcAt w g j y := by
 obtain ⟨a, n, h1, h2, h3, _⟩ := h.ex
 have hl := (List.getElem?_eq_some_iff.1 hy).1
 obtain rfl := h3 (by omega)
 have g0 : ∀ t, t < 6 → (L.flatMap ecell)[j * 6 + t]? = (ecell y)[t]? := fun t ht => flat_get (f := ecell) (m := 6) (fun _ => rfl) _ _ _ hy t ht
 exact ⟨owns_cell h2 rfl (by rw [← Nat.add_zero (j * 6), g0 0 (by decide)]; rfl), owns_cell h2 rfl (by rw [g0 1 (by decide)]; rfl), owns_cell h2 rfl (by rw [g0 2 (by decide)]; rfl), owns_cell h2 rfl (by rw [g0 3 (by decide)]; rfl), owns_cell h2 rfl (by rw [g0 4 (by decide)]; rfl), owns_cell h2 rfl (by rw [g0 5 (by decide)]; rfl)⟩
end Go.Proofs.YthadcdoepoglkaaGreatDoor.Ec
namespace Go.Lig
open Go.RowKit
structure ValR where
 kind : Int
 b : Bool
 n : Int
 f : Nat
 t : ByteArray
 deriving DecidableEq
instance : Inhabited ValR := ⟨⟨0, false, 0, 0, ⟨#[]⟩⟩⟩
structure PropV where
 key : ByteArray
 v : ValR
 deriving DecidableEq
instance : Inhabited PropV := ⟨⟨⟨#[]⟩, default⟩⟩
structure NodeD where
 L : List ByteArray
 Q : List PropV
 deriving DecidableEq
instance : Inhabited NodeD := ⟨⟨[], []⟩⟩
def NodeD.none : NodeD := ⟨[], []⟩
structure EntR where
 v : ValR
 id : Int
 deriving DecidableEq
structure IxR where
 key : ByteArray
 x : EntR
 deriving DecidableEq
def pcell (q : PropV) : List Value := [.string q.key, .int .i64 q.v.kind, .bool q.v.b, .int .i64 q.v.n, .float .f64 q.v.f, .string q.v.t]
def ncellE (x : EntR) : List Value := [.int .i64 x.v.kind, .bool x.v.b, .int .i64 x.v.n, .float .f64 x.v.f, .string x.v.t, .int .i64 x.id]
def ixcell (x : IxR) : List Value := [.string x.key, .int .i64 x.x.v.kind, .bool x.x.v.b, .int .i64 x.x.v.n, .float .f64 x.x.v.f, .string x.x.v.t, .int .i64 x.x.id]
structure ValOk (v : ValR) : Prop where
 kind : (Lit.int .i64 v.kind).wf = true
 n : (Lit.int .i64 v.n).wf = true
 f : (Lit.float .f64 v.f).wf = true
 t : v.t.size ≤ maxLen
structure PropOk (q : PropV) : Prop where
 key : q.key.size ≤ maxLen
 v : ValOk q.v
structure NodeOf (w : World) (sl sp : Value) (d : NodeD) : Prop where
 l : Rd w sl d.L.length 1 (d.L.map Value.string)
 p : Rd w sp d.Q.length 6 (d.Q.flatMap pcell)
 ok : ∀ q ∈ d.Q, PropOk q
 ls : ∀ s ∈ d.L, s.size ≤ maxLen
theorem NodeOf.frame {w w' : World} {sl sp : Value} {d : NodeD} (h : NodeOf w sl sp d) (hf : Fr No w w') : NodeOf w' sl sp d :=
 ⟨h.l.frame hf (fun _ _ e => e), h.p.frame hf (fun _ _ e => e), h.ok, h.ls⟩
structure RdI (w : World) (I : Nat → Prop) (v : Value) (n size : Nat) (xs : List Value) : Prop where
 rd : Rd w v n size xs
 blk : xs ≠ [] → ∀ k, slBlock v = some k → I k
theorem RdI.frame {w w' : World} {I S : Nat → Prop} {v : Value} {n size : Nat} {xs : List Value} (h : RdI w I v n size xs) (hf : Fr S w w') (hd : ∀ k, I k → ¬ S k) : RdI w' I v n size xs :=
 ⟨h.rd.frameE hf (fun k hk hx => hd k (h.blk hx k hk)), h.blk⟩
theorem RdI.mono {w : World} {I J : Nat → Prop} {v : Value} {n size : Nat} {xs : List Value} (h : RdI w I v n size xs) (hj : ∀ k, I k → J k) : RdI w J v n size xs := ⟨h.rd, fun hx k hk => hj k (h.blk hx k hk)⟩
theorem RdI.nil (w : World) (I : Nat → Prop) (size : Nat) : RdI w I (.slice none 0 0) 0 size [] := ⟨Rd.nil _ _, fun h => absurd rfl h⟩
structure NodeIn (w : World) (I : Nat → Prop) (sl sp : Value) (d : NodeD) : Prop where
 l : RdI w I sl d.L.length 1 (d.L.map Value.string)
 p : RdI w I sp d.Q.length 6 (d.Q.flatMap pcell)
 ok : ∀ q ∈ d.Q, PropOk q
 ls : ∀ s ∈ d.L, s.size ≤ maxLen
 few : d.L.length ≤ 1000000 ∧ d.Q.length ≤ 1000000
theorem NodeIn.of {w : World} {I : Nat → Prop} {sl sp : Value} {d : NodeD} (h : NodeIn w I sl sp d) : NodeOf w sl sp d := ⟨h.l.rd, h.p.rd, h.ok, h.ls⟩
theorem NodeIn.frame {w w' : World} {I S : Nat → Prop} {sl sp : Value} {d : NodeD} (h : NodeIn w I sl sp d) (hf : Fr S w w') (hd : ∀ k, I k → ¬ S k) : NodeIn w' I sl sp d := ⟨h.l.frame hf hd, h.p.frame hf hd, h.ok, h.ls, h.few⟩
theorem NodeIn.mono {w : World} {I J : Nat → Prop} {sl sp : Value} {d : NodeD} (h : NodeIn w I sl sp d) (hj : ∀ k, I k → J k) : NodeIn w J sl sp d := ⟨h.l.mono hj, h.p.mono hj, h.ok, h.ls, h.few⟩
theorem NodeIn.none (w : World) (I : Nat → Prop) : NodeIn w I (.slice none 0 0) (.slice none 0 0) NodeD.none := ⟨RdI.nil _ _ _, RdI.nil _ _ _, fun _ h => (by cases h), fun _ h => (by cases h), Nat.zero_le _, Nat.zero_le _⟩
end Go.Lig
namespace Go.Lig
open Go.RowKit
structure ActV where
 kind : Int
 t : Int
 id : Int
 n : NodeV
 e : EdgeV
instance : Inhabited ActV := ⟨⟨0, 0, 0, default, default⟩⟩
structure ActD where
 kind : Int
 t : Int
 id : Int
 n : NodeD
 e : EdgeV
instance : Inhabited ActD := ⟨⟨0, 0, 0, default, default⟩⟩
def actcell (a : ActV) : List Value := [.int .i64 a.kind, .int .i64 a.t, .int .i64 a.id, .slice a.n.l.a a.n.l.n a.n.l.c, .slice a.n.p.a a.n.p.n a.n.p.c, .int .i64 a.e.from_, .int .i64 a.e.to_, .string a.e.type, .float .f64 a.e.w]
theorem actcell_one (a : ActV) : ∀ u ∈ actcell a, u.oneCell' = true := fun u hu => by
 simp only [actcell, List.mem_cons, List.not_mem_nil, or_false] at hu
 rcases hu with rfl | rfl | rfl | rfl | rfl | rfl | rfl | rfl | rfl <;> rfl
structure NodeLow (d : NodeD) : Prop where
 l : d.L.length ≤ Go.reachBytes
 p : d.Q.length ≤ Go.reachBytes
 ls : ∀ s ∈ d.L, s.size ≤ Go.reachBytes
 ps : ∀ q ∈ d.Q, q.key.size ≤ Go.reachBytes ∧ q.v.t.size ≤ Go.reachBytes
structure EdgeLow (v : EdgeV) : Prop where
 from_ : (Lit.int .i64 v.from_).wf = true
 to_ : (Lit.int .i64 v.to_).wf = true
 type : v.type.size ≤ Go.reachBytes
 w : (Lit.float .f64 v.w).wf = true
end Go.Lig
namespace Go.Proofs.YthadcdoepoglkaaGreatDoor
open Go.RowKit Go.Lig Go.ChangeShapes Go.WideShapes Go.ChangeAt Go.Deep
section
variable {H : Type} {enc : TypeId × Value → H} {W : World}
theorem u_strings {n : Nat} {v : Value} {y : DataW H × List MemPlace} (h : DataW.trod enc Tryz.prog W 0 (fun _ => true) true n 31 [v] = some y) (hr : RchD Tryz.prog 31 y.1) :
  ∃ l : List ByteArray, Rd W v l.length 1 (l.map Value.string) ∧ (∀ s ∈ l, s.size ≤ Go.reachBytes) ∧ l.length ≤ Go.reachBytes := by
 obtain ⟨l, h1, h2, h3⟩ := rd_rowU (α := ByteArray) (fun s => [Value.string s]) (m := 1) (by decide) (fun _ => rfl) (fun x u hu => by
  obtain rfl : u = .string x := by simpa using hu
  rfl) (fun s => s.size ≤ Go.reachBytes) Tryz.underlying31 (by kernel_rfl) (by decide +kernel) (fun n cs y h hl hr => by
  obtain ⟨s, rfl, e, -⟩ := DataW.trod_string Tryz.underlying9 h
  subst e
  exact ⟨s, rfl, hr.string⟩) h hr
 have e : ∀ l : List ByteArray, l.flatMap (fun s => [Value.string s]) = l.map Value.string := fun l => by
  induction l with
  | nil => rfl
  | cons s l ih => rw [List.flatMap_cons, List.map_cons, ih]; rfl
 exact ⟨l, by rw [← e]; exact h1, h2, h3⟩
set_option maxRecDepth 100000 in
theorem u_props {n : Nat} {v : Value} {y : DataW H × List MemPlace} (h : DataW.trod enc Tryz.prog W 0 (fun _ => true) true n 32 [v] = some y) (hr : RchD Tryz.prog 32 y.1) :
  ∃ l : List PropV, Rd W v l.length 6 (l.flatMap pcell) ∧ (∀ q ∈ l, PropOk q ∧ (q.key.size ≤ Go.reachBytes ∧ q.v.t.size ≤ Go.reachBytes)) ∧ l.length ≤ Go.reachBytes := by
 have cv : Tryz.prog.cellsOf 56 = 5 := by kernel_rfl
 have c1 : Tryz.prog.cellsOf 3 = 1 := by kernel_rfl
 have c2 : Tryz.prog.cellsOf 4 = 1 := by kernel_rfl
 have c3 : Tryz.prog.cellsOf 46 = 1 := by kernel_rfl
 have c4 : Tryz.prog.cellsOf 9 = 1 := by kernel_rfl
 refine rd_rowU (α := PropV) pcell (m := 6) (by decide) (fun _ => rfl) (fun x u hu => ?_) (fun q => PropOk q ∧ (q.key.size ≤ Go.reachBytes ∧ q.v.t.size ≤ Go.reachBytes)) Tryz.underlying32 (by kernel_rfl) (by decide +kernel) (fun n cs y h hlen hr => ?_) h hr
 ·simp only [pcell, List.mem_cons, List.not_mem_nil, or_false] at hu
  rcases hu with rfl | rfl | rfl | rfl | rfl | rfl <;> rfl
 ·obtain ⟨xs, k, hk, hxy, _, hxl, hf⟩ := DataW.trod_struct Tryz.underlying98 h
  match xs, hxl, cs, hlen with
  | [y0, y1], _, [v0, v1, v2, v3, v4, v5], _ =>
   subst hxy
   have g0 := hf 0 _ rfl
   have g1 := hf 1 _ rfl
   simp [c4, cv] at g0 g1
   have r0 := hr.part Tryz.underlying98 (i := 0) (d := y0.1) rfl rfl
   have r1 := hr.part Tryz.underlying98 (i := 1) (d := y1.1) rfl rfl
   obtain ⟨s0, e0, x0, z0⟩ := DataW.trod_string Tryz.underlying9 g0
   subst x0
   obtain ⟨xs', k', hk', hxy', _, hxl', hf'⟩ := DataW.trod_struct Tryz.underlying56 g1
   subst hxy'
   match xs', hxl' with
   | [x0, x1, x2, x3, x4], _ =>
    have f0 := hf' 0 _ rfl
    have f1 := hf' 1 _ rfl
    have f2 := hf' 2 _ rfl
    have f3 := hf' 3 _ rfl
    have f4 := hf' 4 _ rfl
    simp [c1, c2, c3, c4] at f0 f1 f2 f3 f4
    have r4 := r1.part Tryz.underlying56 (i := 4) (d := x4.1) rfl rfl
    obtain ⟨m0, e1, -, w1⟩ := DataW.trod_int Tryz.underlying3 f0
    obtain ⟨b1, e2, -⟩ := DataW.trod_bool Tryz.underlying4 f1
    obtain ⟨m2, e3, -, w3⟩ := DataW.trod_int Tryz.underlying3 f2
    obtain ⟨m3, e4, w4⟩ := trodf Tryz.underlying46 f3
    obtain ⟨s4, e5, x4', z4⟩ := DataW.trod_string Tryz.underlying9 f4
    subst x4'
    obtain rfl : v0 = .string s0 := by simpa using e0
    obtain rfl : v1 = .int .i64 m0 := by simpa using e1
    obtain rfl : v2 = .bool b1 := by simpa using e2
    obtain rfl : v3 = .int .i64 m2 := by simpa using e3
    obtain rfl : v4 = .float .f64 m3 := by simpa using e4
    obtain rfl : v5 = .string s4 := by simpa using e5
    exact ⟨⟨s0, ⟨m0, b1, m2, m3, s4⟩⟩, rfl, ⟨z0, ⟨w1, w3, w4, z4⟩⟩, r0.string, r4.string⟩
end
end Go.Proofs.YthadcdoepoglkaaGreatDoor
