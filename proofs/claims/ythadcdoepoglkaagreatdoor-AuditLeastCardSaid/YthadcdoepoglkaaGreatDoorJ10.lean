/- A part of the proof: contracts of functions of the program, for the row's text. -/
import Derived.Test.YthadcdoepoglkaaGreatDoorJ09
import Derived.Maps.OwnSet
import Derived.Maps.Views
import Derived.WideKeyEntry
import Derived.Carry
import Derived.Test.YthadcdoepoglkaaGreatDoorJ00
namespace Go.Proofs.YthadcdoepoglkaaGreatDoor.Ec
open Go.RowKit Go.Lig
theorem filt_step {p : Ver EdgeV → Bool} {L : List (Ver EdgeV)} {j : Nat} {y : Ver EdgeV} (h : L[j]? = some y) : (L.take (j + 1)).filter (fun z => !p z) = (L.take j).filter (fun z => !p z) ++ if p y then [] else [y] := by
 rw [List.take_add_one, h, Option.toList_some, List.filter_append]
 cases hp : p y <;> simp [hp]
def midL (p : Ver EdgeV → Bool) (L : List (Ver EdgeV)) (j : Nat) : List (Ver EdgeV) := (L.take j).filter (fun z => !p z) ++ L.drop ((L.take j).filter (fun z => !p z)).length
theorem filt_le (p : Ver EdgeV → Bool) (L : List (Ver EdgeV)) (j : Nat) : ((L.take j).filter (fun z => !p z)).length ≤ j := by
 have h1 := List.length_filter_le (fun z => !p z) (L.take j)
 have h2 := List.length_take_le j L
 omega
theorem midL_len (p : Ver EdgeV → Bool) (L : List (Ver EdgeV)) (j : Nat) (hj : j ≤ L.length) : (midL p L j).length = L.length := by
 have := filt_le p L j
 simp [midL]
 omega
theorem midL_get {p : Ver EdgeV → Bool} {L : List (Ver EdgeV)} {j k : Nat} (hk : j ≤ k) : (midL p L j)[k]? = L[k]? := by
 have := filt_le p L j
 unfold midL
 rw [List.getElem?_append_right (by omega), List.getElem?_drop]
 congr 1
 omega
theorem midL_keep {p : Ver EdgeV → Bool} {L : List (Ver EdgeV)} {j : Nat} {y : Ver EdgeV} (h : L[j]? = some y) (hp : p y = true) : midL p L (j + 1) = midL p L j := by
 unfold midL
 rw [filt_step h, hp]
 simp
theorem midL_put {p : Ver EdgeV → Bool} {L : List (Ver EdgeV)} {j : Nat} {y : Ver EdgeV} (h : L[j]? = some y) (hp : p y = false) : (midL p L j).set ((L.take j).filter (fun z => !p z)).length y = midL p L (j + 1) := by
 have hl := filt_le p L j
 have hj := (List.getElem?_eq_some_iff.1 h).1
 unfold midL
 rw [filt_step h, hp]
 generalize hF : (L.take j).filter (fun z => !p z) = F at *
 simp only [Bool.false_eq_true, if_false, List.length_append, List.length_cons, List.length_nil]
 rw [List.set_append_right _ _ (Nat.le_refl _), Nat.sub_self, List.drop_eq_getElem_cons (by omega), List.set_cons_zero, List.append_assoc]
 rfl
theorem mid_seg (R : List (Ver EdgeV)) (k : Nat) (hk : k < R.length) (y : Ver EdgeV) : (R.flatMap ecell).take (k * 6) ++ ecell y ++ (R.flatMap ecell).drop (k * 6 + (ecell y).length) = (R.set k y).flatMap ecell := by
 induction R generalizing k with
 | nil => simp at hk
 | cons z R ih =>
  cases k with
  | zero => simp [ecell]
  | succ k =>
   have hk' : k < R.length := by simpa using hk
   have e : (k + 1) * 6 = (ecell z).length + k * 6 := by simp [ecell]; omega
   rw [List.set_cons_succ, List.flatMap_cons, List.flatMap_cons, ← ih k hk', e, List.take_append, List.take_of_length_le (by omega), Nat.add_sub_cancel_left, show (ecell z).length + k * 6 + (ecell y).length = (ecell z).length + (k * 6 + (ecell y).length) by omega, List.drop_append, List.drop_eq_nil_of_le (show (ecell z).length ≤ _ by omega), List.nil_append, Nat.add_sub_cancel_left]
   simp only [List.append_assoc]
theorem filt_first {p : Ver EdgeV → Bool} {L : List (Ver EdgeV)} {i : Nat} {y : Ver EdgeV} (hy : L[i]? = some y) (hp : p y = true) (hk : ∀ k z, k < i → L[k]? = some z → p z = false) : (L.take (i + 1)).filter (fun z => !p z) = L.take i := by
 rw [filt_step hy, hp, if_pos rfl, List.append_nil]
 refine List.filter_eq_self.2 (fun z hz => ?_)
 obtain ⟨k, hk1⟩ := List.getElem?_of_mem hz
 rw [List.getElem?_take] at hk1
 split at hk1
 ·rename_i h; simp [hk k z h hk1]
 ·cases hk1
theorem ownsN {w : World} {g n cap : Nat} {R : List (Ver EdgeV)} (h : w.ownsRow 0 178 6 (.slice (some ⟨g, 0, none⟩) n cap) n (R.flatMap ecell)) {j : Nat} {y : Ver EdgeV} (hy : R[j]? = some y) : NcAt w g j y := by
 have g0 : ∀ t, t < 6 → (R.flatMap ecell)[j * 6 + t]? = (ecell y)[t]? := fun t ht => flat_get (f := ecell) (m := 6) (fun _ => rfl) _ _ _ hy t ht
 exact ⟨owns_cell h rfl (by rw [← Nat.add_zero (j * 6), g0 0 (by decide)]; rfl), owns_cell h rfl (by rw [g0 1 (by decide)]; rfl), owns_cell h rfl (by rw [g0 2 (by decide)]; rfl), owns_cell h rfl (by rw [g0 3 (by decide)]; rfl), owns_cell h rfl (by rw [g0 4 (by decide)]; rfl), owns_cell h rfl (by rw [g0 5 (by decide)]; rfl)⟩
set_option maxHeartbeats 4000000 in
set_option maxRecDepth 100000 in
theorem delv_some (w : World) (g cap : Nat) (L : List (Ver EdgeV)) (hs : L.length ≤ 1000000) (ho : w.ownsRow 0 178 6 (.slice (some ⟨g, 0, none⟩) L.length cap) L.length (L.flatMap ecell)) (cf : Nat) (clb : Array Value) (p : Ver EdgeV → Bool)
  (hcf : ∀ args w, (callFunc cf args).run Tryz.prog w = .ok (.enter cf args) w)
  (hp : ∀ W y, Fr (fun k => k = g) w W → Calls Tryz.prog cf (#[.agg #[.int .i64 y.by_, .int .i64 y.v.from_, .int .i64 y.v.to_, .string y.v.type, .float .f64 y.v.w, .bool y.gone]] ++ clb) W fun e W' => e = .returned (.bool (p y)) ∧ Fr No W W') :
  Calls Tryz.prog 126 #[.slice (some ⟨g, 0, none⟩) L.length cap, .func (.func cf) #[] clb] w fun e w' =>
   e = .returned (.slice (some ⟨g, 0, none⟩) (L.filter (fun z => !p z)).length cap) ∧ w'.ownsRow 0 178 6 (.slice (some ⟨g, 0, none⟩) (L.filter (fun z => !p z)).length cap) (L.filter (fun z => !p z)).length ((L.filter (fun z => !p z)).flatMap ecell) ∧ Fr (fun k => k = g) w w' := by
 have HI := hid (idxv_any w (some ⟨g, 0, none⟩) g cap L (fun _ => rfl) hs (fun W hf j y hy => ownsN (fd_owns ho hf) hy) cf clb p hcf (fun W y hf => hp W y (hf.mono (fun _ _ e => e.elim))))
 have HO := hid ho
 have HP := hid hp
 have HCF := hid hcf
 clear hp hcf ho
 go_enter Tryz.func126, Tryz.ntmps126
 go_wp2_with fail
 refine HI.out.mono ?_
 rintro e w1 ⟨i, rfl, f1, hi⟩
 rcases hi with ⟨rfl, hn⟩ | ⟨i, rfl, hil, ⟨y, hy, hpy⟩, hk⟩
 ·have H1 := hid (⟨f1, hn⟩ : _ ∧ _)
  clear f1 hn
  go_wp2_with fail
  go_ret
  rw [findIdx_none H1.out.2]
  exact ⟨rfl, fd_owns HO.out H1.out.1, H1.out.1.mono (fun _ _ e => e.elim)⟩
 ·have H1 := hid (⟨f1, hy, hpy, hk⟩ : _ ∧ _ ∧ _ ∧ _)
  have n9 : ((i : Int) == -1) = false := by rw [beq_eq_false_iff_ne]; omega
  clear f1 hy hpy hk
  go_wp2_with fail
  go_loopw [5, 6] (fun v5 v6 wr => ∃ j q : Nat, i + 1 ≤ j ∧ j ≤ L.length ∧ q < j ∧ v5 = .int .i64 (q : Int) ∧ v6 = .int .i64 (j : Int) ∧ Hid (q = ((L.take j).filter (fun z => !p z)).length ∧ wr.ownsRow 0 178 6 (.slice (some ⟨g, 0, none⟩) L.length cap) L.length ((midL p L j).flatMap ecell) ∧ Fr (fun k => k = g) w wr)) (fun _ v6 _ => L.length - (intOf v6).toNat)
  case atStart =>
   obtain ⟨f1, hy, hpy, hk⟩ := H1.out
   have hf := filt_first hy hpy hk
   have hm : midL p L (i + 1) = L := by unfold midL; rw [hf, List.length_take, Nat.min_eq_left (by omega), List.take_append_drop]
   refine ⟨i + 1, i, Nat.le_refl _, by omega, by omega, rfl, by go_num, by rw [hf, List.length_take]; omega, ?_, f1.mono (fun _ _ e => e.elim)⟩
   rw [hm]
   exact fd_owns HO.out f1
  case round =>
   obtain ⟨j, q, hij, hjn, hqj, rfl, rfl, HR⟩ := hrel
   have HJ := hid (⟨hij, hjn, hqj, hil⟩ : _ ∧ _ ∧ _ ∧ _)
   generalize hLn : L.length = n at *
   have HLn := hid hLn
   clear hLn
   by_cases hlt : j < n
   ·obtain ⟨y, hy⟩ : ∃ y, L[j]? = some y := ⟨_, List.getElem?_eq_getElem (by have := HLn.out; omega)⟩
    obtain ⟨y0, y1, y2, y3, y4, y5⟩ := ownsN HR.out.2.1 ((midL_get (Nat.le_refl j)).trans hy)
    have HY := hid hy
    clear hy hij hjn hqj hil
    cases hpy : p y with
    | true =>
     go_wp2_with (rw [HCF.out, Oper.upon_enter]; refine (HP.out _ y (HR.out.2.2.alloc _)).mono ?_; rintro e W' ⟨rfl, f⟩; rw [hpy]; have F := hid (((Fr.refl No wr).alloc _).thenNo f); clear f)
     go_roundw
     case rel => exact ⟨j + 1, q, by have := HJ.out; omega, by omega, by have := HJ.out; omega, rfl, by go_num, by rw [filt_step HY.out, hpy]; simpa using HR.out.1, by rw [midL_keep HY.out hpy]; exact fd_owns HR.out.2.1 F.out, HR.out.2.2.thenNo F.out⟩
     case measure => simp [intOf]; omega
    | false =>
     have hqn : Hid (q < n) := hid (by have := HJ.out; omega)
     go_wp2_with (first | (rw [HCF.out, Oper.upon_enter]; refine (HP.out _ y (HR.out.2.2.alloc _)).mono ?_; rintro e W' ⟨rfl, f⟩; rw [hpy]; obtain ⟨b0, b1, b2, b3, b4, b5⟩ := cells6 (f.keep (heap1 wr _) id); have F := hid (((Fr.refl No wr).alloc _).thenNo f); have o2 := fd_owns HR.out.2.1 F.out; obtain ⟨g', cur, e', -, hg, hnc, hcs, ht⟩ := owns_at o2 (by have := hqn.out; omega); obtain rfl : g = g' := (by simpa using e'); have G := hid (⟨o2, hg, hnc, hcs⟩ : _ ∧ _ ∧ _ ∧ _); clear f o2 hg hnc hcs ht e') | (refine wpList_storeO rfl 178 (.tmp 33) (.tmp 32) rfl g (q * 6) rfl cur.toList 178 (ecell y) rfl (by kernel_rfl) (by rw [Array.toArray_toList]; exact G.out.2.1) (by have := G.out.2.2; have := hqn.out; simp [ecell]; omega) (by simp [ecell, Value.oneCell']) ?_; intro W2 p2; have P2 := hid p2; clear p2))
     go_roundw
     case rel =>
      have hq := HR.out.1
      have o3 := owns_putSeg G.out.1 G.out.2.1 (cs := ecell y) (o := q * 6) (by have := hqn.out; simp [ecell]; omega) (by simp [ecell, Value.oneCell']) P2.out
      rw [mid_seg _ q (by rw [midL_len p L j (by have := HLn.out; omega), HLn.out]; exact hqn.out) y, hq, midL_put HY.out hpy] at o3
      exact ⟨j + 1, q + 1, by have := HJ.out; omega, by omega, by have := HJ.out; omega, by go_num, by go_num, by rw [filt_step HY.out, hpy, List.length_append, ← hq]; rfl, o3, (HR.out.2.2.thenNo F.out).thenS (P2.out.fr)⟩
     case measure => simp [intOf]; omega
   ·obtain rfl : j = n := by omega
    obtain ⟨g', cur, e', -, hg, hnc, hcs, ht⟩ := owns_at HR.out.2.1 (by have := HJ.out; omega)
    obtain rfl : g = g' := by simpa using e'
    obtain ⟨iv, hiv, hz, hsz, hby⟩ := info_parts infoV
    have hG := hid (⟨hg, hnc, hcs, hiv, hz, hsz, e'⟩ : _ ∧ _ ∧ _ ∧ _ ∧ _ ∧ _ ∧ _)
    have hqn : Hid (q < j) := hid hqj
    clear hij hjn hqj hil hg hnc hcs ht hiv hz hsz hby e' hlt
    go_wp2_with (first | (refine wpList_slice rfl 175 178 Tryz.underlying175 (.tmp 36) (some (.tmp 37)) none rfl (.slice (some ⟨g, 0, none⟩) j cap) rfl (some (.int .i64 (q : Int))) none rfl rfl (.slice (some ⟨g, q * 6, none⟩) (j - q) (cap - q)) (fun w' => by have := run_slice_from w' 175 178 iv Tryz.underlying175 hG.out.2.2.2.1 g j cap q hqn.out hG.out.2.1; rwa [hG.out.2.2.2.2.2.1] at this) ?_) | (refine wpList_slice rfl 175 178 Tryz.underlying175 (.tmp 39) none (some (.tmp 40)) rfl (.slice (some ⟨g, 0, none⟩) j cap) rfl none (some (.int .i64 (q : Int))) rfl rfl (.slice (some ⟨g, 0, none⟩) q cap) (fun w' => run_slice_to w' 175 178 iv Tryz.underlying175 hG.out.2.2.2.1 g j cap q (by have := hqn.out; have := hG.out.2.1; omega)) ?_) | (refine wpList_clearRows rfl (.tmp 38) 175 178 rfl _ 6 56 Tryz.underlying175 infoV rfl (by decide) (by simp [Value.cells, Value.oneCell']) g (q * 6) (j - q) (cap - q) rfl (by have := hqn.out; omega) cur hG.out.1 (by have := hqn.out; have := hG.out.2; omega) ?_; intro W2 zs hzl p2; have P2 := hid (⟨hzl, p2⟩ : _ ∧ _); clear hzl p2))
    go_ret
    have o3 := owns_cut HR.out.2.1 hG.out.1 (Nat.le_of_lt hqn.out) P2.out.1 P2.out.2
    have hfl : (L.take j).filter (fun z => !p z) = L.filter (fun z => !p z) := by rw [List.take_of_length_le (by have := HLn.out; omega)]
    have hq := HR.out.1
    rw [hfl] at hq
    have hx : ((midL p L j).flatMap ecell).take (q * 6) = (L.filter (fun z => !p z)).flatMap ecell := by
     unfold midL
     rw [hfl, List.flatMap_append, List.take_append_of_le_length (by rw [flat_len (f := ecell) (m := 6) (fun _ => rfl), hq]; exact Nat.le_refl _), List.take_of_length_le (by rw [flat_len (f := ecell) (m := 6) (fun _ => rfl), hq]; exact Nat.le_refl _)]
    rw [hx] at o3
    rw [← hq]
    exact ⟨rfl, o3, HR.out.2.2.thenS P2.out.2.fr⟩
end Go.Proofs.YthadcdoepoglkaaGreatDoor.Ec
namespace Go.Proofs.YthadcdoepoglkaaGreatDoor.Ec
open Go.RowKit Go.Lig
set_option maxHeartbeats 1000000 in
theorem delv_nil (w : World) (cf : Nat) (clb : Array Value) :
  Calls Tryz.prog 126 #[.slice none 0 0, .func (.func cf) #[] clb] w fun e w' => e = .returned (.slice none 0 0) ∧ Fr No w w' := by
 have HI : Hid (Calls Tryz.prog 175 #[.slice none 0 0, .func (.func cf) #[] clb] w fun e w' => e = .returned (.int .i64 (-1)) ∧ w = w') := by
  refine hid ?_
  go_enter Tryz.func175, Tryz.ntmps175
  go_wp2_with fail
  go_loopw [8] (fun vi wr => vi = .int .i64 0 ∧ wr = w) (fun _ _ => 0)
  case atStart => exact ⟨rfl, rfl⟩
  case round =>
   obtain ⟨rfl, rfl⟩ := hrel
   go_wp2
   go_ret
   exact ⟨rfl, rfl⟩
 go_enter Tryz.func126, Tryz.ntmps126
 go_wp2_with (go_at_call 175; refine HI.out.mono ?_; rintro e w1 ⟨rfl, rfl⟩)
 go_ret
 exact ⟨rfl, Fr.refl _ _⟩
theorem enter_undo1 : ∀ args w, (callFunc 127 args).run Tryz.prog w = .ok (.enter 127 args) w := enters_of Tryz.func127 (by kernel_rfl) rfl
def undoL (t : Int) (L : List (Ver EdgeV)) : List (Ver EdgeV) := L.filter (fun z => !(z.by_ == t))
set_option maxHeartbeats 1000000 in
theorem undo_any (w : World) (T : Nat → Prop) (x : Nat) (L : List (Ver EdgeV)) (h : CellAt w T x L) (t : Int) :
  Calls Tryz.prog 62 #[.pointer (some ⟨x, 0, none⟩), .int .i64 t] w fun e w' => e = .returned (.tuple #[]) ∧ CellAt w' T x (undoL t L) ∧ Fr T w w' := by
 obtain ⟨v, g1, g2, g3⟩ := h.ex
 obtain ⟨a, cap, rfl⟩ := ownsRow_slice g2
 have hf : Fr No w (w.alloc (.cells #[.int .i64 t] 3)) := (Fr.refl No w).alloc _
 have hb := heap1 w (.cells #[.int .i64 t] 3)
 have x1 := cells1 (hf.keep g1 id)
 have hxl := lt_of_block g1
 have HH := hid (⟨h, g1, g2, g3, hf, hb⟩ : _ ∧ _ ∧ _ ∧ _ ∧ _ ∧ _)
 cases a with
 | none =>
  have hL : L = [] := by
   rcases g2.2 with ⟨-, e⟩ | ⟨g, c, cur, e, _⟩
   ·exact List.length_eq_zero_iff.1 e
   ·simp at e
  subst hL
  obtain rfl : cap = 0 := by
   rcases g2.2 with ⟨e, -⟩ | ⟨g, c, cur, e, _⟩
   ·simpa using e
   ·simp at e
  clear h g1 g2 g3 hf hb
  go_enter Tryz.func62, Tryz.ntmps62
  go_wp2_with (first | (go_at_call 126; refine (delv_nil _ _ _).mono ?_; rintro e w2 ⟨rfl, f2⟩; have H2 := hid (HH.out.2.2.2.2.1.thenNo f2); clear f2) | (refine wpList_store1 rfl 175 (.tmp 14) (.tmp 12) rfl x 0 rfl _ _ (.slice none 0 0) rfl (by kernel_rfl) (H2.out.keep HH.out.2.1 id) (by simp) rfl ?_; intro w3 p3; have P3 := hid p3; clear p3))
  go_end0
  obtain ⟨h, g1, g2, g3, hf, hb⟩ := HH.out
  have hF : Fr T w w3 := (H2.out.mono (fun _ _ e => e.elim)).thenS (P3.out.fr.mono (fun k _ e => by subst e; exact h.root))
  exact ⟨rfl, ⟨⟨_, P3.out.at_, World.ownsRow_nil _ _ _ _, fun k hk => by cases hk⟩, h.root, fun k hk => Nat.lt_of_lt_of_le (h.bound k hk) hF.size, by simp [undoL]⟩, hF⟩
 | some ad =>
  obtain ⟨g, hg0⟩ : ∃ g, ad = ⟨g, 0, none⟩ := by
   rcases g2.2 with ⟨e, -⟩ | ⟨g, c, cur, e, _⟩
   ·simp at e
   ·exact ⟨g, by simpa using (Value.slice.inj e).1⟩
  subst hg0
  have hgx := g3 g rfl
  have hgl := (g2.lt g rfl).2
  have HD := hid (delv_some _ g cap L h.small (fd_owns g2 hf) 127 #[.pointer (some ⟨w.heap.size, 0, none⟩)] (fun y => y.by_ == t) enter_undo1 (fun W y hW => undo1_any W y t _ (cells1 (hW.keep hb (by omega)))))
  have HG := hid hgx
  clear h g1 g2 g3 hf hb hgx hgl
  go_enter Tryz.func62, Tryz.ntmps62
  go_wp2_with (first | (go_at_call 126; refine HD.out.mono ?_; rintro e w2 ⟨rfl, o2, f2⟩; have hx2 := f2.keep (HH.out.2.2.2.2.1.keep HH.out.2.1 id) (fun e => HG.out.2 e.symm); have H2 := hid (⟨o2, f2, hx2⟩ : _ ∧ _ ∧ _); clear f2 o2 hx2) | (refine wpList_store1 rfl 175 (.tmp 14) (.tmp 12) rfl x 0 rfl _ _ _ rfl (by kernel_rfl) H2.out.2.2 (by simp) rfl ?_; intro w3 p3; have P3 := hid p3; clear p3))
  go_end0
  obtain ⟨h, g1, g2, g3, hf, hb⟩ := HH.out
  have hF : Fr T w w3 := ((hf.mono (fun _ _ e => e.elim)).thenS (H2.out.2.1.mono (fun k _ e => by subst e; exact HG.out.1))).thenS (P3.out.fr.mono (fun k _ e => by subst e; exact h.root))
  exact ⟨rfl, ⟨⟨_, P3.out.at_, P3.out.fr.owns H2.out.1 (fun k hk e => by obtain rfl : g = k := Option.some.inj hk; exact HG.out.2 e), fun k hk => by obtain rfl : g = k := Option.some.inj hk; exact HG.out⟩, h.root, fun k hk => Nat.lt_of_lt_of_le (h.bound k hk) hF.size, Nat.le_trans (List.length_filter_le _ _) h.small⟩, hF⟩
set_option maxRecDepth 100000 in
set_option maxHeartbeats 1000000 in
theorem each_any (w : World) (x g : Nat) (L : List (Ver EdgeV)) (hs : L.length ≤ 1000000) (cf : Nat) (clb : Array Value) (hcf : ∀ args w, (callFunc cf args).run Tryz.prog w = .ok (.enter cf args) w) (I : Nat → World → Prop) (h0 : I 0 w)
  (hst : ∀ i W W', I i W → Fr No W W' → I i W') (hrow : ∀ i W, I i W → CelRow W x g L) (hskip : ∀ i y W, L[i]? = some y → y.gone = true → I i W → I (i + 1) W)
  (hstep : ∀ i y W, L[i]? = some y → y.gone = false → I i W → Calls Tryz.prog cf (#[.agg #[.int .i64 y.v.from_, .int .i64 y.v.to_, .string y.v.type, .float .f64 y.v.w]] ++ clb) W fun e W' => e = .returned (.tuple #[]) ∧ I (i + 1) W') :
  Calls Tryz.prog 107 #[.pointer (some ⟨x, 0, none⟩), .func (.func cf) #[] clb] w fun e w' => e = .returned (.tuple #[]) ∧ I L.length w' := by
 obtain ⟨a, cap, g1, -, g3, -⟩ := (hrow 0 w h0).ex
 have x0 := cells1 g1
 have HS := hid (⟨h0, hst, hrow, hskip, hstep, g3⟩ : _ ∧ _ ∧ _ ∧ _ ∧ _ ∧ _)
 have HCF := hid hcf
 clear h0 hst hrow hskip hstep hcf g1 g3
 go_enter Tryz.func107, Tryz.ntmps107
 go_wp2_with fail
 generalize hLn : L.length = n at *
 have HLn := hid hLn
 clear hLn
 go_loopw [13] (fun vi wr => ∃ i : Nat, i ≤ n ∧ vi = .int .i64 (i : Int) ∧ Hid (I i wr)) (fun vi _ => n - (intOf vi).toNat)
 case atStart => exact ⟨0, Nat.zero_le _, rfl, HS.out.1⟩
 case round =>
  obtain ⟨h0, hst, hrow, hskip, hstep, g3⟩ := HS.out
  obtain ⟨i, hi, rfl, HI⟩ := hrel
  by_cases hlt : i < n
  ·obtain ⟨y, hy⟩ : ∃ y, L[i]? = some y := ⟨_, List.getElem?_eq_getElem (by have := HLn.out; omega)⟩
   obtain rfl := g3 (by omega)
   obtain ⟨y0, y1, y2, y3, y4, y5⟩ := (hrow i wr HI.out).cell hy
   obtain ⟨yb, ⟨yf, yo, yt, yw⟩, yg⟩ := y
   dsimp only at y0 y1 y2 y3 y4 y5
   have HY := hid hy
   clear hy
   cases yg with
   | true =>
    have HI2 := hid (hskip i _ _ HY.out rfl (hst i _ _ HI.out ((Fr.refl No wr).alloc (.cells #[.int .i64 yb, .int .i64 yf, .int .i64 yo, .string yt, .float .f64 yw, .bool true] 178))))
    clear h0 hst hrow hskip hstep g3
    go_wp2_with fail
    go_roundw
    case rel => exact ⟨i + 1, by omega, by go_num, HI2.out⟩
    case measure => simp [intOf]; omega
   | false =>
    have HI2 := hid (hstep i _ _ HY.out rfl (hst i _ _ HI.out ((Fr.refl No wr).alloc (.cells #[.int .i64 yb, .int .i64 yf, .int .i64 yo, .string yt, .float .f64 yw, .bool false] 178))))
    clear h0 hst hrow hskip hstep g3
    go_wp2_with (rw [HCF.out, Oper.upon_enter]; refine HI2.out.mono ?_; rintro e W' ⟨rfl, f⟩; have F := hid f; clear f)
    go_roundw
    case rel => exact ⟨i + 1, by omega, by go_num, F.out⟩
    case measure => simp [intOf]; omega
  ·obtain rfl : i = n := by omega
   clear h0 hst hrow hskip hstep g3
   go_wp2_with fail
   go_end0
   exact ⟨rfl, by rw [HLn.out]; exact HI.out⟩
end Go.Proofs.YthadcdoepoglkaaGreatDoor.Ec
namespace Go.Lig
open Go.RowKit Go.Maps Go.MapKept Go.ChangeMaps
def ptrR (v : Value) : Option (DataW Value × List MemPlace) := some (.held v, [])
structure MapAt (w : World) (P : Program) (k : TypeId) (g n : Nat) (f : Int → Value) : Prop where
 ex : ∃ D : DataW Value, w.ownsMap P k ptrR g n D ∧ ∀ i, D.atKey (.int .i64 i) (.held (.pointer none)) = .held (f i)
def upd (f : Int → Value) (i : Int) (v : Value) : Int → Value := fun j => if j = i then v else f j
theorem MapAt.lt {w : World} {P : Program} {k : TypeId} {g n : Nat} {f : Int → Value} (h : MapAt w P k g n f) : g < w.heap.size := by
 obtain ⟨D, h, _⟩ := h.ex
 exact h.lt
theorem MapAt.frame {w w' : World} {P : Program} {k : TypeId} {g n : Nat} {f : Int → Value} {S : Nat → Prop} (h : MapAt w P k g n f) (hf : Fr S w w') (hn : ¬ S g) : MapAt w' P k g n f := by
 have hlt := h.lt
 obtain ⟨D, ⟨es, clock, hb, r⟩, hat⟩ := h.ex
 exact ⟨⟨D, ⟨es, clock, (hf.block g hlt hn).trans hb, r⟩, hat⟩⟩
theorem MapAt.more {w : World} {P : Program} {k : TypeId} {g n m : Nat} {f : Int → Value} (h : MapAt w P k g n f) (hm : n ≤ m) : MapAt w P k g m f := by
 obtain ⟨D, h, hat⟩ := h.ex
 exact ⟨⟨D, h.mono hm, hat⟩⟩
theorem MapAt.made (w : World) (P : Program) (k : TypeId) : MapAt (w.alloc (.map #[] 0)) P k w.heap.size 0 (fun _ => .pointer none) :=
 ⟨⟨.map [], World.ownsMap_made w P k ptrR, fun _ => rfl⟩⟩
section
variable {P : Program} {k e t : TypeId} {w : World} {g n : Nat} {f : Int → Value}
theorem MapAt.look (h : MapAt w P k g n f) (hk : P.underlying k = some (.int .i64)) (ht : P.underlying t = some (.map k e)) (hz : (zeroValue e).run P w = .ok (.pointer none) w) {i : Int} (hi : (Lit.int .i64 i).wf = true) :
  (Instr.lookup t (.map (some g)) (.int .i64 i) false).run P w = .ok (f i) w := by
 obtain ⟨D, h, hat⟩ := h.ex
 obtain ⟨v, ps, hrun, hv⟩ := h.lookup (int_keyed hk) ht hz (zd := .held (.pointer none)) (zp := []) rfl (keyOf_int_mk hk hi)
 rw [hat i] at hv
 simp only [ptrR, Option.some.injEq, Prod.mk.injEq, DataW.held.injEq] at hv
 rw [hrun, hv.1]
theorem MapAt.store (h : MapAt w P k g n f) (hk : P.underlying k = some (.int .i64)) (ht : P.underlying t = some (.map k e)) (hn : n < maxLen) {i : Int} (hi : (Lit.int .i64 i).wf = true) (v : Value) :
  ∃ w', (Instr.mapUpdate t (.map (some g)) (.int .i64 i) v).run P w = .ok () w' ∧ MapAt w' P k g (n + 1) (upd f i v) ∧ Fr (fun j => j = g) w w' ∧ w'.heap.size = w.heap.size := by
 obtain ⟨D, h, hat⟩ := h.ex
 have hm := h.isMap
 obtain ⟨w', hrun, h', ht'⟩ := h.store (int_keyed hk) ht hn (keyOf_int_mk hk hi) (val := v) (d := .held v) (ps := []) rfl
 refine ⟨w', hrun, ⟨⟨_, h', fun j => ?_⟩⟩, (Fr.refl _ w).grown ht'.grown (fun j hj _ => (Option.some.inj hj).symm), ?_⟩
 ·unfold upd
  split
  ·rename_i e
   subst e
   exact atKey_put_same hm (by trivial) _ _
  ·rename_i e
   rw [atKey_put_other (fun e' => e (by injection e'))]
   exact hat j
 ·obtain ⟨_, _, _, _, _, rfl⟩ := ht'
  simp [setBlock]
theorem MapAt.drop (h : MapAt w P k g n f) (hk : P.underlying k = some (.int .i64)) (ht : P.underlying t = some (.map k e)) {i : Int} (hi : (Lit.int .i64 i).wf = true) (ty : TypeId) :
  ∃ w', (Builtin.delete_ #[t, k] ty #[.map (some g), .int .i64 i]).run P w = .ok (.tuple #[]) w' ∧ MapAt w' P k g n (upd f i (.pointer none)) ∧ Fr (fun j => j = g) w w' ∧ w'.heap.size = w.heap.size := by
 obtain ⟨D, h, hat⟩ := h.ex
 obtain ⟨w', hrun, h', ht'⟩ := h.drop (int_keyed hk) ht (keyOf_int_mk hk hi) ty
 refine ⟨w', hrun, ⟨⟨_, h', fun j => ?_⟩⟩, (Fr.refl _ w).grown ht'.grown (fun j hj _ => (Option.some.inj hj).symm), ?_⟩
 ·unfold upd
  split
  ·rename_i e
   subst e
   exact atKey_del_same _
  ·rename_i e
   rw [atKey_del_other (fun e' => e (by injection e'))]
   exact hat j
 ·obtain ⟨_, _, _, _, _, rfl⟩ := ht'
  simp [setBlock]
theorem MapAt.entry (h : MapAt w P k g n f) (hk : P.underlying k = some (.int .i64)) (ht : P.underlying t = some (.map k e)) (hz : ∀ u : World, (zeroValue e).run P u = .ok (.pointer none) u) {i : Int} (hi : (Lit.int .i64 i).wf = true) (v : Value) :
  ∃ (v0 : Value) (st : Nat) (w1 w2 : World), (Instr.mapEntry t (.map (some g)) (.int .i64 i)).run P w = .ok (.tuple #[v0, goInt st]) w1 ∧ (Instr.entryStore t (.map (some g)) (goInt st) v).run P w1 = .ok () w2 ∧
   (Instr.mapUpdate t (.map (some g)) (.int .i64 i) v).run P w = .ok () w2 := by
 obtain ⟨D, ⟨es, clock, hb, F, _, _⟩, _⟩ := h.ex
 have K := int_keyed hk
 have hkey := keyOf_int_mk hk hi
 obtain ⟨s1, s2, _⟩ := F.stamped
 have hw1 : ∀ es1 c1, (setBlock w g (.map es1 c1)).heap[g]? = some (.map es1 c1) := fun es1 c1 => heap_setBlock_same hb _
 rcases K.find w hkey es.toList F.keys with ⟨h1, h2⟩ | ⟨j, e0, h1, h2, h3⟩
 ·have hmod : (es.push ⟨.int .i64 i, .pointer none, clock⟩).modify es.size (fun e => { e with val := v }) = es.push ⟨.int .i64 i, v, clock⟩ := by
   apply Array.ext'
   rw [Array.toList_modify, Array.toList_push, Array.toList_push, ← Array.length_toList, WideElems.modify_last]
  have hidx : (es.push ⟨.int .i64 i, .pointer none, clock⟩).findIdx? (fun e => ((e.born : Nat) : Int) == ((clock : Nat) : Int)) = some es.size := by
   rw [WideElems.findIdx_arr]
   refine WideElems.findIdx_born (j := es.size) (e0 := ⟨.int .i64 i, .pointer none, clock⟩) ?_ (by simp)
   simp only [Array.toList_push, List.map_append, List.map_cons, List.map_nil]
   refine List.nodup_append.2 ⟨s2, by simp, fun a ha c hc e1 => ?_⟩
   rw [List.mem_singleton.1 hc] at e1
   obtain ⟨x, hx, rfl⟩ := List.mem_map.1 ha
   have := s1 x hx
   omega
  refine ⟨.pointer none, clock, setBlock w g (.map (es.push ⟨.int .i64 i, .pointer none, clock⟩) (clock + 1)), setBlock w g (.map (es.push ⟨.int .i64 i, v, clock⟩) (clock + 1)), ?_, ?_, ?_⟩
  ·simp [Instr.mapEntry, run_underlying ht, MapKept.run_getObj_map hb, K.check w false hkey, h1, hz, MapKept.run_setObj_map _ hb, Result.andThen, setBlock]
  ·simp [Instr.entryStore, MapKept.run_getObj_map (hw1 _ _), asInt, asIntOf, goInt, hidx, hmod, MapKept.run_setObj_map _ (hw1 _ _), Result.andThen]
   simp [setBlock]
  ·simp [Instr.mapUpdate, run_underlying ht, MapKept.run_getObj_map hb, K.check w false hkey, h1, MapKept.run_setObj_map _ hb, Result.andThen, setBlock]
 ·have hj : es[j]? = some e0 := by simpa using h2
  have hsame : es.modify j (fun e => { e with key := .int .i64 i }) = es := by
   apply Array.ext'
   rw [Array.toList_modify, modify_eq_set _ _ _ _ h2, ← h3]
   exact WideElems.set_self _ _ _ h2
  have hidx : es.findIdx? (fun e => ((e.born : Nat) : Int) == ((e0.born : Nat) : Int)) = some j := by
   rw [WideElems.findIdx_arr]
   exact WideElems.findIdx_born s2 h2
  have hmod : es.modify j (fun e => { e with val := v }) = es.modify j (fun e' => { e' with key := .int .i64 i, val := v }) := by
   apply Array.ext'
   rw [Array.toList_modify, Array.toList_modify, modify_eq_set _ _ _ _ h2, modify_eq_set _ _ _ _ h2, ← h3]
  refine ⟨e0.val, e0.born, setBlock w g (.map es clock), setBlock w g (.map (es.modify j (fun e' => { e' with key := .int .i64 i, val := v })) clock), ?_, ?_, ?_⟩
  ·simp [Instr.mapEntry, run_underlying ht, MapKept.run_getObj_map hb, K.check w false hkey, h1, hj, h3, K.stays w hkey, hsame, MapKept.run_setObj_map _ hb, Result.andThen, setBlock]
  ·simp [Instr.entryStore, MapKept.run_getObj_map (hw1 _ _), asInt, asIntOf, goInt, hidx, hmod, MapKept.run_setObj_map _ (hw1 _ _), Result.andThen]
   simp [setBlock]
  ·simp [Instr.mapUpdate, run_underlying ht, MapKept.run_getObj_map hb, K.check w false hkey, h1, hj, h3, K.stays w hkey, MapKept.run_setObj_map _ hb, Result.andThen, setBlock]
end
section
variable {P : Program} {ops : Array Oper} {rest : List Oper} {o : Oper} {a : Act} {w : World} {Q : Exit → Act → World → Prop} {k e : TypeId} {g n : Nat} {f : Int → Value}
theorem wpList_mmake (hgd : o.guard = none) (t : TypeId) (ho : o.op = .makeMap t none)
  (hQ : ∀ w', MapAt w' P k w.heap.size 0 (fun _ => .pointer none) → Fr No w w' → w'.heap.size = w.heap.size + 1 → wpList P ops Q rest (a.put o.dst (.map (some w.heap.size))) w') : wpList P ops Q (o :: rest) a w :=
 wpList_run hgd (v := .map (some w.heap.size)) (w' := w.alloc (.map #[] 0)) (by
  have hr : (Instr.makeMap t none).run P w = .ok (.map (some w.heap.size)) (w.alloc (.map #[] 0)) := rfl
  simp [execOp, ho, hr, Result.andThen]) (hQ _ (MapAt.made w P k) ((Fr.refl No w).alloc _) (by simp))
theorem wpList_look (hgd : o.guard = none) (m x : Operand) (t : TypeId) (ho : o.op = .lookup t m x false) (hk : P.underlying k = some (.int .i64)) (ht : P.underlying t = some (.map k e)) (hz : (zeroValue e).run P w = .ok (.pointer none) w)
  (hm : a.eval m = .map (some g)) (h : MapAt w P k g n f) (i : Int) (hx : a.eval x = .int .i64 i) (hi : (Lit.int .i64 i).wf = true) (v : Value) (hv : f i = v)
  (hQ : wpList P ops Q rest (a.put o.dst v) w) : wpList P ops Q (o :: rest) a w := by
 subst hv
 exact wpList_run hgd (v := f i) (w' := w) (by simp [execOp, ho, hm, hx, h.look hk ht hz hi, Result.andThen]) hQ
theorem wpList_lookG (hgd : Region.wanted o (yielded ops a.tmps) = true) (m x : Operand) (t : TypeId) (ho : o.op = .lookup t m x false) (hk : P.underlying k = some (.int .i64)) (ht : P.underlying t = some (.map k e)) (hz : (zeroValue e).run P w = .ok (.pointer none) w)
  (hm : a.eval m = .map (some g)) (h : MapAt w P k g n f) (i : Int) (hx : a.eval x = .int .i64 i) (hi : (Lit.int .i64 i).wf = true) (v : Value) (hv : f i = v)
  (hQ : wpList P ops Q rest (a.put o.dst v) w) : wpList P ops Q (o :: rest) a w := by
 subst hv
 unfold wpList
 rw [if_pos hgd]
 refine .inl ?_
 unfold Oper.wp
 have hr : (execOp a.eval o).run P w = .ok (.value (f i)) w := by simp [execOp, ho, hm, hx, h.look hk ht hz hi, Result.andThen]
 rw [hr]
 exact hQ
theorem wpList_mstore (hgd : o.guard = none) (m x y : Operand) (t : TypeId) (ho : o.op = .mapUpdate t m x y) (hk : P.underlying k = some (.int .i64)) (ht : P.underlying t = some (.map k e))
  (hm : a.eval m = .map (some g)) (h : MapAt w P k g n f) (hn : n < maxLen) (i : Int) (hx : a.eval x = .int .i64 i) (hi : (Lit.int .i64 i).wf = true) (v : Value) (hy : a.eval y = v)
  (hQ : ∀ w', MapAt w' P k g (n + 1) (upd f i v) → Fr (fun j => j = g) w w' → w'.heap.size = w.heap.size → wpList P ops Q rest (a.put o.dst undef) w') : wpList P ops Q (o :: rest) a w := by
 obtain ⟨w', hrun, h1, h2, h3⟩ := h.store hk ht hn hi v
 exact wpList_runSkip hgd (w' := w') (by simp [execOp, ho, hm, hx, hy, hrun, Result.andThen]) (hQ w' h1 h2 h3)
theorem wpList_mdrop (hgd : o.guard = none) (m x : Operand) (t : TypeId) (ho : o.op = .call { callee := .builtin .delete, args := #[m, x], argTypes := #[t, k] }) (hk : P.underlying k = some (.int .i64)) (ht : P.underlying t = some (.map k e))
  (hm : a.eval m = .map (some g)) (h : MapAt w P k g n f) (i : Int) (hx : a.eval x = .int .i64 i) (hi : (Lit.int .i64 i).wf = true)
  (hQ : ∀ w', MapAt w' P k g n (upd f i (.pointer none)) → Fr (fun j => j = g) w w' → w'.heap.size = w.heap.size → wpList P ops Q rest (a.put o.dst (.tuple #[])) w') : wpList P ops Q (o :: rest) a w := by
 obtain ⟨w', hrun, h1, h2, h3⟩ := h.drop hk ht hi o.type
 exact wpList_run hgd (v := .tuple #[]) (w' := w') (by simp [execOp, ho, resolve, invoke, builtin, hm, hx, hrun, Result.andThen]) (hQ w' h1 h2 h3)
theorem wpList_mentry (hgd : o.guard = none) (m x : Operand) (t : TypeId) (ho : o.op = .mapEntry t m x) (hk : P.underlying k = some (.int .i64)) (ht : P.underlying t = some (.map k e)) (hz : ∀ u : World, (zeroValue e).run P u = .ok (.pointer none) u)
  (hm : a.eval m = .map (some g)) (h : MapAt w P k g n f) (hn : n < maxLen) (i : Int) (hx : a.eval x = .int .i64 i) (hi : (Lit.int .i64 i).wf = true) (v : Value)
  (hQ : ∀ (v0 : Value) (st : Nat) (w1 : World), (∃ w2, (Instr.entryStore t (.map (some g)) (.int .i64 (st : Int)) v).run P w1 = .ok () w2 ∧ MapAt w2 P k g (n + 1) (upd f i v) ∧ Fr (fun j => j = g) w w2 ∧ w2.heap.size = w.heap.size) →
   wpList P ops Q rest (a.put o.dst (.tuple #[v0, .int .i64 (st : Int)])) w1) : wpList P ops Q (o :: rest) a w := by
 obtain ⟨v0, st, w1, w2, h1, h2, h3⟩ := h.entry hk ht hz hi v
 obtain ⟨w', hrun, q1, q2, q3⟩ := h.store hk ht hn hi v
 rw [h3] at hrun
 obtain rfl : w2 = w' := by injection hrun
 exact wpList_run hgd (v := .tuple #[v0, .int .i64 (st : Int)]) (w' := w1) (by
  have h1' : (Instr.mapEntry t (.map (some g)) (.int .i64 i)).run P w = .ok (.tuple #[v0, .int .i64 (st : Int)]) w1 := h1
  simp [execOp, ho, hm, hx, h1', Result.andThen]) (hQ v0 st w1 ⟨w2, h2, q1, q2, q3⟩)
theorem wpList_mentryStore (hgd : o.guard = none) (m s x : Operand) (t : TypeId) (ho : o.op = .entryStore t m s x) (vm vs vx : Value) (hm : a.eval m = vm) (hs : a.eval s = vs) (hx : a.eval x = vx) {w2 : World}
  (hrun : (Instr.entryStore t vm vs vx).run P w = .ok () w2) (hQ : wpList P ops Q rest (a.put o.dst undef) w2) : wpList P ops Q (o :: rest) a w :=
 wpList_runSkip hgd (w' := w2) (by simp [execOp, ho, hm, hs, hx, hrun, Result.andThen]) hQ
end
end Go.Lig
