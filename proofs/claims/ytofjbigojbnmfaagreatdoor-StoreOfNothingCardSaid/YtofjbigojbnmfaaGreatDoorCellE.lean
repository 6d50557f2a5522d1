/- The cell: Undo, Each. -/
import Derived.Test.YtofjbigojbnmfaaGreatDoorCellD
namespace Go.Proofs.YtofjbigojbnmfaaGreatDoor
open Go.RowKit Go.Lig

set_option maxHeartbeats 1000000 in
theorem delv_nil (w : World) (cf : Nat) (clb : Array Value) :
    Calls Tryz.prog 95 #[.slice none 0 0, .func (.func cf) #[] clb] w fun e w' => e = .returned (.slice none 0 0) ∧ Fr No w w' := by
  have HI : Hid (Calls Tryz.prog 152 #[.slice none 0 0, .func (.func cf) #[] clb] w fun e w' => e = .returned (.int .i64 (-1)) ∧ w = w') := by
    refine hid ?_
    go_enter Tryz.func152, Tryz.ntmps152
    go_wp2_with fail
    go_loopw [8] (fun vi wr => vi = .int .i64 0 ∧ wr = w) (fun _ _ => 0)
    case atStart => exact ⟨rfl, rfl⟩
    case round =>
      obtain ⟨rfl, rfl⟩ := hrel
      go_wp2
      go_ret
      exact ⟨rfl, rfl⟩
  go_enter Tryz.func95, Tryz.ntmps95
  go_wp2_with (go_at_call 152; refine HI.out.mono ?_; rintro e w1 ⟨rfl, rfl⟩)
  go_ret
  exact ⟨rfl, Fr.refl _ _⟩
theorem enter_undo1 : ∀ args w, (callFunc 96 args).run Tryz.prog w = .ok (.enter 96 args) w := enters_of Tryz.func96 (by kernel_rfl) rfl
def undoL (t : Int) (L : List (Ver NodeV)) : List (Ver NodeV) := L.filter (fun z => !(z.by_ == t))
set_option maxHeartbeats 1000000 in
theorem undo_any (w : World) (T : Nat → Prop) (x : Nat) (L : List (Ver NodeV)) (h : CellAt w T x L) (t : Int) :
    Calls Tryz.prog 39 #[.pointer (some ⟨x, 0, none⟩), .int .i64 t] w fun e w' => e = .returned (.tuple #[]) ∧ CellAt w' T x (undoL t L) ∧ Fr T w w' := by
  obtain ⟨v, g1, g2, g3⟩ := h.ex
  obtain ⟨a, cap, rfl⟩ := ownsRow_slice g2
  have hf : Fr No w (w.alloc (.cells #[.int .i64 t] 3)) := (Fr.refl No w).alloc _
  have hb := heap1 w (.cells #[.int .i64 t] 3)
  have x1 := cells1 (hf.keep g1 id)
  have hxl := lt_of_block g1
  have HH := hid (⟨h, g1, g2, g3, hf, hb⟩ : _ ∧ _ ∧ _ ∧ _ ∧ _ ∧ _)
  cases a with
  | none =>
    have hL : L = [] := by
      rcases g2.2 with ⟨-, e⟩ | ⟨g, c, cur, e, _⟩
      · exact List.length_eq_zero_iff.1 e
      · simp at e
    subst hL
    obtain rfl : cap = 0 := by
      rcases g2.2 with ⟨e, -⟩ | ⟨g, c, cur, e, _⟩
      · simpa using e
      · simp at e
    clear h g1 g2 g3 hf hb
    go_enter Tryz.func39, Tryz.ntmps39
    go_wp2_with (first | (go_at_call 95; refine (delv_nil _ _ _).mono ?_; rintro e w2 ⟨rfl, f2⟩; have H2 := hid (HH.out.2.2.2.2.1.thenNo f2); clear f2) | (refine wpList_store1 rfl 139 (.tmp 14) (.tmp 12) rfl x 0 rfl _ _ (.slice none 0 0) rfl (by kernel_rfl) (H2.out.keep HH.out.2.1 id) (by simp) rfl ?_; intro w3 p3; have P3 := hid p3; clear p3))
    go_end0
    obtain ⟨h, g1, g2, g3, hf, hb⟩ := HH.out
    have hF : Fr T w w3 := (H2.out.mono (fun _ _ e => e.elim)).thenS (P3.out.fr.mono (fun k _ e => by subst e; exact h.root))
    exact ⟨rfl, ⟨⟨_, P3.out.at_, World.ownsRow_nil _ _ _ _, fun k hk => by cases hk⟩, h.root, fun k hk => Nat.lt_of_lt_of_le (h.bound k hk) hF.size, by simp [undoL]⟩, hF⟩
  | some ad =>
    obtain ⟨g, hg0⟩ : ∃ g, ad = ⟨g, 0, none⟩ := by
      rcases g2.2 with ⟨e, -⟩ | ⟨g, c, cur, e, _⟩
      · simp at e
      · exact ⟨g, by simpa using (Value.slice.inj e).1⟩
    subst hg0
    have hgx := g3 g rfl
    have hgl := (g2.lt g rfl).2
    have HD := hid (delv_some _ g cap L h.small (fd_owns g2 hf) 96 #[.pointer (some ⟨w.heap.size, 0, none⟩)] (fun y => y.by_ == t) enter_undo1 (fun W y hW => undo1_any W y t _ (cells1 (hW.keep hb (by omega)))))
    have HG := hid hgx
    clear h g1 g2 g3 hf hb hgx hgl
    go_enter Tryz.func39, Tryz.ntmps39
    go_wp2_with (first | (go_at_call 95; refine HD.out.mono ?_; rintro e w2 ⟨rfl, o2, f2⟩; have hx2 := f2.keep (HH.out.2.2.2.2.1.keep HH.out.2.1 id) (fun e => HG.out.2 e.symm); have H2 := hid (⟨o2, f2, hx2⟩ : _ ∧ _ ∧ _); clear f2 o2 hx2) | (refine wpList_store1 rfl 139 (.tmp 14) (.tmp 12) rfl x 0 rfl _ _ _ rfl (by kernel_rfl) H2.out.2.2 (by simp) rfl ?_; intro w3 p3; have P3 := hid p3; clear p3))
    go_end0
    obtain ⟨h, g1, g2, g3, hf, hb⟩ := HH.out
    have hF : Fr T w w3 := ((hf.mono (fun _ _ e => e.elim)).thenS (H2.out.2.1.mono (fun k _ e => by subst e; exact HG.out.1))).thenS (P3.out.fr.mono (fun k _ e => by subst e; exact h.root))
    exact ⟨rfl, ⟨⟨_, P3.out.at_, P3.out.fr.owns H2.out.1 (fun k hk e => by obtain rfl : g = k := Option.some.inj hk; exact HG.out.2 e), fun k hk => by obtain rfl : g = k := Option.some.inj hk; exact HG.out⟩, h.root, fun k hk => Nat.lt_of_lt_of_le (h.bound k hk) hF.size, Nat.le_trans (List.length_filter_le _ _) h.small⟩, hF⟩
set_option maxRecDepth 100000 in
set_option maxHeartbeats 1000000 in
theorem each_any (w : World) (x g : Nat) (L : List (Ver NodeV)) (hs : L.length ≤ 1000000) (cf : Nat) (clb : Array Value) (hcf : ∀ args w, (callFunc cf args).run Tryz.prog w = .ok (.enter cf args) w) (I : Nat → World → Prop) (h0 : I 0 w)
    (hst : ∀ i W W', I i W → Fr No W W' → I i W') (hrow : ∀ i W, I i W → CelRow W x g L) (hskip : ∀ i y W, L[i]? = some y → y.gone = true → I i W → I (i + 1) W)
    (hstep : ∀ i y W, L[i]? = some y → y.gone = false → I i W → Calls Tryz.prog cf (#[.agg #[.slice y.v.l.a y.v.l.n y.v.l.c, .slice y.v.p.a y.v.p.n y.v.p.c]] ++ clb) W fun e W' => e = .returned (.tuple #[]) ∧ I (i + 1) W') :
    Calls Tryz.prog 101 #[.pointer (some ⟨x, 0, none⟩), .func (.func cf) #[] clb] w fun e w' => e = .returned (.tuple #[]) ∧ I L.length w' := by
  obtain ⟨a, cap, g1, -, g3, -⟩ := (hrow 0 w h0).ex
  have x0 := cells1 g1
  have HS := hid (⟨h0, hst, hrow, hskip, hstep, g3⟩ : _ ∧ _ ∧ _ ∧ _ ∧ _ ∧ _)
  have HCF := hid hcf
  clear h0 hst hrow hskip hstep hcf g1 g3
  go_enter Tryz.func101, Tryz.ntmps101
  go_wp2_with fail
  generalize hLn : L.length = n at *
  have HLn := hid hLn
  clear hLn
  go_loopw [13] (fun vi wr => ∃ i : Nat, i ≤ n ∧ vi = .int .i64 (i : Int) ∧ Hid (I i wr)) (fun vi _ => n - (intOf vi).toNat)
  case atStart => exact ⟨0, Nat.zero_le _, rfl, HS.out.1⟩
  case round =>
    obtain ⟨h0, hst, hrow, hskip, hstep, g3⟩ := HS.out
    obtain ⟨i, hi, rfl, HI⟩ := hrel
    by_cases hlt : i < n
    · obtain ⟨y, hy⟩ : ∃ y, L[i]? = some y := ⟨_, List.getElem?_eq_getElem (by have := HLn.out; omega)⟩
      obtain rfl := g3 (by omega)
      obtain ⟨y0, y1, y2, y3⟩ := (hrow i wr HI.out).cell hy
      obtain ⟨yb, ⟨⟨yla, yln, ylc⟩, ⟨ypa, ypn, ypc⟩⟩, yg⟩ := y
      dsimp only at y0 y1 y2 y3
      have HY := hid hy
      clear hy
      cases yg with
      | true =>
        have HI2 := hid (hskip i _ _ HY.out rfl (hst i _ _ HI.out ((Fr.refl No wr).alloc (.cells #[.int .i64 yb, .slice yla yln ylc, .slice ypa ypn ypc, .bool true] 142))))
        clear h0 hst hrow hskip hstep g3
        go_wp2_with fail
        go_roundw
        case rel => exact ⟨i + 1, by omega, by go_num, HI2.out⟩
        case measure => simp [intOf]; omega
      | false =>
        have HI2 := hid (hstep i _ _ HY.out rfl (hst i _ _ HI.out ((Fr.refl No wr).alloc (.cells #[.int .i64 yb, .slice yla yln ylc, .slice ypa ypn ypc, .bool false] 142))))
        clear h0 hst hrow hskip hstep g3
        go_wp2_with (rw [HCF.out, Oper.upon_enter]; refine HI2.out.mono ?_; rintro e W' ⟨rfl, f⟩; have F := hid f; clear f)
        go_roundw
        case rel => exact ⟨i + 1, by omega, by go_num, F.out⟩
        case measure => simp [intOf]; omega
    · obtain rfl : i = n := by omega
      clear h0 hst hrow hskip hstep g3
      go_wp2_with fail
      go_end0
      exact ⟨rfl, by rw [HLn.out]; exact HI.out⟩
end Go.Proofs.YtofjbigojbnmfaaGreatDoor
