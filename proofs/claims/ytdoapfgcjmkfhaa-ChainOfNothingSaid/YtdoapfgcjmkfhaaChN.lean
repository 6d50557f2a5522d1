/- ChainOfNothing: the walk. -/
import Derived.Test.YtdoapfgcjmkfhaaChH
namespace Go.Proofs.Ytdoapfgcjmkfhaa
open Go.RowKit Go.Lig

theorem add1 (k x : Int) : addI [] k x = [(k, x)] := by simp [addI]
set_option maxRecDepth 100000 in
set_option maxHeartbeats 1000000 in
theorem nothing_any (W : World) (k x : Int) (hk : keyOk k) (hx : keyOk x) :
    Calls Try.prog 6 #[.int .i64 k, .int .i64 x] W fun e w' => e = .returned (.bool true) ∧ Fr No W w' := by
  have K := hid (⟨hk, hx⟩ : keyOk k ∧ keyOk x)
  clear hk hx
  go_enter Try.func6, Try.ntmps6
  go_wp2_with fail
  refine (new_cw (Fr.refl No _)).mono ?_
  rintro e w1 ⟨c, S1, rfl, c1, f1, n1⟩
  have H1 := hid c1
  clear c1 f1 n1
  go_wp2_with fail
  refine (add_cw H1.out k x K.out.1 K.out.2 (by decide) true (by simp)).mono ?_
  rintro e w2 ⟨S2, rfl, h2, -, -⟩
  rw [add1] at h2
  have H2 := hid h2
  clear h2
  go_wp2_with fail
  refine (walk_cw H2.out k K.out.1 (by decide)).mono ?_
  rintro e w3 ⟨v3, rfl, o3⟩
  rw [ids_cons_same, ids_nil] at o3
  obtain ⟨a3, c3, rfl⟩ := ownsRow_slice o3.row
  obtain ⟨g, cur, rfl, -, hg, -⟩ := owns_at o3.row (show 0 < 1 by decide)
  have hc3 : w3.cell? ⟨g, 0, none⟩ = some (.int .i64 x) := owns_cell o3.row rfl rfl
  have hf3 := freeAll hg
  have hgS : Hid (∀ q, S2 q → q ≠ g) := hid (fun q hq e => by have h1 := o3.blk g rfl; have h2 := H2.out.at_.bound q hq; omega)
  have hgW : Hid (W.heap.size ≤ g) := hid (by have h1 := o3.blk g rfl; have h2 := H2.out.fr.size; omega)
  have H3 := hid (H2.out.nextNo o3.fr)
  clear o3 hg
  go_wp2_with fail
  refine (walk_cw (W := W) (S := S2) (I := [(k, x)]) (m := 1) (H3.out.next ((Fr.refl (fun q => q = g) w3).setCell (p := ⟨g, 0, none⟩) _ (fun _ => rfl)) (fun q hq e => hgS.out q hq e) (fun q e => by subst e; exact hgW.out)) k K.out.1 (by decide)).mono ?_
  have H4 := hid (H3.out.next ((Fr.refl (fun q => q = g) w3).setCell (p := ⟨g, 0, none⟩) (.int .i64 (wrap64 (x + 1))) (fun _ => rfl)) (fun q hq e => hgS.out q hq e) (fun q e => by subst e; exact hgW.out))
  rintro e w5 ⟨v5, rfl, o5⟩
  rw [ids_cons_same, ids_nil] at o5
  have H5 := hid o5
  have HF := hid (H4.out.fr.thenNo o5.fr)
  clear o5 hc3 hf3
  go_wp2_with (first | (refine wpList_buildSlice1 rfl 24 3 (.tmp 32) rfl _ 1 8 Try.underlying24 infoInt (by decide) (by decide) (.int .i64 x) rfl rfl ?_; intro w6 p6; have P6 := hid p6; clear p6) | fail)
  refine (same_cw (lb := [x]) (H5.out.next P6.out.fr).rd (new_rd1 P6.out) true (by simp)).mono ?_
  rintro e w7 ⟨rfl, f7⟩
  have H7 := hid (HF.out.thenNo (P6.out.fr.thenNo f7))
  clear f7
  go_wp2_with (first | (go_at_call 10; refine (add_nil _ _ _).mono ?_; rintro e w' ⟨rfl, rfl⟩) | (go_at_call 11; refine (cut_nil _ _ _).mono ?_; rintro e w' ⟨rfl, rfl⟩) | (go_at_call 21; refine (has_nil _ _ _).mono ?_; rintro e w' ⟨rfl, rfl⟩) | (go_at_call 13; refine (walk_nil _ _).mono ?_; rintro e w' ⟨rfl, rfl⟩) | (go_at_call 14; refine (back_nil _ _).mono ?_; rintro e w' ⟨rfl, rfl⟩) | (go_at_call 20; refine (len_nil _).mono ?_; rintro e w' ⟨rfl, rfl⟩) | (go_at_call 16; refine (known_any _).mono ?_; rintro e w8 ⟨rfl, f8⟩; have H8 := hid (H7.out.thenNo f8); clear f8))
  go_ret
  exact ⟨rfl, H8.out⟩
end Go.Proofs.Ytdoapfgcjmkfhaa
