/- The clock: Count. -/
import Derived.Test.YtofjbigojbnmfaaGreatDoorClk4
namespace Go.Proofs.YtofjbigojbnmfaaGreatDoor
open Go.RowKit Go.Lig

theorem underTx : Tryz.prog.underlying 130 = some (Tryz.prog.underlying 130).get! := by kernel_rfl
theorem sizeTx : (Tryz.prog.info? 130).map (·.size) = some 3 := by kernel_rfl
theorem infoTx3 : (Tryz.prog.info? 130).map (fun i => (i.zero, i.size, i.bytes)) = some (some (.agg #[.int .i64 0, .int .i64 0, .int .i64 0]), 3, 24) := by kernel_rfl
def cntTo (l : List Tx) (i : Nat) : Nat := ((l.take i).filter fun x => x.state == 0).length
theorem cnt_step {l : List Tx} {i : Nat} {x : Tx} (h : l[i]? = some x) : cntTo l (i + 1) = cntTo l i + if x.state = 0 then 1 else 0 := by
  unfold cntTo
  rw [List.take_add_one, h, Option.toList_some, List.filter_append, List.length_append]
  by_cases e : x.state = 0 <;> simp [e]
theorem cnt_le (l : List Tx) (i : Nat) : cntTo l i ≤ i := by
  unfold cntTo
  have h1 := List.length_filter_le (fun x : Tx => x.state == 0) (l.take i)
  have h2 := List.length_take_le i l
  omega
theorem tx_src {w : World} {x : Tx} {g o : Nat} (h0 : w.cell? ⟨g, o, none⟩ = some (.int .i64 x.state)) (h1 : w.cell? ⟨g, o + 1, none⟩ = some (.int .i64 x.mark)) (h2 : w.cell? ⟨g, o + 2, none⟩ = some (.int .i64 x.commit)) :
    ∀ j u, (tcell x)[j]? = some u → w.cell? ((⟨g, o, none⟩ : Addr).add j) = some u := fun j u hj => by
  have hjl : j < 3 := (List.getElem?_eq_some_iff.1 hj).1
  rw [Addr.add_mid]
  match j, hjl with
  | 0, _ => exact h0.trans hj
  | 1, _ => exact h1.trans hj
  | 2, _ => exact h2.trans hj
theorem ClkRow.frame {w w' : World} {c g : Nat} {K : Ck} (h : ClkRow w c g K) (hf : Fr No w w') : ClkRow w' c g K := by
  obtain ⟨a, n, h1, h2, h3, h4⟩ := h.ex
  exact ⟨a, n, hf.keep h1 (fun e => e), fd_owns h2 hf, h3, h4⟩
set_option maxHeartbeats 1000000 in
theorem count_any (w : World) (c g : Nat) (K : Ck) (h : ClkRow w c g K) (hs : K.l.length ≤ 1000000) :
    Calls Tryz.prog 71 #[.pointer (some ⟨c, 0, none⟩)] w fun e w' => e = .returned (.int .i64 (K.count : Int)) ∧ Fr No w w' := by
  obtain ⟨a, n, h1, h2, h3, h4⟩ := id h.ex
  obtain ⟨c0, c1⟩ := cells2 h1
  have H := hid (⟨h, h3⟩ : _ ∧ _)
  clear h h1 h2 h3 h4 c1
  go_enter Tryz.func71, Tryz.ntmps71
  go_wp2
  go_loopw [3, 13] (fun vn vi wr => ∃ i : Nat, i ≤ K.l.length ∧ vn = .int .i64 (cntTo K.l i : Int) ∧ vi = .int .i64 (i : Int) ∧ Hid (Fr No w wr)) (fun _ vi _ => K.l.length - (intOf vi).toNat)
  case atStart => exact ⟨0, Nat.zero_le _, rfl, rfl, Fr.refl _ _⟩
  case round =>
    obtain ⟨i, hi, rfl, rfl, hF⟩ := hrel
    have hcl := cnt_le K.l i
    by_cases hlt : i < K.l.length
    · obtain ⟨x, hx⟩ : ∃ x, K.l[i]? = some x := ⟨_, List.getElem?_eq_getElem hlt⟩
      obtain rfl := H.out.2 (by omega)
      have htx : K.tx ((i : Int) + 1) = some x := by unfold Ck.tx; rw [if_pos (by omega), show ((i : Int) + 1 - 1).toNat = i by omega]; exact hx
      obtain ⟨y0, y1, y2⟩ := (H.out.1.frame hF.out).cell htx
      rw [show ((i : Int) + 1 - 1).toNat = i by omega] at y0 y1 y2
      have HC := hid (tx_src y0 y1 y2)
      have HS := hid (cnt_step hx)
      clear hx htx y0 y1 y2
      by_cases hz : x.state = 0
      · have HS2 : Hid (cntTo K.l (i + 1) = cntTo K.l i + 1) := hid (by rw [HS.out, if_pos hz])
        have n1 : ((x.state : Int) == 0) = true := by rw [beq_iff_eq]; exact hz
        clear hz
        go_wp2_with (first | (refine wpList_load_seg rfl 130 (.tmp 15) rfl _ underTx (by kernel_rfl) (tcell x) sizeTx ⟨g, i * 3, none⟩ rfl HC.out ?_) | (refine wpList_local rfl rfl 130 5 (.tmp 16) rfl rfl rfl _ 3 24 infoTx3 rfl (fun _ => rfl) (.agg (tcell x).toArray) (fun _ => rfl) (tcell x) rfl rfl (by simp [tcell, Value.oneCell']) ?_; intro w2 hB f2 z2; obtain ⟨B0, B1, B2⟩ := cells3 hB; have H2 := hid f2; clear hB f2 z2))
        go_roundw
        case rel => exact ⟨i + 1, by omega, by rw [HS2.out]; go_num, by go_num, hF.out.thenNo H2.out⟩
        case measure => simp [intOf]; omega
      · have HS2 : Hid (cntTo K.l (i + 1) = cntTo K.l i) := hid (by rw [HS.out, if_neg hz]; rfl)
        have n1 : ((x.state : Int) == 0) = false := by rw [beq_eq_false_iff_ne]; exact hz
        clear hz
        go_wp2_with (first | (refine wpList_load_seg rfl 130 (.tmp 15) rfl _ underTx (by kernel_rfl) (tcell x) sizeTx ⟨g, i * 3, none⟩ rfl HC.out ?_) | (refine wpList_local rfl rfl 130 5 (.tmp 16) rfl rfl rfl _ 3 24 infoTx3 rfl (fun _ => rfl) (.agg (tcell x).toArray) (fun _ => rfl) (tcell x) rfl rfl (by simp [tcell, Value.oneCell']) ?_; intro w2 hB f2 z2; obtain ⟨B0, B1, B2⟩ := cells3 hB; have H2 := hid f2; clear hB f2 z2))
        go_roundw
        case rel => exact ⟨i + 1, by omega, by rw [HS2.out], by go_num, hF.out.thenNo H2.out⟩
        case measure => simp [intOf]; omega
    · obtain rfl : i = K.l.length := by omega
      have HE : Hid (cntTo K.l K.l.length = K.count) := hid (by unfold cntTo Ck.count; rw [List.take_length])
      clear hlt
      go_wp2
      go_ret
      exact ⟨by rw [← HE.out]; rfl, hF.out⟩
end Go.Proofs.YtofjbigojbnmfaaGreatDoor
