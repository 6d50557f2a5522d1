/- Versions: slices.IndexFunc, slices.DeleteFunc; the cell: Undo. -/
import Derived.Test.YtofjbigojbnmfaaGreatDoorCellW
namespace Go.Lig
open Go.RowKit
/-- clear on a part of a row of elements of any size -/
theorem run_clear_rows {P : Program} (w : World) (t e ty : TypeId) (i : TypeInfo) (z : Value) (ht : P.underlying t = some (.slice e)) (hi : P.info? e = some i) (hz : i.zero = some z) (g off n c : Nat) (hn : 0 < n) (cur : Array Value) (hg : w.heap[g]? = some (.cells cur e (0, 0)))
    (hfit : off + n * z.cells.size ≤ cur.size) (h1 : ∀ v ∈ z.cells, v.oneCell' = true) (h0 : 0 < z.cells.size) :
    (Builtin.clear_ #[t] ty #[.slice (some ⟨g, off, none⟩) n c]).run P w = .ok (.tuple #[]) (w.setRow g (cur.toList.take off ++ (Builtin.zeroCells z.cells n).toList ++ cur.toList.drop (off + n * z.cells.size)).toArray) := by
  have hl : (Builtin.zeroCells z.cells n).toList.length = n * z.cells.size := by simp [Builtin.zeroCells]
  have hst := run_storeCells_at P g off e (Builtin.zeroCells z.cells n).toList 0 cur w hg (by rw [hl]; simpa using hfit) (by
    intro v hv
    simp only [Builtin.zeroCells, Array.toList_map, List.mem_map, Array.mem_toList_iff, Array.mem_range] at hv
    obtain ⟨k, hk, rfl⟩ := hv
    have hlt : k % z.cells.size < z.cells.size := Nat.mod_lt _ h0
    rw [getElem!_pos z.cells _ hlt]
    exact h1 _ (Array.getElem_mem hlt))
  rw [hl] at hst
  simp only [Nat.add_zero] at hst
  obtain ⟨m, rfl⟩ : ∃ m, n = m + 1 := ⟨n - 1, by omega⟩
  simp [Builtin.clear_, run_underlying ht, zeroValue, typeInfo, hi, hz, hst]
theorem wpList_clearRows {P : Program} {ops : Array Oper} {rest : List Oper} {o : Oper} {a : Act} {w : World} {Q : Exit → Act → World → Prop} (hgd : o.guard = none) (x : Operand) (t e : TypeId) (ho : o.op = .call { callee := .builtin .clear, args := #[x], argTypes := #[t] }) (z : Value) (size bytes : Nat)
    (ht : P.underlying t = some (.slice e)) (hinfo : (P.info? e).map (fun i => (i.zero, i.size, i.bytes)) = some (some z, size, bytes)) (hzs : z.cells.size = size) (h0 : 0 < size) (h1 : ∀ v ∈ z.cells, v.oneCell' = true) (g off n c : Nat) (hx : a.eval x = .slice (some ⟨g, off, none⟩) n c) (hn : 0 < n)
    (cur : Array Value) (hg : w.heap[g]? = some (.cells cur e (0, 0))) (hfit : off + n * size ≤ cur.size)
    (h : ∀ w' zs, zs.length = n * size → Put g (cur.toList.take off ++ zs ++ cur.toList.drop (off + n * size)).toArray e w w' → wpList P ops Q rest (a.put o.dst (.tuple #[])) w') : wpList P ops Q (o :: rest) a w := by
  obtain ⟨i, hi, hz, hsize, hby⟩ := info_parts hinfo
  subst hzs
  have hr := run_clear_rows w t e o.type i z ht hi hz g off n c hn cur hg hfit h1 h0
  refine wpList_run hgd (v := .tuple #[]) ?_ (h _ (Builtin.zeroCells z.cells n).toList (by simp [Builtin.zeroCells]) (Put.row hg))
  simp [execOp, ho, resolve, invoke, builtin, hx, hr, Result.andThen]
theorem owns_cut {w w' : World} {base : Nat} {e : TypeId} {size g c n q : Nat} {xs zs : List Value} (h : w.ownsRow base e size (.slice (some ⟨g, 0, none⟩) n c) n xs) {cur : Array Value} (hg : w.heap[g]? = some (.cells cur e (0, 0))) (hq : q ≤ n) (hz : zs.length = (n - q) * size)
    (p : Put g (cur.toList.take (q * size) ++ zs ++ cur.toList.drop (q * size + (n - q) * size)).toArray e w w') : w'.ownsRow base e size (.slice (some ⟨g, 0, none⟩) q c) q (xs.take (q * size)) := by
  obtain ⟨hl, ⟨e', _⟩ | ⟨g', cap, cur', e', hb, hg', hnc, hcm, hcs, ht⟩⟩ := h
  · cases e'
  · simp only [Value.slice.injEq, Option.some.injEq, Addr.mk.injEq, and_true, true_and] at e'
    obtain ⟨rfl, rfl⟩ := e'
    rw [hg] at hg'
    obtain rfl : cur = cur' := by simpa using hg'
    have k1 : q * size + (n - q) * size = n * size := by rw [← Nat.add_mul]; congr 1; omega
    have k2 : n * size ≤ c * size := Nat.mul_le_mul_right _ hnc
    have k3 : q * size ≤ n * size := Nat.mul_le_mul_right _ hq
    have hcl : cur.toList.length = c * size := by simpa using hcs
    refine ⟨by rw [List.length_take, hl]; omega, .inr ⟨g, c, _, rfl, hb, p.at_, by omega, hcm, ?_, ?_⟩⟩
    · simp [hz]
      omega
    · rw [← ht]
      simp only []
      rw [List.append_assoc, List.take_append_of_le_length (by simp; omega), List.take_take, List.take_take, Nat.min_self, Nat.min_eq_left k3]
theorem findIdx_none {α : Type} {p : α → Bool} {L : List α} (h : ∀ y ∈ L, p y = false) : L.filter (fun y => !p y) = L := List.filter_eq_self.2 (fun y hy => by simp [h y hy])
end Go.Lig
namespace Go.Proofs.YtofjbigojbnmfaaGreatDoor
open Go.RowKit Go.Lig

theorem undo1_any (w : World) (y : Ver NodeV) (t : Int) (b : Nat) (hb : w.cell? ⟨b, 0, none⟩ = some (.int .i64 t)) :
    Calls Tryz.prog 96 #[.agg #[.int .i64 y.by_, .slice y.v.l.a y.v.l.n y.v.l.c, .slice y.v.p.a y.v.p.n y.v.p.c, .bool y.gone], .pointer (some ⟨b, 0, none⟩)] w fun e w' => e = .returned (.bool (y.by_ == t)) ∧ Fr No w w' := by
  have hlt : b < w.heap.size := World.block_lt_of_cell? w _ hb
  go_enter Tryz.func96, Tryz.ntmps96
  go_wp2
  go_ret
  exact ⟨rfl, (Fr.refl No w).alloc _⟩
/-- where p holds first -/
def firstAt (p : Ver NodeV → Bool) (L : List (Ver NodeV)) : Int := match L.findIdx? p with
  | some j => j
  | none => -1
set_option maxHeartbeats 2000000 in
theorem idxv_any (w : World) (a : Option Addr) (g cap : Nat) (L : List (Ver NodeV)) (ha : 0 < L.length → a = some ⟨g, 0, none⟩) (hs : L.length ≤ 1000000) (hc : ∀ W, Fr No w W → ∀ j y, L[j]? = some y → NcAt W g j y) (cf : Nat) (clb : Array Value) (p : Ver NodeV → Bool)
    (hcf : ∀ args w, (callFunc cf args).run Tryz.prog w = .ok (.enter cf args) w)
    (hp : ∀ W y, Fr No w W → Calls Tryz.prog cf (#[.agg #[.int .i64 y.by_, .slice y.v.l.a y.v.l.n y.v.l.c, .slice y.v.p.a y.v.p.n y.v.p.c, .bool y.gone]] ++ clb) W fun e W' => e = .returned (.bool (p y)) ∧ Fr No W W') :
    Calls Tryz.prog 152 #[.slice a L.length cap, .func (.func cf) #[] clb] w fun e w' => ∃ i : Int, e = .returned (.int .i64 i) ∧ Fr No w w' ∧ ((i = -1 ∧ ∀ y ∈ L, p y = false) ∨ ∃ j : Nat, i = j ∧ j < L.length ∧ (∃ y, L[j]? = some y ∧ p y = true) ∧ ∀ k y, k < j → L[k]? = some y → p y = false) := by
  have HC := hid hc
  have HP := hid hp
  have HCF := hid hcf
  have HA := hid ha
  clear hc hp hcf ha
  go_enter Tryz.func152, Tryz.ntmps152
  go_wp2_with fail
  generalize hLn : L.length = n at *
  go_loopw [8] (fun vi wr => ∃ i : Nat, i ≤ n ∧ vi = .int .i64 (i : Int) ∧ Hid (Fr No w wr ∧ ∀ k y, k < i → L[k]? = some y → p y = false)) (fun vi _ => n - (intOf vi).toNat)
  case atStart => exact ⟨0, Nat.zero_le _, rfl, Fr.refl _ _, fun k y hk => absurd hk (Nat.not_lt_zero _)⟩
  case round =>
    obtain ⟨i, hi, rfl, HF⟩ := hrel
    by_cases hlt : i < n
    · obtain ⟨y, hy⟩ : ∃ y, L[i]? = some y := ⟨_, List.getElem?_eq_getElem (by omega)⟩
      obtain rfl := HA.out (by omega)
      obtain ⟨y0, y1, y2, y3⟩ := HC.out wr HF.out.1 i y hy
      have HY := hid hy
      clear hy
      cases hpy : p y with
      | false =>
        go_wp2_with (rw [HCF.out, Oper.upon_enter]; refine (HP.out wr y HF.out.1).mono ?_; rintro e W' ⟨rfl, f⟩; rw [hpy]; have F := hid f; clear f)
        go_roundw
        case rel => exact ⟨i + 1, by omega, by go_num, HF.out.1.thenNo F.out, fun k z hk hz => by
          rcases Nat.lt_succ_iff_lt_or_eq.1 hk with h | rfl
          · exact HF.out.2 k z h hz
          · rw [HY.out] at hz; obtain rfl := Option.some.inj hz; exact hpy⟩
        case measure => simp [intOf]; omega
      | true =>
        go_wp2_with (rw [HCF.out, Oper.upon_enter]; refine (HP.out wr y HF.out.1).mono ?_; rintro e W' ⟨rfl, f⟩; rw [hpy]; have F := hid f; clear f)
        go_ret
        exact ⟨_, rfl, HF.out.1.thenNo F.out, .inr ⟨i, rfl, by omega, ⟨y, HY.out, hpy⟩, HF.out.2⟩⟩
    · go_wp2_with fail
      go_ret
      refine ⟨_, rfl, HF.out.1, .inl ⟨rfl, fun y hy => ?_⟩⟩
      obtain ⟨k, hk⟩ := List.getElem?_of_mem hy
      exact HF.out.2 k y (by have := (List.getElem?_eq_some_iff.1 hk).1; omega) hk
end Go.Proofs.YtofjbigojbnmfaaGreatDoor
