/- A part of the proof: contracts of functions of the program, for the row's text. -/
import Derived.Test.YthadcdoepoglkaaGreatDoorJ33
import Derived.Test.YthadcdoepoglkaaGreatDoorJ24
namespace Go.Proofs.YthadcdoepoglkaaGreatDoor
open Go.RowKit Go.Lig
def delAll (X : List (ByteArray × List EntR)) (l : List IxR) : List (ByteArray × List EntR) := l.foldl (fun X y => delX X y.key y.x) X
theorem delAll_snoc (X : List (ByteArray × List EntR)) (l : List IxR) (y : IxR) : delAll X (l ++ [y]) = delX (delAll X l) y.key y.x := by
 unfold delAll
 rw [List.foldl_append]
 rfl
def findsX (M : PSt) (k : Nat) : List (ByteArray × List EntR) × List IxR := runV ((k : Int) + 1) (delAll M.X (M.Y[k]?.getD []), []) (M.N[k]?.getD [])
def findsM (M : PSt) (k : Nat) : PSt := { M with X := (findsX M k).1, Y := M.Y.set k (findsX M k).2 }
set_option maxRecDepth 100000 in
set_option maxHeartbeats 4000000 in
theorem finds_any {M : PSt} {k : Nat} (l : List IxR) (hl : M.Y[k]? = some l) (L : List (Ver NodeD)) (hL : M.N[k]? = some L) (F : Nat) (hF : F + l.length + 2 * costV L < 999990) : FindsTo M (findsM M k) F (F + l.length + 2 * costV L) k := by
 intro w ρ s A h
 obtain ⟨k2, k3⟩ := heap2 w (.cells #[.pointer (some ⟨s, 0, none⟩)] 25) (.cells #[.int .i64 ((k : Int) + 1)] 3)
 have hf : Fr No w ((w.alloc (.cells #[.pointer (some ⟨s, 0, none⟩)] 25)).alloc (.cells #[.int .i64 ((k : Int) + 1)] 3)) := ((Fr.refl No w).alloc _).alloc _
 have hsl := h.lt
 have hkN : k < M.N.length := (List.getElem?_eq_some_iff.1 hL).1
 have hkY : k < M.Y.length := (List.getElem?_eq_some_iff.1 hl).1
 have s6 := h.cells.2.2.2.2.2.2.1
 have hsT : ¬ At ρ .index s := fun E => by
  have h1 : At ρ .root s := (h.at_ .root).1
  unfold At at E h1
  rw [h1] at E
  cases E
 have HB0 := hid (⟨h, s6, hsT⟩ : _ ∧ _ ∧ _)
 go_enter Tryz.func42, Tryz.ntmps42
 go_wp2_with fail
 generalize (w.alloc (.cells #[.pointer (some ⟨s, 0, none⟩)] 25)).alloc (.cells #[.int .i64 ((k : Int) + 1)] 3) = w2 at *
 have h2 := h.frame hf
 have x7 := h2.cells.2.2.2.2.2.2.2
 obtain ⟨he, hyl⟩ := h.at_ .erow
 obtain ⟨hs, hsl1, hso, hsr⟩ := he.ex
 have hone := he.one l (List.mem_of_getElem? hl)
 obtain ⟨ae, ce, hev⟩ := ownsRow_slice hso
 rw [hev] at x7 hso
 replace hso := fd_owns hso hf
 obtain ⟨ge, cur, rfl, -, hge, hnc, hcs, hct⟩ := owns_at hso (by omega)
 obtain ⟨hv, hhv⟩ : ∃ hv, hs[k]? = some hv := ⟨_, List.getElem?_eq_getElem (by omega)⟩
 have hr := hsr k hv l hhv hl
 obtain ⟨va, vc, rfl, -⟩ := rd_len hr.rd
 have xk : w2.cell? ⟨ge, k, none⟩ = some (.slice va l.length vc) := owns_cell hso rfl hhv
 have c2 := cells1 k2
 have c3 := cells1 k3
 have n2 : IntKind.i64.wrap (k : Int) = (k : Int) := IntWalk.i64_in _ (by have := h.nlen; omega)
 have hgeT : At ρ .erow ge := he.blk ge (by rw [hev]; rfl)
 have hcz : k < cur.size := by have : cur.size = ce * 1 := hcs; omega
 obtain ⟨Kp, hKp⟩ : ∃ Kp : Nat → Obj → Prop, Kp = fun b o => (b = w.heap.size ∧ o = .cells #[.pointer (some ⟨s, 0, none⟩)] 25 (0, 0)) ∨ (b = w.heap.size + 1 ∧ o = .cells #[.int .i64 ((k : Int) + 1)] 3 (0, 0)) := ⟨_, rfl⟩
 have hL0 : LSt Kp w (At ρ .index) A.m w2 M.X F := by
  have h0 : LSt (fun _ _ => False) w (At ρ .index) A.m w M.X F := ⟨At ρ .index, h.idx, Fr.refl _ _, Grown.refl _ _, h.bdp .index, fun _ _ e => e.elim⟩
  refine h0.keepNew hf (fun b o hk => .inr ?_)
  rw [hKp] at hk
  rcases hk with ⟨rfl, rfl⟩ | ⟨rfl, rfl⟩
  ·exact ⟨k2, Nat.le_refl _⟩
  ·exact ⟨k3, Nat.le_succ _⟩
 have HH := hid (⟨h2, hf, hev, hyl, hge, k2, k3⟩ : _ ∧ _ ∧ _ ∧ _ ∧ _ ∧ _ ∧ _)
 have HC := hid (⟨hcz, hgeT⟩ : _ ∧ _)
 have HR := hid (⟨hr, hone⟩ : _ ∧ _)
 have HK := hid hKp
 have HL0 := hid hL0
 have HFb := hid hF
 generalize hln : l.length = nl at *
 have HLn := hid hln
 have hn : M.Y.length = M.Y.length := rfl
 generalize hNe : M.Y.length = n at hkY x7 hnc hn
 have HNe := hid hNe
 clear h h2 hf hev hso hge k2 k3 hct hNe hn hcs hsr he hsl1 hr hyl hgeT hcz hhv hone hKp hL0 hln s6 hsT hF
 refine wp_region_sched (by kernel_rfl) 10 [] [0, 1, 2, 3, 4, 5, 6, 7, 8, 9] (AgC [w.heap.size, w.heap.size + 1, s, ge] w2.drew) (by kernel_rfl) (AgC.refl _ _) ?_
 simp only [List.map_cons, List.map_nil, List.contains_cons, List.contains_nil, nth_zero, nth_succ, Nat.reduceBEq, Bool.or_false, Bool.or_true]
 repeat (refine sched_quiet (fun K hK => ?_); go_simp; refine hK _ ?_; clear hK K)
 refine sched_nil ?_
 go_wp2_with fail
 go_loopw [17] (fun vi wr => ∃ i : Nat, i ≤ nl ∧ vi = .int .i64 (i : Int) ∧ Hid (LSt Kp w (At ρ .index) A.m wr (delAll M.X (l.take i)) (F + i))) (fun vi _ => nl - (intOf vi).toNat)
 case atStart => exact ⟨0, Nat.zero_le _, rfl, HL0.out.frame (Fr.refl No w2).drew⟩
 case round =>
  obtain ⟨i, hi, rfl, HI⟩ := hrel
  have hnl : nl ≤ 1000000 := by have := HFb.out; omega
  by_cases hlt : i < nl
  ·obtain ⟨⟨yk, ⟨⟨vk, vb, vn, vf, vt⟩, vi⟩⟩, hy⟩ : ∃ y, l[i]? = some y := ⟨l[i]'(by have := HLn.out; omega), List.getElem?_eq_getElem _⟩
   have hrd := (HR.out.1.frame HI.out.fr (at_apart (by simp))).rd
   have hg : ∀ t, t < 7 → (l.flatMap ixcell)[i * 7 + t]? = (ixcell ⟨yk, ⟨⟨vk, vb, vn, vf, vt⟩, vi⟩⟩)[t]? := fun t ht => flat_get (f := ixcell) (m := 7) (fun _ => rfl) _ _ _ hy t ht
   obtain ⟨bl, ol, cl, el, hc0⟩ := hrd.at1 (k := i * 7) (u := .string yk) (by rw [← Nat.add_zero (i * 7), hg 0 (by decide)]; rfl)
   obtain ⟨rfl, -, rfl⟩ := Value.slice.inj el
   have cg : ∀ t u, t < 7 → (ixcell ⟨yk, ⟨⟨vk, vb, vn, vf, vt⟩, vi⟩⟩)[t]? = some u → wr.cell? ⟨bl, ol + i * 7 + t, none⟩ = some u := fun t u ht hu => by
    obtain ⟨bl', ol', cl', el', hc'⟩ := hrd.at1 (k := i * 7 + t) (u := u) (by rw [hg t ht]; exact hu)
    obtain ⟨e1, -, -⟩ := Value.slice.inj el'
    simp only [Option.some.injEq, Addr.mk.injEq, and_true] at e1
    obtain ⟨rfl, rfl⟩ := e1
    rw [Nat.add_assoc]
    exact hc' _ (Fr.refl _ _)
   have y0 := hc0 wr (Fr.refl _ _)
   have y1 := cg 1 _ (by decide) rfl
   have y2 := cg 2 _ (by decide) rfl
   have y3 := cg 3 _ (by decide) rfl
   have y4 := cg 4 _ (by decide) rfl
   have y5 := cg 5 _ (by decide) rfl
   have y6 := cg 6 _ (by decide) rfl
   have hbe := heap1 wr (.cells #[.string yk, .int .i64 vk, .bool vb, .int .i64 vn, .float .f64 vf, .string vt, .int .i64 vi] 167)
   have hfe : Fr No wr (wr.alloc (.cells #[.string yk, .int .i64 vk, .bool vb, .int .i64 vn, .float .f64 vf, .string vt, .int .i64 vi] 167)) := (Fr.refl No wr).alloc _
   have kb : Kp w.heap.size (.cells #[.pointer (some ⟨s, 0, none⟩)] 25 (0, 0)) := by rw [HK.out]; exact .inl ⟨rfl, rfl⟩
   obtain ⟨Kq, hKq⟩ : ∃ Kq : Nat → Obj → Prop, Kq = fun b o => Kp b o ∨ (b = wr.heap.size ∧ o = .cells #[.string yk, .int .i64 vk, .bool vb, .int .i64 vn, .float .f64 vf, .string vt, .int .i64 vi] 167 (0, 0)) := ⟨_, rfl⟩
   have hst : LSt Kq w (At ρ .index) A.m _ (delAll M.X (l.take i)) (F + i) := HI.out.keepNew hfe (Kq := Kq) (fun b o hk => by
    rw [hKq] at hk
    rcases hk with hk | ⟨rfl, rfl⟩
    ·exact .inl hk
    ·exact .inr ⟨hbe, Nat.le_refl _⟩)
   have hq1 : Kq w.heap.size (.cells #[.pointer (some ⟨s, 0, none⟩)] 25 (0, 0)) := by rw [hKq]; exact .inl kb
   have hq2 : Kq wr.heap.size (.cells #[.string yk, .int .i64 vk, .bool vb, .int .i64 vn, .float .f64 vf, .string vt, .int .i64 vi] 167 (0, 0)) := by rw [hKq]; exact .inr ⟨rfl, rfl⟩
   have hqp : ∀ b o, Kp b o → Kq b o := fun b o hk => by rw [hKq]; exact .inl hk
   have HQ := hid (⟨hst, hq1, hq2, hqp⟩ : _ ∧ _ ∧ _ ∧ _)
   have hns : delAll M.X (l.take (i + 1)) = delX (delAll M.X (l.take i)) yk ⟨⟨vk, vb, vn, vf, vt⟩, vi⟩ := by rw [takeSnoc hy, delAll_snoc]
   have HNS := hid hns
   have hok := HR.out.2 _ (List.mem_of_getElem? hy)
   have HOK := hid hok
   clear hrd hg hc0 el cg kb hKq hst hq1 hq2 hqp hns hok hy hfe hbe
   go_wp2_with fail
   generalize wr.alloc (.cells #[.string yk, .int .i64 vk, .bool vb, .int .i64 vn, .float .f64 vf, .string vt, .int .i64 vi] 167) = w3 at *
   generalize wr.heap.size = be at *
   clear y0 y1 y2 y3 y4 y5 y6 c2 c3 x7 xk
   have x2 := cells1 (HQ.out.1.kept HQ.out.2.1)
   obtain ⟨z0, z1, z2, z3, z4, z5, z6⟩ := cells7 (HQ.out.1.kept HQ.out.2.2.1)
   refine wp_region_sched (by kernel_rfl) 7 [3, 6] [0, 1, 2, 4, 5, 3, 6] (AgC [w.heap.size, be] w3.drew) (by kernel_rfl) (AgC.refl _ _) ?_
   simp only [List.map_cons, List.map_nil, List.contains_cons, List.contains_nil, nth_zero, nth_succ, Nat.reduceBEq, Bool.or_false, Bool.or_true]
   repeat (refine sched_quiet (fun K hK => ?_); go_simp; refine hK _ ?_; clear hK K)
   have hcl := ∀ u : World, True
   refine sched_call (by first | rfl | go_simp) 96 #[.pointer (some ⟨s, 0, none⟩), .string yk] (by first | kernel_rfl | go_simp) (LSt.tree (HQ.out.1.frame (Fr.refl No w3).drew) (by have := HFb.out; omega) HB0.out.2.1 HB0.out.2.2 yk HOK.out.1 ⟨⟨vk, vb, vn, vf, vt⟩, vi⟩) ?_
   rintro e w4 ⟨tv, rfl, hk4, hdel⟩
   refine ⟨_, rfl, AgC.mk (fun b hb => ?_), ?_⟩
   ·rcases List.mem_cons.1 hb with rfl | hb
    ·rw [hk4 _ _ HQ.out.2.1]; exact (HQ.out.1.kept HQ.out.2.1).symm
    ·rw [List.mem_singleton.1 hb, hk4 _ _ HQ.out.2.2.1]; exact (HQ.out.1.kept HQ.out.2.2.1).symm
   repeat (refine sched_quiet (fun K hK => ?_); go_simp; refine hK _ ?_; clear hK K)
   refine sched_call (by first | rfl | go_simp) 97 #[tv, entA ⟨⟨vk, vb, vn, vf, vt⟩, vi⟩] (by first | kernel_rfl | go_simp) hdel ?_
   rintro e w5 ⟨⟨rb, rfl⟩, h5⟩
   refine ⟨_, rfl, AgC.mk (fun b hb => ?_), ?_⟩
   ·rcases List.mem_cons.1 hb with rfl | hb
    ·rw [h5.kept HQ.out.2.1]; exact (HQ.out.1.kept HQ.out.2.1).symm
    ·rw [List.mem_singleton.1 hb, h5.kept HQ.out.2.2.1]; exact (HQ.out.1.kept HQ.out.2.2.1).symm
   have H5 := hid h5
   clear h5 hdel hk4 x2 z0 z1 z2 z3 z4 z5 z6 hcl
   refine sched_nil ?_
   go_wp2_with fail
   go_roundw
   case rel => exact ⟨i + 1, by omega, by go_num, by rw [HNS.out]; exact H5.out.keepNew (Fr.refl No _) (fun b o hk => .inl (HQ.out.2.2.2 b o hk))⟩
   case measure => simp [intOf]; omega
  ·have hin : i = nl := by omega
   subst hin
   have htk : l.take i = l := List.take_of_length_le (by rw [HLn.out]; exact Nat.le_refl _)
   rw [htk] at HI
   have h0 := HB0.out.1
   obtain ⟨H, hc, hvs⟩ := (h0.ncell hL).ex
   obtain ⟨gx, hrx, -⟩ := hc.row
   have kb2 : Kp w.heap.size (.cells #[.pointer (some ⟨s, 0, none⟩)] 25 (0, 0)) := by rw [HK.out]; exact .inl ⟨rfl, rfl⟩
   have kb3 : Kp (w.heap.size + 1) (.cells #[.int .i64 ((k : Int) + 1)] 3 (0, 0)) := by rw [HK.out]; exact .inr ⟨rfl, rfl⟩
   have c2' := cells1 (HI.out.kept kb2)
   have c3' := cells1 (HI.out.kept kb3)
   have l2 := lt_of_block (HI.out.kept kb2)
   have l3 := lt_of_block (HI.out.kept kb3)
   have HX := hid (⟨hc, hvs, hrx, kb2, kb3, ndP_some A M k hkN⟩ : _ ∧ _ ∧ _ ∧ _ ∧ _ ∧ _)
   have HLe := hid (⟨l2, l3⟩ : _ ∧ _)
   clear hc hvs hrx kb2 kb3 htk hi hlt c2 c3 x7 xk h0
   go_wp2_with (first | (refine wpList_store1 rfl 170 (.tmp 7) (.tmp 29) rfl (wr.heap.size + 1) 0 rfl _ _ (.func (.func 98) #[] #[.pointer (some ⟨w.heap.size + 1, 0, none⟩), .pointer (some ⟨w.heap.size, 0, none⟩), .pointer (some ⟨wr.heap.size, 0, none⟩)]) rfl (by kernel_rfl) (heap2 wr _ _).2 (by simp) rfl ?_; intro w5 p5; have P5 := hid (⟨(((Fr.refl No wr).alloc _).alloc _).fresh p5.fr (fun k e => by omega), p5.keep (heap2 wr _ _).1 (by omega), p5.at_⟩ : Fr No wr w5 ∧ w5.heap[wr.heap.size]? = some (.cells #[.slice none 0 0] 163 (0, 0)) ∧ _); clear p5; have d2 := cells1 (P5.out.1.keep (HI.out.kept HX.out.2.2.2.1) (fun e => e)); have d3 := cells1 (P5.out.1.keep (HI.out.kept HX.out.2.2.2.2.1) (fun e => e))))
   have hz5 := P5.out.1.size
   have h5 : FSt (fun b o => b = wr.heap.size + 1 ∧ o = .cells #[.func (.func 98) #[] #[.pointer (some ⟨w.heap.size + 1, 0, none⟩), .pointer (some ⟨w.heap.size, 0, none⟩), .pointer (some ⟨wr.heap.size, 0, none⟩)]] 170 (0, 0)) w (At ρ .index) s A.m w.heap.size (w.heap.size + 1) wr.heap.size ((k : Int) + 1) w5 (delAll M.X l) (F + i) [] :=
    fst_of_lst HI.out P5.out.1 HX.out.2.2.2.1 HX.out.2.2.2.2.1 P5.out.2.1 (Nat.le_refl _) (fun b o hk => by
     obtain ⟨rfl, rfl⟩ := hk
     exact ⟨by simpa using P5.out.2.2, Nat.le_succ _, by omega⟩)
   obtain ⟨Kf, hKf⟩ : ∃ Kf : Nat → Obj → Prop, Kf = fun b o => b = wr.heap.size + 1 ∧ o = .cells #[.func (.func 98) #[] #[.pointer (some ⟨w.heap.size + 1, 0, none⟩), .pointer (some ⟨w.heap.size, 0, none⟩), .pointer (some ⟨wr.heap.size, 0, none⟩)]] 170 (0, 0) := ⟨_, rfl⟩
   rw [← hKf] at h5
   have k7 : Kf (wr.heap.size + 1) (.cells #[.func (.func 98) #[] #[.pointer (some ⟨w.heap.size + 1, 0, none⟩), .pointer (some ⟨w.heap.size, 0, none⟩), .pointer (some ⟨wr.heap.size, 0, none⟩)]] 170 (0, 0)) := by rw [hKf]; exact ⟨rfl, rfl⟩
   have hB : FBase w (At ρ .index) s A.m w.heap.size (w.heap.size + 1) wr.heap.size := ⟨Nat.le_refl _, Nat.le_succ _, HI.out.fr.size, by have := HLe.out.1; omega, by have := HLe.out.2; omega, HB0.out.2.1, HB0.out.2.2, HB0.out.1.bdp .index⟩
   obtain ⟨ρ5, hs5, -⟩ := FSt.st HB0.out.1 (Nat.le_add_right F i) h5
   have hLl : H.length = L.length := HX.out.2.1.len
   have hcap : ∀ j, 2 * costV (L.take j) ≤ 2 * costV L := fun j => Nat.mul_le_mul_left 2 (costV_take L j)
   have hEach := hid (each_any w5 (A.x k) gx H HX.out.1.small 102 #[.pointer (some ⟨wr.heap.size + 1, 0, none⟩)] enter_finds2 (fun j W => FSt Kf w (At ρ .index) s A.m w.heap.size (w.heap.size + 1) wr.heap.size ((k : Int) + 1) W (runV ((k : Int) + 1) (delAll M.X l, []) (L.take j)).1 (F + i + 2 * costV (L.take j)) (runV ((k : Int) + 1) (delAll M.X l, []) (L.take j)).2) h5 (fun _ _ _ h1 h2 => h1.frame h2) (fun _ W h1 => celrow_frame HX.out.1 HX.out.2.2.1 h1.fr (at_apart (by simp)))
    (fun j y W hy hg h1 => by
     obtain ⟨d, hd⟩ : ∃ d, L[j]? = some d := ⟨L[j]'(by have := (List.getElem?_eq_some_iff.1 hy).1; omega), List.getElem?_eq_getElem _⟩
     have hgd : d.gone = true := by rw [← (HX.out.2.1.at_ j y d hy hd).gone]; exact hg
     rw [takeSnoc hd, runV_snoc, hgd, if_pos rfl, costV_snoc]
     exact h1.more (by omega))
    (fun j y W hy hg h1 => by
     obtain ⟨d, hd⟩ : ∃ d, L[j]? = some d := ⟨L[j]'(by have := (List.getElem?_eq_some_iff.1 hy).1; omega), List.getElem?_eq_getElem _⟩
     have hvd := HX.out.2.1.at_ j y d hy hd
     have hgd : d.gone = false := by rw [← hvd.gone]; exact hg
     have hc1 := hcap (j + 1)
     have hc2 := HFb.out
     have hl1 := runV_len ((k : Int) + 1) (L.take j) (delAll M.X l, [])
     have hl2 := costV_take L j
     simp only [List.length_nil] at hl1
     rw [takeSnoc hd, costV_snoc] at hc1
     rw [takeSnoc hd, runV_snoc, hgd, costV_snoc]
     refine (finds2_any hB W _ _ _ h1 (wr.heap.size + 1) k7 y.v.l.a y.v.p.a y.v.l.n y.v.l.c y.v.p.n y.v.p.c d.v (At ρ .imm) hvd.v (at_apart (by simp)) (by omega) (by omega) (id_wf (by have := HB0.out.1.nlen; omega))).mono ?_
     rintro e W' ⟨rfl, h2⟩
     exact ⟨rfl, h2.more (by omega)⟩))
   have HF5 := hid (⟨hs5, hLl⟩ : _ ∧ _)
   clear h5 hKf k7 hB hs5 hLl hcap
   refine (node_any w5 ρ5 s A _ _ HF5.out.1 _).mono ?_
   rintro e w4 ⟨rfl, rfl⟩
   rw [show ndP A { M with X := delAll M.X l } ((k : Int) + 1) = ndP A M ((k : Int) + 1) from rfl, HX.out.2.2.2.2.2]
   go_wp2_with (go_at_call 101; refine hEach.out.mono ?_; rintro e w6 ⟨rfl, h6⟩; have H6 := hid h6; clear h6)
   have h6 := H6.out
   rw [HF5.out.2, List.take_length] at h6
   have hfx : findsX M k = runV ((k : Int) + 1) (delAll M.X l, []) L := by unfold findsX; rw [hl, hL]; rfl
   generalize hp : runV ((k : Int) + 1) (delAll M.X l, []) L = p at *
   have hoks : ∀ y ∈ p.2, OkI y := by
    rw [← hp]
    refine runV_ok (id_wf (by have := HB0.out.1.nlen; omega)) L _ (fun y hy => ?_) (fun y hy => by cases hy)
    obtain ⟨j, hj⟩ := List.getElem?_of_mem hy
    obtain ⟨u, hu⟩ : ∃ u, H[j]? = some u := ⟨H[j]'(by have := (List.getElem?_eq_some_iff.1 hj).1; have := HF5.out.2; omega), List.getElem?_eq_getElem _⟩
    have hv := HX.out.2.1.at_ j u y hu hj
    exact ⟨hv.v.ls, hv.v.ok⟩
   obtain ⟨T, row, i6, f6, g6, bd6, e2, e3, e6, o6, r6, t2, t3, t6, kp⟩ := h6.ex
   obtain ⟨av, cv, rfl⟩ := ownsRow_slice o6
   obtain ⟨hs6, hg6⟩ := ixto_st HB0.out.1 (show F ≤ F + i + 2 * costV L by omega) i6 f6 g6 bd6
   have hltg : ge < w.heap.size := HB0.out.1.bdp .erow ge HC.out.2
   have hge0 : w.heap[ge]? = some (.cells cur 163 (0, 0)) := (HH.out.2.1.block ge hltg (fun e => e)).symm.trans HH.out.2.2.2.2.1
   have hge6 := f6.keep hge0 (at_apart (by simp) ge HC.out.2)
   have y7 := hs6.cells.2.2.2.2.2.2.2
   rw [HH.out.2.2.1, HNe.out] at y7
   have c2 := cells1 e2
   have c3 := cells1 e3
   have c6 := cells1 e6
   have HS := hid (⟨hs6, hg6, o6, r6, hge6, bd6⟩ : _ ∧ _ ∧ _ ∧ _ ∧ _ ∧ _)
   have HP := hid (⟨hfx, hoks⟩ : _ ∧ _)
   generalize hb6 : wr.heap.size = b6 at *
   clear h6 hfx hoks i6 f6 g6 bd6 e2 e3 e6 o6 r6 t2 t3 t6 kp hs6 hg6 hge6 hge0 hltg c2' c3' d2 d3 H6 hEach
   refine wp_region_sched (by kernel_rfl) 8 [8] [0, 1, 2, 3, 4, 5, 6, 7, 8] (AgC [w.heap.size, w.heap.size + 1, s, ge, b6] w6.drew) (by kernel_rfl) (AgC.refl _ _) ?_
   simp only [List.map_cons, List.map_nil, List.contains_cons, List.contains_nil, nth_zero, nth_succ, Nat.reduceBEq, Bool.or_false, Bool.or_true]
   repeat (refine sched_quiet (fun K hK => ?_); go_simp; refine hK _ ?_; clear hK K)
   refine sched_loud (wpList_store1 rfl 163 (.tmp 42) (.tmp 41) rfl ge k rfl cur 163 (.slice av p.2.length cv) rfl (by kernel_rfl) HS.out.2.2.2.2.1 HC.out.1 rfl ?_)
   intro w7 p7
   have P7 := hid p7
   clear p7
   refine sched_last ?_
   refine sched_nil ?_
   go_wp2_with fail
   go_end0
   obtain ⟨hs6, hg6, o6, r6, hge6, bd6⟩ := HS.out
   have hJ : ∀ b, (Value.slice av p.2.length cv).ownBlock = some b → turn ρ .index T b = none ∧ b < w6.drew.heap.size := fun b hb => by
    refine ⟨?_, (o6.lt b hb).2⟩
    have h1 : ρ b = none := by
     rcases Option.eq_none_or_eq_some (ρ b) with e | ⟨x, e⟩
     ·exact e
     ·exact absurd (HB0.out.1.bound b (by rw [e]; simp)) (Nat.not_lt.2 (r6 b hb).2.1)
    unfold turn
    rw [if_neg (r6 b hb).1, h1]
    simp
   have h7 := (hs6.frame (Fr.refl No w6).drew).addFree hJ
   obtain ⟨ρ7, hρ7⟩ : ∃ ρ7, ρ7 = turn (turn ρ Pt.index T) Pt.imm (fun b => At (turn ρ Pt.index T) Pt.imm b ∨ (Value.slice av p.2.length cv).ownBlock = some b) := ⟨_, rfl⟩
   rw [← hρ7] at h7
   have hmm : ∀ b, (Value.slice av p.2.length cv).ownBlock = some b → At ρ7 .imm b := fun b hb => by rw [hρ7, at_turn_same]; exact .inr hb
   obtain ⟨he, hyl⟩ := h7.at_ .erow
   have hge2 : At ρ7 .erow ge := he.blk ge (by rw [HH.out.2.2.1]; rfl)
   rw [HH.out.2.2.1] at he
   have hfe : Fr (At ρ7 .erow) w6.drew w7 := P7.out.fr.mono (fun b _ e => by subst e; exact hge2)
   have hgn : ∀ b, (Value.slice av p.2.length cv).ownBlock = some b → ¬ b = ge := fun b hb e => by
    have h1 := hmm b hb
    rw [e] at h1
    exact at_apart (p := Pt.erow) (q := Pt.imm) (by simp) ge h1 hge2
   have o7 := P7.out.fr.owns (w := w6.drew) o6 hgn
   have hri : RdI w7 (At ρ7 .imm) (.slice av p.2.length cv) p.2.length 7 (p.2.flatMap ixcell) := ⟨Rd.of_owns o7 (fun u hu => ixcell_one hu), fun _ b hb => by
    rcases o7.2 with ⟨e0, _⟩ | ⟨g', c', cur', e0, _⟩
    ·obtain ⟨rfl, -, -⟩ := Value.slice.inj e0
     cases hb
    ·obtain ⟨rfl, -, -⟩ := Value.slice.inj e0
     exact hmm b hb⟩
   have he7 := EnAt.put (k := k) (l := p.2) (hv := .slice av p.2.length cv) he hge6 P7.out (fun b hb e => by subst e; exact at_apart (p := Pt.erow) (q := Pt.imm) (by simp) b hb hge2) (by have := HNe.out; omega) hri HP.out.2
   have hlen : (M.Y.set k p.2).length = M.Y.length := List.length_set
   rw [← hlen] at he7
   have t : Trn w6.drew w7 ρ7 .erow (At ρ7 .erow) := ⟨hfe, Grown.refl _ _, fun b hb => Nat.lt_of_lt_of_le (h7.rho hb) hfe.size⟩
   have hfm : findsM M k = { M with X := p.1, Y := M.Y.set k p.2 } := by unfold findsM; rw [HP.out.1]
   rw [hfm, HLn.out]
   have h8 := h7.upd (M' := { M with X := p.1, Y := M.Y.set k p.2 }) (A' := A) (F' := F + i + 2 * costV L) t (by simp) ⟨by rw [HH.out.2.2.1, ← hlen]; exact he7, by rw [hlen]; exact hyl⟩ (fun q hq R hr => by
    cases q with
    | erow => exact absurd rfl hq
    | _ => exact hr)
   refine ⟨rfl, _, h8, ⟨(hg6.fr.drew).trans P7.out.fr (fun b _ e => by subst e; exact at_own _ HC.out.2), fun b hb => ?_⟩⟩
   rcases own_turn (Grown.refl w6.drew (At ρ7 .erow)) b hb with h1 | h1
   ·rw [hρ7] at h1
    rcases own_turn_free h1 with h2 | h2
    ·exact hg6.gr b h2
    ·exact .inr (r6 b h2).2.1
   ·exact .inr (Nat.le_trans hg6.fr.size h1)
end Go.Proofs.YthadcdoepoglkaaGreatDoor
namespace Go.Proofs.YthadcdoepoglkaaGreatDoor
open Go.RowKit Go.Lig
set_option maxRecDepth 100000 in
set_option maxHeartbeats 1000000 in
theorem addedge_ok (w : World) (ρ : Nat → Option Pt) (s : Nat) (A : Ad) (M : PSt) (F : Nat) (h : StAt w ρ s A M F) (t : Int) (ef et : Int) (ey : ByteArray) (ew : Nat) (hl : M.K.live t = true)
  (hi : ∀ u, Fr No w u → Calls Tryz.prog 57 #[.agg #[.int .i64 ef, .int .i64 et, .string ey, .float .f64 ew]] u fun e w' => e = .returned (.bool true) ∧ Fr No u w')
  (hrf : (readN M t ef).isSome = true) (hrt : (readN M t et).isSome = true) (hf : M.E.length < 32) (hc : mayB M t 0 [ef, et] = false) (M1 : PSt) (F1 : Nat) (ht : TouchTo t M1 F1 M F [ef, et]) (hF : F1 + 1 < 1000000) (hk : keyOk ef ∧ keyOk et) :
  Calls Tryz.prog 23 #[.pointer (some ⟨s, 0, none⟩), .int .i64 t, .agg #[.int .i64 ef, .int .i64 et, .string ey, .float .f64 ew]] w fun e w' => e = .returned (.tuple #[.int .i64 ((M.E.length : Int) + 1), .int .i64 0]) ∧ Turns w ρ s (tieM (growE M1) t M.E.length ⟨ef, et, ey, ew⟩ false) (F1 + 3) w' := by
 have hb := heap1 w (.cells #[.int .i64 ef, .int .i64 et, .string ey, .float .f64 ew] 48)
 have hfr : Fr No w (w.alloc (.cells #[.int .i64 ef, .int .i64 et, .string ey, .float .f64 ew] 48)) := (Fr.refl No w).alloc _
 have HI := hid (islive_any _ ρ s A M F (h.frame hfr) t)
 rw [hl] at HI
 have hr1 : ∀ u, StAt u ρ s A M F → Calls Tryz.prog 53 #[.pointer (some ⟨s, 0, none⟩), .int .i64 t, .int .i64 ef] u fun e w' => e = .returned (.bool true) ∧ Fr No u w' := fun u hu => by
  have := reads_any u ρ s A M F hu t ef
  rwa [hrf] at this
 have hr2 : ∀ u, StAt u ρ s A M F → Calls Tryz.prog 53 #[.pointer (some ⟨s, 0, none⟩), .int .i64 t, .int .i64 et] u fun e w' => e = .returned (.bool true) ∧ Fr No u w' := fun u hu => by
  have := reads_any u ρ s A M F hu t et
  rwa [hrt] at this
 obtain ⟨ad, cd, hdv⟩ := ownsRow_slice (h.at_ .edrow).1
 have hn : ¬ (32 : Int) ≤ (M.E.length : Int) := by omega
 have hn2 : M.E.length < 32 := hf
 have HL := hid hl
 have HU : Hid (¬ Go.Lig.Own ρ w.heap.size ∧ ∀ k, w.heap.size ≤ k → ¬ Go.Lig.Own ρ k) := hid ⟨fun e => by have := h.bound _ e; omega, fun k hk e => by have := h.bound _ e; omega⟩
 generalize hNe : M.E.length = n at hn hn2 ⊢
 have HV := hid (⟨hdv, hNe⟩ : _ ∧ _)
 have HC := hid (⟨hc, ht, hF, hk⟩ : _ ∧ _ ∧ _ ∧ _)
 have HH := hid (⟨h, hfr, hb, hi, hr1, hr2⟩ : _ ∧ _ ∧ _ ∧ _ ∧ _ ∧ _)
 clear h hl hi hrf hrt hb hfr hr1 hr2 hdv hf hNe hc ht hF hk
 go_enter Tryz.func23, Tryz.ntmps23
 go_wp2_with (first
  | (go_at_call 51; refine HI.out.mono ?_; rintro e w1 ⟨rfl, rfl⟩; obtain ⟨c0, c1, c2, c3⟩ := cells4 HH.out.2.2.1)
    | (go_at_call 57; refine (HH.out.2.2.2.1 _ HH.out.2.1).mono ?_; rintro e w2 ⟨rfl, f2⟩; have F2 := hid (HH.out.2.1.thenNo f2); have B2 := hid (f2.keep HH.out.2.2.1 (fun e => e)); clear f2 c0 c1 c2 c3; obtain ⟨c0, c1, c2, c3⟩ := cells4 B2.out)
    | (go_at_call 53; refine (HH.out.2.2.2.2.1 _ (HH.out.1.frame F2.out)).mono ?_; rintro e w3 ⟨rfl, f3⟩; have F3 := hid (F2.out.thenNo f3); have B3 := hid (f3.keep B2.out (fun e => e)); clear f3 c0 c1 c2 c3 F2 B2; obtain ⟨c0, c1, c2, c3⟩ := cells4 B3.out)
    | (go_at_call 53; refine (HH.out.2.2.2.2.2 _ (HH.out.1.frame F3.out)).mono ?_; rintro e w4 ⟨rfl, f4⟩; have F4 := hid (F3.out.thenNo f4); have B4 := hid (f4.keep B3.out (fun e => e)); clear f4 c0 c1 c2 c3 F3 B3; obtain ⟨c0, c1, c2, c3⟩ := cells4 B4.out; have x2 := (HH.out.1.frame F4.out).cells.2.2.1; rw [HV.out.1, HV.out.2] at x2)
  | (refine wpList_buildSlice2 rfl 36 3 (.tmp 43) (.tmp 45) rfl _ 8 Tryz.underlying36 infoInt (.int .i64 ef) (.int .i64 et) rfl rfl rfl rfl ?_; intro w5 p5; have P5 := hid (show New [iv ef, iv et].toArray 3 w4 w5 from p5); clear p5))
 refine (may_any _ ρ s A M F (HH.out.1.frame (F4.out.thenNo P5.out.fr)) t 0 HL.out (.slice (some ⟨w4.heap.size, 0, none⟩) 2 2) [ef, et] (Rd.block P5.out.at_ 2 1 2 rfl (by simp [iv, Value.oneCell']) (Nat.le_refl _) (by simp [maxLen])) (by simp) M F (fun e => by rw [HC.out.1] at e; cases e)).mono ?_
 rintro e w6 ⟨rfl, h6, -⟩
 have F6 := hid ((F4.out.thenNo P5.out.fr).thenNo (h6 HC.out.1))
 have B6 := hid ((h6 HC.out.1).keep (P5.out.fr.keep B4.out (fun e => e)) (fun e => e))
 rw [HC.out.1, show errN false = 0 from rfl]
 clear h6 c0 c1 c2 c3 x2
 obtain ⟨c0, c1, c2, c3⟩ := cells4 B6.out
 go_wp2_with (refine wpList_buildSlice2 rfl 36 3 (.tmp 54) (.tmp 56) rfl _ 8 Tryz.underlying36 infoInt (.int .i64 ef) (.int .i64 et) rfl rfl rfl rfl ?_; intro w7 p7; have P7 := hid (show New [iv ef, iv et].toArray 3 w6 w7 from p7); clear p7)
 have hz6 : w.heap.size ≤ w6.heap.size := F6.out.size
 refine (touches_any _ ρ s A M F (HH.out.1.frame (F6.out.thenNo P7.out.fr)) t (.slice (some ⟨w6.heap.size, 0, none⟩) 2 2) [ef, et] (Rd.block P7.out.at_ 2 1 2 rfl (by simp [iv, Value.oneCell']) (Nat.le_refl _) (by simp [maxLen])) (by simp) (fun k e => by obtain rfl : w6.heap.size = k := Option.some.inj e; exact HU.out.2 _ hz6) M1 F1 HC.out.2.1).mono ?_
 rintro e w8 ⟨rfl, ρ8, h8, g8⟩
 obtain ⟨B8, U8⟩ := g8.keep (P7.out.fr.keep B6.out (fun e => e)) HU.out.1
 have hsame := HH.out.1.same_e h8
 have x2 := h8.cells.2.2.1
 rw [HV.out.1, HV.out.2] at x2
 have H8 := hid (⟨h8, (Gone.no (F6.out.thenNo P7.out.fr)).trans g8, B8, U8, hsame⟩ : _ ∧ _ ∧ _ ∧ _ ∧ _)
 clear h8 g8 B8 U8 hsame c0 c1 c2 c3 hz6
 go_wp2_with fail
 have HG := hid (grows_edge w8 ρ8 s A M1 F1 H8.out.1 (by rw [H8.out.2.2.2.2, HV.out.2]; omega))
 rw [H8.out.2.2.2.2, HV.out.2] at HG
 refine HG.out.mono ?_
 rintro e w9 ⟨rfl, ρ9, A9, h9, g9⟩
 obtain ⟨B9, U9⟩ := g9.keep H8.out.2.2.1 H8.out.2.2.2.1
 obtain ⟨y0, -, y2, -⟩ := h9.cells
 obtain ⟨a9, c9, hdv9⟩ := ownsRow_slice (h9.at_ .edrow).1
 have hlen9 : (growE M1).E.length = n + 1 := by have := H8.out.2.2.2.2; rw [HV.out.2] at this; simp [growE, this]
 rw [hdv9, hlen9] at y2
 obtain ⟨d0, d1, d2, d3⟩ := cells4 B9
 have HS9 := hid (⟨h9.lt, lt_of_block B9⟩ : s < w9.heap.size ∧ w.heap.size < w9.heap.size)
 have H9 := hid (⟨h9, H8.out.2.1.trans g9, hdv9, hlen9⟩ : _ ∧ _ ∧ _ ∧ _)
 clear h9 g9 B9 U9 hdv9 hlen9 x2 HG
 go_wp2_with fail
 refine wp_region_sched (by kernel_rfl) 8 [8] [0, 1, 2, 3, 4, 5, 6, 7, 8] (AgC [s, w.heap.size] w9.drew) (by kernel_rfl) (AgC.refl _ _) ?_
 simp only [List.map_cons, List.map_nil, List.contains_cons, List.contains_nil, nth_zero, nth_succ, Nat.reduceBEq, Bool.or_false]
 repeat (refine sched_quiet (fun K hK => ?_); go_simp; refine hK _ ?_; clear hK K)
 refine sched_callL (by first | rfl | go_simp) 59 #[.pointer (some ⟨s, 0, none⟩), .int .i64 t, .int .i64 ((n : Int) + 1), .agg #[.int .i64 ef, .int .i64 et, .string ey, .float .f64 ew], .bool false] (by first | kernel_rfl | go_simp) (ties_any _ ρ9 s A9 (growE M1) F1 (H9.out.1.frame (Fr.refl No w9).drew) t n (by rw [H9.out.2.2.2]; omega) ⟨ef, et, ey, ew⟩ false (fun _ => HC.out.2.2.2) HC.out.2.2.1) ?_
 rintro e w10 ⟨rfl, ρ10, h10, g10⟩
 refine ⟨_, rfl, ?_⟩
 obtain ⟨z0, -, z2, -⟩ := h10.cells
 rw [H9.out.2.2.1, H9.out.2.2.2] at z2
 have G10 := hid (⟨h10, (H9.out.2.1.nextNo (Fr.refl No w9).drew).trans g10⟩ : _ ∧ _)
 clear h10 g10 y0 y2 d0 d1 d2 d3
 refine sched_nil ?_
 go_wp2_with fail
 go_ret2
 exact ⟨by simp, ρ10, A9, G10.out⟩
end Go.Proofs.YthadcdoepoglkaaGreatDoor
