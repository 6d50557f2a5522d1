/- A part of the proof: contracts of functions of the program, for the row's text. -/
import Derived.Test.YtfaapjcgmjjheaaGreatDoorK28
import Derived.Test.YtfaapjcgmjjheaaGreatDoorK01
import Derived.LaidMore
import Derived.Lay
import Derived.Stop.Joined
namespace Go.Proofs.YtfaapjcgmjjheaaGreatDoor
open Go.RowKit Go.Lig

def hA : PSt := { mTwo with K := mTwo.K.begins }
def hT0 : PSt := tieM hA 2 0 EdgeV.none true
def hT1 : PSt := touM hT0 2 0
def hB : PSt := touM hT1 2 1
def hC : Bool → PSt
  | true => { hB with K := (hB.K.commit 2).begins }
  | false => hB
def hT : Bool → Int
  | true => 3
  | false => 2
def hD (c : Bool) (k : Nat) : PSt := findsM (putM (hC c) (hT c) k NodeD.none true) k
def hF : Bool → Nat
  | true => 27
  | false => 25
def hG : Bool → Nat → Nat
  | true, 0 => 33
  | true, _ => 28
  | false, 0 => 29
  | false, _ => 26
theorem t_0 : FindsTo (putM hT0 2 0 dA false) hT1 19 24 0 := finds_at (M := putM hT0 2 0 dA false) (l := ((putM hT0 2 0 dA false).Y[0]?.getD [])) (L := ((putM hT0 2 0 dA false).N[0]?.getD [])) 19 5 (by kernel_rfl) (by kernel_rfl) (by kernel_rfl) (by decide)
theorem t_1 : FindsTo (putM hT1 2 1 NodeD.none false) hB 25 25 1 := finds_at (M := putM hT1 2 1 NodeD.none false) (l := ((putM hT1 2 1 NodeD.none false).Y[1]?.getD [])) (L := ((putM hT1 2 1 NodeD.none false).N[1]?.getD [])) 25 0 (by kernel_rfl) (by kernel_rfl) (by kernel_rfl) (by decide)
theorem touch_held : TouchTo 2 hB 25 hT0 18 [1, 2] :=
  TouchTo.put (k := 0) (d := dA) (by decide) (by kernel_rfl) (by decide) t_0 (TouchTo.put (k := 1) (d := NodeD.none) (by decide) (by kernel_rfl) (by decide) t_1 TouchTo.nil)
theorem d_held (c : Bool) (k : Nat) (hk : k < 2) : FindsTo (putM (hC c) (hT c) k NodeD.none true) (hD c k) (hF c + 1) (hG c k) k := by
  have h2 : k = 0 ∨ k = 1 := by omega
  cases c <;> rcases h2 with rfl | rfl
  · exact finds_at (M := putM (hC false) (hT false) 0 NodeD.none true) (l := ((putM (hC false) (hT false) 0 NodeD.none true).Y[0]?.getD [])) (L := ((putM (hC false) (hT false) 0 NodeD.none true).N[0]?.getD [])) 26 3 (by kernel_rfl) (by kernel_rfl) (by kernel_rfl) (by decide)
  · exact finds_at (M := putM (hC false) (hT false) 1 NodeD.none true) (l := ((putM (hC false) (hT false) 1 NodeD.none true).Y[1]?.getD [])) (L := ((putM (hC false) (hT false) 1 NodeD.none true).N[1]?.getD [])) 26 0 (by kernel_rfl) (by kernel_rfl) (by kernel_rfl) (by decide)
  · exact finds_at (M := putM (hC true) (hT true) 0 NodeD.none true) (l := ((putM (hC true) (hT true) 0 NodeD.none true).Y[0]?.getD [])) (L := ((putM (hC true) (hT true) 0 NodeD.none true).N[0]?.getD [])) 28 5 (by kernel_rfl) (by kernel_rfl) (by kernel_rfl) (by decide)
  · exact finds_at (M := putM (hC true) (hT true) 1 NodeD.none true) (l := ((putM (hC true) (hT true) 1 NodeD.none true).Y[1]?.getD [])) (L := ((putM (hC true) (hT true) 1 NodeD.none true).N[1]?.getD [])) 28 0 (by kernel_rfl) (by kernel_rfl) (by kernel_rfl) (by decide)
theorem hA_r (k : Nat) (hk : k < 2) : ∃ d, readN hA 2 ((k : Int) + 1) = some d := by
  have h2 : k = 0 ∨ k = 1 := by omega
  rcases h2 with rfl | rfl
  · exact ⟨dA, by kernel_rfl⟩
  · exact ⟨NodeD.none, by kernel_rfl⟩
theorem hA_busy (k : Nat) (hk : k < 2) : 0 < (outM hA 2 ((k : Int) + 1)).length + (inM hA 2 ((k : Int) + 1)).length := by
  have h2 : k = 0 ∨ k = 1 := by omega
  rcases h2 with rfl | rfl
  · rw [show (outM hA 2 (((0 : Nat) : Int) + 1)).length = 1 by kernel_rfl]; omega
  · rw [show (inM hA 2 (((1 : Nat) : Int) + 1)).length = 1 by kernel_rfl]; omega
theorem hC_r (c : Bool) (k : Nat) (hk : k < 2) : ∃ d, readN (hC c) (hT c) ((k : Int) + 1) = some d := by
  have h2 : k = 0 ∨ k = 1 := by omega
  cases c <;> rcases h2 with rfl | rfl
  · exact ⟨dA, by kernel_rfl⟩
  · exact ⟨NodeD.none, by kernel_rfl⟩
  · exact ⟨dA, by kernel_rfl⟩
  · exact ⟨NodeD.none, by kernel_rfl⟩
theorem hC_o (c : Bool) (k : Nat) (hk : k < 2) : outM (hC c) (hT c) ((k : Int) + 1) = [] ∧ inM (hC c) (hT c) ((k : Int) + 1) = [] := by
  have h2 : k = 0 ∨ k = 1 := by omega
  cases c <;> rcases h2 with rfl | rfl
  · exact ⟨by kernel_rfl, by kernel_rfl⟩
  · exact ⟨by kernel_rfl, by kernel_rfl⟩
  · exact ⟨by kernel_rfl, by kernel_rfl⟩
  · exact ⟨by kernel_rfl, by kernel_rfl⟩
theorem hC_m (c : Bool) (k : Nat) (hk : k < 2) : mayB (hC c) (hT c) 0 [(k : Int) + 1] = false := by
  have h2 : k = 0 ∨ k = 1 := by omega
  cases c <;> rcases h2 with rfl | rfl <;> first | exact (And.intro (by kernel_rfl) trivial : _ ∧ True).1 | rfl
theorem hD_r (c : Bool) (k : Nat) (hk : k < 2) : readN (hD c k) (hT c) ((k : Int) + 1) = none := by
  have h2 : k = 0 ∨ k = 1 := by omega
  cases c <;> rcases h2 with rfl | rfl <;> first | exact (And.intro (by kernel_rfl) trivial : _ ∧ True).1 | rfl
theorem hD_l (c : Bool) (k : Nat) (hk : k < 2) : (hD c k).K.live (hT c) = true := by
  have h2 : k = 0 ∨ k = 1 := by omega
  cases c <;> rcases h2 with rfl | rfl <;> first | exact (And.intro (by kernel_rfl) trivial : _ ∧ True).1 | rfl
theorem hD_e (c : Bool) (k : Nat) (hk : k < 2) : edsTo (hD c k) (hT c) (hD c k).E.length = [] := by
  have h2 : k = 0 ∨ k = 1 := by omega
  cases c <;> rcases h2 with rfl | rfl <;> first | exact (And.intro (by kernel_rfl) trivial : _ ∧ True).1 | rfl
theorem hC_l (c : Bool) : (hC c).K.live (hT c) = true := by cases c <;> kernel_rfl
theorem hC_n (c : Bool) : (hC c).N.length = 2 := by cases c <;> kernel_rfl
end Go.Proofs.YtfaapjcgmjjheaaGreatDoor

namespace Go.Proofs.YtfaapjcgmjjheaaGreatDoor
open Go.RowKit Go.Lig

set_option maxRecDepth 100000 in
set_option maxHeartbeats 4000000 in
theorem held_in (w : World) (k : Nat) (hk : k < 2) (c : Bool) : Calls Tryz.prog 3 #[.int .i64 ((k : Int) + 1), .bool c] w fun e w' => e = .returned (.bool true) ∧ Fr No w w' := by
  have hb1 : ¬ (k : Int) + 1 < 1 := by omega
  have hb2 : ¬ (2 : Int) < (k : Int) + 1 := by omega
  obtain ⟨d1, hd1⟩ := hA_r k hk
  obtain ⟨d2, hd2⟩ := hC_r c k hk
  have HK := hid (⟨hk, hd1, hd2⟩ : _ ∧ _ ∧ _)
  clear hd1 hd2 hk
  go_enter Tryz.func3, Tryz.ntmps3
  go_wp2_with fail
  refine (two_any _).mono ?_
  rintro e w1 ⟨s, ρ, A, rfl, h1, n1⟩
  have H1 := hid (⟨h1, n1⟩ : _ ∧ _)
  clear h1 n1
  go_wp2_with fail
  refine (stbegin_any _ ρ s A mTwo 14 H1.out.1 (by rw [show mTwo.K.count = 0 by kernel_rfl]; decide) (by decide)).mono ?_
  rintro e w2 ⟨rfl, ρ2, h2, g2⟩
  rw [show mTwo.K.l.length = 1 by kernel_rfl]
  have H2 := hid (⟨h2, H1.out.2.next g2⟩ : StAt w2 ρ2 s A hA 15 ∧ _)
  clear h2 g2
  go_wp2_with fail
  refine (dropnode_busy _ ρ2 s A hA 15 H2.out.1 2 (by kernel_rfl) k d1 HK.out.2.1 (by rw [show hA.N.length = 2 by kernel_rfl]; exact HK.out.1) (by decide) (hA_busy k HK.out.1)).mono ?_
  rintro e w3 ⟨rfl, f3⟩
  have H3 := hid (⟨H2.out.1.frame f3, H2.out.2.nextNo f3⟩ : _ ∧ _)
  clear f3
  go_wp2_with fail
  refine (dropedge_ok _ ρ2 s A hA 15 H3.out.1 2 (by kernel_rfl) 0 ⟨1, 2, ⟨#[101]⟩, 0⟩ (by kernel_rfl) ⟨by kernel_rfl, by rw [show hA.E.length = 1 by kernel_rfl]; decide, by decide⟩ hB 25 touch_held).mono ?_
  rintro e w4 ⟨rfl, ρ4, h4, g4⟩
  have H4 := hid (⟨h4, H3.out.2.next g4⟩ : _ ∧ _)
  clear h4 g4
  cases c with
  | true =>
    go_wp2_with fail
    refine (stcommit_any _ ρ4 s A hB 25 H4.out.1 2 (by kernel_rfl) (by decide)).mono ?_
    rintro e w5 ⟨rfl, ρ5, h5, g5⟩
    have H5 := hid (⟨h5, H4.out.2.next g5⟩ : _ ∧ _)
    clear h5 g5
    go_wp2_with fail
    refine (stbegin_any _ ρ5 s A _ 26 H5.out.1 (by rw [show (hB.K.commit 2).count = 0 by kernel_rfl]; decide) (by decide)).mono ?_
    rintro e w6 ⟨rfl, ρ6, h6, g6⟩
    rw [show (hB.K.commit 2).l.length = 2 by kernel_rfl]
    have H6 := hid (⟨h6, H5.out.2.next g6⟩ : StAt w6 ρ6 s A (hC true) (hF true) ∧ _)
    clear h6 g6
    go_wp2_with fail
    refine (dropnode_ok _ _ s A (hC true) (hF true) H6.out.1 3 (hC_l true) k d2 HK.out.2.2 (by rw [hC_n]; exact HK.out.1) (by decide) (hC_o true k HK.out.1) (hC_m true k HK.out.1) (hD true k) (hG true k) (by decide) (d_held true k HK.out.1)).mono ?_
    rintro e w7 ⟨rfl, ρ7, h7, g7⟩
    have H7 := hid (⟨h7, H6.out.2.next g7⟩ : _ ∧ _)
    clear h7 g7
    have HN := hid (stnode_any _ ρ7 s A (hD true k) _ H7.out.1 3 ((k : Int) + 1) (hD_l true k HK.out.1))
    rw [show readN (hD true k) 3 ((k : Int) + 1) = none from hD_r true k HK.out.1] at HN
    go_wp2_with fail
    refine HN.out.mono ?_
    rintro e w8 ⟨la, ln, lc, pa, pn, pc, rfl, o8⟩
    have F8 := hid (by first | exact o8.l.fr.thenNo o8.p.fr | exact o8.l.fr | exact o8.p.fr : Fr No w7 w8)
    clear o8
    dsimp only [Option.isSome]
    go_wp2_with (first | (go_at_call 15; refine (edges_any _ ρ7 s A (hD true k) _ (H7.out.1.frame (by first | exact F8.out.alloc _ | exact (F8.out.alloc _).drew | exact F8.out)) 3 (hD_l true k HK.out.1)).mono ?_; rintro e w9 ⟨v9, rfl, o9⟩; rw [show edsTo (hD true k) 3 (hD true k).E.length = [] from hD_e true k HK.out.1] at o9; obtain ⟨a9, n9, rfl⟩ := ownsRow_slice o9.row; have F9 := hid (Fr.thenNo (by first | exact H7.out.2.fr.thenNo (F8.out.alloc _) | exact H7.out.2.fr.thenNo ((F8.out.alloc _).drew) | exact H7.out.2.fr.thenNo F8.out : Fr No w _) o9.fr); clear o9) | (go_at_call 16; refine (known_any _).mono ?_; rintro e w10 ⟨rfl, f10⟩; have F10 := hid (F9.out.thenNo f10); clear f10))
    go_ret
    exact ⟨rfl, F10.out⟩
  | false =>
    have H6 := hid (H4.out : StAt w4 ρ4 s A (hC false) (hF false) ∧ _)
    go_wp2_with fail
    refine (dropnode_ok _ _ s A (hC false) (hF false) H6.out.1 2 (hC_l false) k d2 HK.out.2.2 (by rw [hC_n]; exact HK.out.1) (by decide) (hC_o false k HK.out.1) (hC_m false k HK.out.1) (hD false k) (hG false k) (by decide) (d_held false k HK.out.1)).mono ?_
    rintro e w7 ⟨rfl, ρ7, h7, g7⟩
    have H7 := hid (⟨h7, H6.out.2.next g7⟩ : _ ∧ _)
    clear h7 g7
    have HN := hid (stnode_any _ ρ7 s A (hD false k) _ H7.out.1 2 ((k : Int) + 1) (hD_l false k HK.out.1))
    rw [show readN (hD false k) 2 ((k : Int) + 1) = none from hD_r false k HK.out.1] at HN
    go_wp2_with fail
    refine HN.out.mono ?_
    rintro e w8 ⟨la, ln, lc, pa, pn, pc, rfl, o8⟩
    have F8 := hid (by first | exact o8.l.fr.thenNo o8.p.fr | exact o8.l.fr | exact o8.p.fr : Fr No w7 w8)
    clear o8
    dsimp only [Option.isSome]
    go_wp2_with (first | (go_at_call 15; refine (edges_any _ ρ7 s A (hD false k) _ (H7.out.1.frame (by first | exact F8.out.alloc _ | exact (F8.out.alloc _).drew | exact F8.out)) 2 (hD_l false k HK.out.1)).mono ?_; rintro e w9 ⟨v9, rfl, o9⟩; rw [show edsTo (hD false k) 2 (hD false k).E.length = [] from hD_e false k HK.out.1] at o9; obtain ⟨a9, n9, rfl⟩ := ownsRow_slice o9.row; have F9 := hid (Fr.thenNo (by first | exact H7.out.2.fr.thenNo (F8.out.alloc _) | exact H7.out.2.fr.thenNo ((F8.out.alloc _).drew) | exact H7.out.2.fr.thenNo F8.out : Fr No w _) o9.fr); clear o9) | (go_at_call 16; refine (known_any _).mono ?_; rintro e w10 ⟨rfl, f10⟩; have F10 := hid (F9.out.thenNo f10); clear f10))
    go_ret
    exact ⟨rfl, F10.out⟩
end Go.Proofs.YtfaapjcgmjjheaaGreatDoor

namespace Go.Proofs.YtfaapjcgmjjheaaGreatDoor
open Go.RowKit Go.Lig

theorem held_any (w : World) (id : Int) (c : Bool) : Calls Tryz.prog 3 #[.int .i64 id, .bool c] w fun e w' => e = .returned (.bool true) ∧ Fr No w w' := by
  by_cases h1 : id < 1
  · go_enter Tryz.func3, Tryz.ntmps3
    go_wp2_with fail
    go_ret
    exact ⟨rfl, Fr.refl _ _⟩
  · by_cases h2 : 2 < id
    · go_enter Tryz.func3, Tryz.ntmps3
      go_wp2_with fail
      go_ret
      exact ⟨rfl, Fr.refl _ _⟩
    · obtain ⟨k, hk, rfl⟩ : ∃ k : Nat, k < 2 ∧ id = (k : Int) + 1 := ⟨(id - 1).toNat, by omega, by omega⟩
      exact held_in w k hk c
end Go.Proofs.YtfaapjcgmjjheaaGreatDoor

namespace Go.Lig
open Go.RowKit Go.ChangeShapes Go.WideShapes Go.ChangeAt Go.Deep

theorem law_liftedT {C : Checked} {os : Os} {n : FuncId} {fn : Func} {s : ChangeSpec} {conds : List PathCond} {H : Type} {enc : TypeId × Value → H} {tb : TypeId} {laid : List (String × DataW Unit)} (own : ownKnob C.prog.godebug = none) (started : os.Started) (noInit : C.prog.inits.idxOf? n = none) (hfn : C.prog.funcs[n]? = some fn)
    (witness : ∃ (w : World) (tape : Tape) (i : Input), w.os = os ∧ (w.forCall tape i).Shaped C.prog ∧ i.vars = [] ∧ Input.okWide C.prog (w.forCall tape i) .any w.heap.size n i ∧
      ((s.pre enc C.prog fn conds false (w.forCall tape i).memory i.args ∧ laidMetH C.prog laid (w.forCall tape i).memory) ∧ sizedMet enc C.prog fn (OpenSpec.ofChange s) false (w.forCall tape i).memory i.args) ∧ Assume.holds {} C.prog (lone (Frame.enter C.prog n i.args .normal) [] (w.forCall tape i)))
    (hl : laidOutB C.prog = true) (hv : s.vars = []) (htb : C.prog.underlying tb = some .bool) (hr : fn.resultTypes = #[tb])
    (hts : ∀ t ∈ fn.params.toList, C.prog.readableRec t = true ∧ t < C.prog.types.size) (hspec : ∀ xs : List (DataW H), xs.length = fn.params.size → s.fn H xs = { results := [.lit (.bool true)], args := xs })
    (contract : ∀ (W : World) (base : Nat) (args : Array Value) (ds : List (DataW H)) (p : List MemPlace), (∀ (j : Nat) t v, fn.params[j]? = some t → args[j]? = some v → Value.okWide C.prog W .any base t v) →
      DataW.TrodAll enc C.prog W 0 (fun _ => true) true fn.params.toList args.toList ds p →
      Calls C.prog n args W fun e W' => e = .returned (.bool true) ∧ Below W.heap.size W W') :
    ReturnsInHanded {} C os n .any (fun w args => (s.pre enc C.prog fn conds false w args ∧ laidMetH C.prog laid w) ∧ sizedMet enc C.prog fn (OpenSpec.ofChange s) false w args) (s.post enc C.prog fn false true false false) := by
  refine returnsInHanded_of_change_and (C := C) (X := fun w _ => laidMetH C.prog laid w) (fun _ _ _ hh h => h.of_heap hh) own started noInit hfn witness ?_
  intro W base args ds gs before hval hW _ _ _ _
  obtain ⟨p, q, hA, _⟩ := id hW
  exact (contract W base args ds p hval hA).mono fun e W' ⟨he, hb⟩ => ⟨_, he, law_post hl hv htb hr hts hspec hW hb⟩
end Go.Lig
