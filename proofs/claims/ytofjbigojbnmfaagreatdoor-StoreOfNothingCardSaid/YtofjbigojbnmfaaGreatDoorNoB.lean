/- The walk of StoreOfNothing. -/
import Derived.Test.YtofjbigojbnmfaaGreatDoorNoA
import Derived.Test.YtofjbigojbnmfaaGreatDoorNdA
import Derived.Test.YtofjbigojbnmfaaGreatDoorStN
namespace Go.Proofs.YtofjbigojbnmfaaGreatDoor
open Go.RowKit Go.Lig

theorem infoNd : (Tryz.prog.info? 32).map (fun i => (i.zero, i.size, i.bytes)) = some (some (.agg #[.slice none 0 0, .slice none 0 0]), 2, 48) := by kernel_rfl
theorem infoEd2 : (Tryz.prog.info? 41).map (fun i => (i.zero, i.size, i.bytes)) = some (some (.agg #[.int .i64 0, .int .i64 0, .string ⟨#[]⟩, .float FloatKind.f64 0]), 4, 40) := by kernel_rfl
set_option maxRecDepth 100000 in
set_option maxHeartbeats 4000000 in
theorem nothing_any (W : World) (t : Int) (sl sp : Value) (L : List ByteArray) (Q : List PropR) (h : NodeOf W sl sp L Q) :
    Calls Tryz.prog 4 #[.int .i64 t, .agg #[sl, sp]] W fun e w' => e = .returned (.bool true) ∧ Fr No W w' := by
  have HN := hid h.rd
  obtain ⟨a1, c1, rfl, -⟩ := rd_len h.l
  obtain ⟨a2, c2, rfl, -⟩ := rd_len h.p
  generalize L.length = n1 at *
  generalize Q.length = n2 at *
  have hb := heap1 W (.cells #[.slice a1 n1 c1, .slice a2 n2 c2] 32)
  obtain ⟨b1, b2⟩ := heap2 W (.cells #[.slice a1 n1 c1, .slice a2 n2 c2] 32) (.cells #[.bool false, .int .i64 0, .bool false, .slice a1 n1 c1, .slice a2 n2 c2, .int .i64 0, .int .i64 0, .string ⟨#[]⟩, .float FloatKind.f64 0] 43)
  have hf : Fr No W ((W.alloc (.cells #[.slice a1 n1 c1, .slice a2 n2 c2] 32)).alloc (.cells #[.bool false, .int .i64 0, .bool false, .slice a1 n1 c1, .slice a2 n2 c2, .int .i64 0, .int .i64 0, .string ⟨#[]⟩, .float FloatKind.f64 0] 43)) := ((Fr.refl No W).alloc _).alloc _
  obtain ⟨k0, k1⟩ := cells2 hb
  have HNF := hid (⟨⟨HN.out.l.frame hf (fun _ _ e => e), HN.out.p.frame hf (fun _ _ e => e), HN.out.ls, HN.out.ps⟩, b2⟩ : NodeRd _ _ _ _ _ _ _ ∧ _)
  have F := hid hf
  have B := hid b1
  clear h hb hf b1 b2 HN
  go_enter Tryz.func4, Tryz.ntmps4
  go_wp2_with (first
    | (go_at_call 12; refine (wide_any _ (W.heap.size + 1) _ _ _ _ _ _ HNF.out.1 HNF.out.2).mono ?_; rintro e w' ⟨⟨b, rfl⟩, f1⟩; replace F := hid (F.out.thenNo f1); replace B := hid (f1.keep B.out (fun e => e)); clear f1 k0 k1; obtain ⟨k0, k1⟩ := cells2 B.out; cases b)
    | (go_at_call 6; refine (nil_Begin _).mono ?_; rintro e w' ⟨rfl, f1⟩; replace F := hid (F.out.thenNo f1); replace B := hid (f1.keep B.out (fun e => e)); clear f1 k0 k1; obtain ⟨k0, k1⟩ := cells2 B.out)
    | (go_at_call 7; refine (nil_AddNode _ _ _ _).mono ?_; rintro e w' ⟨rfl, f1⟩; replace F := hid (F.out.thenNo f1); replace B := hid (f1.keep B.out (fun e => e)); clear f1 k0 k1; obtain ⟨k0, k1⟩ := cells2 B.out)
    | (go_at_call 13; refine (nil_AddEdge _ _ _ _ _ _).mono ?_; rintro e w' ⟨rfl, f1⟩; replace F := hid (F.out.thenNo f1); replace B := hid (f1.keep B.out (fun e => e)); clear f1 k0 k1; obtain ⟨k0, k1⟩ := cells2 B.out)
    | (go_at_call 14; refine (nil_Node _ _ _).mono ?_; rintro e w' ⟨rfl, f1⟩; replace F := hid (F.out.thenNo f1); replace B := hid (f1.keep B.out (fun e => e)); clear f1 k0 k1; obtain ⟨k0, k1⟩ := cells2 B.out)
    | (go_at_call 15; refine (nil_Edge _ _ _).mono ?_; rintro e w' ⟨rfl, f1⟩; replace F := hid (F.out.thenNo f1); replace B := hid (f1.keep B.out (fun e => e)); clear f1 k0 k1; obtain ⟨k0, k1⟩ := cells2 B.out)
    | (go_at_call 16; refine (nil_Pending _ _).mono ?_; rintro e w' ⟨rfl, f1⟩; replace F := hid (F.out.thenNo f1); replace B := hid (f1.keep B.out (fun e => e)); clear f1 k0 k1; obtain ⟨k0, k1⟩ := cells2 B.out)
    | (go_at_call 17; refine (nil_Image _).mono ?_; rintro e w' ⟨rfl, f1⟩; replace F := hid (F.out.thenNo f1); replace B := hid (f1.keep B.out (fun e => e)); clear f1 k0 k1; obtain ⟨k0, k1⟩ := cells2 B.out)
    | (go_at_call 8; refine (nil_Commit _ _).mono ?_; rintro e w' ⟨rfl, f1⟩; replace F := hid (F.out.thenNo f1); replace B := hid (f1.keep B.out (fun e => e)); clear f1 k0 k1; obtain ⟨k0, k1⟩ := cells2 B.out)
    | (go_at_call 9; refine (nil_Abort _ _).mono ?_; rintro e w' ⟨rfl, f1⟩; replace F := hid (F.out.thenNo f1); replace B := hid (f1.keep B.out (fun e => e)); clear f1 k0 k1; obtain ⟨k0, k1⟩ := cells2 B.out)
    | (go_at_call 18; refine (nil_SetNode _ _ _ _ _).mono ?_; rintro e w' ⟨rfl, f1⟩; replace F := hid (F.out.thenNo f1); replace B := hid (f1.keep B.out (fun e => e)); clear f1 k0 k1; obtain ⟨k0, k1⟩ := cells2 B.out)
    | (go_at_call 19; refine (nil_DropNode _ _ _).mono ?_; rintro e w' ⟨rfl, f1⟩; replace F := hid (F.out.thenNo f1); replace B := hid (f1.keep B.out (fun e => e)); clear f1 k0 k1; obtain ⟨k0, k1⟩ := cells2 B.out)
    | (go_at_call 20; refine (nil_DropEdge _ _ _).mono ?_; rintro e w' ⟨rfl, f1⟩; replace F := hid (F.out.thenNo f1); replace B := hid (f1.keep B.out (fun e => e)); clear f1 k0 k1; obtain ⟨k0, k1⟩ := cells2 B.out)
    | (go_at_call 21; refine (nil_Load _).mono ?_; rintro e w' ⟨rfl, f1⟩; replace F := hid (F.out.thenNo f1); replace B := hid (f1.keep B.out (fun e => e)); clear f1 k0 k1; obtain ⟨k0, k1⟩ := cells2 B.out)
    | (go_at_call 22; refine (nil_Vacuum _).mono ?_; rintro e w' ⟨rfl, f1⟩; replace F := hid (F.out.thenNo f1); replace B := hid (f1.keep B.out (fun e => e)); clear f1 k0 k1; obtain ⟨k0, k1⟩ := cells2 B.out)
    | (go_at_call 10; refine (nil_Nodes _ _).mono ?_; rintro e w' ⟨rfl, f1⟩; replace F := hid (F.out.thenNo f1); replace B := hid (f1.keep B.out (fun e => e)); clear f1 k0 k1; obtain ⟨k0, k1⟩ := cells2 B.out)
    | (go_at_call 23; refine (nil_Edges _ _).mono ?_; rintro e w' ⟨rfl, f1⟩; replace F := hid (F.out.thenNo f1); replace B := hid (f1.keep B.out (fun e => e)); clear f1 k0 k1; obtain ⟨k0, k1⟩ := cells2 B.out)
    | (go_at_call 24; refine (nil_Out _ _ _).mono ?_; rintro e w' ⟨rfl, f1⟩; replace F := hid (F.out.thenNo f1); replace B := hid (f1.keep B.out (fun e => e)); clear f1 k0 k1; obtain ⟨k0, k1⟩ := cells2 B.out)
    | (go_at_call 25; refine (nil_In _ _ _).mono ?_; rintro e w' ⟨rfl, f1⟩; replace F := hid (F.out.thenNo f1); replace B := hid (f1.keep B.out (fun e => e)); clear f1 k0 k1; obtain ⟨k0, k1⟩ := cells2 B.out)
    | (go_at_call 26; refine (nil_Label _ _ _).mono ?_; rintro e w' ⟨rfl, f1⟩; replace F := hid (F.out.thenNo f1); replace B := hid (f1.keep B.out (fun e => e)); clear f1 k0 k1; obtain ⟨k0, k1⟩ := cells2 B.out)
    | (go_at_call 27; refine (nil_Range _ _ _ _ _ _ _ _ _ _ _ _ _).mono ?_; rintro e w' ⟨rfl, f1⟩; replace F := hid (F.out.thenNo f1); replace B := hid (f1.keep B.out (fun e => e)); clear f1 k0 k1; obtain ⟨k0, k1⟩ := cells2 B.out)
    | (go_at_call 28; refine (nil_Slots _).mono ?_; rintro e w' ⟨rfl, f1⟩; replace F := hid (F.out.thenNo f1); replace B := hid (f1.keep B.out (fun e => e)); clear f1 k0 k1; obtain ⟨k0, k1⟩ := cells2 B.out)
    | (go_at_call 29; refine (nil_Live _).mono ?_; rintro e w' ⟨rfl, f1⟩; replace F := hid (F.out.thenNo f1); replace B := hid (f1.keep B.out (fun e => e)); clear f1 k0 k1; obtain ⟨k0, k1⟩ := cells2 B.out)
    | (go_at_call 11; refine (known_any _).mono ?_; rintro e w' ⟨rfl, f1⟩; replace F := hid (F.out.thenNo f1); clear f1)
    | (refine wpList_allocO rfl 32 rfl _ 2 48 infoNd ?_; intro w5 p5; have P := hid (show New #[.slice none 0 0, .slice none 0 0] 32 _ w5 from p5); clear p5; have Z := hid (lt_of_block B.out); replace F := hid (F.out.thenNo P.out.fr); replace B := hid (P.out.keep B.out); clear k0 k1; obtain ⟨k0, k1⟩ := cells2 B.out)
    | (refine wpList_allocO rfl 41 rfl _ 4 40 infoEd2 ?_; intro w5 p5; have P := hid (show New #[.int .i64 0, .int .i64 0, .string ⟨#[]⟩, .float FloatKind.f64 0] 41 _ w5 from p5); clear p5; have Z := hid (lt_of_block B.out); replace F := hid (F.out.thenNo P.out.fr); replace B := hid (P.out.keep B.out); clear k0 k1; obtain ⟨k0, k1⟩ := cells2 B.out)
    | (refine wpList_storeO rfl 32 (.tmp 12) (.tmp 50) rfl _ 0 rfl [.slice none 0 0, .slice none 0 0] 32 [.slice none 0 0, .slice none 0 0] rfl (by kernel_rfl) P.out.at_ (by simp) (by simp [Value.oneCell']) ?_; intro w6 p6; have P6 := hid p6.fr; clear p6; replace F := hid (F.out.trans P6.out (fun k hk e => by have := Z.out; omega)); replace B := hid (P6.out.keep B.out (fun e => by have := Z.out; omega)); clear k0 k1; obtain ⟨k0, k1⟩ := cells2 B.out)
    | (refine wpList_storeO rfl 41 (.tmp 14) (.tmp 56) rfl _ 0 rfl [.int .i64 0, .int .i64 0, .string ⟨#[]⟩, .float FloatKind.f64 0] 41 [.int .i64 0, .int .i64 0, .string ⟨#[]⟩, .float FloatKind.f64 0] rfl (by kernel_rfl) P.out.at_ (by simp) (by simp [Value.oneCell']) ?_; intro w6 p6; have P6 := hid p6.fr; clear p6; replace F := hid (F.out.trans P6.out (fun k hk e => by have := Z.out; omega)); replace B := hid (P6.out.keep B.out (fun e => by have := Z.out; omega)); clear k0 k1; obtain ⟨k0, k1⟩ := cells2 B.out))
  all_goals go_ret
  all_goals exact ⟨rfl, F.out⟩
end Go.Proofs.YtofjbigojbnmfaaGreatDoor
