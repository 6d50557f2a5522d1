/- What a nil Store answers. -/
import Derived.Test.YtofjbigojbnmfaaGreatDoorRows
import Derived.Test.YtofjbigojbnmfaaGreatDoorLib3
namespace Go.Proofs.YtofjbigojbnmfaaGreatDoor
open Go.RowKit Go.Lig

theorem results_tmp4 {fn : Func} {t u v x : Tmp} (h : fn.results = #[.tmp t, .tmp u, .tmp v, .tmp x]) (tmps : Array Value) (P : Program) (w : World) :
    (results fn tmps).run P w = .ok (.tuple #[tmps.getD t undef, tmps.getD u undef, tmps.getD v undef, tmps.getD x undef]) w := by
  simp [results, h]
theorem nil_isLive (w : World) (t : Int) : Calls Tryz.prog 33 #[.pointer none, .int .i64 t] w fun e w' => e = .returned (.bool false) ∧ w = w' := by
  go_enter Tryz.func33, Tryz.ntmps33
  go_wp2
  go_ret
  exact ⟨rfl, rfl⟩
theorem nil_Begin (w : World) : Calls Tryz.prog 6 #[.pointer none] w fun e w' => e = .returned (.tuple #[.int .i64 0, .int .i64 5]) ∧ Fr No w w' := by
  go_enter Tryz.func6, Tryz.ntmps6
  go_wp2
  go_ret2
  exact ⟨rfl, by repeat (first | exact Fr.refl _ _ | apply Fr.drew | apply Fr.drewN | apply Fr.alloc)⟩
theorem nil_Commit (w : World) (t : Int) : Calls Tryz.prog 8 #[.pointer none, .int .i64 t] w fun e w' => e = .returned (.int .i64 5) ∧ Fr No w w' := by
  go_enter Tryz.func8, Tryz.ntmps8
  go_wp2
  go_ret
  exact ⟨rfl, by repeat (first | exact Fr.refl _ _ | apply Fr.drew | apply Fr.drewN | apply Fr.alloc)⟩
theorem nil_Abort (w : World) (t : Int) : Calls Tryz.prog 9 #[.pointer none, .int .i64 t] w fun e w' => e = .returned (.int .i64 5) ∧ Fr No w w' := by
  go_enter Tryz.func9, Tryz.ntmps9
  go_wp2
  go_ret
  exact ⟨rfl, by repeat (first | exact Fr.refl _ _ | apply Fr.drew | apply Fr.drewN | apply Fr.alloc)⟩
theorem nil_AddNode (w : World) (t : Int) (x y : Value) : Calls Tryz.prog 7 #[.pointer none, .int .i64 t, .agg #[x, y]] w fun e w' => e = .returned (.tuple #[.int .i64 0, .int .i64 5]) ∧ Fr No w w' := by
  go_enter Tryz.func7, Tryz.ntmps7
  go_wp2_with (go_at_call 33; refine (nil_isLive _ _).mono ?_; rintro e w' ⟨rfl, rfl⟩)
  go_ret2
  exact ⟨rfl, by repeat (first | exact Fr.refl _ _ | apply Fr.drew | apply Fr.drewN | apply Fr.alloc)⟩
theorem nil_AddEdge (w : World) (t : Int) (x y z u : Value) : Calls Tryz.prog 13 #[.pointer none, .int .i64 t, .agg #[x, y, z, u]] w fun e w' => e = .returned (.tuple #[.int .i64 0, .int .i64 5]) ∧ Fr No w w' := by
  go_enter Tryz.func13, Tryz.ntmps13
  go_wp2_with (go_at_call 33; refine (nil_isLive _ _).mono ?_; rintro e w' ⟨rfl, rfl⟩)
  go_ret2
  exact ⟨rfl, by repeat (first | exact Fr.refl _ _ | apply Fr.drew | apply Fr.drewN | apply Fr.alloc)⟩
theorem nil_SetNode (w : World) (t : Int) (id : Int) (x y : Value) : Calls Tryz.prog 18 #[.pointer none, .int .i64 t, .int .i64 id, .agg #[x, y]] w fun e w' => e = .returned (.int .i64 5) ∧ Fr No w w' := by
  go_enter Tryz.func18, Tryz.ntmps18
  go_wp2_with (go_at_call 33; refine (nil_isLive _ _).mono ?_; rintro e w' ⟨rfl, rfl⟩)
  go_ret
  exact ⟨rfl, by repeat (first | exact Fr.refl _ _ | apply Fr.drew | apply Fr.drewN | apply Fr.alloc)⟩
theorem nil_DropNode (w : World) (t : Int) (id : Int) : Calls Tryz.prog 19 #[.pointer none, .int .i64 t, .int .i64 id] w fun e w' => e = .returned (.int .i64 5) ∧ Fr No w w' := by
  go_enter Tryz.func19, Tryz.ntmps19
  go_wp2_with (go_at_call 33; refine (nil_isLive _ _).mono ?_; rintro e w' ⟨rfl, rfl⟩)
  go_ret
  exact ⟨rfl, by repeat (first | exact Fr.refl _ _ | apply Fr.drew | apply Fr.drewN | apply Fr.alloc)⟩
theorem nil_DropEdge (w : World) (t : Int) (id : Int) : Calls Tryz.prog 20 #[.pointer none, .int .i64 t, .int .i64 id] w fun e w' => e = .returned (.int .i64 5) ∧ Fr No w w' := by
  go_enter Tryz.func20, Tryz.ntmps20
  go_wp2_with (go_at_call 33; refine (nil_isLive _ _).mono ?_; rintro e w' ⟨rfl, rfl⟩)
  go_ret
  exact ⟨rfl, by repeat (first | exact Fr.refl _ _ | apply Fr.drew | apply Fr.drewN | apply Fr.alloc)⟩
theorem nil_Node (w : World) (t : Int) (id : Int) : Calls Tryz.prog 14 #[.pointer none, .int .i64 t, .int .i64 id] w fun e w' => e = .returned (.tuple #[.agg #[.slice none 0 0, .slice none 0 0], .bool false]) ∧ Fr No w w' := by
  have hb := heap1 w (.cells #[.slice none 0 0, .slice none 0 0] 32)
  have hf : Fr No w (w.alloc (.cells #[.slice none 0 0, .slice none 0 0] 32)) := (Fr.refl No w).alloc _
  have H := hid (⟨hb, hf⟩ : _ ∧ _)
  clear hb hf
  go_enter Tryz.func14, Tryz.ntmps14
  go_wp2_with (first | (go_at_call 33; refine (nil_isLive _ _).mono ?_; rintro e w' ⟨rfl, rfl⟩) | (refine wpList_storeO rfl 32 (.tmp 6) (.tmp 14) rfl w.heap.size 0 rfl [.slice none 0 0, .slice none 0 0] 32 [.slice none 0 0, .slice none 0 0] rfl (by kernel_rfl) H.out.1 (by simp) (by simp [Value.oneCell']) ?_; intro w5 p5; have P5 := hid (show Put w.heap.size #[.slice none 0 0, .slice none 0 0] 32 _ w5 from p5); clear p5))
  obtain ⟨r0, r1⟩ := cells2 P5.out.at_
  refine bodyPost_ret (v := .tuple #[.agg #[.slice none 0 0, .slice none 0 0], .bool false]) ?_ rfl ⟨rfl, H.out.2.trans P5.out.fr (fun k hk e => by rw [e] at hk; omega)⟩
  simp [results, Tryz.f14, go_sem, r0, r1]
theorem nil_Edge (w : World) (t : Int) (id : Int) : Calls Tryz.prog 15 #[.pointer none, .int .i64 t, .int .i64 id] w fun e w' => e = .returned (.tuple #[.agg #[.int .i64 0, .int .i64 0, .string ⟨#[]⟩, .float FloatKind.f64 0], .bool false]) ∧ Fr No w w' := by
  have hb := heap1 w (.cells #[.int .i64 0, .int .i64 0, .string ⟨#[]⟩, .float FloatKind.f64 0] 41)
  have hf : Fr No w (w.alloc (.cells #[.int .i64 0, .int .i64 0, .string ⟨#[]⟩, .float FloatKind.f64 0] 41)) := (Fr.refl No w).alloc _
  have H := hid (⟨hb, hf⟩ : _ ∧ _)
  clear hb hf
  go_enter Tryz.func15, Tryz.ntmps15
  go_wp2_with (first | (go_at_call 33; refine (nil_isLive _ _).mono ?_; rintro e w' ⟨rfl, rfl⟩) | (refine wpList_storeO rfl 41 (.tmp 6) (.tmp 12) rfl w.heap.size 0 rfl [.int .i64 0, .int .i64 0, .string ⟨#[]⟩, .float FloatKind.f64 0] 41 [.int .i64 0, .int .i64 0, .string ⟨#[]⟩, .float FloatKind.f64 0] rfl (by kernel_rfl) H.out.1 (by simp) (by simp [Value.oneCell']) ?_; intro w5 p5; have P5 := hid (show Put w.heap.size #[.int .i64 0, .int .i64 0, .string ⟨#[]⟩, .float FloatKind.f64 0] 41 _ w5 from p5); clear p5))
  obtain ⟨r0, r1, r2, r3⟩ := cells4 P5.out.at_
  refine bodyPost_ret (v := .tuple #[.agg #[.int .i64 0, .int .i64 0, .string ⟨#[]⟩, .float FloatKind.f64 0], .bool false]) ?_ rfl ⟨rfl, H.out.2.trans P5.out.fr (fun k hk e => by rw [e] at hk; omega)⟩
  simp [results, Tryz.f15, go_sem, r0, r1, r2, r3]
theorem nil_Pending (w : World) (t : Int) : Calls Tryz.prog 16 #[.pointer none, .int .i64 t] w fun e w' => e = .returned (.tuple #[.int .i64 0, .int .i64 0, .slice none 0 0, .int .i64 5]) ∧ Fr No w w' := by
  go_enter Tryz.func16, Tryz.ntmps16
  go_wp2_with (go_at_call 33; refine (nil_isLive _ _).mono ?_; rintro e w' ⟨rfl, rfl⟩)
  (try simp only [Exit.inBlock, Exit.then])
  refine bodyPost_ret (results_tmp4 rfl _ _ _) rfl ?_
  exact ⟨rfl, by repeat (first | exact Fr.refl _ _ | apply Fr.drew | apply Fr.drewN | apply Fr.alloc)⟩
theorem nil_Image (w : World) : Calls Tryz.prog 17 #[.pointer none] w fun e w' => e = .returned (.tuple #[.int .i64 0, .int .i64 0, .slice none 0 0]) ∧ Fr No w w' := by
  go_enter Tryz.func17, Tryz.ntmps17
  go_wp2
  go_ret3
  exact ⟨rfl, by repeat (first | exact Fr.refl _ _ | apply Fr.drew | apply Fr.drewN | apply Fr.alloc)⟩
theorem nil_Load (w : World) : Calls Tryz.prog 21 #[.pointer none, .int .i64 0, .int .i64 0, .slice none 0 0] w fun e w' => e = .returned (.int .i64 5) ∧ Fr No w w' := by
  go_enter Tryz.func21, Tryz.ntmps21
  go_wp2
  go_ret
  exact ⟨rfl, by repeat (first | exact Fr.refl _ _ | apply Fr.drew | apply Fr.drewN | apply Fr.alloc)⟩
theorem nil_Vacuum (w : World) : Calls Tryz.prog 22 #[.pointer none] w fun e w' => e = .returned (.bool false) ∧ Fr No w w' := by
  go_enter Tryz.func22, Tryz.ntmps22
  go_wp2
  go_ret
  exact ⟨rfl, by repeat (first | exact Fr.refl _ _ | apply Fr.drew | apply Fr.drewN | apply Fr.alloc)⟩
theorem nil_Nodes (w : World) (t : Int) : Calls Tryz.prog 10 #[.pointer none, .int .i64 t] w fun e w' => e = .returned (.slice none 0 0) ∧ Fr No w w' := by
  go_enter Tryz.func10, Tryz.ntmps10
  go_wp2_with (go_at_call 33; refine (nil_isLive _ _).mono ?_; rintro e w' ⟨rfl, rfl⟩)
  go_ret
  exact ⟨rfl, by repeat (first | exact Fr.refl _ _ | apply Fr.drew | apply Fr.drewN | apply Fr.alloc)⟩
theorem nil_Edges (w : World) (t : Int) : Calls Tryz.prog 23 #[.pointer none, .int .i64 t] w fun e w' => e = .returned (.slice none 0 0) ∧ Fr No w w' := by
  go_enter Tryz.func23, Tryz.ntmps23
  go_wp2_with (go_at_call 33; refine (nil_isLive _ _).mono ?_; rintro e w' ⟨rfl, rfl⟩)
  go_ret
  exact ⟨rfl, by repeat (first | exact Fr.refl _ _ | apply Fr.drew | apply Fr.drewN | apply Fr.alloc)⟩
theorem nil_Out (w : World) (t : Int) (id : Int) : Calls Tryz.prog 24 #[.pointer none, .int .i64 t, .int .i64 id] w fun e w' => e = .returned (.slice none 0 0) ∧ Fr No w w' := by
  go_enter Tryz.func24, Tryz.ntmps24
  go_wp2_with (go_at_call 33; refine (nil_isLive _ _).mono ?_; rintro e w' ⟨rfl, rfl⟩)
  go_ret
  exact ⟨rfl, by repeat (first | exact Fr.refl _ _ | apply Fr.drew | apply Fr.drewN | apply Fr.alloc)⟩
theorem nil_In (w : World) (t : Int) (id : Int) : Calls Tryz.prog 25 #[.pointer none, .int .i64 t, .int .i64 id] w fun e w' => e = .returned (.slice none 0 0) ∧ Fr No w w' := by
  go_enter Tryz.func25, Tryz.ntmps25
  go_wp2_with (go_at_call 33; refine (nil_isLive _ _).mono ?_; rintro e w' ⟨rfl, rfl⟩)
  go_ret
  exact ⟨rfl, by repeat (first | exact Fr.refl _ _ | apply Fr.drew | apply Fr.drewN | apply Fr.alloc)⟩
theorem nil_Label (w : World) (t : Int) (s : ByteArray) : Calls Tryz.prog 26 #[.pointer none, .int .i64 t, .string s] w fun e w' => e = .returned (.slice none 0 0) ∧ Fr No w w' := by
  go_enter Tryz.func26, Tryz.ntmps26
  go_wp2_with (go_at_call 33; refine (nil_isLive _ _).mono ?_; rintro e w' ⟨rfl, rfl⟩)
  go_ret
  exact ⟨rfl, by repeat (first | exact Fr.refl _ _ | apply Fr.drew | apply Fr.drewN | apply Fr.alloc)⟩
theorem nil_Range (w : World) (t : Int) (s : ByteArray) (x0 x1 x2 x3 x4 y0 y1 y2 y3 y4 : Value) : Calls Tryz.prog 27 #[.pointer none, .int .i64 t, .string s, .agg #[x0, x1, x2, x3, x4], .agg #[y0, y1, y2, y3, y4]] w fun e w' => e = .returned (.slice none 0 0) ∧ Fr No w w' := by
  go_enter Tryz.func27, Tryz.ntmps27
  go_wp2_with (go_at_call 33; refine (nil_isLive _ _).mono ?_; rintro e w' ⟨rfl, rfl⟩)
  go_ret
  exact ⟨rfl, by repeat (first | exact Fr.refl _ _ | apply Fr.drew | apply Fr.drewN | apply Fr.alloc)⟩
theorem nil_Slots (w : World) : Calls Tryz.prog 28 #[.pointer none] w fun e w' => e = .returned (.int .i64 0) ∧ Fr No w w' := by
  go_enter Tryz.func28, Tryz.ntmps28
  go_wp2
  go_ret
  exact ⟨rfl, by repeat (first | exact Fr.refl _ _ | apply Fr.drew | apply Fr.drewN | apply Fr.alloc)⟩
theorem nil_Live (w : World) : Calls Tryz.prog 29 #[.pointer none] w fun e w' => e = .returned (.int .i64 0) ∧ Fr No w w' := by
  go_enter Tryz.func29, Tryz.ntmps29
  go_wp2
  go_ret
  exact ⟨rfl, by repeat (first | exact Fr.refl _ _ | apply Fr.drew | apply Fr.drewN | apply Fr.alloc)⟩
end Go.Proofs.YtofjbigojbnmfaaGreatDoor
