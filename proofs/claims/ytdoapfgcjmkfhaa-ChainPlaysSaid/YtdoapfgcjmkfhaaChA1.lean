/- Add, where the list has entries; Add as such. -/
import Derived.Test.YtdoapfgcjmkfhaaChA
namespace Go.Proofs.Ytdoapfgcjmkfhaa
open Go.RowKit Go.Lig

theorem ChAt.neq {w : World} {c : Nat} {I : List (Int × Int)} {B : Role → Nat} {ρ : Nat → Option Role} {m : Nat} (h : ChAt w c I B ρ m) {r r' : Role} (hr : Live I r) (hr' : Live I r') (e : r ≠ r') : B r ≠ B r' := by
  intro e'
  have h1 := h.rho r hr
  rw [e', h.rho r' hr'] at h1
  exact e (Option.some.inj h1).symm
theorem info_link : (Try.prog.info? 46).map (·.size) = some 1 := by kernel_rfl
theorem info_int : (Try.prog.info? 3).map (·.size) = some 1 := by kernel_rfl
def pt (b : Nat) : Value := .pointer (some ⟨b, 0, none⟩)
theorem more_done {w w2 w3 w6 : World} {c : Nat} {I : List (Int × Int)} {B : Role → Nat} {ρ : Nat → Option Role} {m : Nat} {k x y : Int} (h : ChAt w c I B ρ m) (hy : (ids I k).head? = some y) (hn : ids I k ≠ [])
    (p2 : Put (B (.link k y)) #[.int .i64 y, .pointer (some ⟨w.heap.size, 0, none⟩), ptrO B k (nxt (ids I k) y)] 50 (w.alloc (.cells #[.int .i64 x, .pointer none, .pointer (some ⟨B (.link k y), 0, none⟩)] 50)) w2)
    (p3 : Put (B (.list k)) #[.pointer (some ⟨w.heap.size, 0, none⟩), ptrO B k (ids I k).getLast?, .map (some (B (.lmap k)))] 48 w2 w3)
    (m6 : MapAt w6 Try.prog 3 (B (.lmap k)) (m + 1) (upd (fun x => if x ∈ ids I k then .pointer (some ⟨B (.link k x), 0, none⟩) else .pointer none) x (.pointer (some ⟨w.heap.size, 0, none⟩))))
    (f6 : Fr (fun j => j = B (.lmap k)) w3 w6) (z6 : w6.heap.size = w3.heap.size)
    (hc6 : w6.heap[c]? = some (.cells #[.map (some (B .rmap)), .int .i64 (I.length : Int)] 43 (0, 0))) :
    Added w (w6.setCell ⟨c, 1, none⟩ (.int .i64 ((I.length : Int) + 1))) c I B ρ m k x (B (.list k)) (B (.lmap k)) w.heap.size ∧
      Fr (fun b => ρ b ≠ none) w (w6.setCell ⟨c, 1, none⟩ (.int .i64 ((I.length : Int) + 1))) := by
  have hyl : y ∈ ids I k := List.mem_of_head? hy
  have hc := lt_of_block h.croot
  have hlt : ∀ r, Live I r → B r < w.heap.size := fun r hr => h.bound _ (by rw [h.rho r hr]; simp)
  have hne : ∀ r r', Live I r → Live I r' → r ≠ r' → B r ≠ B r' := fun r r' hr hr' e => h.neq hr hr' e
  have hcr : ∀ r, Live I r → r ≠ .root → B r ≠ c := fun r hr e => by have := hne r .root hr trivial e; rwa [h.root] at this
  have hln : Live I (.list k) := hn
  have hmn : Live I (.lmap k) := hn
  have hkn : Live I (.link k y) := hyl
  have hs2 : w2.heap.size = w.heap.size + 1 := by rw [p2.size]; simp
  have hs3 : w3.heap.size = w.heap.size + 1 := by rw [p3.size, hs2]
  have g2 : Fr (fun b => b = B (.link k y)) w w2 := ((Fr.refl _ w).alloc _).thenS p2.fr
  have g3 := (g2.mono (S' := fun b => b = B (.link k y) ∨ b = B (.list k)) (fun _ _ e => .inl e)).trans p3.fr (fun _ _ e => .inr e)
  have g6 := (g3.mono (S' := fun b => b = B (.link k y) ∨ b = B (.list k) ∨ b = B (.lmap k)) (fun _ _ e => e.elim .inl (fun e => .inr (.inl e)))).trans f6 (fun _ _ e => .inr (.inr e))
  have g7 : Fr (fun b => b = B (.link k y) ∨ b = B (.list k) ∨ b = B (.lmap k) ∨ b = c) w (w6.setCell ⟨c, 1, none⟩ (.int .i64 ((I.length : Int) + 1))) := (g6.mono (S' := fun b => b = B (.link k y) ∨ b = B (.list k) ∨ b = B (.lmap k) ∨ b = c) (fun _ _ e => e.elim .inl (fun e => e.elim (fun e => .inr (.inl e)) (fun e => .inr (.inr (.inl e)))))).setCell _ (fun _ => .inr (.inr (.inr rfl)))
  have f7 : Fr (fun j => j = c) w6 (w6.setCell ⟨c, 1, none⟩ (.int .i64 ((I.length : Int) + 1))) := (Fr.refl _ w6).setCell _ (fun _ => rfl)
  have hout : ∀ r, Live I r → r ≠ .root → r ≠ .list k → r ≠ .lmap k → r ≠ .link k y → ¬ (B r = B (.link k y) ∨ B r = B (.list k) ∨ B r = B (.lmap k) ∨ B r = c) := fun r hr h1 h2 h3 h4 => by
    rintro (e | e | e | e)
    · exact hne r _ hr hkn h4 e
    · exact hne r _ hr hln h2 e
    · exact hne r _ hr hmn h3 e
    · exact hcr r hr h1 e
  refine ⟨⟨fun _ => ⟨rfl, rfl⟩, fun e => absurd e hn, by have := hlt _ hln; have := hlt _ hmn; omega, by have := hlt _ hln; have := hlt _ hmn; simp [World.setCell]; omega, ?_, ?_, ?_, ?_, ?_, ?_, ?_, ?_, ?_⟩, g7.mono (fun b _ e => ?_)⟩
  · simpa using hset (k := 1) (v := .int .i64 ((I.length : Int) + 1)) hc6
  · have e1 := (h.cmap.frame g7 (hout .rmap trivial (by simp) (by simp) (by simp) (by simp))).more (m := m + 1) (by omega)
    have ef : (fun j => if j = k then Value.pointer (some ⟨B (.list k), 0, none⟩) else if ids I j = [] then .pointer none else .pointer (some ⟨B (.list j), 0, none⟩)) = (fun j => if ids I j = [] then .pointer none else .pointer (some ⟨B (.list j), 0, none⟩)) := by
      funext j
      by_cases e : j = k
      · subst e; simp [hn]
      · simp [e]
    rw [ef]
    exact e1
  · rw [f7.block _ (by have := hlt _ hln; omega) (hcr _ hln (by simp)), f6.keep p3.at_ (hne _ _ hln hmn (by simp)), if_neg hn]
  · exact m6.frame f7 (hcr _ hmn (by simp)) 
  · rw [f7.block _ (by omega) (by show w.heap.size ≠ c; omega), f6.keep (p3.keep (p2.keep (heap1 w _) (by have := hlt _ hkn; omega)) (by have := hlt _ hln; omega)) (by have := hlt _ hmn; omega), hy]
    rfl
  · intro z hz
    have hzl : Live I (.link k z) := hz
    by_cases e : z = y
    · subst e
      rw [f7.block _ (by have := hlt _ hzl; omega) (hcr _ hzl (by simp)), f6.keep (p3.keep p2.at_ (hne _ _ hzl hln (by simp))) (hne _ _ hzl hmn (by simp)), if_pos hy]
    · have hyz : ¬ (ids I k).head? = some z := by rw [hy]; simpa using Ne.symm e
      rw [g7.block _ (hlt _ hzl) (hout _ hzl (by simp) (by simp) (by simp) (by simp [e])), if_neg hyz]
      exact h.clink k z hz
  · intro j hj hn'
    exact g7.block _ (hlt (.list j) hn') (hout (.list j) hn' (by simp) (by simp [hj]) (by simp) (by simp))
  · intro j f hj hn' hm'
    exact (hm'.frame g7 (hout (.lmap j) hn' (by simp) (by simp) (by simp [hj]) (by simp))).more (by omega)
  · intro j z hj hz
    exact g7.block _ (hlt (.link j z) hz) (hout (.link j z) hz (by simp) (by simp) (by simp) (by simp [hj]))
  · rcases e with rfl | rfl | rfl | rfl
    · rw [h.rho _ hkn]; simp
    · rw [h.rho _ hln]; simp
    · rw [h.rho _ hmn]; simp
    · rw [← h.root, h.rho .root trivial]; simp
set_option maxRecDepth 100000 in
set_option maxHeartbeats 1000000 in
theorem add_more (w : World) (c : Nat) (I : List (Int × Int)) (B : Role → Nat) (ρ : Nat → Option Role) (m : Nat) (h : ChAt w c I B ρ m) (k x y : Int) (hk : keyOk k) (hx : keyOk x) (hy : (ids I k).head? = some y) (hnx : x ∉ ids I k) (hm : m ≤ 1000000) (hl : I.length ≤ 1000000) :
    Calls Try.prog 10 #[.pointer (some ⟨c, 0, none⟩), .int .i64 k, .int .i64 x] w fun e w' => e = .returned (.bool true) ∧ ∃ B' ρ', ChAt w' c ((k, x) :: I) B' ρ' (m + 1) ∧ Fr (fun b => ρ b ≠ none) w w' ∧ ∀ b, ρ' b ≠ none → ρ b ≠ none ∨ w.heap.size ≤ b := by
  have hn : ids I k ≠ [] := by intro e; rw [e] at hy; cases hy
  have hyl : y ∈ ids I k := List.mem_of_head? hy
  have HA := hid (has_any w c I B ρ m h k x hk hx)
  rw [show decide (x ∈ ids I k) = false from decide_eq_false hnx] at HA
  obtain ⟨c0, c1⟩ := cells2 h.croot
  have HE : Hid ((if ids I k = [] then Value.pointer none else .pointer (some ⟨B (.list k), 0, none⟩)) = .pointer (some ⟨B (.list k), 0, none⟩)) := hid (if_neg hn)
  have hbl := h.clist k hn
  rw [hy, show ptrO B k (some y) = .pointer (some ⟨B (.link k y), 0, none⟩) from rfl] at hbl
  have HB := hid hbl
  obtain ⟨q0, -, -⟩ := cells3 hbl
  obtain ⟨q1, -, -⟩ := cells3 (hold' (o := .cells #[.int .i64 x, .pointer none, .pointer (some ⟨B (.link k y), 0, none⟩)] 50) hbl)
  have HK := hid (h.clink k y hyl)
  have H := hid (⟨h, hk, hx, hy, hn, hyl, hnx⟩ : _ ∧ keyOk k ∧ keyOk x ∧ _ ∧ _ ∧ _ ∧ _)
  clear h hk hx hn c1 hy hyl hnx hbl
  go_enter Try.func10, Try.ntmps10
  go_wp2_with (first | (go_at_call 21; refine HA.out.mono ?_; rintro e w' ⟨rfl, rfl⟩) | (refine wpList_look (k := 3) (e := 44) rfl (.tmp 20) (.tmp 21) 41 rfl Try.underlying3 Try.underlying41 (zero_list _) rfl H.out.1.cmap k rfl H.out.2.1 (.pointer (some ⟨B (.list k), 0, none⟩)) HE.out ?_) | (refine wpList_store1 rfl 46 (.tmp 52) (.tmp 50) rfl (B (.link k y)) 1 rfl #[.int .i64 y, ptrO B k (prv (ids I k) y), ptrO B k (nxt (ids I k) y)] 50 (.pointer (some ⟨w.heap.size, 0, none⟩)) rfl info_link (hold' HK.out) (by simp) rfl ?_; intro w2 p2; have hl2 := p2.keep (hold' HB.out) (H.out.1.neq (r := .list k) (r' := .link k y) H.out.2.2.2.2.1 H.out.2.2.2.2.2.1 (by simp)); have q2 := (cells3 hl2).2.2; have P2 := hid p2; have HB2 := hid hl2; clear p2 hl2) | (refine wpList_store1 rfl 46 (.tmp 66) (.tmp 63) rfl (B (.list k)) 0 rfl #[.pointer (some ⟨B (.link k y), 0, none⟩), ptrO B k (ids I k).getLast?, .map (some (B (.lmap k)))] 48 (.pointer (some ⟨w.heap.size, 0, none⟩)) rfl info_link HB2.out (by simp) rfl ?_; intro w3 p3; have P3 := hid p3; clear p3) | (refine wpList_mentry (k := 3) (e := 46) rfl (.tmp 61) (.tmp 62) 45 rfl Try.underlying3 Try.underlying45 zero_link rfl (((H.out.1.clmap k H.out.2.2.2.2.1).frame (((Fr.refl _ w).alloc _).thenS P2.out.fr) (H.out.1.neq (r := .lmap k) (r' := .link k y) H.out.2.2.2.2.1 H.out.2.2.2.2.2.1 (by simp))).frame P3.out.fr (H.out.1.neq (r := .lmap k) (r' := .list k) H.out.2.2.2.2.1 H.out.2.2.2.2.1 (by simp))) (by unfold maxLen; omega) x rfl H.out.2.2.1 (.pointer (some ⟨w.heap.size, 0, none⟩)) ?_; intro v0 st w5 e5; obtain ⟨w6, r6, m6, f6, z6⟩ := e5; have hc6 := f6.keep (P3.out.keep (P2.out.keep (hold' H.out.1.croot) (by have := H.out.1.neq (r := .root) (r' := .link k y) trivial H.out.2.2.2.2.2.1 (by simp); rwa [H.out.1.root] at this)) (by have := H.out.1.neq (r := .root) (r' := .list k) trivial H.out.2.2.2.2.1 (by simp); rwa [H.out.1.root] at this)) (by have := H.out.1.neq (r := .root) (r' := .lmap k) trivial H.out.2.2.2.2.1 (by simp); rwa [H.out.1.root] at this); have q6 := (cells2 hc6).2; have z6f := freeAll hc6; have M6 := hid (⟨m6, f6, z6, hc6⟩ : _ ∧ _ ∧ _ ∧ _); have R6 := hid r6; clear m6 f6 z6 hc6 r6) | (refine wpList_mentryStore rfl (.tmp 61) (.tmp 68) (.tmp 64) 45 rfl _ _ _ rfl rfl rfl R6.out ?_))
  go_ret
  obtain ⟨m6, f6, z6, hc6⟩ := M6.out
  obtain ⟨h, hk, hx, hy, hn, hyl, hnx⟩ := H.out
  obtain ⟨a, hf⟩ := more_done h hy hn P2.out P3.out m6 f6 z6 hc6
  refine ⟨rfl, _, _, a.done h hnx, hf, fun b hb => ?_⟩
  by_cases h0 : ρ b = none
  · right
    unfold newR at hb
    split at hb
    · rename_i e; rw [e, h.rho (.list k) hn] at h0; cases h0
    · split at hb
      · rename_i e; rw [e, h.rho (.lmap k) hn] at h0; cases h0
      · split at hb
        · omega
        · exact absurd h0 hb
  · exact .inl h0
/-- what an Add makes of it, and answers -/
def addI (I : List (Int × Int)) (k x : Int) : List (Int × Int) := if (k, x) ∈ I then I else (k, x) :: I
theorem add_any (w : World) (c : Nat) (I : List (Int × Int)) (B : Role → Nat) (ρ : Nat → Option Role) (m : Nat) (h : ChAt w c I B ρ m) (k x : Int) (hk : keyOk k) (hx : keyOk x) (hm : m ≤ 1000000) (hl : I.length ≤ 1000000) :
    Calls Try.prog 10 #[.pointer (some ⟨c, 0, none⟩), .int .i64 k, .int .i64 x] w fun e w' => e = .returned (.bool (decide ((k, x) ∉ I))) ∧ ∃ B' ρ', ChAt w' c (addI I k x) B' ρ' (m + 1) ∧ Fr (fun b => ρ b ≠ none) w w' ∧ ∀ b, ρ' b ≠ none → ρ b ≠ none ∨ w.heap.size ≤ b := by
  by_cases hin : (k, x) ∈ I
  · refine (add_there w c I B ρ m h k x hk hx ((mem_ids I k x).2 hin)).mono ?_
    rintro e w' ⟨rfl, rfl⟩
    refine ⟨by rw [decide_eq_false (not_not_intro hin)], B, ρ, ?_, Fr.refl _ _, fun b hb => .inl hb⟩
    rw [addI, if_pos hin]
    exact ⟨h.nodup, h.root, h.rho, h.bound, h.croot, h.cmap.more (by omega), h.clist, fun k hk => (h.clmap k hk).more (by omega), h.clink⟩
  · rw [show decide ((k, x) ∉ I) = true from decide_eq_true hin, addI, if_neg hin]
    have hnx : x ∉ ids I k := fun e => hin ((mem_ids I k x).1 e)
    cases hids : (ids I k).head? with
    | none => exact add_first w c I B ρ m h k x hk hx (List.head?_eq_none_iff.1 hids) hm hl
    | some y => exact add_more w c I B ρ m h k x y hk hx hids hnx hm hl
end Go.Proofs.Ytdoapfgcjmkfhaa
