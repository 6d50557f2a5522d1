/- A part of the proof: contracts of functions of the program, for the row's text. -/
import Derived.Test.YthadcdoepoglkaaGreatDoorJ18
import Derived.Test.YthadcdoepoglkaaGreatDoorTrm
import Derived.Test.YthadcdoepoglkaaGreatDoorJ02
namespace Go.Proofs.YthadcdoepoglkaaGreatDoor
open Go.RowKit Go.Lig
structure ROwn (w w' : World) (v : Value) (L : List (Ver Nat)) : Prop where
 row : w'.ownsRow 0 222 3 v L.length (L.flatMap rvcell)
 blk : ∀ k, v.ownBlock = some k → w.heap.size ≤ k
 fr : Fr No w w'
set_option maxRecDepth 100000 in
set_option maxHeartbeats 2000000 in
theorem rwithout_any (w : World) (ao : Option Addr) (co i : Nat) (L : List (Ver Nat)) (h : Rd w (.slice ao L.length co) L.length 3 (L.flatMap rvcell)) (hl : L.length ≤ 1000000) (hi : i < L.length) :
  Calls Tryz.prog 223 #[.slice ao L.length co, .int .i64 (i : Int)] w fun e w' => ∃ a n, e = .returned (.slice a (i + (L.length - (i + 1))) n) ∧ ROwn w w' (.slice a (i + (L.length - (i + 1))) n) (L.take i ++ L.drop (i + 1)) := by
 obtain ⟨va, hva, ra, ba⟩ := Rd.upto (P := Tryz.prog) h Tryz.underlying127 sizeRv i (by omega)
 obtain ⟨vb, hvb, rb, bb⟩ := Rd.from_ (P := Tryz.prog) h Tryz.underlying127 sizeRv (i + 1) (by omega)
 have hvb' : ∀ w' : World, (Instr.slice 127 (.slice ao L.length co) (some (.int .i64 ((i : Int) + 1))) none none).run Tryz.prog w' = .ok vb w' := fun w' => hvb w'
 rw [rflat_take] at ra
 rw [rflat_drop] at rb
 obtain ⟨aa, ca, rfl, -⟩ := id ra
 obtain ⟨ab, cb, rfl, -⟩ := id rb
 have H := hid (⟨hva, ra, hvb', rb⟩ : _ ∧ _ ∧ _ ∧ _)
 have hw1 : IntKind.i64.wrap ((i : Int) + 1) = (i : Int) + 1 := IntWalk.i64_in _ (by omega)
 clear h hva ra ba hvb rb bb hvb'
 go_enter Tryz.func223, Tryz.ntmps223
 go_wp2_with fail
 refine wp_region_sched (by kernel_rfl) 11 [0, 4, 9] [1, 2, 3, 5, 6, 7, 8, 0, 4, 9, 10] (AgC [] w.drew) (by kernel_rfl) (AgC.refl _ _) ?_
 simp only [List.map_cons, List.map_nil, List.contains_cons, List.contains_nil, Nat.reduceBEq, Bool.or_false, Bool.or_true, nth_zero, nth_succ]
 repeat (first | (refine sched_slice rfl 127 222 Tryz.underlying127 (.tmp 6) none (some (.tmp 7)) rfl (.slice ao L.length co) rfl none (some (.int .i64 (i : Int))) rfl rfl (.slice aa i ca) H.out.1 ?_) | (refine sched_slice rfl 127 222 Tryz.underlying127 (.tmp 10) (some (.tmp 12)) none rfl (.slice ao L.length co) rfl (some (.int .i64 ((i : Int) + 1))) none rfl rfl (.slice ab (L.length - (i + 1)) cb) H.out.2.2.1 ?_) | (refine sched_quiet (fun K hK => ?_); go_simp; refine hK _ ?_; clear hK K))
 refine sched_loud (wpList_buildSlice0 rfl 127 222 rfl _ 3 24 Tryz.underlying127 infoRv ?_)
 intro w1 p1
 have a1 : AgC [] w.drew w1 := AgC.mk (fun b hb => by cases hb)
 refine sched_on a1 ?_
 have f1 : Fr No w w1 := (Fr.refl No w).drew.thenNo p1.fr
 have z1 : w1.heap.size = w.heap.size + 1 := p1.size
 have ra1 : Rd w1 (.slice aa i ca) i 3 ((L.take i).flatMap rvcell) := H.out.2.1.frame f1 (fun _ _ e => e)
 refine sched_loud (wpList_app rfl (.tmp 5) (.tmp 8) 127 rfl 222 (.agg #[.int .i64 0, .int .i64 0, .bool false]) 3 24 Tryz.underlying127 infoRv rfl (by decide) (.slice (some ⟨w.heap.size, 0, none⟩) 0 0) 0 [] rfl p1.own0 (.slice aa i ca) i ((L.take i).flatMap rvcell) rfl ra1 (by unfold maxLen; omega) (by omega) ?_)
 intro v2 w2 o2 f2 b2 _
 refine sched_on (AgC.mk (fun b hb => by cases hb)) ?_
 simp only [Nat.zero_add, List.nil_append] at o2
 have f12 : Fr No w w2 := f1.trans f2 (fun q hq e => by have := Option.some.inj e; simp at this; omega)
 have hv2 : ∀ q, v2.ownBlock = some q → w.heap.size ≤ q := fun q hq => by
  rcases b2 q hq with e | e
  ·have := Option.some.inj e; simp at this; omega
  ·omega
 have rb2 : Rd w2 (.slice ab (L.length - (i + 1)) cb) (L.length - (i + 1)) 3 ((L.drop (i + 1)).flatMap rvcell) := H.out.2.2.2.frame f12 (fun _ _ e => e)
 refine sched_loud (wpList_app rfl (.tmp 9) (.tmp 13) 127 rfl 222 (.agg #[.int .i64 0, .int .i64 0, .bool false]) 3 24 Tryz.underlying127 infoRv rfl (by decide) v2 i ((L.take i).flatMap rvcell) rfl o2 (.slice ab (L.length - (i + 1)) cb) (L.length - (i + 1)) ((L.drop (i + 1)).flatMap rvcell) rfl rb2 (by unfold maxLen; omega) (by omega) ?_)
 intro v3 w3 o3 f3 b3 _
 have f03 : Fr No w w3 := f12.trans f3 (fun q hq e => by have := hv2 q e; omega)
 refine sched_on (AgC.mk (fun b hb => by cases hb)) ?_
 have hv3 : ∀ q, v3.ownBlock = some q → w.heap.size ≤ q := fun q hq => by
  rcases b3 q hq with e | e
  ·exact hv2 q e
  ·have := f12.size; omega
 obtain ⟨a3, c3, rfl⟩ := ownsRow_slice o3
 have O3 := hid (⟨o3, f03, hv3⟩ : _ ∧ _ ∧ _)
 clear o3 f3 b3 f03 hv3 hv2 o2 f2 b2 a1 f1 f12 ra1 rb2 p1 z1
 repeat (refine sched_quiet (fun K hK => ?_); go_simp; refine hK _ ?_; clear hK K)
 refine sched_nil ?_
 go_wp2_with fail
 go_ret
 refine ⟨a3, c3, rfl, ?_, O3.out.2.2, O3.out.2.1⟩
 have o3 := O3.out.1
 have e1 : (L.take i ++ L.drop (i + 1)).length = i + (L.length - (i + 1)) := by rw [List.length_append, List.length_take, List.length_drop]; omega
 rw [e1, List.flatMap_append]
 exact o3
def rundo (t : Int) (L : List (Ver Nat)) : List (Ver Nat) := L.eraseP (fun y => y.by_ == t)
theorem eraseP_at {α : Type} {p : α → Bool} {L : List α} {i : Nat} {y : α} (hy : L[i]? = some y) (hp : p y = true) (hb : ∀ k z, k < i → L[k]? = some z → p z = false) : L.eraseP p = L.take i ++ L.drop (i + 1) := by
 have hi := (List.getElem?_eq_some_iff.1 hy).1
 have e : L = L.take i ++ y :: L.drop (i + 1) := by
  have h1 : L[i] = y := (List.getElem?_eq_some_iff.1 hy).2
  rw [← h1, ← List.drop_eq_getElem_cons hi, List.take_append_drop]
 conv => lhs; rw [e]
 rw [List.eraseP_append_right _ (fun z hz => ?_), List.eraseP_cons_of_pos hp]
 obtain ⟨k, hk, rfl⟩ := List.getElem_of_mem hz
 rw [List.length_take] at hk
 rw [List.getElem_take, hb k _ (by omega) (List.getElem?_eq_getElem (by omega))]
 simp
theorem eraseP_none {α : Type} {p : α → Bool} {L : List α} (hb : ∀ k z, k < L.length → L[k]? = some z → p z = false) : L.eraseP p = L := by
 refine List.eraseP_of_forall_not (fun z hz => ?_)
 obtain ⟨k, hk, rfl⟩ := List.getElem_of_mem hz
 rw [hb k _ hk (List.getElem?_eq_getElem hk)]
 simp
set_option maxHeartbeats 2000000 in
theorem rundo_any (w : World) (T : Nat → Prop) (x : Nat) (L : List (Ver Nat)) (h : RCellAt w T x L) (t : Int) :
  Calls Tryz.prog 201 #[.pointer (some ⟨x, 0, none⟩), .int .i64 t] w fun e w' => e = .returned (.tuple #[]) ∧ ∃ T', RCellAt w' T' x (rundo t L) ∧ Fr T w w' ∧ Grown w T T' := by
 obtain ⟨g, hr, -⟩ := h.row
 have HH := hid h
 have hs := h.small
 obtain ⟨a0, m0, h1, h2, -⟩ := hr.ex
 have x0 := cells1 h1
 have HX := hid (⟨hr, h1, h2⟩ : _ ∧ _ ∧ _)
 obtain ⟨n, hn⟩ : ∃ n, L.length = n := ⟨_, rfl⟩
 rw [hn] at hs x0
 have HN := hid hn
 clear h hn hr h1 h2
 go_enter Tryz.func201, Tryz.ntmps201
 go_wp2_with fail
 go_loop [4] (fun vi => ∃ i : Nat, i ≤ n ∧ vi = .int .i64 (i : Int) ∧ Hid (∀ k z, k < i → L[k]? = some z → (z.by_ == t) = false)) (fun vi => n - (intOf vi).toNat)
 case atStart => exact ⟨0, Nat.zero_le _, rfl, fun k z hk => absurd hk (Nat.not_lt_zero _)⟩
 case round =>
  obtain ⟨i, hi, rfl, hF⟩ := hrel
  by_cases hlt : i < n
  ·obtain ⟨y, hy⟩ : ∃ y, L[i]? = some y := ⟨L[i]'(by have := HN.out; omega), List.getElem?_eq_getElem _⟩
   obtain ⟨m, ⟨e0, y0, -, -⟩⟩ := HX.out.1.cell hy
   rw [HN.out] at e0
   obtain ⟨rfl, rfl⟩ : a0 = some ⟨g, 0, none⟩ ∧ m0 = m := by simpa using x0.symm.trans e0
   have HY := hid hy
   clear hy e0
   by_cases hb : y.by_ = t
   ·have n1 : ((y.by_ : Int) == t) = true := by rw [beq_iff_eq]; exact hb
    have HE := hid (show rundo t L = L.take i ++ L.drop (i + 1) from eraseP_at HY.out n1 hF.out)
    have HW := hid (rwithout_any w (some ⟨g, 0, none⟩) m0 i L (Rd.of_owns HX.out.2.2 (rvcell_one L)) (by have := HN.out; omega) (by have := HN.out; omega))
    rw [HN.out] at HW
    clear hb
    go_wp2_with (first | (go_at_call 223; refine HW.out.mono ?_; rintro e w1 ⟨a, n1, rfl, o⟩; have X1 := hid (o.fr.keep HX.out.2.1 (fun e => e)); have O := hid o; clear o) | (refine wpList_store1 rfl 127 (.tmp 32) (.tmp 30) rfl x 0 rfl _ 129 (.slice a (i + (n - (i + 1))) n1) rfl (by kernel_rfl) X1.out (by simp) rfl ?_; intro w2 p2; have P2 := hid p2; clear p2))
    (try simp only [Exit.inBlock, Exit.then]); refine bodyPost_ret (results_none rfl _ _ _) rfl ?_
    rw [HE.out]
    have e1 : (L.take i ++ L.drop (i + 1)).length = i + (n - (i + 1)) := by have := HN.out; rw [List.length_append, List.length_take, List.length_drop]; omega
    have hrow := O.out.row
    rw [← e1] at hrow P2 O
    obtain ⟨T', q1, q2, q3⟩ := rcell_new HH.out (O.out.fr.mono (fun _ _ e => e.elim)) hrow O.out.blk P2.out (by have := HN.out; omega) (fun z hz => HH.out.vs z ((List.mem_append.1 hz).elim List.mem_of_mem_take List.mem_of_mem_drop))
    exact ⟨rfl, T', q1, q2, q3⟩
   ·have n1 : ((y.by_ : Int) == t) = false := by rw [beq_eq_false_iff_ne]; exact hb
    clear hb
    go_wp2_with fail
    go_round
    case rel => exact ⟨i + 1, by omega, by go_num, fun k z hk hz => by
     rcases Nat.lt_succ_iff_lt_or_eq.1 hk with h | rfl
     ·exact hF.out k z h hz
     ·rw [HY.out] at hz; obtain rfl := Option.some.inj hz; exact n1⟩
    case measure => simp [intOf]; omega
  ·obtain rfl : i = n := by omega
   have HE := hid (show rundo t L = L from eraseP_none (by rw [HN.out]; exact hF.out))
   clear hlt
   go_wp2_with fail
   go_end0
   rw [HE.out]
   exact ⟨rfl, T, HH.out, Fr.refl _ _, Grown.refl _ _⟩
end Go.Proofs.YthadcdoepoglkaaGreatDoor
namespace Go.Proofs.YthadcdoepoglkaaGreatDoor
open Go.RowKit Go.Lig Go.Shelf Go.Lib
def ltrs : List UInt8 := [97, 98, 99, 100, 101, 102, 103, 104, 105, 106, 107, 108, 109, 110, 111, 112, 113, 114, 115, 116, 117, 118, 119, 120, 121, 122]
def isNameB (s : ByteArray) : Bool := decide (s.size ≠ 0) && (decide (s.size ≤ 8) && decide (Lib.trimS s.data.toList ltrs = []))
theorem trim_any (w : World) (s : ByteArray) (hs : s.size ≤ 9223372036854775807) : Calls Tryz.prog 187 #[.string s, .string ⟨#[97, 98, 99, 100, 101, 102, 103, 104, 105, 106, 107, 108, 109, 110, 111, 112, 113, 114, 115, 116, 117, 118, 119, 120, 121, 122]⟩] w fun e w' => e = .returned (.string ⟨(Lib.trimS s.data.toList ltrs).toArray⟩) ∧ Fr No w w' := by
 have hcon := Any.strings_Trim_laid layTrim (by kernel_rfl) s ⟨#[97, 98, 99, 100, 101, 102, 103, 104, 105, 106, 107, 108, 109, 110, 111, 112, 113, 114, 115, 116, 117, 118, 119, 120, 121, 122]⟩ w hs (by decide) (ascii_of_all (by decide))
 exact hcon.mono fun e w' h => ⟨h.1, Fr.of_below h.2⟩
theorem isin_any (w : World) (n lo hi : Int) : Calls Tryz.prog 120 #[.int .i64 n, .int .i64 lo, .int .i64 hi] w fun e w' => e = .returned (.bool (decide (lo ≤ n ∧ n ≤ hi))) ∧ w = w' := by
 by_cases h1 : lo ≤ n
 ·by_cases h2 : n ≤ hi
  ·rw [decide_eq_true (⟨h1, h2⟩ : _ ∧ _)]
   go_enter Tryz.func120, Tryz.ntmps120
   go_wp2
   go_ret
   exact ⟨rfl, rfl⟩
  ·rw [decide_eq_false (fun h : lo ≤ n ∧ n ≤ hi => h2 h.2)]
   go_enter Tryz.func120, Tryz.ntmps120
   go_wp2
   go_ret
   exact ⟨rfl, rfl⟩
 ·rw [decide_eq_false (fun h : lo ≤ n ∧ n ≤ hi => h1 h.1)]
  go_enter Tryz.func120, Tryz.ntmps120
  go_wp2
  go_ret
  exact ⟨rfl, rfl⟩
theorem loop_len (s : ByteArray) : ∀ (n i : Nat) (r : List UInt8), s.size - i = n → (ByteArray.toList.loop s i r).length = r.length + n
 | 0, i, r, h => by
  rw [ByteArray.toList.loop.eq_1, if_neg (by omega)]
  simp
 | n + 1, i, r, h => by
  rw [ByteArray.toList.loop.eq_1, if_pos (by omega), loop_len s n (i + 1) _ (by omega)]
  simp
  omega
theorem toList_len (s : ByteArray) : s.toList.length = s.size := by
 have := loop_len s s.size 0 [] (by omega)
 simpa [ByteArray.toList] using this
theorem toList_ne {s : ByteArray} (h : ¬ s.size = 0) : ¬ s.toList = [] := fun e => h (by rw [← toList_len, e]; rfl)
theorem toList_nil {s : ByteArray} (h : s.size = 0) : s.toList = [] := List.length_eq_zero_iff.1 (by rw [toList_len, h])
theorem isname_any (w : World) (s : ByteArray) (hs : s.size ≤ 9223372036854775807) : Calls Tryz.prog 121 #[.string s] w fun e w' => e = .returned (.bool (isNameB s)) ∧ Fr No w w' := by
 by_cases h1 : s.size = 0
 ·have hb : isNameB s = false := by simp [isNameB, h1]
  have h3 := toList_nil h1
  rw [hb]
  clear h1 hb
  go_enter Tryz.func121, Tryz.ntmps121
  go_wp2
  go_ret
  exact ⟨rfl, Fr.refl _ _⟩
 ·by_cases h2 : s.size ≤ 8
  ·have HT := hid (trim_any w s hs)
   have hb : isNameB s = decide (Lib.trimS s.data.toList ltrs = []) := by simp [isNameB, h1, h2]
   have h3 := toList_ne h1
   rw [hb]
   generalize Lib.trimS s.data.toList ltrs = r at *
   clear hb h1
   go_enter Tryz.func121, Tryz.ntmps121
   go_wp2_with (go_at_call 187; refine HT.out.mono ?_; rintro e w' ⟨rfl, f1⟩; have F1 := hid f1; clear f1)
   go_ret
   refine ⟨?_, F1.out⟩
   have h4 : s.toList.isEmpty = false := by simpa using h3
   cases r with
   | nil => simp [h4]
   | cons _ _ => simp
  ·have hb : isNameB s = false := by simp [isNameB, h2]
   have h3 := toList_ne h1
   have h4 : ¬ (s.size : Int) ≤ 8 := by omega
   rw [hb]
   clear hb h1 h2
   go_enter Tryz.func121, Tryz.ntmps121
   go_wp2
   go_ret
   exact ⟨rfl, Fr.refl _ _⟩
theorem weight_of (w : World) (x : Value) (b : Bool) (h : ∀ u : World, Sem.run Tryz.prog (binOp BinOp.geq 46 x (.float FloatKind.f64 0)) u = .ok (.bool b) u) : Calls Tryz.prog 122 #[x] w fun e w' => e = .returned (.bool b) ∧ w = w' := by
 go_enter Tryz.func122, Tryz.ntmps122
 go_wp2
 go_ret
 exact ⟨rfl, rfl⟩
end Go.Proofs.YthadcdoepoglkaaGreatDoor
namespace Go.Proofs.YthadcdoepoglkaaGreatDoor
open Go.RowKit Go.Lig
def lowB (b : UInt8) : Bool := decide (97 ≤ b.toNat) && decide (b.toNat ≤ 122)
def rnameB (s : ByteArray) : Bool := s.data.toList.all lowB && (decide (1 ≤ s.size) && decide (s.size ≤ 8))
theorem byte_at {s : ByteArray} {i : Nat} (h : i < s.size) : s.data.toList[i]? = some (s[i]'h) := by
 have : i < s.data.toList.length := by simpa using h
 rw [List.getElem?_eq_getElem this]
 rfl
set_option maxHeartbeats 1000000 in
theorem rname0_any (w : World) (s : ByteArray) (hs : s.size ≤ 140737488355328) : Calls Tryz.prog 39 #[.string s] w fun e w' => e = .returned (.bool (rnameB s)) ∧ w = w' := by
 have HN : Hid ((∀ k b, s.data.toList[k]? = some b → lowB b = true) → s.data.toList.all lowB = true) := hid (fun h => by
  rw [List.all_eq_true]
  intro x hx
  obtain ⟨k, hk, rfl⟩ := List.getElem_of_mem hx
  exact h k _ (List.getElem?_eq_getElem hk))
 have HX : Hid (∀ k b, s.data.toList[k]? = some b → lowB b = false → rnameB s = false) := hid (fun k b hk hb => by
  unfold rnameB
  rw [List.all_eq_false.2 ⟨b, List.mem_of_getElem? hk, by rw [hb]; simp⟩, Bool.false_and])
 obtain ⟨n, hn⟩ : ∃ n, s.size = n := ⟨_, rfl⟩
 have HNn := hid hn
 rw [hn] at hs
 have hnt : s.size = n := hn
 go_enter Tryz.func39, Tryz.ntmps39
 go_wp2_with fail
 go_loop [3] (fun vi => ∃ i : Nat, i ≤ n ∧ vi = .int .i64 (i : Int) ∧ Hid (∀ k b, k < i → s.data.toList[k]? = some b → lowB b = true)) (fun vi => n - (intOf vi).toNat)
 case atStart => exact ⟨0, Nat.zero_le _, rfl, fun k b hk => absurd hk (Nat.not_lt_zero _)⟩
 case round =>
  obtain ⟨i, hi, rfl, hF⟩ := hrel
  by_cases hlt : i < n
  ·have his : i < s.size := by omega
   have HY := hid (byte_at his)
   by_cases h1 : ((s[i]'his).toNat : Int) < 97
   ·have HV := hid (HX.out i _ HY.out (by unfold lowB; rw [decide_eq_false (by omega), Bool.false_and]))
    go_wp2_with fail
    go_ret
    exact ⟨by rw [HV.out]; rfl, rfl⟩
   ·by_cases h2 : (122 : Int) < ((s[i]'his).toNat : Int)
    ·have HV := hid (HX.out i _ HY.out (by unfold lowB; rw [decide_eq_false (show ¬ (s[i]'his).toNat ≤ 122 by omega), Bool.and_false]))
     go_wp2_with fail
     go_ret
     exact ⟨by rw [HV.out]; rfl, rfl⟩
    ·have HV : Hid (lowB (s[i]'his) = true) := hid (by unfold lowB; rw [decide_eq_true (by omega), decide_eq_true (by omega)]; rfl)
     go_wp2_with fail
     go_round
     case rel => exact ⟨i + 1, by omega, by go_num, fun k b hk hb => by
      rcases Nat.lt_succ_iff_lt_or_eq.1 hk with h | rfl
      ·exact hF.out k b h hb
      ·rw [HY.out] at hb; obtain rfl := Option.some.inj hb; exact HV.out⟩
     case measure => simp [intOf]; omega
  ·obtain rfl : i = n := by omega
   have HV : Hid (rnameB s = (decide (1 ≤ i) && decide (i ≤ 8))) := hid (by
    unfold rnameB
    rw [HN.out (fun k b hb => hF.out k b (by have := (List.getElem?_eq_some_iff.1 hb).1; simp at this; omega) hb), hnt, Bool.true_and])
   by_cases h1 : 1 ≤ i
   ·go_wp2_with fail
    go_ret
    have e8 : decide ((i : Int) ≤ 8) = decide (i ≤ 8) := by rw [decide_eq_decide]; omega
    exact ⟨by rw [HV.out, decide_eq_true h1, ← e8]; rfl, rfl⟩
   ·go_wp2_with fail
    go_ret
    exact ⟨by rw [HV.out, decide_eq_false h1]; rfl, rfl⟩
theorem low_all : ∀ n : Fin 256, (decide (97 ≤ n.val) && decide (n.val ≤ 122)) = ltrs.contains (UInt8.ofNat n.val) := by decide +kernel
theorem low_ltrs (b : UInt8) : lowB b = ltrs.contains b := by
 have := low_all ⟨b.toNat, b.toNat_lt⟩
 unfold lowB
 rw [this]
 congr 1
 simp
theorem trimS_nil (l cs : List UInt8) : Lib.trimS l cs = [] ↔ ∀ b ∈ l, cs.contains b = true := by
 unfold Lib.trimS Lib.trimLeftS Lib.trimRightS
 have dw : ∀ l : List UInt8, l.dropWhile (cs.contains ·) = [] ↔ ∀ b ∈ l, cs.contains b = true := fun l => by
  induction l with
  | nil => simp
  | cons x l ih =>
   rw [List.dropWhile_cons]
   cases h : cs.contains x with
   | true =>
    rw [if_pos rfl, ih]
    exact ⟨fun q b hb => (List.mem_cons.1 hb).elim (fun e => by rw [e]; exact h) (q b), fun q b hb => q b (List.mem_cons_of_mem _ hb)⟩
   | false =>
    rw [if_neg (by simp)]
    exact ⟨fun e => (by cases e), fun q => by rw [q x (List.mem_cons_self ..)] at h; cases h⟩
 rw [dw]
 constructor
 ·intro h b hb
  by_cases e : (l.reverse.dropWhile (cs.contains ·)) = []
  ·exact (dw l.reverse).1 e b (List.mem_reverse.2 hb)
  ·exfalso
   have hne : (l.reverse.dropWhile (cs.contains ·)).head e ∈ (l.reverse.dropWhile (cs.contains ·)).reverse := List.mem_reverse.2 (List.head_mem e)
   have h1 := h _ hne
   have h2 := List.head_dropWhile_not (cs.contains ·) e
   rw [h1] at h2
   cases h2
 ·intro h b hb
  exact h b (List.mem_reverse.1 ((List.dropWhile_sublist _).subset (List.mem_reverse.1 hb)))
theorem rname_eq (s : ByteArray) : isNameB s = rnameB s := by
 unfold isNameB rnameB
 have e : decide (Lib.trimS s.data.toList ltrs = []) = s.data.toList.all lowB := by
  rw [Bool.eq_iff_iff, decide_eq_true_iff, trimS_nil, List.all_eq_true]
  exact ⟨fun h b hb => (low_ltrs b).trans (h b hb), fun h b hb => (low_ltrs b).symm.trans (h b hb)⟩
 rw [e]
 have e2 : decide (s.size ≠ 0) = decide (1 ≤ s.size) := by
  by_cases h : s.size = 0
  ·rw [h]; rfl
  ·rw [decide_eq_true h, decide_eq_true (show 1 ≤ s.size by omega)]
 rw [e2]
 cases s.data.toList.all lowB <;> cases decide (1 ≤ s.size) <;> cases decide (s.size ≤ 8) <;> rfl
theorem rname_any (w : World) (s : ByteArray) (hs : s.size ≤ 140737488355328) : Calls Tryz.prog 39 #[.string s] w fun e w' => e = .returned (.bool (isNameB s)) ∧ w = w' := by
 rw [rname_eq]
 exact rname0_any w s hs
end Go.Proofs.YthadcdoepoglkaaGreatDoor
