/- A part of the proof: contracts of functions of the program, for the row's text. -/
import Derived.Test.YthadcdoepoglkaaGreatDoorRows
import Derived.Lib.OthersKept
import Derived.Lib.TrimU
import Derived.Deep.LoopGhost
import Derived.Test.YthadcdoepoglkaaGreatDoorJ02
import Derived.Test.YthadcdoepoglkaaGreatDoorJ24
import Derived.Test.YthadcdoepoglkaaGreatDoorJ14
import Derived.Test.YthadcdoepoglkaaGreatDoorJ19
import Derived.Test.YthadcdoepoglkaaGreatDoorJ16
namespace Go.Lig
open Go.RowKit
def okByte (b : UInt8) : Bool := decide (32 ≤ b.toNat) && decide (b.toNat ≤ 126)
def textOk (s : ByteArray) : Bool := s.data.toList.all okByte
def isTextB (s : ByteArray) : Bool := decide (s.size ≤ 12) && textOk s
theorem decodeN_low (n b0 b1 b2 b3 : Nat) (h : b0 < 128) : Lib.decodeN n b0 b1 b2 b3 = (b0, 1) := by unfold Lib.decodeN; rw [if_pos h]
theorem decodeN_high (n b0 b1 b2 b3 : Nat) (h : ¬ b0 < 128) : 128 ≤ (Lib.decodeN n b0 b1 b2 b3).1 := by
 unfold Lib.decodeN
 rw [if_neg h]
 repeat' split
 all_goals (simp only; omega)
theorem get_bang (s : ByteArray) (i : Nat) (h : i < s.size) : s.get! i = s.data.toList[i]'(by simpa using h) := by
 obtain ⟨⟨l⟩⟩ := s
 simp only [ByteArray.get!] at *
 have h2 : i < l.length := h
 simp [h2]
theorem rune_ok (s : ByteArray) (pos : Nat) (h : pos < s.size) (hb : okByte (s.data.toList[pos]'(by simpa using h)) = true) : (Utf8.decode s pos).2 = 1 ∧ 32 ≤ (Utf8.decode s pos).1 ∧ (Utf8.decode s pos).1 ≤ 126 := by
 rw [Lib.decode_at, get_bang s pos h]
 unfold okByte at hb
 simp only [Bool.and_eq_true, decide_eq_true_eq] at hb
 rw [decodeN_low _ _ _ _ _ (by omega)]
 exact ⟨rfl, hb.1, hb.2⟩
theorem rune_bad (s : ByteArray) (pos : Nat) (h : pos < s.size) (hb : okByte (s.data.toList[pos]'(by simpa using h)) = false) : (Utf8.decode s pos).1 < 32 ∨ 126 < (Utf8.decode s pos).1 := by
 rw [Lib.decode_at, get_bang s pos h]
 unfold okByte at hb
 simp only [Bool.and_eq_false_iff, decide_eq_false_iff_not] at hb
 by_cases h1 : (s.data.toList[pos]'(by simpa using h)).toNat < 128
 ·rw [decodeN_low _ _ _ _ _ h1]
  simp only
  omega
 ·have := decodeN_high (s.size - pos) _ (s.get! (pos + 1)).toNat (s.get! (pos + 2)).toNat (s.get! (pos + 3)).toNat h1
  omega
end Go.Lig
namespace Go.Proofs.YthadcdoepoglkaaGreatDoor
open Go.RowKit Go.Lig
theorem istext1_any (w : World) (r : Int) : Calls Tryz.prog 212 #[.int .i32 r] w fun e w' => e = .returned (.bool (decide (r < 32) || decide (126 < r))) ∧ w = w' := by
 by_cases h : r < 32
 ·rw [decide_eq_true h, Bool.true_or]
  go_enter Tryz.func212, Tryz.ntmps212
  go_wp2
  go_ret
  exact ⟨rfl, rfl⟩
 ·rw [decide_eq_false h, Bool.false_or]
  go_enter Tryz.func212, Tryz.ntmps212
  go_wp2
  go_ret
  exact ⟨rfl, rfl⟩
set_option maxRecDepth 100000 in
set_option maxHeartbeats 1000000 in
theorem indexbad_any (w : World) (s : ByteArray) : Calls Tryz.prog 232 #[.string s, .func (.func 212) #[] #[], .bool true] w fun e w' => ∃ i : Int, e = .returned (.int .i64 i) ∧ decide (i < 0) = textOk s ∧ Fr No w w' := by
 have HB : Hid (∀ k, k < s.size → (∃ h : k < s.data.toList.length, okByte s.data.toList[k] = false) → textOk s = false) := hid (fun k _ ⟨h, hb⟩ => by
  unfold textOk
  rw [List.all_eq_false]
  exact ⟨_, List.getElem_mem h, by rw [hb]; simp⟩)
 have HE : Hid ((∀ k, (h : k < s.data.toList.length) → okByte s.data.toList[k] = true) → textOk s = true) := hid (fun hb => by
  unfold textOk
  rw [List.all_eq_true]
  intro x hx
  obtain ⟨k, hk, rfl⟩ := List.getElem_of_mem hx
  exact hb k hk)
 generalize textOk s = tb at *
 go_enter Tryz.func232, Tryz.ntmps232
 go_wp2
 go_loopg [] s.size (fun g wx => ∃ pos : Nat, wx.heap[w.heap.size]? = some (.stringIter s pos) ∧ Below w.heap.size w wx ∧ pos ≤ s.size ∧ Hid (∀ k, k < pos → (h : k < s.data.toList.length) → okByte s.data.toList[k] = true) ∧ s.size ≤ pos + g)
 case atStart => exact ⟨0, World.iter_heap w s 0, (Below.refl _ w).alloc (Nat.le_refl _) _, Nat.zero_le _, fun k hk => absurd hk (Nat.not_lt_zero _), by omega⟩
 case round =>
  obtain ⟨pos, hit, hbw, hps, hok, hfu⟩ := hrel
  have hsz : w.heap.size < wr.heap.size := (Array.getElem?_eq_some_iff.1 hit).1
  have hlen : s.data.toList.length = s.size := by simp
  by_cases hp : pos < s.size
  ·obtain ⟨g, rfl⟩ : ∃ g, gk = g + 1 := ⟨gk - 1, by omega⟩
   have hnx : ∀ ty, (Instr.next (.pointer (some ⟨w.heap.size, 0, none⟩)) true ty).run Tryz.prog wr = _ := fun ty => Lib.run_next_any_at wr w.heap.size s pos ty hit hp
   have hro := rune_ok s pos hp
   have hrb := rune_bad s pos hp
   obtain ⟨R, hR⟩ : ∃ R, (Utf8.decode s pos).1 = R := ⟨_, rfl⟩
   obtain ⟨K, hK⟩ : ∃ K, (Utf8.decode s pos).2 = K := ⟨_, rfl⟩
   rw [hR, hK] at hnx hro
   rw [hR] at hrb
   have hit2 := Lib.iterAt_heap wr w.heap.size s pos (pos + K) hit
   have hbw2 := Lib.below_iterAt hbw (k := w.heap.size) (Nat.le_refl _) s (pos + K)
   generalize wr.iterAt w.heap.size s (pos + K) = W at *
   have HW := hid (⟨hit2, hbw2⟩ : _ ∧ _)
   have HL := hid hlen
   cases hb : okByte (s.data.toList[pos]'(by omega)) with
   | true =>
    obtain ⟨rfl, h1, h2⟩ := hro hb
    have HBk := hid (⟨by omega, hb⟩ : ∃ h : pos < s.data.toList.length, okByte s.data.toList[pos] = true)
    have hc : (decide ((R : Int) < 32) || decide (126 < (R : Int))) = false := by
     rw [decide_eq_false (by omega), decide_eq_false (by omega)]; rfl
    have HC := hid (istext1_any W (R : Int))
    rw [hc] at HC
    clear hro hrb hb hc hlen hbw hit hit2 hbw2 hR hK h1 h2
    go_wp2_with (go_at_call 212; refine HC.out.mono ?_; rintro e W' ⟨rfl, rfl⟩)
    go_roundg g
    case measure => omega
    case rel => exact ⟨pos + 1, HW.out.1, HW.out.2, by omega, fun k hk h => by
     rcases Nat.lt_succ_iff_lt_or_eq.1 hk with h1 | rfl
     ·exact hok.out k h1 h
     ·exact HBk.out.2, by omega⟩
   | false =>
    have hbad := hrb hb
    have HBk := hid (HB.out pos hp ⟨by omega, hb⟩)
    have hc : (decide ((R : Int) < 32) || decide (126 < (R : Int))) = true := by
     rcases hbad with h | h
     ·rw [decide_eq_true (by omega)]; rfl
     ·rw [decide_eq_true (show (126 : Int) < (R : Int) by omega), Bool.or_true]
    have HC := hid (istext1_any W (R : Int))
    rw [hc] at HC
    clear hro hrb hb hc hlen hbw hit hit2 hbw2 hR hK hbad
    go_wp2_with (go_at_call 212; refine HC.out.mono ?_; rintro e W' ⟨rfl, rfl⟩)
    go_ret
    exact ⟨(pos : Int), rfl, by rw [HBk.out]; exact decide_eq_false (by omega), Fr.of_below HW.out.2⟩
  ·have hnx : ∀ ty, (Instr.next (.pointer (some ⟨w.heap.size, 0, none⟩)) true ty).run Tryz.prog wr = _ := fun ty => Lib.run_next_end_at wr w.heap.size s pos ty hit hp
   have HE2 := hid (HE.out (fun k h => hok.out k (by omega) h))
   have HB2 := hid hbw
   clear hbw hit hlen
   go_wp2
   go_ret
   exact ⟨-1, rfl, by rw [HE2.out]; rfl, Fr.of_below HB2.out⟩
theorem indexfunc_any (w : World) (s : ByteArray) : Calls Tryz.prog 213 #[.string s, .func (.func 212) #[] #[]] w fun e w' => ∃ i : Int, e = .returned (.int .i64 i) ∧ decide (i < 0) = textOk s ∧ Fr No w w' := by
 have HI := hid (indexbad_any w s)
 go_enter Tryz.func213, Tryz.ntmps213
 go_wp2_with (go_at_call 232; refine HI.out.mono ?_; rintro e w1 ⟨i, rfl, h1, f1⟩; have F1 := hid (⟨h1, f1⟩ : _ ∧ _); clear h1 f1)
 go_ret
 exact ⟨i, rfl, F1.out.1, F1.out.2⟩
theorem istext_any (w : World) (s : ByteArray) : Calls Tryz.prog 181 #[.string s] w fun e w' => e = .returned (.bool (isTextB s)) ∧ Fr No w w' := by
 have HI := hid (indexfunc_any w s)
 have HE : Hid (isTextB s = (decide (s.size ≤ 12) && textOk s)) := hid rfl
 rw [HE.out]
 generalize textOk s = tb at *
 by_cases h : s.size ≤ 12
 ·have h2 : (s.size : Int) ≤ 12 := by omega
  rw [decide_eq_true h, Bool.true_and]
  clear h
  go_enter Tryz.func181, Tryz.ntmps181
  go_wp2_with (go_at_call 213; refine HI.out.mono ?_; rintro e w1 ⟨i, rfl, h1, f1⟩; have F1 := hid (⟨h1, f1⟩ : _ ∧ _); clear h1 f1)
  go_ret
  exact ⟨by rw [← F1.out.1]; rfl, F1.out.2⟩
 ·have h2 : ¬ (s.size : Int) ≤ 12 := by omega
  rw [decide_eq_false h, Bool.false_and]
  clear h
  go_enter Tryz.func181, Tryz.ntmps181
  go_wp2
  go_ret
  exact ⟨rfl, Fr.refl _ _⟩
end Go.Proofs.YthadcdoepoglkaaGreatDoor
namespace Go.Lig
open Go.RowKit
theorem strq (a b : ByteArray) : (a.toList == b.toList) = decide (a = b) := by
 by_cases h : a = b
 ·simp [h]
 ·have : a.toList ≠ b.toList := fun e => h (by
   rw [ByteArray.toList_eq, ByteArray.toList_eq] at e
   exact Go.WideShapes.bytes_inj e)
  simp [h, this]
end Go.Lig
namespace Go.Proofs.YthadcdoepoglkaaGreatDoor
open Go.RowKit Go.Lig
def valV (v : ValR) : Value := .agg #[.int .i64 v.kind, .bool v.b, .int .i64 v.n, .float .f64 v.f, .string v.t]
end Go.Proofs.YthadcdoepoglkaaGreatDoor
namespace Go.Lig
open Go.RowKit
theorem sched_loudrun {P : Program} {ops : Array Oper} {Q : Exit → Act → World → Prop} {S : World → Prop} {last i : Nat} {a : Act} {w w' : World} {o : Oper} {rest : List (Bool × Nat × Oper)} (hgd : Region.wanted o (yielded ops a.tmps) = true) {v : Value} (hrun : (execOp a.eval o).run P w = .ok (.value v) w') (hS : S w')
  (h : wpSched P ops Q S last rest (a.put o.dst v) w') : wpSched P ops Q S last ((true, i, o) :: rest) a w := by
 refine sched_loud ?_
 unfold wpList
 rw [if_pos hgd]
 refine .inl ?_
 unfold Oper.wp
 rw [hrun]
 unfold Oper.upon
 exact sched_on (ops := ops) hS h
end Go.Lig
namespace Go.Proofs.YthadcdoepoglkaaGreatDoor
open Go.RowKit Go.Lig
def namedV (v : ValR) : ValR := ⟨v.kind, if v.kind = 1 then v.b else false, if v.kind = 2 then v.n else 0, if v.kind = 3 then normF v.f else 0, if v.kind = 4 then v.t else ⟨#[]⟩⟩
set_option maxRecDepth 100000 in
set_option maxHeartbeats 1000000 in
theorem named_other (w : World) (vk : Int) (vb : Bool) (vn : Int) (vf : Nat) (vt : ByteArray) (h1 : ¬ vk = 1) (h2 : ¬ vk = 2) (h3 : ¬ vk = 3) (h4 : ¬ vk = 4) :
  Calls Tryz.prog 180 #[.agg #[.int .i64 vk, .bool vb, .int .i64 vn, .float .f64 vf, .string vt]] w fun e w' => e = .returned (.agg #[.int .i64 vk, .bool false, .int .i64 0, .float .f64 0, .string ⟨#[]⟩]) ∧ Fr No w w' := by
 go_enter Tryz.func180, Tryz.ntmps180
 go_wp2_with fail
 obtain ⟨e1, e2, e3⟩ := heap3 w (.cells #[.int .i64 vk, .bool vb, .int .i64 vn, .float .f64 vf, .string vt] 56) (.cells #[.int .i64 vk, .bool false, .int .i64 0, .float .f64 0, .string ⟨#[]⟩] 56) (.cells #[.int .i64 vk, .bool false, .int .i64 0, .float .f64 0, .string ⟨#[]⟩] 56)
 obtain ⟨r0, r1, r2, r3, r4⟩ := cells5 e2
 refine bodyPost_ret (v := .agg #[.int .i64 vk, .bool false, .int .i64 0, .float .f64 0, .string ⟨#[]⟩]) ?_ rfl ⟨rfl, (((Fr.refl No w).alloc _).alloc _).alloc _⟩
 simp [results, Tryz.f180, go_sem, r0, r1, r2, r3, r4]
set_option maxRecDepth 100000 in
set_option maxHeartbeats 1000000 in
theorem named_bool (w : World) (vb : Bool) (vn : Int) (vf : Nat) (vt : ByteArray) :
  Calls Tryz.prog 180 #[.agg #[.int .i64 1, .bool vb, .int .i64 vn, .float .f64 vf, .string vt]] w fun e w' => e = .returned (.agg #[.int .i64 1, .bool vb, .int .i64 0, .float .f64 0, .string ⟨#[]⟩]) ∧ Fr No w w' := by
 go_enter Tryz.func180, Tryz.ntmps180
 go_wp2_with fail
 obtain ⟨e1, e2, e3⟩ := heap3 w (.cells #[.int .i64 1, .bool vb, .int .i64 vn, .float .f64 vf, .string vt] 56) (.cells #[.int .i64 1, .bool vb, .int .i64 0, .float .f64 0, .string ⟨#[]⟩] 56) (.cells #[.int .i64 1, .bool vb, .int .i64 0, .float .f64 0, .string ⟨#[]⟩] 56)
 obtain ⟨r0, r1, r2, r3, r4⟩ := cells5 e2
 refine bodyPost_ret (v := .agg #[.int .i64 1, .bool vb, .int .i64 0, .float .f64 0, .string ⟨#[]⟩]) ?_ rfl ⟨rfl, (((Fr.refl No w).alloc _).alloc _).alloc _⟩
 simp [results, Tryz.f180, go_sem, r0, r1, r2, r3, r4]
set_option maxRecDepth 100000 in
set_option maxHeartbeats 1000000 in
theorem named_int (w : World) (vb : Bool) (vn : Int) (vf : Nat) (vt : ByteArray) :
  Calls Tryz.prog 180 #[.agg #[.int .i64 2, .bool vb, .int .i64 vn, .float .f64 vf, .string vt]] w fun e w' => e = .returned (.agg #[.int .i64 2, .bool false, .int .i64 vn, .float .f64 0, .string ⟨#[]⟩]) ∧ Fr No w w' := by
 go_enter Tryz.func180, Tryz.ntmps180
 go_wp2_with fail
 obtain ⟨e1, e2, e3⟩ := heap3 w (.cells #[.int .i64 2, .bool vb, .int .i64 vn, .float .f64 vf, .string vt] 56) (.cells #[.int .i64 2, .bool false, .int .i64 vn, .float .f64 0, .string ⟨#[]⟩] 56) (.cells #[.int .i64 2, .bool false, .int .i64 vn, .float .f64 0, .string ⟨#[]⟩] 56)
 obtain ⟨r0, r1, r2, r3, r4⟩ := cells5 e2
 refine bodyPost_ret (v := .agg #[.int .i64 2, .bool false, .int .i64 vn, .float .f64 0, .string ⟨#[]⟩]) ?_ rfl ⟨rfl, (((Fr.refl No w).alloc _).alloc _).alloc _⟩
 simp [results, Tryz.f180, go_sem, r0, r1, r2, r3, r4]
set_option maxRecDepth 100000 in
set_option maxHeartbeats 1000000 in
theorem named_real (w : World) (vb : Bool) (vn : Int) (vf : Nat) (vt : ByteArray) :
  Calls Tryz.prog 180 #[.agg #[.int .i64 3, .bool vb, .int .i64 vn, .float .f64 vf, .string vt]] w fun e w' => e = .returned (.agg #[.int .i64 3, .bool false, .int .i64 0, .float .f64 (normF vf), .string ⟨#[]⟩]) ∧ Fr No w w' := by
 go_enter Tryz.func180, Tryz.ntmps180
 go_wp2_with (go_at_call 211; refine (norm_any _ _).mono ?_; rintro e w1 ⟨rfl, rfl⟩)
 obtain ⟨e1, e2, e3⟩ := heap3 w (.cells #[.int .i64 3, .bool vb, .int .i64 vn, .float .f64 vf, .string vt] 56) (.cells #[.int .i64 3, .bool false, .int .i64 0, .float .f64 (normF vf), .string ⟨#[]⟩] 56) (.cells #[.int .i64 3, .bool false, .int .i64 0, .float .f64 (normF vf), .string ⟨#[]⟩] 56)
 obtain ⟨r0, r1, r2, r3, r4⟩ := cells5 e2
 refine bodyPost_ret (v := .agg #[.int .i64 3, .bool false, .int .i64 0, .float .f64 (normF vf), .string ⟨#[]⟩]) ?_ rfl ⟨rfl, (((Fr.refl No w).alloc _).alloc _).alloc _⟩
 simp [results, Tryz.f180, go_sem, r0, r1, r2, r3, r4]
set_option maxRecDepth 100000 in
set_option maxHeartbeats 1000000 in
theorem named_text (w : World) (vb : Bool) (vn : Int) (vf : Nat) (vt : ByteArray) :
  Calls Tryz.prog 180 #[.agg #[.int .i64 4, .bool vb, .int .i64 vn, .float .f64 vf, .string vt]] w fun e w' => e = .returned (.agg #[.int .i64 4, .bool false, .int .i64 0, .float .f64 0, .string vt]) ∧ Fr No w w' := by
 go_enter Tryz.func180, Tryz.ntmps180
 go_wp2_with fail
 obtain ⟨e1, e2, e3⟩ := heap3 w (.cells #[.int .i64 4, .bool vb, .int .i64 vn, .float .f64 vf, .string vt] 56) (.cells #[.int .i64 4, .bool false, .int .i64 0, .float .f64 0, .string vt] 56) (.cells #[.int .i64 4, .bool false, .int .i64 0, .float .f64 0, .string vt] 56)
 obtain ⟨r0, r1, r2, r3, r4⟩ := cells5 e2
 refine bodyPost_ret (v := .agg #[.int .i64 4, .bool false, .int .i64 0, .float .f64 0, .string vt]) ?_ rfl ⟨rfl, (((Fr.refl No w).alloc _).alloc _).alloc _⟩
 simp [results, Tryz.f180, go_sem, r0, r1, r2, r3, r4]
theorem named_any (w : World) (v : ValR) : Calls Tryz.prog 180 #[valV v] w fun e w' => e = .returned (valV (namedV v)) ∧ Fr No w w' := by
 obtain ⟨vk, vb, vn, vf, vt⟩ := v
 unfold namedV valV
 dsimp only
 by_cases h1 : vk = 1
 ·subst h1; exact named_bool w vb vn vf vt
 by_cases h2 : vk = 2
 ·subst h2; exact named_int w vb vn vf vt
 by_cases h3 : vk = 3
 ·subst h3; exact named_real w vb vn vf vt
 by_cases h4 : vk = 4
 ·subst h4; exact named_text w vb vn vf vt
 rw [if_neg h1, if_neg h2, if_neg h3, if_neg h4]
 exact named_other w vk vb vn vf vt h1 h2 h3 h4
end Go.Proofs.YthadcdoepoglkaaGreatDoor
namespace Go.Proofs.YthadcdoepoglkaaGreatDoor
open Go.RowKit Go.Lig
def sameN (v : ValR) : Bool := ((namedV v).b == v.b) && decide ((namedV v).n = v.n) && decide ((namedV v).t = v.t) && decide ((namedV v).f = v.f)
def valIsB (v : ValR) : Bool := sameN v && (decide (0 ≤ v.kind) && (decide (v.kind ≤ 4) && isTextB v.t))
set_option maxRecDepth 100000 in
set_option maxHeartbeats 4000000 in
theorem is_any (w : World) (v : ValR) : Calls Tryz.prog 111 #[valV v] w fun e w' => e = .returned (.bool (valIsB v)) ∧ Fr No w w' := by
 have HN := hid (fun W => named_any W v)
 have HT := hid (fun W => istext_any W v.t)
 have HV0 : Hid (valIsB v = (((namedV v).b == v.b) && decide ((namedV v).n = v.n) && decide ((namedV v).t = v.t) && decide ((namedV v).f = v.f) && (decide (0 ≤ v.kind) && (decide (v.kind ≤ 4) && isTextB v.t)))) := hid rfl
 generalize namedV v = u at *
 generalize valIsB v = r at *
 obtain ⟨vk, vb, vn, vf, vt⟩ := v
 obtain ⟨kk, bb, nn, ff, tt⟩ := u
 dsimp only [valV] at HN HT HV0 ⊢
 generalize isTextB vt = it at *
 have k1 := heap1 w (.cells #[.int .i64 vk, .bool vb, .int .i64 vn, .float .f64 vf, .string vt] 56)
 have hf : Fr No w (w.alloc (.cells #[.int .i64 vk, .bool vb, .int .i64 vn, .float .f64 vf, .string vt] 56)) := (Fr.refl No w).alloc _
 have HF := hid (⟨hf, k1⟩ : _ ∧ _)
 clear hf k1
 cases hb : (bb == vb) with
 | false =>
  have HV : Hid (r = false) := hid (by rw [HV0.out, hb]; rfl)
  clear HV0
  go_enter Tryz.func111, Tryz.ntmps111
  go_wp2_with (go_at_call 180; refine (HN.out _).mono ?_; rintro e w2 ⟨rfl, f2⟩; have F2 := hid (⟨f2, f2.keep HF.out.2 (fun e => e)⟩ : _ ∧ _); clear f2)
  obtain ⟨c0, c1, c2, c3, c4⟩ := cells5 (((Fr.refl No w2).alloc (.cells #[.int .i64 kk, .bool bb, .int .i64 nn, .float .f64 ff, .string tt] 56)).keep F2.out.2 (fun e => e))
  obtain ⟨d0, d1, d2, d3, d4⟩ := cells5 (heap1 w2 (.cells #[.int .i64 kk, .bool bb, .int .i64 nn, .float .f64 ff, .string tt] 56))
  have F3 := hid ((HF.out.1.thenNo F2.out.1).alloc (.cells #[.int .i64 kk, .bool bb, .int .i64 nn, .float .f64 ff, .string tt] 56))
  generalize w2.alloc (.cells #[.int .i64 kk, .bool bb, .int .i64 nn, .float .f64 ff, .string tt] 56) = w3 at *
  generalize w2.heap.size = b3 at *
  refine wp_region_sched (by kernel_rfl) 29 [22, 25] [0, 1, 2, 3, 4, 5, 6, 7, 8, 9, 10, 11, 12, 13, 14, 15, 16, 17, 18, 19, 20, 21, 23, 24, 22, 25, 26, 27, 28] (AgC [w.heap.size, b3] w3.drew) (by kernel_rfl) (AgC.refl _ _) ?_
  simp only [List.map_cons, List.map_nil, List.contains_cons, List.contains_nil, nth_zero, nth_succ, Nat.reduceBEq, Bool.false_or, Bool.or_false, Bool.or_true, Bool.true_or]
  repeat (refine sched_quiet (fun K hK => ?_); go_simp; refine hK _ ?_; clear hK K)
  refine sched_skip (by first | rfl | go_simp) (AgC.refl _ _) ?_
  refine sched_skip (by first | rfl | go_simp) (AgC.refl _ _) ?_
  repeat (refine sched_quiet (fun K hK => ?_); go_simp; refine hK _ ?_; clear hK K)
  refine sched_nil ?_
  go_wp2_with fail
  go_ret
  rw [HV.out]
  exact ⟨rfl, F3.out.drew⟩
 | true =>
  rw [hb] at HV0
  by_cases hn : nn = vn
  ·have hnn : ((nn : Int) == vn) = true := by rw [beq_iff_eq]; exact hn
   by_cases ht : tt = vt
   ·have htt : (tt.toList == vt.toList) = true := by rw [strq]; exact decide_eq_true ht
    by_cases hff : ff = vf
    ·have hf2 : (((ff : Nat) : Int) == ((vf : Nat) : Int)) = true := by rw [beq_iff_eq]; omega
     have HV1 : Hid (r = (decide (0 ≤ vk) && (decide (vk ≤ 4) && it))) := hid (by rw [HV0.out, decide_eq_true hn, decide_eq_true ht, decide_eq_true hff]; rfl)
     clear HV0 hn ht hff
     by_cases h0 : 0 ≤ vk
     ·by_cases h4 : vk ≤ 4
      ·have HV : Hid (r = it) := hid (by rw [HV1.out, decide_eq_true h0, decide_eq_true h4]; rfl)
       go_enter Tryz.func111, Tryz.ntmps111
       go_wp2_with (go_at_call 180; refine (HN.out _).mono ?_; rintro e w2 ⟨rfl, f2⟩; have F2 := hid (⟨f2, f2.keep HF.out.2 (fun e => e)⟩ : _ ∧ _); clear f2)
       obtain ⟨c0, c1, c2, c3, c4⟩ := cells5 (((Fr.refl No w2).alloc (.cells #[.int .i64 kk, .bool bb, .int .i64 nn, .float .f64 ff, .string tt] 56)).keep F2.out.2 (fun e => e))
       obtain ⟨d0, d1, d2, d3, d4⟩ := cells5 (heap1 w2 (.cells #[.int .i64 kk, .bool bb, .int .i64 nn, .float .f64 ff, .string tt] 56))
       have F3 := hid ((HF.out.1.thenNo F2.out.1).alloc (.cells #[.int .i64 kk, .bool bb, .int .i64 nn, .float .f64 ff, .string tt] 56))
       generalize w2.alloc (.cells #[.int .i64 kk, .bool bb, .int .i64 nn, .float .f64 ff, .string tt] 56) = w3 at *
       generalize w2.heap.size = b3 at *
       refine wp_region_sched (by kernel_rfl) 29 [22, 25] [0, 1, 2, 3, 4, 5, 6, 7, 8, 9, 10, 11, 12, 13, 14, 15, 16, 17, 18, 19, 20, 21, 23, 24, 22, 25, 26, 27, 28] (AgC [w.heap.size, b3] w3.drew) (by kernel_rfl) (AgC.refl _ _) ?_
       simp only [List.map_cons, List.map_nil, List.contains_cons, List.contains_nil, nth_zero, nth_succ, Nat.reduceBEq, Bool.false_or, Bool.or_false, Bool.or_true, Bool.true_or]
       repeat (refine sched_quiet (fun K hK => ?_); go_simp; refine hK _ ?_; clear hK K)
       refine sched_loudrun (by first | rfl | go_simp) (v := .int .u64 (ff : Int)) (w' := w3.drew) (by have hb := bits_run w3.drew ff; go_simp) (AgC.refl _ _) ?_
       refine sched_loudrun (by first | rfl | go_simp) (v := .int .u64 (vf : Int)) (w' := w3.drew) (by have hb := bits_run w3.drew vf; go_simp) (AgC.refl _ _) ?_
       repeat (refine sched_quiet (fun K hK => ?_); go_simp; refine hK _ ?_; clear hK K)
       refine sched_nil ?_
       go_wp2_with (go_at_call 181; refine (HT.out _).mono ?_; rintro e w9 ⟨rfl, f9⟩; have F9 := hid (F3.out.drew.thenNo f9); clear f9)
       go_ret
       rw [HV.out]
       exact ⟨rfl, F9.out⟩
      ·have HV : Hid (r = false) := hid (by rw [HV1.out, decide_eq_false h4, Bool.false_and, Bool.and_false])
       go_enter Tryz.func111, Tryz.ntmps111
       go_wp2_with (go_at_call 180; refine (HN.out _).mono ?_; rintro e w2 ⟨rfl, f2⟩; have F2 := hid (⟨f2, f2.keep HF.out.2 (fun e => e)⟩ : _ ∧ _); clear f2)
       obtain ⟨c0, c1, c2, c3, c4⟩ := cells5 (((Fr.refl No w2).alloc (.cells #[.int .i64 kk, .bool bb, .int .i64 nn, .float .f64 ff, .string tt] 56)).keep F2.out.2 (fun e => e))
       obtain ⟨d0, d1, d2, d3, d4⟩ := cells5 (heap1 w2 (.cells #[.int .i64 kk, .bool bb, .int .i64 nn, .float .f64 ff, .string tt] 56))
       have F3 := hid ((HF.out.1.thenNo F2.out.1).alloc (.cells #[.int .i64 kk, .bool bb, .int .i64 nn, .float .f64 ff, .string tt] 56))
       generalize w2.alloc (.cells #[.int .i64 kk, .bool bb, .int .i64 nn, .float .f64 ff, .string tt] 56) = w3 at *
       generalize w2.heap.size = b3 at *
       refine wp_region_sched (by kernel_rfl) 29 [22, 25] [0, 1, 2, 3, 4, 5, 6, 7, 8, 9, 10, 11, 12, 13, 14, 15, 16, 17, 18, 19, 20, 21, 23, 24, 22, 25, 26, 27, 28] (AgC [w.heap.size, b3] w3.drew) (by kernel_rfl) (AgC.refl _ _) ?_
       simp only [List.map_cons, List.map_nil, List.contains_cons, List.contains_nil, nth_zero, nth_succ, Nat.reduceBEq, Bool.false_or, Bool.or_false, Bool.or_true, Bool.true_or]
       repeat (refine sched_quiet (fun K hK => ?_); go_simp; refine hK _ ?_; clear hK K)
       refine sched_loudrun (by first | rfl | go_simp) (v := .int .u64 (ff : Int)) (w' := w3.drew) (by have hb := bits_run w3.drew ff; go_simp) (AgC.refl _ _) ?_
       refine sched_loudrun (by first | rfl | go_simp) (v := .int .u64 (vf : Int)) (w' := w3.drew) (by have hb := bits_run w3.drew vf; go_simp) (AgC.refl _ _) ?_
       repeat (refine sched_quiet (fun K hK => ?_); go_simp; refine hK _ ?_; clear hK K)
       refine sched_nil ?_
       go_wp2_with fail
       go_ret
       rw [HV.out]
       exact ⟨rfl, F3.out.drew⟩
     ·have HV : Hid (r = false) := hid (by rw [HV1.out, decide_eq_false h0, Bool.false_and])
      go_enter Tryz.func111, Tryz.ntmps111
      go_wp2_with (go_at_call 180; refine (HN.out _).mono ?_; rintro e w2 ⟨rfl, f2⟩; have F2 := hid (⟨f2, f2.keep HF.out.2 (fun e => e)⟩ : _ ∧ _); clear f2)
      obtain ⟨c0, c1, c2, c3, c4⟩ := cells5 (((Fr.refl No w2).alloc (.cells #[.int .i64 kk, .bool bb, .int .i64 nn, .float .f64 ff, .string tt] 56)).keep F2.out.2 (fun e => e))
      obtain ⟨d0, d1, d2, d3, d4⟩ := cells5 (heap1 w2 (.cells #[.int .i64 kk, .bool bb, .int .i64 nn, .float .f64 ff, .string tt] 56))
      have F3 := hid ((HF.out.1.thenNo F2.out.1).alloc (.cells #[.int .i64 kk, .bool bb, .int .i64 nn, .float .f64 ff, .string tt] 56))
      generalize w2.alloc (.cells #[.int .i64 kk, .bool bb, .int .i64 nn, .float .f64 ff, .string tt] 56) = w3 at *
      generalize w2.heap.size = b3 at *
      refine wp_region_sched (by kernel_rfl) 29 [22, 25] [0, 1, 2, 3, 4, 5, 6, 7, 8, 9, 10, 11, 12, 13, 14, 15, 16, 17, 18, 19, 20, 21, 23, 24, 22, 25, 26, 27, 28] (AgC [w.heap.size, b3] w3.drew) (by kernel_rfl) (AgC.refl _ _) ?_
      simp only [List.map_cons, List.map_nil, List.contains_cons, List.contains_nil, nth_zero, nth_succ, Nat.reduceBEq, Bool.false_or, Bool.or_false, Bool.or_true, Bool.true_or]
      repeat (refine sched_quiet (fun K hK => ?_); go_simp; refine hK _ ?_; clear hK K)
      refine sched_loudrun (by first | rfl | go_simp) (v := .int .u64 (ff : Int)) (w' := w3.drew) (by have hb := bits_run w3.drew ff; go_simp) (AgC.refl _ _) ?_
      refine sched_loudrun (by first | rfl | go_simp) (v := .int .u64 (vf : Int)) (w' := w3.drew) (by have hb := bits_run w3.drew vf; go_simp) (AgC.refl _ _) ?_
      repeat (refine sched_quiet (fun K hK => ?_); go_simp; refine hK _ ?_; clear hK K)
      refine sched_nil ?_
      go_wp2_with fail
      go_ret
      rw [HV.out]
      exact ⟨rfl, F3.out.drew⟩
    ·have hf2 : (((ff : Nat) : Int) == ((vf : Nat) : Int)) = false := by rw [beq_eq_false_iff_ne]; omega
     have HV : Hid (r = false) := hid (by rw [HV0.out, decide_eq_false hff, Bool.and_false]; rfl)
     clear HV0 hn ht hff
     go_enter Tryz.func111, Tryz.ntmps111
     go_wp2_with (go_at_call 180; refine (HN.out _).mono ?_; rintro e w2 ⟨rfl, f2⟩; have F2 := hid (⟨f2, f2.keep HF.out.2 (fun e => e)⟩ : _ ∧ _); clear f2)
     obtain ⟨c0, c1, c2, c3, c4⟩ := cells5 (((Fr.refl No w2).alloc (.cells #[.int .i64 kk, .bool bb, .int .i64 nn, .float .f64 ff, .string tt] 56)).keep F2.out.2 (fun e => e))
     obtain ⟨d0, d1, d2, d3, d4⟩ := cells5 (heap1 w2 (.cells #[.int .i64 kk, .bool bb, .int .i64 nn, .float .f64 ff, .string tt] 56))
     have F3 := hid ((HF.out.1.thenNo F2.out.1).alloc (.cells #[.int .i64 kk, .bool bb, .int .i64 nn, .float .f64 ff, .string tt] 56))
     generalize w2.alloc (.cells #[.int .i64 kk, .bool bb, .int .i64 nn, .float .f64 ff, .string tt] 56) = w3 at *
     generalize w2.heap.size = b3 at *
     refine wp_region_sched (by kernel_rfl) 29 [22, 25] [0, 1, 2, 3, 4, 5, 6, 7, 8, 9, 10, 11, 12, 13, 14, 15, 16, 17, 18, 19, 20, 21, 23, 24, 22, 25, 26, 27, 28] (AgC [w.heap.size, b3] w3.drew) (by kernel_rfl) (AgC.refl _ _) ?_
     simp only [List.map_cons, List.map_nil, List.contains_cons, List.contains_nil, nth_zero, nth_succ, Nat.reduceBEq, Bool.false_or, Bool.or_false, Bool.or_true, Bool.true_or]
     repeat (refine sched_quiet (fun K hK => ?_); go_simp; refine hK _ ?_; clear hK K)
     refine sched_loudrun (by first | rfl | go_simp) (v := .int .u64 (ff : Int)) (w' := w3.drew) (by have hb := bits_run w3.drew ff; go_simp) (AgC.refl _ _) ?_
     refine sched_loudrun (by first | rfl | go_simp) (v := .int .u64 (vf : Int)) (w' := w3.drew) (by have hb := bits_run w3.drew vf; go_simp) (AgC.refl _ _) ?_
     repeat (refine sched_quiet (fun K hK => ?_); go_simp; refine hK _ ?_; clear hK K)
     refine sched_nil ?_
     go_wp2_with fail
     go_ret
     rw [HV.out]
     exact ⟨rfl, F3.out.drew⟩
   ·have htt : (tt.toList == vt.toList) = false := by rw [strq]; exact decide_eq_false ht
    have HV : Hid (r = false) := hid (by rw [HV0.out, decide_eq_false ht, Bool.and_false]; rfl)
    clear HV0 ht hn
    go_enter Tryz.func111, Tryz.ntmps111
    go_wp2_with (go_at_call 180; refine (HN.out _).mono ?_; rintro e w2 ⟨rfl, f2⟩; have F2 := hid (⟨f2, f2.keep HF.out.2 (fun e => e)⟩ : _ ∧ _); clear f2)
    obtain ⟨c0, c1, c2, c3, c4⟩ := cells5 (((Fr.refl No w2).alloc (.cells #[.int .i64 kk, .bool bb, .int .i64 nn, .float .f64 ff, .string tt] 56)).keep F2.out.2 (fun e => e))
    obtain ⟨d0, d1, d2, d3, d4⟩ := cells5 (heap1 w2 (.cells #[.int .i64 kk, .bool bb, .int .i64 nn, .float .f64 ff, .string tt] 56))
    have F3 := hid ((HF.out.1.thenNo F2.out.1).alloc (.cells #[.int .i64 kk, .bool bb, .int .i64 nn, .float .f64 ff, .string tt] 56))
    generalize w2.alloc (.cells #[.int .i64 kk, .bool bb, .int .i64 nn, .float .f64 ff, .string tt] 56) = w3 at *
    generalize w2.heap.size = b3 at *
    refine wp_region_sched (by kernel_rfl) 29 [22, 25] [0, 1, 2, 3, 4, 5, 6, 7, 8, 9, 10, 11, 12, 13, 14, 15, 16, 17, 18, 19, 20, 21, 23, 24, 22, 25, 26, 27, 28] (AgC [w.heap.size, b3] w3.drew) (by kernel_rfl) (AgC.refl _ _) ?_
    simp only [List.map_cons, List.map_nil, List.contains_cons, List.contains_nil, nth_zero, nth_succ, Nat.reduceBEq, Bool.false_or, Bool.or_false, Bool.or_true, Bool.true_or]
    repeat (refine sched_quiet (fun K hK => ?_); go_simp; refine hK _ ?_; clear hK K)
    refine sched_skip (by first | rfl | go_simp) (AgC.refl _ _) ?_
    refine sched_skip (by first | rfl | go_simp) (AgC.refl _ _) ?_
    repeat (refine sched_quiet (fun K hK => ?_); go_simp; refine hK _ ?_; clear hK K)
    refine sched_nil ?_
    go_wp2_with fail
    go_ret
    rw [HV.out]
    exact ⟨rfl, F3.out.drew⟩
  ·have hnn : ((nn : Int) == vn) = false := by rw [beq_eq_false_iff_ne]; exact hn
   have HV : Hid (r = false) := hid (by rw [HV0.out, decide_eq_false hn]; rfl)
   clear HV0 hn
   go_enter Tryz.func111, Tryz.ntmps111
   go_wp2_with (go_at_call 180; refine (HN.out _).mono ?_; rintro e w2 ⟨rfl, f2⟩; have F2 := hid (⟨f2, f2.keep HF.out.2 (fun e => e)⟩ : _ ∧ _); clear f2)
   obtain ⟨c0, c1, c2, c3, c4⟩ := cells5 (((Fr.refl No w2).alloc (.cells #[.int .i64 kk, .bool bb, .int .i64 nn, .float .f64 ff, .string tt] 56)).keep F2.out.2 (fun e => e))
   obtain ⟨d0, d1, d2, d3, d4⟩ := cells5 (heap1 w2 (.cells #[.int .i64 kk, .bool bb, .int .i64 nn, .float .f64 ff, .string tt] 56))
   have F3 := hid ((HF.out.1.thenNo F2.out.1).alloc (.cells #[.int .i64 kk, .bool bb, .int .i64 nn, .float .f64 ff, .string tt] 56))
   generalize w2.alloc (.cells #[.int .i64 kk, .bool bb, .int .i64 nn, .float .f64 ff, .string tt] 56) = w3 at *
   generalize w2.heap.size = b3 at *
   refine wp_region_sched (by kernel_rfl) 29 [22, 25] [0, 1, 2, 3, 4, 5, 6, 7, 8, 9, 10, 11, 12, 13, 14, 15, 16, 17, 18, 19, 20, 21, 23, 24, 22, 25, 26, 27, 28] (AgC [w.heap.size, b3] w3.drew) (by kernel_rfl) (AgC.refl _ _) ?_
   simp only [List.map_cons, List.map_nil, List.contains_cons, List.contains_nil, nth_zero, nth_succ, Nat.reduceBEq, Bool.false_or, Bool.or_false, Bool.or_true, Bool.true_or]
   repeat (refine sched_quiet (fun K hK => ?_); go_simp; refine hK _ ?_; clear hK K)
   refine sched_skip (by first | rfl | go_simp) (AgC.refl _ _) ?_
   refine sched_skip (by first | rfl | go_simp) (AgC.refl _ _) ?_
   repeat (refine sched_quiet (fun K hK => ?_); go_simp; refine hK _ ?_; clear hK K)
   refine sched_nil ?_
   go_wp2_with fail
   go_ret
   rw [HV.out]
   exact ⟨rfl, F3.out.drew⟩
end Go.Proofs.YthadcdoepoglkaaGreatDoor
namespace Go.Proofs.YthadcdoepoglkaaGreatDoor
open Go.RowKit Go.Lig
def nameAt (l : List ByteArray) (k : Nat) : Bool := isNameB (l[k]?.getD ⟨#[]⟩) && (k == 0 || Op.bytesLess (l[k - 1]?.getD ⟨#[]⟩).toList (l[k]?.getD ⟨#[]⟩).toList)
def namesB (l : List ByteArray) (m : Nat) : Bool := (List.range l.length).all (nameAt l) && decide (l.length ≤ m)
set_option maxRecDepth 100000 in
set_option maxHeartbeats 2000000 in
theorem arenames_any (w : World) (v : Value) (l : List ByteArray) (h : Rd w v l.length 1 (l.map Value.string)) (hs : ∀ s ∈ l, s.size ≤ maxLen) (hn : l.length ≤ 1000000) (m : Nat) (hm : m ≤ 1000) :
  Calls Tryz.prog 112 #[v, .int .i64 (m : Int)] w fun e w' => e = .returned (.bool (namesB l m)) ∧ Fr No w w' := by
 obtain ⟨a, c, rfl, -⟩ := rd_len h
 have HR := hid h
 have HS := hid (fun (s : ByteArray) (hx : s ∈ l) => show s.size ≤ 9223372036854775807 from hs s hx)
 have HB : Hid (∀ k, k < l.length → nameAt l k = false → namesB l m = false) := hid (fun k hk hf => by
  unfold namesB
  rw [List.all_eq_false.2 ⟨k, List.mem_range.2 hk, by rw [hf]; simp⟩]
  rfl)
 have HE : Hid ((∀ k, k < l.length → nameAt l k = true) → namesB l m = decide (l.length ≤ m)) := hid (fun hb => by
  unfold namesB
  rw [List.all_eq_true.2 (fun k hk => hb k (List.mem_range.1 hk)), Bool.true_and])
 have HN := hid hn
 have HA : Hid (∀ k, nameAt l k = (isNameB (l[k]?.getD ⟨#[]⟩) && (k == 0 || Op.bytesLess (l[k - 1]?.getD ⟨#[]⟩).toList (l[k]?.getD ⟨#[]⟩).toList))) := hid (fun _ => rfl)
 generalize namesB l m = r at *
 generalize nameAt l = f at *
 clear h hs
 go_enter Tryz.func112, Tryz.ntmps112
 go_wp2_with fail
 generalize hLn : l.length = n at *
 have HL := hid hLn
 clear hLn
 go_loopw [9] (fun vi wr => ∃ i : Nat, i ≤ n ∧ vi = .int .i64 (i : Int) ∧ Hid (Fr No w wr ∧ ∀ k, k < i → f k = true)) (fun vi _ => n - (intOf vi).toNat)
 case atStart => exact ⟨0, Nat.zero_le _, rfl, Fr.refl _ _, fun k hk => absurd hk (Nat.not_lt_zero _)⟩
 case round =>
  obtain ⟨i, hi, rfl, HF⟩ := hrel
  by_cases hlt : i < n
  ·obtain ⟨s, hy⟩ : ∃ s, l[i]? = some s := ⟨l[i]'(by have := HL.out; omega), List.getElem?_eq_getElem _⟩
   obtain ⟨b, o, c', e, hc⟩ := HR.out.at1 (k := i) (u := .string s) (by simp [hy])
   obtain ⟨rfl, -, rfl⟩ := Value.slice.inj e
   have c0 := hc wr HF.out.1
   have HI := hid (fun W => isname_any W s (HS.out s (List.mem_of_getElem? hy)))
   have HAi : Hid (f i = (isNameB s && (i == 0 || Op.bytesLess (l[i - 1]?.getD ⟨#[]⟩).toList s.toList))) := hid (by rw [HA.out, hy]; rfl)
   have HY := hid hy
   have HC := hid hc
   clear hy e hc
   cases hnm : isNameB s with
   | false =>
    rw [hnm] at HI HAi
    have HBi := hid (HB.out i hlt (by rw [HAi.out]; rfl))
    clear hnm
    go_wp2_with (go_at_call 121; refine (HI.out _).mono ?_; rintro e w2 ⟨rfl, f2⟩; have F2 := hid (HF.out.1.thenNo f2); clear f2)
    go_ret
    rw [HBi.out]
    exact ⟨rfl, F2.out⟩
   | true =>
    rw [hnm, Bool.true_and] at HAi
    rw [hnm] at HI
    clear hnm
    by_cases hz : i = 0
    ·subst hz
     rw [Nat.add_zero] at c0
     have HAt : Hid (f 0 = true) := hid (by rw [HAi.out]; rfl)
     go_wp2_with (go_at_call 121; refine (HI.out _).mono ?_; rintro e w2 ⟨rfl, f2⟩; have F2 := hid (HF.out.1.thenNo f2); clear f2)
     go_roundw
     case rel => exact ⟨1, by omega, rfl, F2.out, fun k hk => by
      obtain rfl : k = 0 := by omega
      exact HAt.out⟩
     case measure => simp [intOf]; omega
    ·obtain ⟨j, rfl⟩ : ∃ j, i = j + 1 := ⟨i - 1, by omega⟩
     have hz2 : (0 : Int) < ((j + 1 : Nat) : Int) := by omega
     obtain ⟨q, hq⟩ : ∃ q, l[j]? = some q := ⟨l[j]'(by have := HL.out; omega), List.getElem?_eq_getElem _⟩
     obtain ⟨b', o', c'', e', hc'⟩ := HR.out.at1 (k := j) (u := .string q) (by simp [hq])
     obtain ⟨h1, -, -⟩ := Value.slice.inj e'
     simp only [Option.some.injEq, Addr.mk.injEq, and_true] at h1
     obtain ⟨rfl, rfl⟩ := h1
     have hw1 : ((j + 1 : Nat) : Int) - 1 = (j : Int) := by omega
     have HAj : Hid (f (j + 1) = Op.bytesLess q.toList s.toList) := hid (by
      rw [HAi.out, show j + 1 - 1 = j by omega, hq, show (j + 1 == 0) = false from rfl, Bool.false_or]; rfl)
     have HC' := hid hc'
     clear hq e' hc' HAi
     have hw2 : IntKind.i64.wrap (((j + 1 : Nat) : Int) - 1) = (j : Int) := by rw [hw1]; exact IntWalk.i64_in _ (by omega)
     have hw3 : wrap64 (((j + 1 : Nat) : Int) - 1) = (j : Int) := by unfold wrap64; omega
     cases hls : Op.bytesLess q.toList s.toList with
     | true =>
      rw [hls] at HAj
      go_wp2_with (go_at_call 121; refine (HI.out _).mono ?_; rintro e w2 ⟨rfl, f2⟩; have F2 := hid (HF.out.1.thenNo f2); have e1 := HC'.out w2 F2.out; clear f2)
      go_roundw
      case rel => exact ⟨j + 1 + 1, by omega, by go_num, F2.out, fun k hk => by
       rcases Nat.lt_succ_iff_lt_or_eq.1 hk with h | rfl
       ·exact HF.out.2 k h
       ·exact HAj.out⟩
      case measure => simp [intOf]; omega
     | false =>
      rw [hls] at HAj
      go_wp2_with (go_at_call 121; refine (HI.out _).mono ?_; rintro e w2 ⟨rfl, f2⟩; have F2 := hid (HF.out.1.thenNo f2); have e1 := HC'.out w2 F2.out; clear f2)
      go_ret
      have e2 := HB.out (j + 1) (by omega) HAj.out
      rw [e2]
      exact ⟨rfl, F2.out⟩
  ·obtain rfl : i = n := by omega
   have HE2 := hid (HE.out HF.out.2)
   go_wp2_with fail
   go_ret
   exact ⟨by rw [HE2.out]; rfl, HF.out.1⟩
end Go.Proofs.YthadcdoepoglkaaGreatDoor
