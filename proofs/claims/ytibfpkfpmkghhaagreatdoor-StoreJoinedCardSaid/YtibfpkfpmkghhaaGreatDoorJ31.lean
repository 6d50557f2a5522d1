/- A part of the proof: contracts of functions of the program, for the row's text. -/
import Derived.Test.YtibfpkfpmkghhaaGreatDoorJ22
import Derived.Test.YtibfpkfpmkghhaaGreatDoorJ15
import Derived.Test.YtibfpkfpmkghhaaGreatDoorJ21
import Derived.Test.YtibfpkfpmkghhaaGreatDoorJ03
import Derived.Test.YtibfpkfpmkghhaaGreatDoorJ25
import Derived.Test.YtibfpkfpmkghhaaGreatDoorTrm
import Derived.Test.YtibfpkfpmkghhaaGreatDoorJ02
namespace Go.Lig
open Go.RowKit
theorem strq (a b : ByteArray) : (a.toList == b.toList) = decide (a = b) := by
  by_cases h : a = b
  · simp [h]
  · have : a.toList ≠ b.toList := fun e => h (by
      rw [ByteArray.toList_eq, ByteArray.toList_eq] at e
      exact Go.WideShapes.bytes_inj e)
    simp [h, this]
def idxZ (o : Option Nat) : Int := match o with
  | some j => j
  | none => -1
end Go.Lig
namespace Go.Proofs.YtibfpkfpmkghhaaGreatDoor
open Go.RowKit Go.Lig

def valV (v : ValR) : Value := .agg #[.int .i64 v.kind, .bool v.b, .int .i64 v.n, .float .f64 v.f, .string v.t]
end Go.Proofs.YtibfpkfpmkghhaaGreatDoor

namespace Go.Proofs.YtibfpkfpmkghhaaGreatDoor
open Go.RowKit Go.Lig

theorem OwnR.app {w w1 w2 w3 : World} {e t : TypeId} {size : Nat} {v v' : Value} {n m : Nat} {xs ys : List Value} {cs : Array Value} (h : OwnR w w1 e size v n xs) (p2 : New cs t w1 w2) (o : w3.ownsRow 0 e size v' (n + m) (xs ++ ys)) (f : Fr (fun k => v.ownBlock = some k) w2 w3)
    (b : ∀ k, v'.ownBlock = some k → v.ownBlock = some k ∨ w2.heap.size ≤ k) : OwnR w w3 e size v' (n + m) (xs ++ ys) := by
  refine ⟨o, fun j hj => ?_, (h.fr.thenNo p2.fr).trans f (fun k hk e => by have := h.blk k e; omega)⟩
  rcases b j hj with e | e
  · exact h.blk j e
  · have := h.fr.size
    have := p2.fr.size
    omega
end Go.Proofs.YtibfpkfpmkghhaaGreatDoor

namespace Go.Proofs.YtibfpkfpmkghhaaGreatDoor
open Go.RowKit Go.Lig Go.Shelf Go.Lib

def ltrs : List UInt8 := [97, 98, 99, 100, 101, 102, 103, 104, 105, 106, 107, 108, 109, 110, 111, 112, 113, 114, 115, 116, 117, 118, 119, 120, 121, 122]
def isNameB (s : ByteArray) : Bool := decide (s.size ≠ 0) && (decide (s.size ≤ 8) && decide (Lib.trimS s.data.toList ltrs = []))
theorem trim_any (w : World) (s : ByteArray) (hs : s.size ≤ 9223372036854775807) : Calls Tryz.prog 198 #[.string s, .string ⟨#[97, 98, 99, 100, 101, 102, 103, 104, 105, 106, 107, 108, 109, 110, 111, 112, 113, 114, 115, 116, 117, 118, 119, 120, 121, 122]⟩] w fun e w' => e = .returned (.string ⟨(Lib.trimS s.data.toList ltrs).toArray⟩) ∧ Fr No w w' := by
  have hcon := Any.strings_Trim_laid layTrim (by kernel_rfl) s ⟨#[97, 98, 99, 100, 101, 102, 103, 104, 105, 106, 107, 108, 109, 110, 111, 112, 113, 114, 115, 116, 117, 118, 119, 120, 121, 122]⟩ w hs (by decide) (ascii_of_all (by decide))
  exact hcon.mono fun e w' h => ⟨h.1, Fr.of_below h.2⟩
theorem isin_any (w : World) (n lo hi : Int) : Calls Tryz.prog 131 #[.int .i64 n, .int .i64 lo, .int .i64 hi] w fun e w' => e = .returned (.bool (decide (lo ≤ n ∧ n ≤ hi))) ∧ w = w' := by
  by_cases h1 : lo ≤ n
  · by_cases h2 : n ≤ hi
    · rw [decide_eq_true (⟨h1, h2⟩ : _ ∧ _)]
      go_enter Tryz.func131, Tryz.ntmps131
      go_wp2
      go_ret
      exact ⟨rfl, rfl⟩
    · rw [decide_eq_false (fun h : lo ≤ n ∧ n ≤ hi => h2 h.2)]
      go_enter Tryz.func131, Tryz.ntmps131
      go_wp2
      go_ret
      exact ⟨rfl, rfl⟩
  · rw [decide_eq_false (fun h : lo ≤ n ∧ n ≤ hi => h1 h.1)]
    go_enter Tryz.func131, Tryz.ntmps131
    go_wp2
    go_ret
    exact ⟨rfl, rfl⟩
theorem loop_len (s : ByteArray) : ∀ (n i : Nat) (r : List UInt8), s.size - i = n → (ByteArray.toList.loop s i r).length = r.length + n
  | 0, i, r, h => by
    rw [ByteArray.toList.loop.eq_1, if_neg (by omega)]
    simp
  | n + 1, i, r, h => by
    rw [ByteArray.toList.loop.eq_1, if_pos (by omega), loop_len s n (i + 1) _ (by omega)]
    simp
    omega
theorem toList_len (s : ByteArray) : s.toList.length = s.size := by
  have := loop_len s s.size 0 [] (by omega)
  simpa [ByteArray.toList] using this
theorem toList_ne {s : ByteArray} (h : ¬ s.size = 0) : ¬ s.toList = [] := fun e => h (by rw [← toList_len, e]; rfl)
theorem toList_nil {s : ByteArray} (h : s.size = 0) : s.toList = [] := List.length_eq_zero_iff.1 (by rw [toList_len, h])
theorem isname_any (w : World) (s : ByteArray) (hs : s.size ≤ 9223372036854775807) : Calls Tryz.prog 132 #[.string s] w fun e w' => e = .returned (.bool (isNameB s)) ∧ Fr No w w' := by
  by_cases h1 : s.size = 0
  · have hb : isNameB s = false := by simp [isNameB, h1]
    have h3 := toList_nil h1
    rw [hb]
    clear h1 hb
    go_enter Tryz.func132, Tryz.ntmps132
    go_wp2
    go_ret
    exact ⟨rfl, Fr.refl _ _⟩
  · by_cases h2 : s.size ≤ 8
    · have HT := hid (trim_any w s hs)
      have hb : isNameB s = decide (Lib.trimS s.data.toList ltrs = []) := by simp [isNameB, h1, h2]
      have h3 := toList_ne h1
      rw [hb]
      generalize Lib.trimS s.data.toList ltrs = r at *
      clear hb h1
      go_enter Tryz.func132, Tryz.ntmps132
      go_wp2_with (go_at_call 198; refine HT.out.mono ?_; rintro e w' ⟨rfl, f1⟩; have F1 := hid f1; clear f1)
      go_ret
      refine ⟨?_, F1.out⟩
      have h4 : s.toList.isEmpty = false := by simpa using h3
      cases r with
      | nil => simp [h4]
      | cons _ _ => simp
    · have hb : isNameB s = false := by simp [isNameB, h2]
      have h3 := toList_ne h1
      have h4 : ¬ (s.size : Int) ≤ 8 := by omega
      rw [hb]
      clear hb h1 h2
      go_enter Tryz.func132, Tryz.ntmps132
      go_wp2
      go_ret
      exact ⟨rfl, Fr.refl _ _⟩
theorem weight_of (w : World) (x : Value) (b : Bool) (h : ∀ u : World, Sem.run Tryz.prog (binOp BinOp.geq 40 x (.float FloatKind.f64 0)) u = .ok (.bool b) u) : Calls Tryz.prog 133 #[x] w fun e w' => e = .returned (.bool b) ∧ w = w' := by
  go_enter Tryz.func133, Tryz.ntmps133
  go_wp2
  go_ret
  exact ⟨rfl, rfl⟩
theorem weight_zero (w : World) : Calls Tryz.prog 133 #[.float FloatKind.f64 0] w fun e w' => e = .returned (.bool true) ∧ w = w' := weight_of w _ _ (fun u => by kernel_rfl)
theorem isedge_ok (w : World) (p q : Int) (s : ByteArray) (x : Value) (hp : 1 ≤ p ∧ p ≤ 24) (hq : 1 ≤ q ∧ q ≤ 24) (hs : isNameB s = true) (hl : s.size ≤ 9223372036854775807) (h1 : x.oneCell' = true) (hx : ∀ u : World, Calls Tryz.prog 133 #[x] u fun e w' => e = .returned (.bool true) ∧ u = w') :
    Calls Tryz.prog 63 #[.agg #[.int .i64 p, .int .i64 q, .string s, x]] w fun e w' => e = .returned (.bool true) ∧ Fr No w w' := by
  have HS : Hid (∀ u : World, Calls Tryz.prog 132 #[.string s] u fun e w' => e = .returned (.bool true) ∧ Fr No u w') := hid (fun u => by have := isname_any u s hl; rwa [hs] at this)
  have HX := hid hx
  have hb := heap1 w (.cells #[.int .i64 p, .int .i64 q, .string s, x] 42)
  obtain ⟨c0, c1, c2, c3⟩ := cells4 hb
  have hf : Hid (Fr No w (w.alloc (.cells #[.int .i64 p, .int .i64 q, .string s, x] 42))) := hid ((Fr.refl No w).alloc _)
  clear hx
  go_enter Tryz.func63, Tryz.ntmps63
  go_wp2_with (first | (go_at_call 131; refine (isin_any _ _ _ _).mono ?_; rintro e w' ⟨rfl, rfl⟩; rw [decide_eq_true (by first | exact hp | exact hq)]) | (go_at_call 132; refine (HS.out _).mono ?_; rintro e w2 ⟨rfl, f2⟩; have F2 := hid (hf.out.thenNo f2); have c4 := (cells4 (f2.keep hb (fun e => e))).2.2.2; clear f2) | (go_at_call 133; refine (HX.out _).mono ?_; rintro e w3 ⟨rfl, rfl⟩))
  go_ret
  exact ⟨rfl, F2.out⟩
end Go.Proofs.YtibfpkfpmkghhaaGreatDoor
