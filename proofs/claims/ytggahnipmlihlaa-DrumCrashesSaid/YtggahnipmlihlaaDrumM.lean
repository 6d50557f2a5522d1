/- The drum as plain data, and how it lies in memory. -/
import Derived.Test.YtggahnipmlihlaaRows
import Derived.Test.YtggahnipmlihlaaLib
namespace Go.Proofs.Ytggahnipmlihlaa
open Go.RowKit Go.Lig

/-- n bytes as cells. -/
def bs (f : Nat → UInt8) (n : Nat) : List Value := (List.range n).map fun k => u8v (f k)
theorem bs_length (f : Nat → UInt8) (n : Nat) : (bs f n).length = n := by simp [bs]
theorem bs_get (f : Nat → UInt8) (n k : Nat) (h : k < n) : (bs f n)[k]? = some (u8v (f k)) := by simp [bs, h]
theorem bs_one (f : Nat → UInt8) (n : Nat) : ∀ v ∈ bs f n, v.oneCell' = true := by
  intro v hv
  simp only [bs, List.mem_map] at hv
  obtain ⟨k, _, rfl⟩ := hv
  rfl

structure Wr where
  i : Nat
  p : Nat → UInt8
structure Dr where
  n : Nat
  good : Nat → UInt8
  now : Nat → UInt8
  wait : List Wr
  dead : Bool
  fuse : Int

def wcell (x : Wr) : List Value := .int .i64 (x.i : Int) :: bs x.p 64
def wcells (l : List Wr) : List Value := l.flatMap wcell

/-- A drum at block b, all of its blocks in S. -/
structure DrumAt (w : World) (S : Nat → Prop) (b : Nat) (D : Dr) : Prop where
  n_le : D.n ≤ 200
  fuse_lo : -1 ≤ D.fuse
  fuse_hi : D.fuse ≤ 9223372036854775807
  wait_lt : ∀ x ∈ D.wait, x.i < D.n
  bound : ∀ k, S k → k < w.heap.size
  own : S b
  body : ∃ bg bn vw, w.heap[b]? = some (.cells #[.slice (some ⟨bg, 0, none⟩) D.n D.n, .slice (some ⟨bn, 0, none⟩) D.n D.n, vw, .bool D.dead, .int .i64 D.fuse] 55 (0, 0)) ∧
    w.heap[bg]? = some (.cells (bs D.good (64 * D.n)).toArray 57 (0, 0)) ∧ w.heap[bn]? = some (.cells (bs D.now (64 * D.n)).toArray 57 (0, 0)) ∧
    w.ownsRow 0 59 65 vw D.wait.length (wcells D.wait) ∧
    S bg ∧ S bn ∧ (∀ k, vw.ownBlock = some k → S k ∧ k ≠ b ∧ k ≠ bg ∧ k ≠ bn) ∧ b ≠ bg ∧ b ≠ bn ∧ bg ≠ bn

theorem DrumAt.frame {w w' : World} {S T : Nat → Prop} {b : Nat} {D : Dr} (h : DrumAt w S b D) (hf : Fr T w w') (hd : ∀ k, S k → ¬ T k) : DrumAt w' S b D := by
  obtain ⟨bg, bn, vw, h0, h1, h2, h3, s1, s2, s3, r⟩ := h.body
  exact ⟨h.n_le, h.fuse_lo, h.fuse_hi, h.wait_lt, fun k hk => Nat.lt_of_lt_of_le (h.bound k hk) hf.size, h.own, bg, bn, vw, hf.keep h0 (hd _ h.own), hf.keep h1 (hd _ s1), hf.keep h2 (hd _ s2),
    hf.owns h3 (fun k hk => hd _ (s3 k hk).1), s1, s2, s3, r⟩
theorem DrumAt.mono {w : World} {S T : Nat → Prop} {b : Nat} {D : Dr} (h : DrumAt w S b D) (hs : ∀ k, S k → T k) (hb : ∀ k, T k → k < w.heap.size) : DrumAt w T b D := by
  obtain ⟨bg, bn, vw, h0, h1, h2, h3, s1, s2, s3, r⟩ := h.body
  exact ⟨h.n_le, h.fuse_lo, h.fuse_hi, h.wait_lt, hb, hs _ h.own, bg, bn, vw, h0, h1, h2, h3, hs _ s1, hs _ s2, fun k hk => ⟨hs _ (s3 k hk).1, (s3 k hk).2⟩, r⟩

/-! What the methods do, as plain functions. -/
def Dr.alive (D : Dr) : Bool := !D.dead && !(D.fuse == 0)
def Dr.tick (D : Dr) : Dr := if D.dead then D else { D with dead := D.fuse == 0, fuse := max (D.fuse - 1) (-1) }
/-- 64 bytes of p laid over f from 64 * i on. -/
def lay (f : Nat → UInt8) (i : Nat) (p : Nat → UInt8) : Nat → UInt8 := fun k => if 64 * i ≤ k ∧ k < 64 * i + 64 then p (k - 64 * i) else f k
/-- the bytes of a list, noughts behind. -/
def pad (l : List UInt8) : Nat → UInt8 := fun k => l.getD k 0
def Dr.new (n : Nat) : Dr := { n, good := fun _ => 0, now := fun _ => 0, wait := [], dead := false, fuse := -1 }
def clampN (n : Int) : Nat := (min (max n 0) 200).toNat
end Go.Proofs.Ytggahnipmlihlaa
