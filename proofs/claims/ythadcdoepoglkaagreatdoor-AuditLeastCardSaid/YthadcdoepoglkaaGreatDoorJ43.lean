/- A part of the proof: contracts of functions of the program, for the row's text. -/
import Derived.Test.YthadcdoepoglkaaGreatDoorJ19
import Derived.Test.YthadcdoepoglkaaGreatDoorJ32
import Derived.Test.YthadcdoepoglkaaGreatDoorJ42
import Derived.Test.YthadcdoepoglkaaGreatDoorJ08
namespace Go.Proofs.YthadcdoepoglkaaGreatDoor
open Go.RowKit Go.Lig
inductive Rp
 | root
 | clock
 | nrow
 | erow
 | nds
 | eds
 | node (i : Nat)
 | edge (i : Nat)
 deriving DecidableEq
structure RAd where
 c : Nat
 nv : Value
 ev : Value
 dv : Value
 fv : Value
 x : Nat → Nat
 z : Nat → Nat
 nh : List NodeV
 nd : List NodeD
 ed : List EdgeV
def rrootCells (A : RAd) : Array Value := #[.pointer (some ⟨A.c, 0, none⟩), A.nv, A.ev, A.dv, A.fv]
def nhcell (h : NodeV) : List Value := [.slice h.l.a h.l.n h.l.c, .slice h.p.a h.p.n h.p.c]
def edcell (v : EdgeV) : List Value := [.int .i64 v.from_, .int .i64 v.to_, .string v.type, .float .f64 v.w]
theorem nhcell_one (l : List NodeV) : ∀ u ∈ l.flatMap nhcell, u.oneCell' = true := by
 intro u hu
 obtain ⟨p, _, hp⟩ := List.mem_flatMap.1 hu
 simp only [nhcell, List.mem_cons, List.not_mem_nil, or_false] at hp
 rcases hp with rfl | rfl <;> rfl
theorem edcell_one (l : List EdgeV) : ∀ u ∈ l.flatMap edcell, u.oneCell' = true := by
 intro u hu
 obtain ⟨p, _, hp⟩ := List.mem_flatMap.1 hu
 simp only [edcell, List.mem_cons, List.not_mem_nil, or_false] at hp
 rcases hp with rfl | rfl | rfl | rfl <;> rfl
def res {α : Type} [Inhabited α] (nd : List α) (h : Ver Nat) : Ver α := ⟨h.by_, nd[h.v]?.getD default, h.gone⟩
structure RVers {α : Type} [Inhabited α] (nd : List α) (H : List (Ver Nat)) (L : List (Ver α)) : Prop where
 eq : L = H.map (res nd)
 lt : ∀ y ∈ H, y.v < nd.length
section
variable {α : Type} [Inhabited α] {nd : List α} {H : List (Ver Nat)} {L : List (Ver α)}
theorem RVers.nil (nd : List α) : RVers nd [] [] := ⟨rfl, fun _ h => (by cases h)⟩
theorem RVers.len (h : RVers nd H L) : H.length = L.length := by rw [h.eq, List.length_map]
theorem res_append {nd : List α} {h : Ver Nat} (hv : h.v < nd.length) (x : List α) : res (nd ++ x) h = res nd h := by
 unfold res
 rw [List.getElem?_append_left hv]
theorem RVers.grow (h : RVers nd H L) (x : List α) : RVers (nd ++ x) H L :=
 ⟨by rw [h.eq]; exact List.map_congr_left (fun y hy => (res_append (h.lt y hy) x).symm), fun y hy => by rw [List.length_append]; have := h.lt y hy; omega⟩
theorem res_by (nd : List α) (h : Ver Nat) : (res nd h).by_ = h.by_ := rfl
theorem res_gone (nd : List α) (h : Ver Nat) : (res nd h).gone = h.gone := rfl
theorem RVers.clash (h : RVers nd H L) (K : Ck) (t : Int) : clashV K t H = clashV K t L := by
 unfold clashV
 rw [h.eq, List.getLast?_map]
 cases H.getLast? <;> rfl
theorem lastVer_map (nd : List α) (m : Int → Bool) (H : List (Ver Nat)) : lastVer m (H.map (res nd)) = (lastVer m H).map (res nd) := by
 unfold lastVer
 rw [← List.map_reverse, List.find?_map]
 rfl
theorem RVers.read (h : RVers nd H L) (K : Ck) (t : Int) : readV K t L = (readV K t H).map (fun j => nd[j]?.getD default) := by
 rw [readV_ver, readV_ver, h.eq, lastVer_map]
 cases lastVer (K.sees t) H with
 | none => rfl
 | some y =>
  show valOf (some (res nd y)) = (valOf (some y)).map _
  unfold valOf
  dsimp only
  rw [res_gone]
  cases y.gone <;> rfl
theorem RVers.readLt (h : RVers nd H L) (K : Ck) (t : Int) {j : Nat} (hr : readV K t H = some j) : j < nd.length := by
 rw [readV_ver] at hr
 obtain ⟨y, h1, h2, rfl⟩ := valOf_some hr
 exact h.lt y (lastVer_mem h1).1
theorem RVers.filter (h : RVers nd H L) (t : Int) : RVers nd (H.filter (fun z => !(z.by_ == t))) (undoV t L) := by
 refine ⟨?_, fun y hy => h.lt y (List.mem_filter.1 hy).1⟩
 unfold undoV
 rw [h.eq, List.filter_map]
 rfl
end
def RPartAt (w : World) (R J : Nat → Prop) (s : Nat) (A : RAd) (v : VS) (F : Nat) : Rp → Prop
 | .root => R s ∧ w.heap[s]? = some (.cells (rrootCells A) 93 (0, 0))
 | .clock => RClkAt w R A.c v.K ∧ v.K.l.length ≤ F ∧ v.K.commits ≤ (F : Int)
 | .nrow => w.ownsRow 0 126 1 A.nv v.N.length (ptrs A.x v.N.length) ∧ (∀ k, A.nv.ownBlock = some k → R k) ∧ v.N.length ≤ 1000
 | .erow => w.ownsRow 0 126 1 A.ev v.E.length (ptrs A.z v.E.length) ∧ (∀ k, A.ev.ownBlock = some k → R k) ∧ v.E.length ≤ 1000
 | .nds => w.ownsRow 0 34 2 A.dv A.nh.length (A.nh.flatMap nhcell) ∧ (∀ k, A.dv.ownBlock = some k → R k) ∧ A.nh.length = A.nd.length ∧ A.nd.length ≤ F ∧
   ∀ (j : Nat) (h : NodeV) (d : NodeD), A.nh[j]? = some h → A.nd[j]? = some d → NodeIn w J (.slice h.l.a h.l.n h.l.c) (.slice h.p.a h.p.n h.p.c) d
 | .eds => w.ownsRow 0 48 4 A.fv A.ed.length (A.ed.flatMap edcell) ∧ (∀ k, A.fv.ownBlock = some k → R k) ∧ A.ed.length ≤ F
 | .node i => ∀ L, v.N[i]? = some L → ∃ H, RCellAt w R (A.x i) H ∧ RVers A.nd H L ∧ L.length ≤ F
 | .edge i => ∀ L, v.E[i]? = some L → ∃ H, RCellAt w R (A.z i) H ∧ RVers A.ed H L ∧ L.length ≤ F
theorem RPartAt.frame {w w' : World} {R J S : Nat → Prop} {s : Nat} {A : RAd} {v : VS} {F : Nat} {p : Rp} (h : RPartAt w R J s A v F p) (hf : Fr S w w') (hd : ∀ k, R k → ¬ S k) (hj : ∀ k, J k → ¬ S k) : RPartAt w' R J s A v F p := by
 cases p with
 | root => exact ⟨h.1, hf.keep h.2 (hd s h.1)⟩
 | clock => exact ⟨h.1.frame hf hd, h.2⟩
 | nrow => exact ⟨hf.owns h.1 (fun k hk => hd k (h.2.1 k hk)), h.2⟩
 | erow => exact ⟨hf.owns h.1 (fun k hk => hd k (h.2.1 k hk)), h.2⟩
 | nds => exact ⟨hf.owns h.1 (fun k hk => hd k (h.2.1 k hk)), h.2.1, h.2.2.1, h.2.2.2.1, fun j q d e1 e2 => (h.2.2.2.2 j q d e1 e2).frame hf hj⟩
 | eds => exact ⟨hf.owns h.1 (fun k hk => hd k (h.2.1 k hk)), h.2⟩
 | node i => exact fun L hL => by obtain ⟨H, h1, h2, h3⟩ := h L hL; exact ⟨H, h1.frame hf hd, h2, h3⟩
 | edge i => exact fun L hL => by obtain ⟨H, h1, h2, h3⟩ := h L hL; exact ⟨H, h1.frame hf hd, h2, h3⟩
theorem RPartAt.more {w : World} {R J : Nat → Prop} {s : Nat} {A : RAd} {v : VS} {F G : Nat} {p : Rp} (h : RPartAt w R J s A v F p) (hg : F ≤ G) : RPartAt w R J s A v G p := by
 cases p with
 | root => exact h
 | clock => exact ⟨h.1, Nat.le_trans h.2.1 hg, by have := h.2.2; omega⟩
 | nrow => exact h
 | erow => exact h
 | nds => exact ⟨h.1, h.2.1, h.2.2.1, Nat.le_trans h.2.2.2.1 hg, h.2.2.2.2⟩
 | eds => exact ⟨h.1, h.2.1, Nat.le_trans h.2.2 hg⟩
 | node i => exact fun L hL => by obtain ⟨H, h1, h2, h3⟩ := h L hL; exact ⟨H, h1, h2, Nat.le_trans h3 hg⟩
 | edge i => exact fun L hL => by obtain ⟨H, h1, h2, h3⟩ := h L hL; exact ⟨H, h1, h2, Nat.le_trans h3 hg⟩
structure RfAt (w : World) (J : Nat → Prop) (ρ : Nat → Option Rp) (s : Nat) (A : RAd) (v : VS) (F : Nat) : Prop where
 bound : ∀ b, ρ b ≠ none → b < w.heap.size
 at_ : ∀ p, RPartAt w (At ρ p) J s A v F p
 far : ∀ b, J b → ρ b = none
structure RTrn (w w' : World) (ρ : Nat → Option Rp) (p : Rp) (T : Nat → Prop) : Prop where
 fr : Fr (At ρ p) w w'
 gr : Grown w (At ρ p) T
 bd : ∀ b, T b → b < w'.heap.size
def Old (w : World) (J : Nat → Prop) : Prop := ∀ b, J b → b < w.heap.size
theorem Old.next {w w' : World} {J S : Nat → Prop} (h : Old w J) (hf : Fr S w w') : Old w' J := fun b hb => Nat.lt_of_lt_of_le (h b hb) hf.size
section
variable {w w' : World} {J : Nat → Prop} {ρ : Nat → Option Rp} {s : Nat} {A A' : RAd} {v v' : VS} {p : Rp} {T : Nat → Prop} {F F' : Nat}
theorem RTrn.at_ (t : RTrn w w' ρ p T) (h : RfAt w J ρ s A v F) {q : Rp} (hq : q ≠ p) : At (turn ρ p T) q = At ρ q := at_turn_other hq t.gr h.bound
theorem RfAt.frame {S : Nat → Prop} (h : RfAt w J ρ s A v F) (hf : Fr S w w') (hd : ∀ k, Go.Lig.Own ρ k → ¬ S k) (hj : ∀ k, J k → ¬ S k) : RfAt w' J ρ s A v F :=
 ⟨fun b hb => Nat.lt_of_lt_of_le (h.bound b hb) hf.size, fun p => (h.at_ p).frame hf (fun k hk => hd k (at_own k hk)) hj, h.far⟩
theorem RfAt.no (h : RfAt w J ρ s A v F) (hf : Fr No w w') : RfAt w' J ρ s A v F := h.frame hf (fun _ _ e => e) (fun _ _ e => e)
theorem RfAt.more (h : RfAt w J ρ s A v F) (hg : F ≤ F') : RfAt w J ρ s A v F' := ⟨h.bound, fun p => (h.at_ p).more hg, h.far⟩
theorem RfAt.heap (h : RfAt w J ρ s A v F) : w.heap[s]? = some (.cells (rrootCells A) 93 (0, 0)) := (h.at_ .root).2
theorem RfAt.root (h : RfAt w J ρ s A v F) : At ρ .root s := (h.at_ .root).1
theorem RfAt.cells (h : RfAt w J ρ s A v F) : w.cell? ⟨s, 0, none⟩ = some (.pointer (some ⟨A.c, 0, none⟩)) ∧ w.cell? ⟨s, 1, none⟩ = some A.nv ∧ w.cell? ⟨s, 2, none⟩ = some A.ev ∧ w.cell? ⟨s, 3, none⟩ = some A.dv ∧ w.cell? ⟨s, 4, none⟩ = some A.fv := by
 have := Go.Lig.cellOf h.heap
 exact ⟨this 0, this 1, this 2, this 3, this 4⟩
theorem RfAt.lt (h : RfAt w J ρ s A v F) : s < w.heap.size := lt_of_block h.heap
theorem RfAt.clock (h : RfAt w J ρ s A v F) : RClkAt w (At ρ .clock) A.c v.K := (h.at_ .clock).1
theorem RfAt.ncell (h : RfAt w J ρ s A v F) {i : Nat} {L : List (Ver NodeD)} (hL : v.N[i]? = some L) : ∃ H, RCellAt w (At ρ (.node i)) (A.x i) H ∧ RVers A.nd H L ∧ L.length ≤ F := h.at_ (.node i) L hL
theorem RfAt.ecell (h : RfAt w J ρ s A v F) {i : Nat} {L : List (Ver EdgeV)} (hL : v.E[i]? = some L) : ∃ H, RCellAt w (At ρ (.edge i)) (A.z i) H ∧ RVers A.ed H L ∧ L.length ≤ F := h.at_ (.edge i) L hL
theorem RfAt.nlen (h : RfAt w J ρ s A v F) : v.N.length ≤ 1000 := (h.at_ .nrow).2.2
theorem RfAt.elen (h : RfAt w J ρ s A v F) : v.E.length ≤ 1000 := (h.at_ .erow).2.2
theorem RfAt.upd (h : RfAt w J ρ s A v F) (ho : Old w J) (t : RTrn w w' ρ p T) (hk : RPartAt w' T J s A' v' F' p) (hq : ∀ q, q ≠ p → ∀ R, RPartAt w' R J s A v F q → RPartAt w' R J s A' v' F' q) : RfAt w' J (turn ρ p T) s A' v' F' := by
 have hj : ∀ k, J k → ¬ At ρ p k := fun k hk e => by
  have := h.far k hk
  rw [show ρ k = some p from e] at this
  cases this
 refine ⟨bound_turn h.bound t.fr.size t.bd, fun q => ?_, fun b hb => ?_⟩
 ·by_cases e : q = p
  ·subst e
   rw [at_turn_same]
   exact hk
  ·rw [t.at_ h e]
   exact hq q e _ ((h.at_ q).frame t.fr (at_apart e) hj)
 ·classical
  unfold turn
  rw [if_neg (fun e => by
   rcases t.gr b e with e2 | e2
   ·exact hj b hb e2
   ·exact absurd (ho b hb) (Nat.not_lt.2 e2)), h.far b hb]
  simp
theorem rgone_turn (t : RTrn w w' ρ p T) : Gone (Go.Lig.Own ρ) w (Go.Lig.Own (turn ρ p T)) w' := ⟨t.fr.mono (fun b _ hb => at_own b hb), own_turn t.gr⟩
end
def RTurns (w : World) (J : Nat → Prop) (ρ : Nat → Option Rp) (s : Nat) (v' : VS) (F' : Nat) (w' : World) : Prop := ∃ ρ' A', RfAt w' J ρ' s A' v' F' ∧ Gone (Go.Lig.Own ρ) w (Go.Lig.Own ρ') w'
end Go.Proofs.YthadcdoepoglkaaGreatDoor
namespace Go.Proofs.YthadcdoepoglkaaGreatDoor
open Go.RowKit Go.Lig Go.ChangeShapes Go.WideShapes Go.ChangeAt Go.Deep
structure NodesAt (w : World) (v : Value) (l : List NodeD) : Prop where
 ex : ∃ R : List NodeV, R.length = l.length ∧ Rd w v l.length 2 (R.flatMap nhcell) ∧ ∀ (j : Nat) (h : NodeV) (d : NodeD), R[j]? = some h → l[j]? = some d → NodeOf w (.slice h.l.a h.l.n h.l.c) (.slice h.p.a h.p.n h.p.c) d ∧ NodeLow d
 low : l.length ≤ Go.reachBytes
theorem NodesAt.frame {w w' : World} {v : Value} {l : List NodeD} (h : NodesAt w v l) (hf : Fr No w w') : NodesAt w' v l := by
 obtain ⟨R, h1, h2, h3⟩ := h.ex
 exact ⟨⟨R, h1, h2.frame hf (fun _ _ e => e), fun j a d e1 e2 => ⟨(h3 j a d e1 e2).1.frame hf, (h3 j a d e1 e2).2⟩⟩, h.low⟩
structure EdgesAt (w : World) (v : Value) (l : List EdgeV) : Prop where
 row : Rd w v l.length 4 (l.flatMap edcell)
 all : ∀ e ∈ l, EdgeLow e
 low : l.length ≤ Go.reachBytes
theorem EdgesAt.frame {w w' : World} {v : Value} {l : List EdgeV} (h : EdgesAt w v l) (hf : Fr No w w') : EdgesAt w' v l := ⟨h.row.frame hf (fun _ _ e => e), h.all, h.low⟩
theorem NodesAt.at1 {w : World} {v : Value} {l : List NodeD} (h : NodesAt w v l) {j : Nat} {d : NodeD} (hd : l[j]? = some d) : ∃ (b o c : Nat) (x : NodeV), v = .slice (some ⟨b, o, none⟩) l.length c ∧ NodeOf w (.slice x.l.a x.l.n x.l.c) (.slice x.p.a x.p.n x.p.c) d ∧ NodeLow d ∧
  ∀ u, Fr No w u → u.cell? ⟨b, o + j * 2, none⟩ = some (.slice x.l.a x.l.n x.l.c) ∧ u.cell? ⟨b, o + j * 2 + 1, none⟩ = some (.slice x.p.a x.p.n x.p.c) := by
 obtain ⟨R, h1, h2, h3⟩ := h.ex
 have hl := (List.getElem?_eq_some_iff.1 hd).1
 obtain ⟨x, hx⟩ : ∃ x, R[j]? = some x := ⟨R[j]'(by omega), List.getElem?_eq_getElem _⟩
 have g0 : ∀ t, t < 2 → (R.flatMap nhcell)[j * 2 + t]? = (nhcell x)[t]? := fun t ht => flat_get (f := nhcell) (m := 2) (fun _ => rfl) _ _ _ hx t ht
 obtain ⟨b, o, c, e1, k0⟩ := h2.at1 (k := j * 2 + 0) (u := .slice x.l.a x.l.n x.l.c) (by rw [g0 0 (by decide)]; rfl)
 obtain ⟨b', o', c', e2, k1⟩ := h2.at1 (k := j * 2 + 1) (u := .slice x.p.a x.p.n x.p.c) (by rw [g0 1 (by decide)]; rfl)
 rw [e1] at e2
 obtain ⟨e3, -, -⟩ := Value.slice.inj e2
 simp only [Option.some.injEq, Addr.mk.injEq, and_true] at e3
 obtain ⟨rfl, rfl⟩ := e3
 exact ⟨b, o, c, x, e1, (h3 j x d hx hd).1, (h3 j x d hx hd).2, fun u hu => ⟨k0 u hu, by rw [Nat.add_assoc]; exact k1 u hu⟩⟩
theorem EdgesAt.at1 {w : World} {v : Value} {l : List EdgeV} (h : EdgesAt w v l) {j : Nat} {e : EdgeV} (he : l[j]? = some e) : ∃ (b o c : Nat), v = .slice (some ⟨b, o, none⟩) l.length c ∧
  ∀ u, Fr No w u → u.cell? ⟨b, o + j * 4, none⟩ = some (.int .i64 e.from_) ∧ u.cell? ⟨b, o + j * 4 + 1, none⟩ = some (.int .i64 e.to_) ∧ u.cell? ⟨b, o + j * 4 + 2, none⟩ = some (.string e.type) ∧ u.cell? ⟨b, o + j * 4 + 3, none⟩ = some (.float .f64 e.w) := by
 have g0 : ∀ t, t < 4 → (l.flatMap edcell)[j * 4 + t]? = (edcell e)[t]? := fun t ht => flat_get (f := edcell) (m := 4) (fun _ => rfl) _ _ _ he t ht
 obtain ⟨b, o, c, e1, k0⟩ := h.row.at1 (k := j * 4 + 0) (u := .int .i64 e.from_) (by rw [g0 0 (by decide)]; rfl)
 have nx : ∀ t u, t < 4 → (edcell e)[t]? = some u → ∀ W, Fr No w W → W.cell? ⟨b, o + (j * 4 + t), none⟩ = some u := fun t u ht hu W hW => by
  obtain ⟨b', o', c', e2, k1⟩ := h.row.at1 (k := j * 4 + t) (u := u) (by rw [g0 t ht]; exact hu)
  rw [e1] at e2
  obtain ⟨e3, -, -⟩ := Value.slice.inj e2
  simp only [Option.some.injEq, Addr.mk.injEq, and_true] at e3
  obtain ⟨rfl, rfl⟩ := e3
  exact k1 W hW
 exact ⟨b, o, c, e1, fun u hu => ⟨k0 u hu, by rw [Nat.add_assoc]; exact nx 1 _ (by decide) rfl u hu, by rw [Nat.add_assoc]; exact nx 2 _ (by decide) rfl u hu, by rw [Nat.add_assoc]; exact nx 3 _ (by decide) rfl u hu⟩⟩
section
variable {H : Type} {enc : TypeId × Value → H} {W : World}
set_option maxRecDepth 100000 in
theorem u_nodes {n : Nat} {v : Value} {y : DataW H × List MemPlace} (h : DataW.trod enc Tryz.prog W 0 (fun _ => true) true n 22 [v] = some y) (hr : RchD Tryz.prog 22 y.1) : ∃ l, NodesAt W v l := by
 obtain ⟨R, r1, r2, r3⟩ := rd_rowU (α := NodeV) nhcell (m := 2) (by decide) (fun _ => rfl) (fun x u hu => nhcell_one [x] u (by simpa using hu)) (fun a => ∃ d, NodeOf W (.slice a.l.a a.l.n a.l.c) (.slice a.p.a a.p.n a.p.c) d ∧ NodeLow d) Tryz.underlying22 (by kernel_rfl) (by decide +kernel) (fun n cs y h hlen hr => by
  match cs, hlen with
  | [v0, v1], _ =>
   obtain ⟨x, d, rfl, rfl, hn, hl⟩ := u_node h hr
   exact ⟨x, rfl, d, hn, hl⟩) h hr
 obtain ⟨g, hg⟩ : ∃ g : NodeV → NodeD, ∀ a ∈ R, NodeOf W (.slice a.l.a a.l.n a.l.c) (.slice a.p.a a.p.n a.p.c) (g a) ∧ NodeLow (g a) := by
  have : ∀ a : NodeV, ∃ d : NodeD, a ∈ R → NodeOf W (.slice a.l.a a.l.n a.l.c) (.slice a.p.a a.p.n a.p.c) d ∧ NodeLow d := fun a => by
   by_cases ha : a ∈ R
   ·obtain ⟨d, hd⟩ := r2 a ha
    exact ⟨d, fun _ => hd⟩
   ·exact ⟨default, fun h => absurd h ha⟩
  exact ⟨fun a => (this a).choose, fun a ha => (this a).choose_spec ha⟩
 refine ⟨R.map g, ⟨R, by simp, by rw [List.length_map]; exact r1, fun j a d e1 e2 => ?_⟩, by rw [List.length_map]; exact r3⟩
 rw [List.getElem?_map, e1] at e2
 obtain rfl : g a = d := by simpa using e2
 exact hg a (List.mem_of_getElem? e1)
theorem u_edges {n : Nat} {v : Value} {y : DataW H × List MemPlace} (h : DataW.trod enc Tryz.prog W 0 (fun _ => true) true n 23 [v] = some y) (hr : RchD Tryz.prog 23 y.1) : ∃ l, EdgesAt W v l := by
 obtain ⟨R, r1, r2, r3⟩ := rd_rowU (α := EdgeV) edcell (m := 4) (by decide) (fun _ => rfl) (fun x u hu => edcell_one [x] u (by simpa using hu)) EdgeLow Tryz.underlying23 (by kernel_rfl) (by decide +kernel) (fun n cs y h hlen hr => by
  match cs, hlen with
  | [v0, v1, v2, v3], _ =>
   obtain ⟨d, rfl, rfl, rfl, rfl, hl⟩ := u_edge h hr
   exact ⟨d, rfl, hl⟩) h hr
 exact ⟨R, r1, r2, r3⟩
end
end Go.Proofs.YthadcdoepoglkaaGreatDoor
