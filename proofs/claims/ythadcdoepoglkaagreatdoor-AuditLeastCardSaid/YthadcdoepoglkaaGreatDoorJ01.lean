/- A part of the proof: contracts of functions of the program, for the row's text. -/
import Derived.ProofKit
import Derived.OpenShut
import Derived.Deep.Slices
import Derived.Carry
import Derived.Test.YthadcdoepoglkaaGreatDoorJ00
import Derived.Deep.RegionHeld3
namespace Go.Lig
open Go.RowKit Go.ChangeShapes Go.WideShapes Go.ChangeAt Go.Deep
section
variable {H : Type} {enc : TypeId × Value → H} {P : Program}
theorem trodAll_below (hl : laidOutB P = true) {W W' : World} (hb : Below W.heap.size W W') : ∀ {ts : List TypeId} {vs : List Value} {ds : List (DataW H)} {ps : List MemPlace}, (∀ t ∈ ts, P.readableRec t = true ∧ t < P.types.size) →
  DataW.TrodAll enc P W 0 (fun _ => true) true ts vs ds ps → (∀ x ∈ ps, x.block < W.heap.size) → DataW.TrodAll enc P W' 0 (fun b => decide (b < W.heap.size)) true ts vs ds ps
 | [], vs, ds, ps, _, h, _ => by
  obtain ⟨rfl, rfl, rfl⟩ := trodAll_nil h
  exact trodAll_mk0
 | t :: ts, vs, ds, ps, ht, h, hlt => by
  obtain ⟨v, vs', d, ds', p, q, rfl, rfl, rfl, h0, h1⟩ := trodAll_cons h
  have := ht t (List.mem_cons_self ..)
  exact trodAll_cons_mk (Below.trod hl this.1 this.2 h0 hb (fun x hx => hlt x (by simp [hx]))) (trodAll_below hl hb (fun t ht' => ht t (List.mem_cons_of_mem _ ht')) h1 (fun x hx => hlt x (by simp [hx])))
theorem law_post {f : Func} {s : ChangeSpec} {W W' : World} {args : Array Value} {ds gs : List (DataW H)} {before : List MemPlace} {tb : TypeId} (hl : laidOutB P = true) (hv : s.vars = []) (htb : P.underlying tb = some .bool) (hr : f.resultTypes = #[tb])
  (hts : ∀ t ∈ f.params.toList, P.readableRec t = true ∧ t < P.types.size) (hspec : ∀ xs : List (DataW H), xs.length = f.params.size → s.fn H xs = { results := [.lit (.bool true)], args := xs })
  (hW : DataW.Whole enc P f.params.toList s.vars false W args.toList ds gs before) (hb : Below W.heap.size W W') : s.post enc P f false true false false W args (.bool true) W' := by
 have hlt := hW.lt
 have hW' := hW
 obtain ⟨p, q, hA, hV, rfl, _, _⟩ := hW
 rw [hv] at hV
 obtain ⟨rfl, rfl⟩ := trodVars_none hV
 have hlen : ds.length = f.params.size := by
  have : ∀ {ts : List TypeId} {vs : List Value} {ds : List (DataW H)} {ps : List MemPlace}, DataW.TrodAll enc P W 0 (fun _ => true) true ts vs ds ps → ds.length = ts.length := by
   intro ts
   induction ts with
   | nil => intro vs ds ps h; obtain ⟨_, rfl, _⟩ := trodAll_nil h; rfl
   | cons t ts ih => intro vs ds ps h; obtain ⟨_, _, _, ds', _, _, _, rfl, _, _, h1⟩ := trodAll_cons h; simp [ih h1]
  simpa using this hA
 have hsp : s.fn H (ds ++ []) = { results := [.lit (.bool true)], args := ds } := by rw [List.append_nil]; exact hspec ds hlen
 refine ⟨ds, [], p ++ [], [], p, [], hW', ?_, ?_, ?_, ?_, fun h => by cases h⟩
 ·rw [hr, hsp]
  exact trodAll_cons_mk (shut_bool htb true) trodAll_mk0
 ·rw [hsp]
  exact trodAll_below hl hb hts hA (fun x hx => hlt x (by simp [hx]))
 ·rw [hsp, hv]
  rfl
 ·exact hb.frame _
end
section
variable {H : Type} {enc : TypeId × Value → H} {P : Program} {W : World}
theorem cells_of_wide {base : Nat} {t e : TypeId} {v : Value} (ht : P.underlying t = some (.slice e)) (h : Value.okWide P W .any base t v) : v.cells.toList = [v] := by
 obtain ⟨a0, len, cap, rfl⟩ := okWide_slice ht h
 rfl
end
end Go.Lig
namespace Go.Lig
open Go.RowKit
def Agr (L : List Nat) (w : World) : Type := { u : World // ∀ b ∈ L, u.heap[b]? = w.heap[b]? }
def Agr.val {L : List Nat} {w : World} (u : Agr L w) : World := Subtype.val u
instance {L : List Nat} {w : World} : Nonempty (Agr L w) := ⟨⟨w, fun _ _ => rfl⟩⟩
def AgC (L : List Nat) (w : World) : World → Prop := fun w' => ∃ u : Agr L w, w' = u.val
theorem AgC.mk {L : List Nat} {w w' : World} (h : ∀ b ∈ L, w'.heap[b]? = w.heap[b]?) : AgC L w w' := ⟨⟨w', h⟩, rfl⟩
theorem AgC.refl (L : List Nat) (w : World) : AgC L w w := AgC.mk fun _ _ => rfl
theorem AgC.fr {L : List Nat} {w w1 w2 : World} {S : Nat → Prop} (h : AgC L w w1) (hf : Fr S w1 w2) (hL : ∀ b ∈ L, b < w.heap.size ∧ ¬ S b) : AgC L w w2 := by
 obtain ⟨u, hu⟩ := h
 refine AgC.mk fun b hb => ?_
 have hlt := (hL b hb).1
 have e : w1.heap[b]? = w.heap[b]? := by rw [hu]; exact u.2 b hb
 have hlt2 : b < w1.heap.size := by
  rcases Nat.lt_or_ge b w1.heap.size with h | h
  ·exact h
  ·rw [Array.getElem?_eq_none h, Array.getElem?_eq_getElem hlt] at e
   cases e
 exact (hf.block b hlt2 (hL b hb).2).trans e
@[go_sem] theorem cell?_agr {L : List Nat} {w : World} (u : Agr L w) (b o : Nat) (h : b ∈ L) : u.val.cell? ⟨b, o, none⟩ = w.cell? ⟨b, o, none⟩ :=
 World.cell?_of_block (w := w) (u.2 b h)
theorem heap_agr {L : List Nat} {w : World} (u : Agr L w) {b : Nat} {o : Obj} (hb : w.heap[b]? = some o) (h : b ∈ L) : u.val.heap[b]? = some o := (u.2 b h).trans hb
section
variable {P : Program} {ops : Array Oper} {Q : Exit → Act → World → Prop} {S : World → Prop} {last i : Nat}
def yieldsUpon (w : World) (v : Value) : Result Next → Prop
 | .ok (.value u) w' => w' = w ∧ u = v
 | _ => False
def yieldsAt (P : Program) (o : Oper) (a : Act) (w : World) (v : Value) : Prop := yieldsUpon w v ((execOp a.eval o).run P w)
def yields (P : Program) (o : Oper) (a : Act) (S : World → Prop) (K : Act → Prop) : Prop := ∃ v, (∀ w, S w → yieldsAt P o a w v) ∧ K (a.put o.dst v)
attribute [go_sem] yieldsUpon yieldsAt yields AgC
theorem run_of_yields {P : Program} {o : Oper} {a : Act} {w : World} {v : Value} (h : yieldsAt P o a w v) : (execOp a.eval o).run P w = .ok (.value v) w := by
 unfold yieldsAt at h
 generalize (execOp a.eval o).run P w = r at *
 cases r with
 | ok n w' =>
  cases n <;> simp only [yieldsUpon] at h
  obtain ⟨rfl, rfl⟩ := h
  rfl
 | halt x w' => exact h.elim
def schedQ (_ : Program) (_ : Exit → Act → World → Prop) (S : World → Prop) (p : Prop) (K : Act → World → Prop) : Exit → Act → World → Prop
 | .normal, a, w => (p → S w) ∧ K a w
 | _, _, _ => False
def later (S : World → Prop) (p : Prop) (K : (World → Prop) → Act → World → Prop) : Act → World → Prop := fun a w => ∃ S' : World → Prop, (∀ u, S' u → S u) ∧ (p → S' w) ∧ K S' a w
structure Box (p : Prop) : Prop where
 out : p
def wpSchedR (P : Program) (ops : Array Oper) (Q : Exit → Act → World → Prop) (S : World → Prop) (last : Nat) : List (Bool × Nat × Oper) → Act → World → Prop
 | [], a, w => Q .normal a w
 | (false, _, o) :: rest, a, w => if Region.wanted o (yielded ops a.tmps) then yields P o a S (fun a' => Box (wpSchedR P ops Q S last rest a' w)) else Box (wpSchedR P ops Q S last rest (a.put o.dst undef) w)
 | (true, i, o) :: rest, a, w => wpList P ops (schedQ P Q S (i ≠ last) (later S (i ≠ last) (fun S' a' w' => Box (wpSchedR P ops Q S' last rest a' w')))) [o] a w
abbrev wpSched (P : Program) (ops : Array Oper) (Q : Exit → Act → World → Prop) (S : World → Prop) (last : Nat) (l : List (Bool × Nat × Oper)) (a : Act) (w : World) : Prop := Box (wpSchedR P ops Q S last l a w)
theorem sched_nil {a : Act} {w : World} (h : Q .normal a w) : wpSched P ops Q S last [] a w := ⟨h⟩
theorem sched_quiet {a : Act} {w : World} {o : Oper} {rest : List (Bool × Nat × Oper)}
  (h : ∀ K : Act → Prop, (∀ a, wpSched P ops Q S last rest a w → K a) → if Region.wanted o (yielded ops a.tmps) then yields P o a S K else K (a.put o.dst undef)) : wpSched P ops Q S last ((false, i, o) :: rest) a w :=
 ⟨h _ (fun _ h => h)⟩
theorem sched_loud {a : Act} {w : World} {o : Oper} {rest : List (Bool × Nat × Oper)}
  (h : wpList P ops (schedQ P Q S (i ≠ last) (later S (i ≠ last) (fun S' a' w' => wpSched P ops Q S' last rest a' w'))) [o] a w) : wpSched P ops Q S last ((true, i, o) :: rest) a w := ⟨h⟩
theorem sched_on {p : Prop} {a : Act} {w : World} {K : (World → Prop) → Act → World → Prop} (hS : S w) (h : K S a w) : wpList P ops (schedQ P Q S p (later S p K)) [] a w := wpList_nil ⟨fun _ => hS, S, fun _ h => h, fun _ => hS, h⟩
theorem sched_last {i : Nat} {a : Act} {w : World} {K : (World → Prop) → Act → World → Prop} (h : K S a w) : wpList P ops (schedQ P Q S (i ≠ i) (later S (i ≠ i) K)) [] a w := wpList_nil ⟨fun h => absurd rfl h, S, fun _ h => h, fun h => absurd rfl h, h⟩
theorem sched_run {a : Act} {w : World} {o : Oper} {rest : List (Bool × Nat × Oper)} (hgd : o.guard = none) {v : Value} (hrun : ∀ w', S w' → (execOp a.eval o).run P w' = .ok (.value v) w')
  (h : wpSched P ops Q S last rest (a.put o.dst v) w) : wpSched P ops Q S last ((false, i, o) :: rest) a w := by
 refine sched_quiet (fun K hK => ?_)
 rw [if_pos (by simp [Region.wanted, hgd])]
 refine ⟨v, fun w' hw' => ?_, hK _ h⟩
 unfold yieldsAt
 rw [hrun w' hw']
 exact ⟨rfl, rfl⟩
theorem sched_skip {a : Act} {w : World} {o : Oper} {b : Bool} {rest : List (Bool × Nat × Oper)} (hgd : Region.wanted o (yielded ops a.tmps) = false) (hS : S w)
  (h : wpSched P ops Q S last rest (a.put o.dst undef) w) : wpSched P ops Q S last ((b, i, o) :: rest) a w := by
 cases b with
 | false => refine ⟨?_⟩; unfold wpSchedR; rw [if_neg (by rw [hgd]; exact Bool.false_ne_true)]; exact h
 | true => exact sched_loud (wpList_skip hgd (sched_on hS h))
theorem sched_call {a : Act} {w : World} {o : Oper} {rest : List (Bool × Nat × Oper)} (hgd : Region.wanted o (yielded ops a.tmps) = true) (f : FuncId) (vs : Array Value)
  (hrun : (execOp a.eval o).run P w = .ok (.enter f vs) w) {R} (hc : Calls P f vs w R)
  (h : ∀ e w', R e w' → ∃ v, e = .returned v ∧ S w' ∧ wpSched P ops Q S last rest (a.put o.dst v) w') : wpSched P ops Q S last ((true, i, o) :: rest) a w := by
 refine sched_loud ?_
 unfold wpList
 rw [if_pos hgd]
 refine .inl ?_
 unfold Oper.wp
 rw [hrun]
 refine hc.mono fun e w' hR => ?_
 obtain ⟨v, rfl, hS, hk⟩ := h e w' hR
 exact sched_on hS hk
def schedOk (ops : Array Oper) (loud : List Nat) : List Nat → Array Bool → Bool
 | [], listed => (Region.ready .any ops listed).isEmpty
 | i :: rest, listed =>
  (
   if loud.contains i then Region.ready .any ops listed == [i]
   else (Region.ready .any ops listed).contains i && Region.free .any ops listed i) &&
  schedOk ops loud rest (listed.setIfInBounds i true)
def nth : List Oper → Nat → Oper
 | [], _ => default
 | o :: _, 0 => o
 | _ :: l, n + 1 => nth l n
theorem nth_zero (o : Oper) (l : List Oper) : nth (o :: l) 0 = o := rfl
theorem nth_succ (o : Oper) (l : List Oper) (n : Nat) : nth (o :: l) (n + 1) = nth l n := rfl
theorem nth_get : ∀ (l : List Oper) (i : Nat) (o : Oper), l[i]? = some o → nth l i = o
 | [], _, _, h => by simp at h
 | x :: l, 0, o, h => by simpa [nth] using h
 | x :: l, i + 1, o, h => nth_get l i o (by simpa using h)
theorem wpOp_of_list {i : Nat} {p : Prop} {o : Oper} {a : Act} {w : World} {K : Act → World → Prop} (hi : ops[i]? = some o)
  (h : wpList P ops (schedQ P Q S p K) [o] a w) : wpOp P ops (NoPanic Q) i (fun a' w' => (p → S w') ∧ K a' w') a w := by
 unfold wpOp
 simp only [hi]
 unfold wpList at h
 have hm : ∀ e a w, schedQ P Q S p K e a w → e = .normal := fun e a w h => by cases e <;> first | rfl | exact h.elim
 split
 ·rename_i hw
  rw [if_pos hw] at h
  rcases h with h | h
  ·refine .inl ?_
   unfold Oper.wp at *
   generalize (execOp a.eval o).run P w = r at *
   cases r with
   | ok n w' =>
    cases n <;> simp only [Oper.upon] at h ⊢
    case value v => exact h
    case skip => exact h
    case defer d => exact h
    case enter f args =>
     refine h.mono fun e w'' hh => ?_
     cases e with
     | returned v => exact hh
     | panicked c => exact absurd hh (by simp [schedQ])
     | outgrown => obtain ⟨a0, w0, h0⟩ := hh; exact h0.elim
    case row r as => exact h
    all_goals exact h
   | halt x w' =>
    cases x <;> simp only [Oper.upon] at h ⊢
    all_goals exact h
  ·obtain ⟨_, a0, w0, h0⟩ := h
   exact h0.elim
 ·rename_i hw
  rw [if_neg hw] at h
  exact h
def wpAnyK (P : Program) (ops : Array Oper) (Q : Exit → Act → World → Prop) (S : World → Prop) (last : Nat) : Nat → Array Bool → Act → World → Prop
 | 0, listed, a, w => Region.ready .any ops listed = [] ∧ Q .normal a w
 | fuel + 1, listed, a, w =>
  (Region.ready .any ops listed = [] → Q .normal a w) ∧
  ∀ i ∈ Region.ready .any ops listed, wpOp P ops Q i (fun a' w' => (i ≠ last → S w') ∧ wpAnyK P ops Q S last fuel (listed.setIfInBounds i true) a' w') a w
theorem wpAny_of_K {last : Nat} : ∀ (fuel : Nat) (listed : Array Bool) (a : Act) (w : World), wpAnyK P ops Q S last fuel listed a w → wpAny P .any ops Q fuel listed a w
 | 0, _, _, _, h => h
 | fuel + 1, _, _, _, h => ⟨h.1, fun i hi => wpOp_mono (fun a' w' h' => wpAny_of_K fuel _ a' w' h'.2) (h.2 i hi)⟩
def preds (ops : Array Oper) (i : Nat) : List Nat := match ops[i]? with
 | some o => (o.after.toList.filter (Region.binds .any ·)).map (·.on)
 | none => []
def anc (ops : Array Oper) (last : Nat) : Nat → List Nat
 | 0 => preds ops last
 | n + 1 => preds ops last ++ (anc ops last n).flatMap (preds ops)
def Down (ops : Array Oper) (listed : Array Bool) : Prop := ∀ j, listed.getD j false = true → ∀ i ∈ preds ops j, listed.getD i false = true
theorem ready_preds {listed : Array Bool} {j : Nat} (h : j ∈ Region.ready .any ops listed) : ∀ i ∈ preds ops j, listed.getD i false = true := by
 obtain ⟨_, oj, hoj, hall⟩ := mem_ready.1 h
 intro i hi
 simp only [preds, hoj, List.mem_map, List.mem_filter, Array.mem_toList_iff] at hi
 obtain ⟨e, ⟨he, hb⟩, rfl⟩ := hi
 exact hall e he hb
theorem Down.set {listed : Array Bool} (h : Down ops listed) {i : Nat} (hi : i ∈ Region.ready .any ops listed) : Down ops (listed.setIfInBounds i true) := by
 intro j hj k hk
 have hmono : ∀ x, listed.getD x false = true → (listed.setIfInBounds i true).getD x false = true := fun x hx => getD_set_true hx
 rcases Nat.decEq i j with hij | rfl
 ·rw [getD_set_ne false hij] at hj
  exact hmono k (h j hj k hk)
 ·exact hmono k (ready_preds hi k hk)
theorem Down.start (n : Nat) : Down ops (Array.replicate n false) := by
 intro j hj
 rw [getD_replicate_false] at hj
 cases hj
theorem Down.anc {listed : Array Bool} (h : Down ops listed) {last : Nat} (hl : last ∈ Region.ready .any ops listed) : ∀ n, ∀ x ∈ anc ops last n, listed.getD x false = true := by
 intro n
 induction n with
 | zero => exact ready_preds hl
 | succ n ih =>
  intro x hx
  simp only [Lig.anc, List.mem_append, List.mem_flatMap] at hx
  rcases hx with hx | ⟨y, hy, hx⟩
  ·exact ready_preds hl x hx
  ·exact h y (ih y hy) x hx
def sinkOk (ops : Array Oper) (last : Nat) : Bool := (List.range ops.size).all fun i => i == last || (anc ops last ops.size).contains i || !(decide (last < ops.size))
theorem wpAnyK_first {last i : Nat} {oi : Oper} {v : Value} (hi : ops[i]? = some oi) (hsel : Region.noSelect ops = true) (hsink : sinkOk ops last = true) (hil : i ≠ last)
  (hQ : ∀ c a w, Q (.panic c) (a.put oi.dst v) w → Q (.panic c) a w) :
  ∀ (fuel : Nat) (listed : Array Bool) (a : Act) (w : World), Down ops listed →
   (∀ j oj, ops[j]? = some oj → j ≠ i → listed.getD j true = false → (∀ e ∈ oj.after, Region.binds .any e = true → e.on ≠ i) → oi.apart ops oj = true) →
   i ∈ Region.ready .any ops listed → YieldsIf P ops S oi v a → S w →
   wpAnyK P ops Q S last fuel (listed.setIfInBounds i true) (a.put oi.dst v) w → wpAnyK P ops Q S last (fuel + 1) listed a w := by
 have hsel' := Region.noSelect_spec hsel
 intro fuel
 induction fuel with
 | zero =>
  intro listed a w _ _ hr hy hS H
  refine ⟨fun h => (by rw [h] at hr; cases hr), fun j hj => ?_⟩
  rcases Nat.decEq j i with hji | rfl
  ·exact absurd (ready_mono hj hji) (by rw [H.1]; simp)
  ·exact hy.wpOp hi hS ⟨fun _ => hS, H⟩
 | succ fuel ih =>
  intro listed a w hdown hfree hr hy hS H
  refine ⟨fun h => (by rw [h] at hr; cases hr), fun j hj => ?_⟩
  rcases Nat.decEq j i with hji | rfl
  ·obtain ⟨hjun, oj, hoj, hall⟩ := mem_ready.1 hj
   have hiun := (mem_ready.1 hr).1
   have hisz : i < ops.size := (Array.getElem?_eq_some_iff.1 hi).1
   have hsz : ∀ b : Bool, listed.getD i true = false → listed.getD i b = false := by
    intro b hb
    rcases Nat.lt_or_ge i listed.size with hlt | hge
    ·simp [hlt] at hb ⊢; exact hb
    ·simp [Array.getElem?_eq_none hge] at hb
   have hjl : j ≠ last := by
    rintro rfl
    have hc := List.all_eq_true.1 hsink i (by simpa using hisz)
    have hjs : j < ops.size := (Array.getElem?_eq_some_iff.1 hoj).1
    simp only [Bool.or_eq_true, beq_iff_eq, hil, false_or, hjs, decide_true, Bool.not_true, Bool.false_eq_true, or_false] at hc
    have := hdown.anc hj ops.size i (by simpa using hc)
    rw [hsz false hiun] at this
    cases this
   have hwait : ∀ e ∈ oj.after, Region.binds .any e = true → e.on ≠ i := by
    intro e he hb heq
    have ha := hall e he hb
    rw [heq, hsz false hiun] at ha
    cases ha
   have hfree' : ∀ k ok, ops[k]? = some ok → k ≠ i → (listed.setIfInBounds j true).getD k true = false →
     (∀ e ∈ ok.after, Region.binds .any e = true → e.on ≠ i) → oi.apart ops ok = true := by
    intro k ok hk hki hun hno
    refine hfree k ok hk hki ?_ hno
    rcases Nat.decEq j k with hjk | rfl
    ·rw [getD_set_ne true hjk] at hun; exact hun
    ·exact hjun
   have h2 := wpOp_putIf hoj (hfree j oj hoj hji hjun hwait) (fun cs b => hsel' i oi cs b hi) (fun cs b => hsel' j oj cs b hoj) hQ hy (H.2 j (ready_mono hj hji))
   refine wpOp_mono (fun a' w' h3 => ?_) h2
   obtain ⟨hy', hS', hK'⟩ := h3
   refine ⟨fun _ => hS' hjl, ih (listed.setIfInBounds j true) a' w' (hdown.set hj) hfree' (ready_mono hr (Ne.symm hji)) hy' (hS' hjl) ?_⟩
   rw [Array.setIfInBounds_comm _ _ hji]
   exact hK'
  ·exact hy.wpOp hi hS ⟨fun _ => hS, H⟩
theorem wpAnyK_mono {S' : World → Prop} {last : Nat} (hs : ∀ u, S' u → S u) : ∀ (fuel : Nat) (listed : Array Bool) (a : Act) (w : World), wpAnyK P ops Q S' last fuel listed a w → wpAnyK P ops Q S last fuel listed a w
 | 0, _, _, _, h => h
 | fuel + 1, _, _, _, h => ⟨h.1, fun i hi => wpOp_mono (fun a' w' h' => ⟨fun hl => hs _ (h'.1 hl), wpAnyK_mono hs fuel _ a' w' h'.2⟩) (h.2 i hi)⟩
theorem wpAnyK_of_sched {l : List Oper} (hops : ops = l.toArray) (hsel : Region.noSelect ops = true) (last : Nat) (hsink : sinkOk ops last = true) (loud : List Nat) (hlast : last < ops.size → loud.contains last = true) :
  ∀ (σ : List Nat) (S : World → Prop) (listed : Array Bool) (fuel : Nat) (a : Act) (w : World), Down ops listed → schedOk ops loud σ listed = true → fuel = σ.length → (σ ≠ [] → S w) →
  wpSched P ops Q S last (σ.map fun i => (loud.contains i, i, nth l i)) a w → wpAnyK P ops (NoPanic Q) S last fuel listed a w := by
 intro σ
 induction σ with
 | nil =>
  intro S listed fuel a w _ hok hf hS h
  subst hf
  exact ⟨by simpa [schedOk] using hok, h.out⟩
 | cons i rest ih =>
  intro S listed fuel a w hdown hok hf hS h
  subst hf
  simp only [schedOk, Bool.and_eq_true] at hok
  obtain ⟨h1, h2⟩ := hok
  simp only [List.map_cons] at h
  by_cases hl : loud.contains i = true
  ·rw [hl] at h
   rw [if_pos hl] at h1
   have hr : Region.ready .any ops listed = [i] := by simpa using h1
   have hi : i ∈ Region.ready .any ops listed := by rw [hr]; simp
   obtain ⟨_, o, ho, _⟩ := mem_ready.1 hi
   have hn : nth l i = o := nth_get l i o (by rw [hops] at ho; simpa using ho)
   rw [hn] at h
   refine ⟨fun h0 => (by rw [hr] at h0; cases h0), fun j hj => ?_⟩
   obtain rfl : j = i := by rw [hr] at hj; simpa using hj
   refine wpOp_mono (fun a' w' hh => ?_) (wpOp_of_list ho h.out)
   obtain ⟨hh1, S', hsub, hS', hh2⟩ := hh
   refine ⟨hh1, wpAnyK_mono hsub _ _ _ _ (ih S' _ _ a' w' (hdown.set hi) h2 rfl (fun hne => hS' ?_) hh2)⟩
   -- j is not the last: something follows
   rintro rfl
   obtain ⟨k, rest', rfl⟩ := List.exists_cons_of_ne_nil hne
   have hks : k ∈ Region.ready .any ops (listed.setIfInBounds j true) := by
    simp only [schedOk, Bool.and_eq_true] at h2
    have h3 := h2.1
    split at h3
    ·have : Region.ready .any ops (listed.setIfInBounds j true) = [k] := by simpa using h3
     rw [this]; simp
    ·simp only [Bool.and_eq_true] at h3
     simpa using h3.1
   obtain ⟨hkun, ok, hok', _⟩ := mem_ready.1 hks
   have hkj : j ≠ k := by
    rintro rfl
    have hjs : j < listed.size := by
     have hh := (mem_ready.1 hi).1
     rcases Nat.lt_or_ge j listed.size with hlt | hge
     ·exact hlt
     ·simp [Array.getElem?_eq_none hge] at hh
    simp [hjs] at hkun
   have hkl : listed.getD k true = false := by rw [← getD_set_ne true hkj]; exact hkun
   have hks' : k < ops.size := (Array.getElem?_eq_some_iff.1 hok').1
   have hjs' : j < ops.size := (Array.getElem?_eq_some_iff.1 ho).1
   have hc := List.all_eq_true.1 hsink k (by simpa using hks')
   simp only [Bool.or_eq_true, beq_iff_eq, Ne.symm hkj, false_or, hjs', decide_true, Bool.not_true, Bool.false_eq_true, or_false] at hc
   have := hdown.anc hi ops.size k (by simpa using hc)
   rcases Nat.lt_or_ge k listed.size with hlt | hge
   ·simp [hlt] at hkl this
    rw [hkl] at this
    cases this
   ·simp [Array.getElem?_eq_none hge] at hkl
  ·have hl' : loud.contains i = false := by simpa using hl
   rw [hl'] at h
   rw [if_neg hl] at h1
   simp only [Bool.and_eq_true] at h1
   obtain ⟨hr, hfree⟩ := h1
   have hi : i ∈ Region.ready .any ops listed := by simpa using hr
   obtain ⟨_, o, ho, _⟩ := mem_ready.1 hi
   have hn : nth l i = o := nth_get l i o (by rw [hops] at ho; simpa using ho)
   rw [hn] at h
   have hS' := hS (by simp)
   have hil : i ≠ last := by
    rintro rfl
    exact hl (hlast (Array.getElem?_eq_some_iff.1 ho).1)
   have h := h.out
   simp only [wpSchedR] at h
   by_cases hw : Region.wanted o (yielded ops a.tmps) = true
   ·rw [if_pos hw] at h
    obtain ⟨v, hv, hk⟩ := h
    exact wpAnyK_first ho hsel hsink hil (fun _ _ _ h => h) (v := v) _ _ _ _ hdown (Region.free_spec ho hfree) hi (.inl ⟨hw, fun w' hw' => run_of_yields (hv w' hw')⟩) hS' (ih _ _ _ _ w (hdown.set hi) h2 rfl (fun _ => hS') hk)
   ·rw [if_neg hw] at h
    have hw' : Region.wanted o (yielded ops a.tmps) = false := by simpa using hw
    exact wpAnyK_first ho hsel hsink hil (fun _ _ _ h => h) (v := undef) _ _ _ _ hdown (Region.free_spec ho hfree) hi (.inr ⟨hw', rfl⟩) hS' (ih _ _ _ _ w (hdown.set hi) h2 rfl (fun _ => hS') h)
theorem wp_region_sched {id : Nat} {a : Act} {w : World} {l : List Oper} (hm : P.follows .mixedOrders = true) (last : Nat) (loud σ : List Nat) (S : World → Prop)
  (hB : (Region.noSelect l.toArray && σ.length == l.length && schedOk l.toArray loud σ (Array.replicate l.length false) && sinkOk l.toArray last && (loud.contains last || last == l.length)) = true) (hS : S w.drew)
  (h : wpSched P l.toArray Q S last (σ.map fun i => (loud.contains i, i, nth l i)) a w.drew) : (Code.region id l.toArray true).wp P Q a w := by
 simp only [Bool.and_eq_true, beq_iff_eq] at hB
 obtain ⟨⟨⟨⟨hsel, hlen⟩, hok⟩, hsink⟩, hlast⟩ := hB
 refine wp_region_noPanic (wp_region_any hm (wpAny_of_K (S := S) (last := last) _ _ _ _ ?_))
 simp only [Bool.or_eq_true, beq_iff_eq] at hlast
 exact wpAnyK_of_sched (ops := l.toArray) rfl hsel last hsink loud (fun hlt => by
  rcases hlast with h | h
  ·exact h
  ·simp at hlt; omega) σ S _ _ a w.drew (Down.start _) (by simpa using hok) (by simp [hlen]) (fun _ => hS) h
end
end Go.Lig
