/- A body that collects in a round: what its cells hold, through the iterator's own steps, the loop's record and the appends. Nothing of the program is named. -/
import Derived.Test.YthgbahlkflmgiaaRange
import Derived.RangeFuncBox
import Derived.Maps.AppendAt
namespace Go.Proofs.Ythgbahlkflmgiaa.Lb
open Go Go.RowKit
set_option linter.unusedVariables false
set_option linter.unusedSimpArgs false

theorem Kept.putObj {S : Nat → Prop} {a w : World} (h : Kept S a w) {k : Nat} (hp : S k ∨ a.heap.size ≤ k) (o : Obj) : Kept S a (w.putObj k o) :=
  h.trans (S' := fun i => i = k) ⟨rfl, rfl, rfl, by simp [World.putObj], fun i hi hn => by simp [World.putObj, Ne.symm hn]⟩ (fun i hi => by subst hi; exact hp)
theorem Kept.of_Below {n : Nat} {a b : World} (h : Below n a b) : Kept (fun k => n ≤ k) a b := ⟨h.os, h.tape, h.output, h.size, fun i hi hn => h.block i (Nat.lt_of_not_le hn)⟩
theorem heap_put {w : World} {k : Nat} {o o' : Obj} (h : w.heap[k]? = some o) : (w.putObj k o').heap[k]? = some o' := by
  have := (Array.getElem?_eq_some_iff.1 h).1
  simp [World.putObj, this]
theorem heap_put_other {w : World} {i k : Nat} {o' : Obj} (hne : i ≠ k) : (w.putObj k o').heap[i]? = w.heap[i]? := by
  simp [World.putObj, hne.symm]

theorem own_slice {w : World} {base e size n : Nat} {v : Value} {xs : List Value} (h : w.ownsRow base e size v n xs) : ∃ A cap, v = .slice A n cap := by
  rcases own_form h with ⟨h1, h2, _⟩ | ⟨g, cap, h1, _⟩
  · exact ⟨none, 0, by rw [h1, h2]⟩
  · exact ⟨_, _, h1⟩
/-- B: the box of the variable that collects; D, l: the loop's two blocks; w0: the world ahead; O: what the iterator writes. -/
structure Coll (B D l sz : Nat) (E T : TypeId) (L : List (Nat × TypeId × Value)) (O : Nat → Prop) (w0 : World) (ro : Obj) (k : Nat) (cs : List Value) (vo : Value) (W : World) : Prop where
  hB : w0.heap.size ≤ B
  hD : w0.heap.size ≤ D
  hl : w0.heap.size ≤ l
  hO : ∀ i, O i → i < w0.heap.size
  hL : ∀ q ∈ L, w0.heap.size ≤ q.1 ∧ q.1 ≠ B ∧ q.2.1 ≠ E
  bx : ∀ q ∈ L, Boxed W q.1 q.2.1 q.2.2
  box : Boxed W B T vo
  row : W.ownsRow w0.heap.size E sz vo k cs
  lp : W.heap[l]? = some ro
  roc : ro.isCells = false
  dfr : W.heap[D]? = some (.deferred (some []))
  dl : D ≠ l
  kept : Kept O w0 W

theorem Coll.step {B D l sz : Nat} {E T : TypeId} {L : List (Nat × TypeId × Value)} {O : Nat → Prop} {w0 : World} {ro : Obj} {k : Nat} {cs : List Value} {vo : Value} {W W' : World} (h : Coll B D l sz E T L O w0 ro k cs vo W)
    {S : Nat → Prop} (hk : Kept S W W') (hS : ∀ i, S i → O i) : Coll B D l sz E T L O w0 ro k cs vo W' := by
  have hn : ∀ i, w0.heap.size ≤ i → ¬ S i := fun i hi hs => by have := h.hO i (hS i hs); omega
  exact { hB := h.hB, hD := h.hD, hl := h.hl, hO := h.hO, hL := h.hL, bx := fun q hq => hk.heap (h.bx q hq) (hn _ (h.hL q hq).1), box := hk.heap h.box (hn _ h.hB), row := hk.own h.row (fun j hj => hn j (h.row.lt j hj).1), lp := hk.heap h.lp (hn _ h.hl), roc := h.roc,
          dfr := hk.heap h.dfr (hn _ h.hD), dl := h.dl, kept := h.kept.trans hk (fun i hi => .inl (hS i hi)) }
theorem Coll.nil {B D l sz : Nat} {E T : TypeId} {L : List (Nat × TypeId × Value)} {O : Nat → Prop} {w0 : World} {ro : Obj} {k : Nat} {cs : List Value} {vo : Value} {W W' : World} (h : Coll B D l sz E T L O w0 ro k cs vo W) (hk : Kept Nil W W') : Coll B D l sz E T L O w0 ro k cs vo W' :=
  h.step hk (fun _ h => h.elim)
theorem Coll.put {B D l sz : Nat} {E T : TypeId} {L : List (Nat × TypeId × Value)} {O : Nat → Prop} {w0 : World} {ro ro' : Obj} {k : Nat} {cs : List Value} {vo : Value} {W : World} (h : Coll B D l sz E T L O w0 ro k cs vo W) (hc : ro'.isCells = false) :
    Coll B D l sz E T L O w0 ro' k cs vo (W.putObj l ro') := by
  have hno : ∀ (B : Nat) (T : TypeId) (vo : Value), Boxed W B T vo → B ≠ l := by
    intro B T vo hb e
    have h1 := h.lp
    have h2 : W.heap[B]? = _ := hb
    rw [e, h1] at h2
    cases h2
    exact absurd h.roc (by simp [Obj.isCells])
  exact { hB := h.hB, hD := h.hD, hl := h.hl, hO := h.hO, hL := h.hL, bx := fun q hq => (heap_put_other (hno _ _ _ (h.bx q hq))).trans (h.bx q hq), box := (heap_put_other (hno _ _ _ h.box)).trans h.box, row := ownsRow_putObj h.row _ h.lp h.roc, lp := heap_put h.lp, roc := hc,
          dfr := (heap_put_other h.dl).trans h.dfr, dl := h.dl, kept := h.kept.putObj (.inr h.hl) _ }
theorem Coll.appended {B D l sz : Nat} {E T : TypeId} {L : List (Nat × TypeId × Value)} {O : Nat → Prop} {w0 : World} {ro : Obj} {k m : Nat} {cs ys : List Value} {vo v' : Value} {W w1 : World} (h : Coll B D l sz E T L O w0 ro k cs vo W) (hte : T ≠ E) {tmp : Obj}
    (hown' : w1.ownsRow w0.heap.size E sz v' m ys) (hgrow : (W.alloc tmp).grownBy w1 vo.ownBlock) : Boxed w1 B T vo ∧ Coll B D l sz E T L O w0 ro m ys v' (w1.setCell ⟨B, 0, none⟩ v') ∧ Kept (fun i => w0.heap.size ≤ i) W (w1.setCell ⟨B, 0, none⟩ v') := by
  obtain ⟨h1, h2, h3, h4, h5⟩ := h.box.appended hte h.row h.kept.size h.hB hown' hgrow
  have hx : ∀ q ∈ L, Boxed (w1.setCell ⟨B, 0, none⟩ v') q.1 q.2.1 q.2.2 := fun q hq => (((h.bx q hq).alloc tmp).kept hgrow ((h.bx q hq).not_row (h.hL q hq).2.2 h.row)).other (h.hL q hq).2.1 _
  refine ⟨h1, { hB := h.hB, hD := h.hD, hl := h.hl, hO := h.hO, hL := h.hL, bx := hx, box := h2, row := h3, lp := h4.same _ _ h.lp h.roc, roc := h.roc, dfr := h4.same _ _ h.dfr rfl, dl := h.dl, kept := h.kept.trans (Kept.of_Below h5) (fun i hi => .inr hi) }, Kept.of_Below h5⟩
/-- A store into a box of its own. -/
theorem Coll.store {B D l sz : Nat} {E T : TypeId} {Rx : Nat} {TR : TypeId} {vr : Value} {L : List (Nat × TypeId × Value)} {O : Nat → Prop} {w0 : World} {ro : Obj} {k : Nat} {cs : List Value} {vo : Value} {W : World} (h : Coll B D l sz E T ((Rx, TR, vr) :: L) O w0 ro k cs vo W)
    (hne : ∀ q ∈ L, q.1 ≠ Rx) (u : Value) : Coll B D l sz E T ((Rx, TR, u) :: L) O w0 ro k cs vo (W.setCell ⟨Rx, 0, none⟩ u) := by
  have hR := h.hL _ (List.mem_cons_self ..)
  have hb := h.bx _ (List.mem_cons_self ..)
  have hno : ∀ (i : Nat) (o : Obj), W.heap[i]? = some o → o.isCells = false → (W.setCell ⟨Rx, 0, none⟩ u).heap[i]? = some o := fun i o hi ho => (KeepsOthers.setCell W ⟨Rx, 0, none⟩ u).same i o hi ho
  refine { hB := h.hB, hD := h.hD, hl := h.hl, hO := h.hO, hL := ?_, bx := ?_, box := h.box.other hR.2.1.symm _, row := h.row.kept (grownBy_setCell' W Rx u) (.inr (hb.not_row hR.2.2 h.row).symm), lp := hno _ _ h.lp h.roc, roc := h.roc, dfr := hno _ _ h.dfr rfl, dl := h.dl, kept := h.kept.setCell (.inr hR.1) _ }
  · intro q hq
    rcases List.mem_cons.1 hq with rfl | hq
    · exact hR
    · exact h.hL _ (List.mem_cons_of_mem _ hq)
  · intro q hq
    rcases List.mem_cons.1 hq with rfl | hq
    · exact hb.set u
    · exact (h.bx _ (List.mem_cons_of_mem _ hq)).other (hne q hq) _
/-- At the end: the loop's record put away, the deferred calls taken. -/
theorem Coll.last {B D l sz : Nat} {E T : TypeId} {L : List (Nat × TypeId × Value)} {O : Nat → Prop} {w0 : World} {ro : Obj} {k : Nat} {cs : List Value} {vo : Value} {W : World} (h : Coll B D l sz E T L O w0 ro k cs vo W) :
    (W.putObj D (.deferred none)).ownsRow w0.heap.size E sz vo k cs ∧ Kept O w0 (W.putObj D (.deferred none)) ∧ (∀ q ∈ L, Boxed (W.putObj D (.deferred none)) q.1 q.2.1 q.2.2) := by
  refine ⟨ownsRow_putObj h.row _ h.dfr rfl, h.kept.putObj (.inr h.hD) _, fun q hq => (heap_put_other fun e => ?_).trans (h.bx q hq)⟩
  have h1 := h.dfr
  have h2 : W.heap[q.1]? = _ := h.bx q hq
  rw [e, h1] at h2
  cases h2
end Go.Proofs.Ythgbahlkflmgiaa.Lb
