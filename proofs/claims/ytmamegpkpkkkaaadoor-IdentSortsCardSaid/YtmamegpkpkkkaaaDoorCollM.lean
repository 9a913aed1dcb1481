/- A body that collects while the iterator has a map of its own. Nothing of the program is named. -/
import Derived.Test.YtmamegpkpkkkaaaDoorColl
namespace Go.Proofs.YtmamegpkpkkkaaaDoor.Mo
open Go Go.RowKit Go.Proofs.YtmamegpkpkkkaaaDoor.Lb
set_option linter.unusedVariables false
set_option linter.unusedSimpArgs false
theorem Coll.mapped {B D l sz : Nat} {E T : TypeId} {L : List (Nat × TypeId × Value)} {O : Nat → Prop} {w0 : World} {ro : Obj} {k : Nat} {cs : List Value} {vo : Value} {W W' : World} (h : Coll B D l sz E T L O w0 ro k cs vo W) {mb : Nat} {es : Array MapEntry} {clk : Nat} (hm : W.heap[mb]? = some (Obj.map es clk)) (hge : w0.heap.size ≤ mb)
    (hl : ∃ lp, ro = .loop lp) (hk : Kept (fun i => i = mb) W W') : Coll B D l sz E T L O w0 ro k cs vo W' := by
  obtain ⟨lp, rfl⟩ := hl
  have hb : ∀ (b : Nat) (t : TypeId) (u : Value), Boxed W b t u → ¬ b = mb := fun b t u h1 e => by
    have h2 : W.heap[b]? = _ := h1
    rw [e, hm] at h2; cases h2
  exact { hB := h.hB, hD := h.hD, hl := h.hl, hO := h.hO, hL := h.hL, bx := fun q hq => hk.heap (h.bx q hq) (hb _ _ _ (h.bx q hq)), box := hk.heap h.box (hb _ _ _ h.box),
          row := hk.own h.row (fun j hj e => by
            rcases h.row.2 with ⟨h1, _⟩ | ⟨g, cap, cur, h1, _, h2, _⟩
            · rw [h1] at hj; cases hj
            · rw [h1] at hj; cases hj
              have e' : g = mb := e
              rw [e', hm] at h2; cases h2),
          lp := hk.heap h.lp (fun e => by have := h.lp; rw [e, hm] at this; cases this), roc := h.roc, dfr := hk.heap h.dfr (fun e => by have := h.dfr; rw [e, hm] at this; cases this), dl := h.dl,
          kept := h.kept.trans hk (fun i hi => .inr (by omega)) }
theorem mb_grown {base e size n : Nat} {vo : Value} {xs : List Value} {Wb w3 : World} {mb : Nat} {es : Array MapEntry} {clk : Nat} {tmp : Obj} (row : Wb.ownsRow base e size vo n xs) (hm : Wb.heap[mb]? = some (Obj.map es clk)) (hgrow : (Wb.alloc tmp).grownBy w3 vo.ownBlock) : w3.heap[mb]? = some (Obj.map es clk) := by
  have hlt := (Array.getElem?_eq_some_iff.1 hm).1
  rw [hgrow.block mb (by rw [World.size_alloc]; omega) (fun h => by
    rcases row.2 with ⟨h1, _⟩ | ⟨g, cap, cur, h1, _, h2, _⟩
    · rw [h1] at h; cases h
    · rw [h1] at h
      have e' : mb = g := by simpa [Value.ownBlock] using h
      rw [← e', hm] at h2; cases h2), heap_old _ _ hlt]
  exact hm
theorem mb_ne {W : World} {b mb : Nat} {t : TypeId} {u : Value} {es : Array MapEntry} {clk : Nat} (h : Boxed W b t u) (hm : W.heap[mb]? = some (Obj.map es clk)) : mb ≠ b := fun e => by
  have h2 : W.heap[b]? = _ := h
  rw [← e, hm] at h2; cases h2
theorem lp_ne {W : World} {l mb : Nat} {lp : Loop} {es : Array MapEntry} {clk : Nat} (h : W.heap[l]? = some (.loop lp)) (hm : W.heap[mb]? = some (Obj.map es clk)) : mb ≠ l := fun e => by
  rw [← e, hm] at h; cases h
end Go.Proofs.YtmamegpkpkkkaaaDoor.Mo
