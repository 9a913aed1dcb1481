/- A map[int]bool that a call makes, as the list of the keys that were set. Nothing of the program is named. -/
import Derived.Test.YtfkhnhpphcpmmaaLib
import Derived.Maps.Own
import Derived.Maps.Views
import Derived.Maps.OwnOps
namespace Go.Proofs.Ytfkhnhpphcpmmaa.Lb
open Go Go.RowKit Go.Maps
set_option linter.unusedVariables false
set_option linter.unusedSimpArgs false

structure Seen (P : Program) (K E : TypeId) (b : Nat) (ts : List Int) (W : World) : Prop where
  own : ∃ (n : Nat) (D : DataW Unit), n ≤ ts.length ∧ W.ownsMap P K (plainElem P E) b n D ∧ ∀ t : Int, D.atKey (.int .i64 t) (.lit (.bool false)) = .lit (.bool (decide (t ∈ ts)))
theorem Seen.made (w : World) (P : Program) (K E : TypeId) : Seen P K E w.heap.size [] (w.alloc (.map #[] 0)) :=
  ⟨0, .map [], Nat.le_refl _, World.ownsMap_made w P K _, fun t => by simp [DataW.atKey]⟩
theorem Seen.lt {P : Program} {K E : TypeId} {b : Nat} {ts : List Int} {W : World} (h : Seen P K E b ts W) : b < W.heap.size := by
  obtain ⟨n, D, _, ho, _⟩ := h.own
  exact ho.lt
theorem Seen.kept {P : Program} {K E : TypeId} {b : Nat} {ts : List Int} {W W' : World} {S : Nat → Prop} (h : Seen P K E b ts W) (hk : Kept S W W') (hS : ¬ S b) : Seen P K E b ts W' := by
  obtain ⟨n, D, hn, ⟨es, clock, hb, r⟩, hD⟩ := h.own
  exact ⟨n, D, hn, ⟨es, clock, hk.heap hb hS, r⟩, hD⟩
theorem Seen.look {P : Program} {K E T : TypeId} {b : Nat} {ts : List Int} {W : World} (h : Seen P K E b ts W) (hK : P.underlying K = some (.int .i64)) (hE : P.underlying E = some .bool) (hT : P.underlying T = some (.map K E)) (hz : ∀ w, (zeroValue E).run P w = .ok (.bool false) w) (t : Int) (hw : (Lit.int .i64 t).wf = true) :
    (Instr.lookup T (.map (some b)) (.int .i64 t) false).run P W = .ok (.bool (decide (t ∈ ts))) W := by
  obtain ⟨n, D, hn, ho, hD⟩ := h.own
  obtain ⟨v, ps, hrun, hv⟩ := ho.lookup (int_keyed hK) hT (hz W) (plainElem_bool hE false) (keyOf_int_mk hK hw)
  rw [hD t] at hv
  unfold plainElem at hv
  rw [hE] at hv
  cases v <;> simp at hv
  rw [hrun, hv.1]
theorem Seen.add {P : Program} {K E : TypeId} {b : Nat} {ts : List Int} {W W' : World} {n : Nat} {D : DataW Unit} (hn : n ≤ ts.length) (hD : ∀ t : Int, D.atKey (.int .i64 t) (.lit (.bool false)) = .lit (.bool (decide (t ∈ ts)))) (t0 : Int) (hm : IsMap D)
    (h : W'.ownsMap P K (plainElem P E) b (n + 1) (D.put (.int .i64 t0) (.lit (.bool true)))) : Seen P K E b (ts ++ [t0]) W' := by
  refine ⟨n + 1, _, by simp; omega, h, fun t => ?_⟩
  by_cases e : t = t0
  · subst e
    rw [atKey_put_same hm (by first | exact trivial | simp [WideAt.IsKeyLit] | decide)]
    simp
  · rw [atKey_put_other (fun h => e (by cases h; rfl)), hD t]
    congr 2
    simp [e]
end Go.Proofs.Ytfkhnhpphcpmmaa.Lb
