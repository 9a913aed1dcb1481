/- A map[int]int that a call makes, as a function of its keys. Nothing of the program is named. -/
import Derived.Test.YtfkhnhpphcpmmaaLib
import Derived.Maps.Own
import Derived.Maps.Views
import Derived.Maps.OwnOps
namespace Go.Proofs.Ytfkhnhpphcpmmaa.Lb
open Go Go.RowKit Go.Maps
set_option linter.unusedVariables false
set_option linter.unusedSimpArgs false

structure Cnt (P : Program) (K E : TypeId) (b n : Nat) (f : Int → Int) (W : World) : Prop where
  own : ∃ D : DataW Unit, W.ownsMap P K (plainElem P E) b n D ∧ ∀ t : Int, D.atKey (.int .i64 t) (.lit (.int .i64 0)) = .lit (.int .i64 (f t))
theorem Cnt.made (w : World) (P : Program) (K E : TypeId) : Cnt P K E w.heap.size 0 (fun _ => 0) (w.alloc (.map #[] 0)) :=
  ⟨.map [], World.ownsMap_made w P K _, fun t => by simp [DataW.atKey]⟩
theorem Cnt.lt {P : Program} {K E : TypeId} {b n : Nat} {f : Int → Int} {W : World} (h : Cnt P K E b n f W) : b < W.heap.size := by
  obtain ⟨D, ho, _⟩ := h.own
  exact ho.lt
theorem Cnt.kept {P : Program} {K E : TypeId} {b n : Nat} {f : Int → Int} {W W' : World} {S : Nat → Prop} (h : Cnt P K E b n f W) (hk : Kept S W W') (hS : ¬ S b) : Cnt P K E b n f W' := by
  obtain ⟨D, ⟨es, clock, hb, r⟩, hD⟩ := h.own
  exact ⟨D, ⟨es, clock, hk.heap hb hS, r⟩, hD⟩
theorem Cnt.congr {P : Program} {K E : TypeId} {b n : Nat} {f g : Int → Int} {W : World} (h : Cnt P K E b n f W) (e : ∀ t, f t = g t) : Cnt P K E b n g W := by
  have : f = g := funext e
  exact this ▸ h
theorem Cnt.look {P : Program} {K E T : TypeId} {b n : Nat} {f : Int → Int} {W : World} (h : Cnt P K E b n f W) (hK : P.underlying K = some (.int .i64)) (hE : P.underlying E = some (.int .i64)) (hT : P.underlying T = some (.map K E)) (hz : ∀ w, (zeroValue E).run P w = .ok (.int .i64 0) w) (t : Int) (hw : (Lit.int .i64 t).wf = true) :
    (Instr.lookup T (.map (some b)) (.int .i64 t) false).run P W = .ok (.int .i64 (f t)) W := by
  obtain ⟨D, ho, hD⟩ := h.own
  obtain ⟨c, hrun, hat, _⟩ := ho.lookup_int (int_keyed hK) hT hE (hz W) (keyOf_int_mk hK hw)
  rw [hD t] at hat
  cases hat
  exact hrun
theorem Cnt.put {P : Program} {K E : TypeId} {b n : Nat} {f : Int → Int} {W' : World} {D : DataW Unit} (hm : IsMap D) (hD : ∀ t : Int, D.atKey (.int .i64 t) (.lit (.int .i64 0)) = .lit (.int .i64 (f t))) (t0 c : Int)
    (h : W'.ownsMap P K (plainElem P E) b (n + 1) (D.put (.int .i64 t0) (.lit (.int .i64 c)))) : Cnt P K E b (n + 1) (fun t => if t = t0 then c else f t) W' := by
  refine ⟨_, h, fun t => ?_⟩
  by_cases e : t = t0
  · subst e
    rw [atKey_put_same hm (by first | exact trivial | simp [WideAt.IsKeyLit] | decide), if_pos rfl]
  · rw [atKey_put_other (fun h => e (by cases h; rfl)), hD t, if_neg e]
end Go.Proofs.Ytfkhnhpphcpmmaa.Lb
