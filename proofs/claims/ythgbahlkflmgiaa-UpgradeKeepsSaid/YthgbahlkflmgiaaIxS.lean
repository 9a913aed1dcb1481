/- A map[string]int that a call makes, as a function of its keys. Nothing of the program is named. -/
import Derived.Test.YthgbahlkflmgiaaLib
import Derived.Maps.Own
import Derived.Maps.Views
import Derived.Maps.OwnOps
import Derived.Laws.Strings
namespace Go.Proofs.Ythgbahlkflmgiaa.Lb
open Go Go.RowKit Go.Maps
set_option linter.unusedVariables false
set_option linter.unusedSimpArgs false

/-- Block b is a map whose entries are those of f; at most k were put. -/
structure IxS (P : Program) (K E : TypeId) (b k : Nat) (f : List UInt8 → Option Int) (W : World) : Prop where
  own : ∃ D : DataW Unit, W.ownsMap P K (plainElem P E) b k D ∧ ∀ t : List UInt8, (f t = none → ∀ z, D.atKey (.string t) z = z) ∧ (∀ n, f t = some n → ∀ z, D.atKey (.string t) z = .lit (.int .i64 n))
theorem IxS.made (w : World) (P : Program) (K E : TypeId) : IxS P K E w.heap.size 0 (fun _ => none) (w.alloc (.map #[] 0)) :=
  ⟨.map [], World.ownsMap_made w P K _, fun t => ⟨fun _ z => by simp [DataW.atKey], fun n h => by cases h⟩⟩
theorem IxS.block {P : Program} {K E : TypeId} {b k : Nat} {f : List UInt8 → Option Int} {W : World} (h : IxS P K E b k f W) : ∃ es clk, W.heap[b]? = some (.map es clk) := by
  obtain ⟨D, ⟨es, clock, hb, r⟩, hD⟩ := h.own
  exact ⟨es, clock, hb⟩
theorem IxS.same {P : Program} {K E : TypeId} {b k : Nat} {f : List UInt8 → Option Int} {W W' : World} (h : IxS P K E b k f W) (hk : W'.heap[b]? = W.heap[b]?) : IxS P K E b k f W' := by
  obtain ⟨D, ⟨es, clock, hb, r⟩, hD⟩ := h.own
  exact ⟨D, ⟨es, clock, by rw [hk]; exact hb, r⟩, hD⟩
theorem IxS.nil {P : Program} {K E : TypeId} {b k : Nat} {f : List UInt8 → Option Int} {W W' : World} (h : IxS P K E b k f W) (hk : Kept Nil W W') : IxS P K E b k f W' := by
  obtain ⟨es, clk, hb⟩ := h.block
  exact h.same (by rw [hk.heap hb (fun h => h), hb])
/-- m[s]: the number, or 0. -/
theorem IxS.look {P : Program} {K E T : TypeId} {b k : Nat} {f : List UInt8 → Option Int} {W : World} (h : IxS P K E b k f W) (hK : P.underlying K = some .string) (hE : P.underlying E = some (.int .i64)) (hT : P.underlying T = some (.map K E)) (hz : ∀ w, (zeroValue E).run P w = .ok (.int .i64 0) w) (s : ByteArray) (hs : s.size ≤ maxLen) :
    (Instr.lookup T (.map (some b)) (.string s) false).run P W = .ok (.int .i64 ((f s.data.toList).getD 0)) W := by
  obtain ⟨D, ho, hD⟩ := h.own
  obtain ⟨c, hrun, hat, _⟩ := ho.lookup_int (string_keyed hK) hT hE (hz W) (show keyOf P K (.string s) = some (.string s.data.toList) by simp [keyOf, hK, mapKey, hs])
  rw [hrun]
  cases hf : f s.data.toList with
  | none =>
    rw [(hD _).1 hf] at hat
    cases hat
    rfl
  | some n =>
    rw [(hD _).2 n hf] at hat
    cases hat
    rfl
/-- _, ok := m[s] and n, ok := m[s]. -/
theorem IxS.lookOk {P : Program} {K E T : TypeId} {b k : Nat} {f : List UInt8 → Option Int} {W : World} (h : IxS P K E b k f W) (hK : P.underlying K = some .string) (hE : P.underlying E = some (.int .i64)) (hT : P.underlying T = some (.map K E)) (hz : ∀ w, (zeroValue E).run P w = .ok (.int .i64 0) w) (s : ByteArray) (hs : s.size ≤ maxLen) :
    (Instr.lookup T (.map (some b)) (.string s) true).run P W = .ok (.tuple #[.int .i64 ((f s.data.toList).getD 0), .bool (f s.data.toList).isSome]) W := by
  obtain ⟨D, ⟨es, clock, hb, F, _, rfl⟩, hD⟩ := h.own
  rcases fit_look true (string_keyed hK) hT (hz W) hb F (show keyOf P K (.string s) = some (.string s.data.toList) by simp [keyOf, hK, mapKey, hs]) with ⟨hrun, _, hat⟩ | ⟨e0, y, _, _, hrun, hRv, hat, _⟩
  · rw [hrun]
    cases hf : f s.data.toList with
    | none => rfl
    | some n =>
      have h1 := (hD s.data.toList).2 n hf (.lit (.bool true))
      rw [hat] at h1
      cases h1
  · obtain ⟨c, e1, e2, _⟩ := plainElem_int_inv hE hRv
    rw [hrun, e1]
    cases hf : f s.data.toList with
    | none =>
      have h1 := (hD s.data.toList).1 hf (.lit (.bool true))
      rw [hat, e2] at h1
      cases h1
    | some n =>
      have h1 := (hD s.data.toList).2 n hf (.lit (.bool true))
      rw [hat, e2] at h1
      cases h1
      rfl
/-- Behind m[s] = n. -/
theorem IxS.put {P : Program} {K E : TypeId} {b k : Nat} {f : List UInt8 → Option Int} {W' : World} {D : DataW Unit} (hm : IsMap D)
    (hD : ∀ t : List UInt8, (f t = none → ∀ z, D.atKey (.string t) z = z) ∧ (∀ n, f t = some n → ∀ z, D.atKey (.string t) z = .lit (.int .i64 n))) (t0 : List UInt8) (n : Int)
    (h : W'.ownsMap P K (plainElem P E) b (k + 1) (D.put (.string t0) (.lit (.int .i64 n)))) : IxS P K E b (k + 1) (fun t => if t = t0 then some n else f t) W' := by
  refine ⟨_, h, fun t => ?_⟩
  by_cases e : t = t0
  · subst e
    refine ⟨fun h => ?_, fun m hm' z => ?_⟩
    · simp at h
    · simp at hm'
      subst hm'
      exact atKey_put_same hm (by first | exact trivial | simp [WideAt.IsKeyLit] | decide) _ _
  · simp only [if_neg e]
    refine ⟨fun h z => ?_, fun m hm' z => ?_⟩
    · rw [atKey_put_other (fun h => e (by cases h; rfl)), (hD t).1 h]
    · rw [atKey_put_other (fun h => e (by cases h; rfl)), (hD t).2 m hm']
theorem IxS.isMap {P : Program} {K E : TypeId} {b k : Nat} {D : DataW Unit} {W : World} (h : W.ownsMap P K (plainElem P E) b k D) : IsMap D := by
  obtain ⟨es, clock, hb, F, _, rfl⟩ := h
  exact ⟨_, rfl⟩
theorem IxS.weak {P : Program} {K E : TypeId} {b k k' : Nat} {f : List UInt8 → Option Int} {W : World} (h : IxS P K E b k f W) (hk : k ≤ k') : IxS P K E b k' f W := by
  obtain ⟨D, ho, hD⟩ := h.own
  exact ⟨D, ho.mono hk, hD⟩
theorem IxS.congr {P : Program} {K E : TypeId} {b k : Nat} {f g : List UInt8 → Option Int} {W : World} (h : IxS P K E b k f W) (he : ∀ t, f t = g t) : IxS P K E b k g W := by
  have : f = g := funext he
  rw [← this]; exact h
end Go.Proofs.Ythgbahlkflmgiaa.Lb
