/- What all walks use: the stop at an append, strings in a row, rows that a call owns as rows that are read. -/
import Derived.Test.YthgbahlkflmgiaaProg
import Derived.Test.YthgbahlkflmgiaaLib
import Derived.Test.YthgbahlkflmgiaaReads
import Derived.WalkKit
import Derived.WalkSpells
import Derived.WalkLawsBesides
import Derived.IntWalk
import Derived.BigRegion
import Derived.RegionTactic
import Derived.LoopTactic
import Derived.BigQuiet
import Derived.Deep.LoopGhost
import Derived.Deep.RegionHeld3
namespace Go.Proofs.Ythgbahlkflmgiaa.Mo
open Go Go.RowKit Go.Proofs.Ythgbahlkflmgiaa.Lb
set_option linter.unusedVariables false
set_option linter.unusedSimpArgs false

def StopA (p : Prop) : Prop := p
theorem stop_append {P : Program} {w : World} {ops : Array Oper} {rest : List Oper} {o : Oper} {a : Act} {Q : Exit → Act → World → Prop} (s x : Operand) (t : TypeId)
    (ho : o.op = .call { callee := .builtin .append, args := #[s, x], argTypes := #[t, t] }) (h : StopA (wpList P ops Q (o :: rest) a w)) : wpList P ops Q (o :: rest) a w := h
theorem infoStr : (Try.prog.info? 9).map (fun i => (i.zero, i.size, i.bytes)) = some (some (.string ⟨#[]⟩), 1, 16) := by kernel_rfl
/-- A row of strings that lies in memory. -/
def RStrs (w : World) (A : Option Addr) (ns : List ByteArray) : Prop :=
  ns = [] ∨ ∃ b off, A = some ⟨b, off, none⟩ ∧ ∀ j s, ns[j]? = some s → w.cell? ⟨b, off + j, none⟩ = some (.string s)
theorem RStrs.at {w : World} {A : Option Addr} {ns : List ByteArray} (h : RStrs w A ns) {k : Nat} {s : ByteArray} (hv : ns[k]? = some s) : ∃ b off, A = some ⟨b, off, none⟩ ∧ w.cell? ⟨b, off + k, none⟩ = some (.string s) := by
  rcases h with rfl | ⟨b, off, h, hc⟩
  · simp at hv
  · exact ⟨b, off, h, hc k s hv⟩
theorem strs_of_own {w : World} {base n : Nat} {v : Value} {l : List ByteArray} (h : w.ownsRow base 9 1 v n (l.map Value.string)) : n = l.length ∧ ∃ A cap, v = .slice A l.length cap ∧ RStrs w A l ∧ (∀ b off, A = some ⟨b, off, none⟩ → base ≤ b ∧ b < w.heap.size ∧ v.ownBlock = some b) := by
  have hl := h.1
  rw [List.length_map, Nat.mul_one] at hl
  subst hl
  refine ⟨rfl, ?_⟩
  rcases own_form h with ⟨h1, h2, h3⟩ | ⟨g, cap, h1, h2, h3, h4, h5⟩
  · exact ⟨none, 0, by rw [h1, h2], .inl (List.eq_nil_of_length_eq_zero h2), fun _ _ e => by cases e⟩
  · subst h1
    refine ⟨some ⟨g, 0, none⟩, cap, rfl, .inr ⟨g, 0, rfl, fun j s hj => ?_⟩, fun b off e => by cases e; exact ⟨h2, h3, rfl⟩⟩
    rw [Nat.zero_add]
    exact own_cell h (by rw [List.getElem?_map, hj]; rfl)
theorem RStrs.kept {w w' : World} {K : Nat → Prop} {A : Option Addr} {ns : List ByteArray} (h : RStrs w A ns) (hk : Kept K w w') (hS : ∀ b off, ns ≠ [] → A = some ⟨b, off, none⟩ → ¬ K b) : RStrs w' A ns := by
  by_cases hne : ns = []
  · exact .inl hne
  rcases h with h | ⟨b, off, h, hc⟩
  · exact .inl h
  · exact .inr ⟨b, off, h, fun j s hj => hk.cell (hc j s hj) (hS b off hne h)⟩
end Go.Proofs.Ythgbahlkflmgiaa.Mo
