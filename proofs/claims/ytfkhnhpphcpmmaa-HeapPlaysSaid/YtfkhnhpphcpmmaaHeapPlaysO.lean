/- A row of the statement's steps that came in, opened. -/
import Derived.Test.YtfkhnhpphcpmmaaHeapPlays
import Derived.Test.YtfkhnhpphcpmmaaStruct
namespace Go.Proofs.Ytfkhnhpphcpmmaa.HpItem
open Go Go.RowKit Go.ChangeShapes Go.Proofs.Ytfkhnhpphcpmmaa.Ro
set_option linter.unusedVariables false
section
variable {H : Type} {enc : TypeId × Value → H} {w : World} {base : Nat} {spare : Nat → Bool} {held : Bool}
theorem op_open {fuel : Nat} {cs : List Value} {x : DataW H × List MemPlace} (h : DataW.trod enc Try.prog w base spare held fuel 31 cs = some x) :
    ∃ o : Op3, cs[0]? = some (.int .i64 o.kind) ∧ cs[1]? = some (.int .i64 o.key) ∧ cs[2]? = some (.int .i64 o.n) := by
  obtain ⟨n, hf⟩ := field_at Try.underlying31 h
  obtain ⟨y0, h0⟩ := hf 0 _ rfl
  obtain ⟨y1, h1⟩ := hf 1 _ rfl
  obtain ⟨y2, h2⟩ := hf 2 _ rfl
  obtain ⟨a0, e0, _⟩ := int_at (o := 0) Try.underlying3 (by kernel_rfl) h0
  obtain ⟨a1, e1, _⟩ := int_at (o := 1) Try.underlying3 (by kernel_rfl) h1
  obtain ⟨a2, e2, _⟩ := int_at (o := 2) Try.underlying3 (by kernel_rfl) h2
  exact ⟨⟨a0, a1, a2⟩, e0, e1, e2⟩
theorem ops_open {fuel : Nat} {cs : List Value} {x : DataW H × List MemPlace} (h : DataW.trod enc Try.prog w base spare held fuel 22 cs = some x) :
    cs = [.slice none 0 0] ∨ ∃ (a : Addr) (cap : Nat) (ops : List Op3), cs = [.slice (some a) ops.length cap] ∧ ops.length ≤ maxLen ∧ OpsAt w (some a) ops := by
  have hC : Try.prog.cellsOf 31 = 3 := by kernel_rfl
  rcases rows_open Try.underlying22 (by rw [hC]; omega) h with h0 | ⟨a, len, cap, e, hm, h0⟩
  · exact .inl h0
  · rcases h0 with rfl | ⟨b, off, rfl, hi⟩
    · exact .inr ⟨a, cap, [], e, hm, .inl rfl⟩
    · rw [hC] at hi
      obtain ⟨ops, hl, hp⟩ := list_of (α := Op3) (p := fun i o => w.cell? ⟨b, off + i * 3, none⟩ = some (.int .i64 o.kind) ∧ w.cell? ⟨b, off + i * 3 + 1, none⟩ = some (.int .i64 o.key) ∧ w.cell? ⟨b, off + i * 3 + 2, none⟩ = some (.int .i64 o.n)) len (fun i hil => by
        obtain ⟨es, n, y, hes, hc, ht⟩ := hi i hil
        obtain ⟨o, e0, e1, e2⟩ := op_open ht
        exact ⟨o, by have := hc 0 (by omega); rw [e0] at this; exact this, by have := hc 1 (by omega); rw [e1] at this; exact this, by have := hc 2 (by omega); rw [e2] at this; exact this⟩)
      subst hl
      exact .inr ⟨_, cap, ops, e, hm, .inr ⟨b, off, rfl, hp⟩⟩
end
end Go.Proofs.Ytfkhnhpphcpmmaa.HpItem
