/- Arguments that are rows, opened to what lies in them. -/
import Derived.Test.YtmamegpkpkkkaaaDoorBasics
import Derived.Test.YtmamegpkpkkkaaaDoorStruct
namespace Go.Proofs.YtmamegpkpkkkaaaDoor.Mo
open Go Go.RowKit Go.ChangeShapes Go.WideShapes Go.Proofs.YtmamegpkpkkkaaaDoor.Ro Go.Proofs.YtmamegpkpkkkaaaDoor.Lb
set_option linter.unusedVariables false
section
variable {H : Type} {enc : TypeId × Value → H} {w : World} {base : Nat} {spare : Nat → Bool} {held : Bool}
theorem slice_capR {t e : TypeId} {fuel n cap : Nat} {A : Option Addr} {x : DataW H × List MemPlace} (ht : Tryd.prog.underlying t = some (.slice e)) (h : DataW.trod enc Tryd.prog w base spare held fuel t [.slice A n cap] = some x) : n ≤ cap ∧ (A = none → cap = 0) := by
  rcases Go.Deep.open_slice ht h with ⟨h0, _⟩ | ⟨a, len, cap', m, n', D, Pl, hcs, hb, hl, hm, _⟩
  · simp at h0; obtain ⟨_, h1, h2⟩ := h0; exact ⟨by omega, fun _ => h2⟩
  · simp at hcs; exact ⟨by omega, fun e => by rw [e] at hcs; cases hcs.1⟩
theorem rows_genR {α : Type} {t e : TypeId} {fuel C : Nat} {cs : List Value} {x : DataW H × List MemPlace} (ht : Tryd.prog.underlying t = some (.slice e)) (hC : Tryd.prog.cellsOf e = C) (hpos : 0 < C) (Q : α → Prop) (cells : α → List Value)
    (hopen : ∀ {es : List Value} {n : Nat} {y : DataW H × List MemPlace}, es.length = C → DataW.trod enc Tryd.prog w base spare held n e es = some y → ∃ o, es = cells o ∧ Q o)
    (h : DataW.trod enc Tryd.prog w base spare held fuel t cs = some x) :
    ∃ (A : Option Addr) (cap : Nat) (l : List α), cs = [.slice A l.length cap] ∧ l.length ≤ maxLen ∧
      (l = [] ∨ ∃ b off, A = some ⟨b, off, none⟩ ∧ ∀ j o, l[j]? = some o → ∀ c, c < C → w.cell? ⟨b, off + j * C + c, none⟩ = (cells o)[c]?) ∧ (∀ o ∈ l, Q o) ∧ l.length ≤ cap ∧ (A = none → cap = 0) := by
  have hr := rows_open ht (by rw [hC]; omega) h
  rw [hC] at hr
  rcases hr with h0 | ⟨a, len, cap, e', hm, h0⟩
  · exact ⟨none, 0, [], h0, by simp [maxLen], .inl rfl, by simp, by simp, fun _ => rfl⟩
  · rw [e'] at h
    obtain ⟨hcap, hnone⟩ := slice_capR ht h
    rcases h0 with rfl | ⟨b, off, rfl, hi⟩
    · exact ⟨some a, cap, [], e', hm, .inl rfl, by simp, hcap, hnone⟩
    · obtain ⟨l, hl, hp⟩ := list_of (α := α) (p := fun i o => (∀ c, c < C → w.cell? ⟨b, off + i * C + c, none⟩ = (cells o)[c]?) ∧ Q o) len (fun i hil => by
        obtain ⟨es, n, y, hes, hc, htr⟩ := hi i hil
        obtain ⟨o, rfl, hq⟩ := hopen hes htr
        exact ⟨o, hc, hq⟩)
      subst hl
      refine ⟨_, cap, l, e', hm, .inr ⟨b, off, rfl, fun j o hj => (hp j o hj).1⟩, fun o ho => ?_, hcap, hnone⟩
      obtain ⟨j, hj, rfl⟩ := List.mem_iff_getElem.1 ho
      exact (hp j _ (List.getElem?_eq_getElem hj)).2
/-- A []string. -/
theorem strs_openR {fuel : Nat} {cs : List Value} {x : DataW H × List MemPlace} (h : DataW.trod enc Tryd.prog w base spare held fuel 22 cs = some x) :
    ∃ (A : Option Addr) (cap : Nat) (l : List ByteArray), cs = [.slice A l.length cap] ∧ l.length ≤ maxLen ∧ RStrs w A l ∧ (∀ s ∈ l, s.size ≤ maxLen) ∧ l.length ≤ cap ∧ (A = none → cap = 0) := by
  obtain ⟨A, cap, l, h1, h2, h3, h4, h5, h6⟩ := rows_genR (C := 1) Tryd.underlying22 (by kernel_rfl) (by decide) (fun s : ByteArray => s.size ≤ maxLen) (fun s => [.string s]) (fun {es n y} hl h => by
    obtain ⟨s, e, _, hs⟩ := DataW.trod_string Tryd.underlying9 h
    exact ⟨s, e, hs⟩) h
  refine ⟨A, cap, l, h1, h2, ?_, h4, h5, h6⟩
  rcases h3 with h | ⟨b, off, e, hc⟩
  · exact .inl h
  · exact .inr ⟨b, off, e, fun j s hj => by have h9 := hc j s hj 0 (by decide); rw [Nat.mul_one] at h9; exact h9⟩
end
end Go.Proofs.YtmamegpkpkkkaaaDoor.Mo
