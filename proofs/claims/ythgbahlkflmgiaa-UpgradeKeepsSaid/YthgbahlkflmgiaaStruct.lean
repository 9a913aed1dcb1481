/- An argument that is a row of structs, opened to its cells. Nothing of the program is named. -/
import Derived.Deep.Slices
import Derived.ChangeArms
import Derived.ChangeAt
import Derived.OpenShut
namespace Go.Proofs.Ythgbahlkflmgiaa.Ro
open Go Go.ChangeShapes Go.WideShapes Go.Deep
set_option linter.unusedVariables false

theorem list_of {α : Type} {p : Nat → α → Prop} : ∀ (n : Nat), (∀ i, i < n → ∃ o, p i o) → ∃ l : List α, l.length = n ∧ ∀ i o, l[i]? = some o → p i o
  | 0, _ => ⟨[], rfl, fun i o h => by simp at h⟩
  | n + 1, h => by
    obtain ⟨l, hl, hp⟩ := list_of n (fun i hi => h i (by omega))
    obtain ⟨o, ho⟩ := h n (by omega)
    refine ⟨l ++ [o], by simp [hl], fun i o' hi => ?_⟩
    by_cases e : i < l.length
    · rw [List.getElem?_append_left e] at hi
      exact hp i o' hi
    · have hlt := (List.getElem?_eq_some_iff.1 hi).1
      have : i = l.length := by simp at hlt; omega
      subst this
      rw [List.getElem?_append_right (Nat.le_refl _)] at hi
      simp at hi
      subst hi
      rw [hl]; exact ho
theorem cell_one {es : List Value} {o : Nat} {v : Value} (h : (es.drop o).take 1 = [v]) : es[o]? = some v := by
  have : ((es.drop o).take 1)[0]? = some v := by rw [h]; rfl
  rw [List.getElem?_take_of_lt (by omega), List.getElem?_drop] at this
  simpa using this

section
variable {H : Type} {enc : TypeId × Value → H} {P : Program} {w : World} {base : Nat} {spare : Nat → Bool} {held : Bool}
theorem rows_open {t e : TypeId} {fuel : Nat} {cs : List Value} {x : DataW H × List MemPlace} (ht : P.underlying t = some (.slice e)) (hC : 0 < P.cellsOf e) (h : DataW.trod enc P w base spare held fuel t cs = some x) :
    cs = [.slice none 0 0] ∨ ∃ (a : Addr) (len cap : Nat), cs = [.slice (some a) len cap] ∧ len ≤ maxLen ∧ (len = 0 ∨ ∃ b off, a = ⟨b, off, none⟩ ∧
      ∀ i, i < len → ∃ (es : List Value) (n : Nat) (y : DataW H × List MemPlace), es.length = P.cellsOf e ∧ (∀ c, c < P.cellsOf e → w.cell? ⟨b, off + i * P.cellsOf e + c, none⟩ = es[c]?) ∧ DataW.trod enc P w base spare held n e es = some y) := by
  rcases open_slice ht h with ⟨h0, _⟩ | ⟨a, len, cap, m, n, D, Pl, hcs, hb, hl, hm, hmm, hx, hi⟩
  · exact .inl h0
  · refine .inr ⟨a, len, cap, hcs, Nat.le_trans hl hm, ?_⟩
    by_cases h0 : len = 0
    · exact .inl h0
    · have hlm : len ≤ m := by rw [hmm]; split <;> omega
      obtain ⟨b, off, spot⟩ := a
      have hspot : spot = none := by
        obtain ⟨cs', hc, _⟩ := hi 0 (by omega)
        obtain ⟨_, hcl, hat⟩ := World.cells?_some hc
        have h1 := hat 0 hC
        rw [List.getElem?_eq_getElem (by omega)] at h1
        simpa [Addr.add] using World.cell?_spot h1
      subst hspot
      refine .inr ⟨b, off, rfl, fun i hil => ?_⟩
      obtain ⟨cs', hc, htr⟩ := hi i (by omega)
      obtain ⟨_, hcl, hat⟩ := World.cells?_some hc
      refine ⟨cs', n, _, hcl, fun c hcc => ?_, htr⟩
      have := hat c hcc
      rw [add_plain, add_plain] at this
      exact this
/-- A field of a struct. -/
theorem field_at {t : TypeId} {fs : Array Field} {fuel : Nat} {cs : List Value} {x : DataW H × List MemPlace} (ht : P.underlying t = some (.struct fs)) (h : DataW.trod enc P w base spare held fuel t cs = some x) :
    ∃ n, ∀ (i : Nat) (f : Field), fs[i]? = some f → ∃ y, DataW.trod enc P w base spare held n f.type ((cs.drop f.offset).take (P.cellsOf f.type)) = some y := by
  obtain ⟨xs, n, _, _, _, hl, hf⟩ := DataW.trod_struct ht h
  refine ⟨n, fun i f hi => ?_⟩
  have hil : i < fs.size := (Array.getElem?_eq_some_iff.1 hi).1
  exact ⟨xs[i]'(by omega), by rw [hf i f hi, List.getElem?_eq_getElem]⟩
theorem int_at {t : TypeId} {K : IntKind} {fuel o : Nat} {cs : List Value} {x : DataW H × List MemPlace} (ht : P.underlying t = some (.int K)) (hc : P.cellsOf t = 1) (h : DataW.trod enc P w base spare held fuel t ((cs.drop o).take (P.cellsOf t)) = some x) :
    ∃ n, cs[o]? = some (.int K n) ∧ (Lit.int K n).wf = true := by
  rw [hc] at h
  obtain ⟨n, e, _, hw⟩ := DataW.trod_int ht h
  exact ⟨n, cell_one e, hw⟩
theorem str_at {t : TypeId} {fuel o : Nat} {cs : List Value} {x : DataW H × List MemPlace} (ht : P.underlying t = some .string) (hc : P.cellsOf t = 1) (h : DataW.trod enc P w base spare held fuel t ((cs.drop o).take (P.cellsOf t)) = some x) :
    ∃ s : ByteArray, cs[o]? = some (.string s) ∧ s.size ≤ maxLen := by
  rw [hc] at h
  obtain ⟨s, e, _, hw⟩ := DataW.trod_string ht h
  exact ⟨s, cell_one e, hw⟩
end
end Go.Proofs.Ythgbahlkflmgiaa.Ro
