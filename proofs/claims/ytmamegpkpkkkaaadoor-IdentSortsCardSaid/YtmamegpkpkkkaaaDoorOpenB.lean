/- An argument that is a row of bytes, opened. -/
import Derived.Test.YtmamegpkpkkkaaaDoorOpenR
import Derived.Test.YtmamegpkpkkkaaaDoorReads
namespace Go.Proofs.YtmamegpkpkkkaaaDoor.Mo
open Go Go.RowKit Go.ChangeShapes Go.WideShapes Go.Proofs.YtmamegpkpkkkaaaDoor.Ro Go.Proofs.YtmamegpkpkkkaaaDoor.Lb
set_option linter.unusedVariables false
section
variable {H : Type} {enc : TypeId × Value → H} {w : World} {base : Nat} {spare : Nat → Bool} {held : Bool}
theorem bytes_openR {fuel : Nat} {cs : List Value} {x : DataW H × List MemPlace} (h : DataW.trod enc Tryd.prog w base spare held fuel 39 cs = some x) :
    ∃ (A : Option Addr) (cap : Nat) (l : List Int), cs = [.slice A l.length cap] ∧ l.length ≤ maxLen ∧ Sc.Reads w .u8 A l ∧ (∀ z ∈ l, 0 ≤ z ∧ z ≤ 255) ∧ l.length ≤ cap ∧ (A = none → cap = 0) := by
  obtain ⟨A, cap, l, h1, h2, h3, h4, h5, h6⟩ := rows_genR (C := 1) Tryd.underlying39 (by kernel_rfl) (by decide) (fun z : Int => 0 ≤ z ∧ z ≤ 255) (fun z => [.int .u8 z]) (fun {es n y} hl h => by
    obtain ⟨z, e, _, hw⟩ := DataW.trod_int Tryd.underlying5 h
    refine ⟨z, e, ?_⟩
    simp [Lit.wf, IntKind.min, IntKind.max, IntKind.bits, IntKind.signed] at hw
    omega) h
  refine ⟨A, cap, l, h1, h2, ?_, h4, h5, h6⟩
  rcases h3 with h | ⟨b, off, e, hc⟩
  · exact .inl h
  · refine .inr ⟨b, off, e, fun j hj => ?_⟩
    have h9 := hc j _ (List.getElem?_eq_getElem hj) 0 (by decide)
    rw [Nat.mul_one] at h9
    rw [List.getElem?_eq_getElem hj]
    exact h9
end
end Go.Proofs.YtmamegpkpkkkaaaDoor.Mo
