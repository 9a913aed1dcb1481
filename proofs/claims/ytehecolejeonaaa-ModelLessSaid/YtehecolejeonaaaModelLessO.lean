/- ModelLess, as its row asks for it. -/
import Derived.Test.YtehecolejeonaaaModelLess
namespace Go.Proofs.Ytehecolejeonaaa.Mo
set_option linter.unusedVariables false
open Go Go.RowKit Go.Proofs.Ytehecolejeonaaa.Lb
theorem ModelLess_row (m : Md) (w : World) (hm : RModel w m) (ho : OkM m) :
    Calls Try.prog 5 #[m.val] w fun e w' => e = .returned (.bool true) ∧ RowKit.Below w.heap.size w w' :=
  (ModelLess_calls m w hm ho).mono fun e w' ⟨h1, h2⟩ => ⟨h1, h2.toBelow⟩
end Go.Proofs.Ytehecolejeonaaa.Mo
