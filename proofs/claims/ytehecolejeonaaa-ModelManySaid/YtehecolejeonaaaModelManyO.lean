/- ModelMany, as its row asks for it. -/
import Derived.Test.YtehecolejeonaaaModelMany
import Derived.Test.YtehecolejeonaaaModelO
namespace Go.Proofs.Ytehecolejeonaaa.Mo
set_option linter.unusedVariables false
open Go Go.RowKit Go.Proofs.Ytehecolejeonaaa.Lb
theorem ModelMany_row (kind over : Int) (w : World) (hk : Sc.I64 kind) (ho : Sc.I64 over) :
    Calls Try.prog 4 #[.int .i64 kind, .int .i64 over] w fun e w' => e = .returned (.bool true) ∧ RowKit.Below w.heap.size w w' :=
  (ModelMany_calls kind over w hk ho).mono fun e w' ⟨h1, h2⟩ => ⟨h1, h2.toBelow⟩
end Go.Proofs.Ytehecolejeonaaa.Mo
