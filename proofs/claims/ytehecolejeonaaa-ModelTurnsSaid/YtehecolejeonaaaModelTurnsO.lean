/- ModelTurns, as its row asks for it. -/
import Derived.Test.YtehecolejeonaaaModelTurns
namespace Go.Proofs.Ytehecolejeonaaa.Mo
set_option linter.unusedVariables false
open Go Go.RowKit Go.Proofs.Ytehecolejeonaaa.Lb
theorem ModelTurns_row (m : Md) (i : Int) (w : World) (hm : RModel w m) (ho : OkM m) (hi : Sc.I64 i) :
    Calls Try.prog 7 #[m.val, .int .i64 i] w fun e w' => e = .returned (.bool true) ∧ RowKit.Below w.heap.size w w' :=
  (ModelTurns_calls m i w hm ho hi).mono fun e w' ⟨h1, h2⟩ => ⟨h1, h2.toBelow⟩
end Go.Proofs.Ytehecolejeonaaa.Mo
