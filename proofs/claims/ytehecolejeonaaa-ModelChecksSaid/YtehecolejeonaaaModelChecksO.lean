/- ModelChecks, as its row asks for it. -/
import Derived.Test.YtehecolejeonaaaModelChecks
namespace Go.Proofs.Ytehecolejeonaaa.Mo
set_option linter.unusedVariables false
open Go Go.RowKit Go.Proofs.Ytehecolejeonaaa.Lb
theorem ModelChecks_row (m : Md) (s : ByteArray) (i most : Int) (w : World) (hm : RModel w m) (ho : OkM m) (_ : s.size ≤ maxLen) (hi : Sc.I64 i) (hmost : Sc.I64 most) :
    Calls Try.prog 3 #[m.val, .string s, .int .i64 i, .int .i64 most] w fun e w' => e = .returned (.bool true) ∧ RowKit.Below w.heap.size w w' :=
  (ModelChecks_calls m s i most w hm ho hi hmost).mono fun e w' ⟨h1, h2⟩ => ⟨h1, h2.toBelow⟩
end Go.Proofs.Ytehecolejeonaaa.Mo
