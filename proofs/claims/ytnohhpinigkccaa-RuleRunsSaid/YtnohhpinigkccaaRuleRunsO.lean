/- RuleRuns, as its row asks for it. -/
import Derived.Test.YtnohhpinigkccaaRuleRuns
import Derived.Test.YtnohhpinigkccaaProcC
namespace Go.Proofs.Ytnohhpinigkccaa.Mo
set_option linter.unusedVariables false
open Go Go.RowKit
theorem RuleRuns_row (p : Pr) (vars : List Int) (A : Option Addr) (cap : Nat) (value n : Int) (w : World) (hp : RProc w p) (hs : ∀ s ∈ p.ss, s.name.size ≤ maxLen) (_ : p.ss.length ≤ p.sc) (hm : vars.length ≤ maxLen) (hi : ∀ z ∈ vars, Sc.I64 z) (hr : Sc.Reads w .i64 A vars) (hc : A = none → cap = 0) (hv : Sc.I64 value) (hn : Sc.I64 n) :
    Calls Try.prog 3 #[p.val, .slice A vars.length cap, .int .i64 value, .int .i64 n] w fun e w' => e = .returned (.bool true) ∧ RowKit.Below w.heap.size w w' := RuleRuns_calls p A cap vars value w hp hs hr hc hi hm hv n hn
end Go.Proofs.Ytnohhpinigkccaa.Mo
