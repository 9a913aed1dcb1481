/- RuleKeeps, as its row asks for it. -/
import Derived.Test.YtnohhpinigkccaaRuleKeeps
import Derived.Test.YtnohhpinigkccaaProcO
namespace Go.Proofs.Ytnohhpinigkccaa.Mo
open Go Go.RowKit
theorem RuleKeeps_row (p : Pr) (vars : List Int) (A : Option Addr) (cap : Nat) (value : Int) (w : World) (hp : RProc w p) (hs : ∀ s ∈ p.ss, s.name.size ≤ maxLen) (hm : vars.length ≤ maxLen) (hi : ∀ z ∈ vars, Sc.I64 z) (hr : Sc.Reads w .i64 A vars) (hc : A = none → cap = 0) (hv : Sc.I64 value) :
    Calls Try.prog 4 #[p.val, .slice A vars.length cap, .int .i64 value] w fun e w' => e = .returned (.bool true) ∧ RowKit.Below w.heap.size w w' := RuleKeeps_calls p A cap vars value w hp hs hr hc hi hm hv
end Go.Proofs.Ytnohhpinigkccaa.Mo
