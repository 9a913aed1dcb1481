/- RulePuts, as its row asks for it. -/
import Derived.Test.YtnohhpinigkccaaRulePuts
import Derived.Test.YtnohhpinigkccaaProcC
namespace Go.Proofs.Ytnohhpinigkccaa.Mo
open Go Go.RowKit
theorem RulePuts_row (p : Pr) (vars : List Int) (A : Option Addr) (cap : Nat) (value n : Int) (w : World) (hp : RProc w p) (hs : ∀ s ∈ p.ss, s.name.size ≤ maxLen) (hcap : p.ss.length ≤ p.sc) (hnone : p.sa = none → p.sc = 0) (hm : vars.length ≤ maxLen) (hi : ∀ z ∈ vars, Sc.I64 z) (hr : Sc.Reads w .i64 A vars) (hc : A = none → cap = 0) (hv : Sc.I64 value) (hn : Sc.I64 n) :
    Calls Try.prog 5 #[p.val, .slice A vars.length cap, .int .i64 value, .int .i64 n] w fun e w' => e = .returned (.bool true) ∧ RowKit.Below w.heap.size w w' := RulePuts_calls p A cap vars value w hp hs hr hc hi hm hv n hn hcap hnone
end Go.Proofs.Ytnohhpinigkccaa.Mo
