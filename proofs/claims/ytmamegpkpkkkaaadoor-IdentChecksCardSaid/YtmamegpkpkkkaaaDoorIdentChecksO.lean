/- IdentChecks, as its row asks for it. -/
import Derived.Test.YtmamegpkpkkkaaaDoorIdentChecks
import Derived.Test.YtmamegpkpkkkaaaDoorOpenR
namespace Go.Proofs.YtmamegpkpkkkaaaDoor.Mo
set_option linter.unusedVariables false
open Go Go.RowKit Go.Proofs.YtmamegpkpkkkaaaDoor.Lb
theorem IdentChecks_row (s : ByteArray) (ns : List ByteArray) (A : Option Addr) (cap : Nat) (most : Int) (w : World) (hs : s.size ≤ maxLen) (hm : ns.length ≤ maxLen) (hr : RStrs w A ns) (hz : ∀ x ∈ ns, x.size ≤ maxLen) (_ : ns.length ≤ cap) (_ : A = none → cap = 0) (_ : Sc.I64 most) :
    Calls Tryd.prog 3 #[.string s, .slice A ns.length cap, .int .i64 most] w fun e w' => e = .returned (.bool true) ∧ RowKit.Below w.heap.size w w' :=
  (IdentChecks_calls s ns A cap most w hs hr hz hm).mono fun e w' ⟨h1, h2⟩ => ⟨h1, h2.toBelow⟩
end Go.Proofs.YtmamegpkpkkkaaaDoor.Mo
