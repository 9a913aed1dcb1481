/- IdentFinds, as its row asks for it. -/
import Derived.Test.YtmamegpkpkkkaaaDoorIdentFinds
import Derived.Test.YtmamegpkpkkkaaaDoorOpenR
namespace Go.Proofs.YtmamegpkpkkkaaaDoor.Mo
set_option linter.unusedVariables false
open Go Go.RowKit Go.Proofs.YtmamegpkpkkkaaaDoor.Lb
theorem IdentFinds_row (ns : List ByteArray) (A : Option Addr) (cap : Nat) (s : ByteArray) (w : World) (hm : ns.length ≤ maxLen) (hr : RStrs w A ns) (hz : ∀ x ∈ ns, x.size ≤ maxLen) (_ : ns.length ≤ cap) (_ : A = none → cap = 0) (hs : s.size ≤ maxLen) :
    Calls Tryd.prog 6 #[.slice A ns.length cap, .string s] w fun e w' => e = .returned (.bool true) ∧ RowKit.Below w.heap.size w w' :=
  (IdentFinds_calls ns A cap s w hm hr hz).mono fun e w' ⟨h1, h2⟩ => ⟨h1, h2.toBelow⟩
end Go.Proofs.YtmamegpkpkkkaaaDoor.Mo
