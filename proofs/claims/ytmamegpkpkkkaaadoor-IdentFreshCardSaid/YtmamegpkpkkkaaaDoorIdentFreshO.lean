/- IdentFresh, as its row asks for it. -/
import Derived.Test.YtmamegpkpkkkaaaDoorIdentFresh
import Derived.Test.YtmamegpkpkkkaaaDoorOpenR
namespace Go.Proofs.YtmamegpkpkkkaaaDoor.Mo
set_option linter.unusedVariables false
open Go Go.RowKit Go.Proofs.YtmamegpkpkkkaaaDoor.Lb
theorem IdentFresh_row (ns : List ByteArray) (A : Option Addr) (cap : Nat) (stem : ByteArray) (w : World) (hm : ns.length ≤ maxLen) (hr : RStrs w A ns) (hz : ∀ x ∈ ns, x.size ≤ maxLen) (_ : ns.length ≤ cap) (hcn : A = none → cap = 0) (hs : stem.size ≤ maxLen) :
    Calls Tryd.prog 4 #[.slice A ns.length cap, .string stem] w fun e w' => e = .returned (.bool true) ∧ RowKit.Below w.heap.size w w' :=
  (IdentFresh_calls ns A cap stem w hm hr hz hcn hs).mono fun e w' ⟨h1, h2⟩ => ⟨h1, h2.toBelow⟩
end Go.Proofs.YtmamegpkpkkkaaaDoor.Mo
