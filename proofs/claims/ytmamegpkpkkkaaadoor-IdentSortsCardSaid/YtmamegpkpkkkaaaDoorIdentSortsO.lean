/- IdentSorts, as its row asks for it. -/
import Derived.Test.YtmamegpkpkkkaaaDoorIdentSorts
import Derived.Test.YtmamegpkpkkkaaaDoorOpenB
namespace Go.Proofs.YtmamegpkpkkkaaaDoor.Mo
set_option linter.unusedVariables false
open Go Go.RowKit Go.Proofs.YtmamegpkpkkkaaaDoor.Lb
theorem IdentSorts_row (s : ByteArray) (zs : List Int) (A : Option Addr) (cap : Nat) (w : World) (hs : s.size ≤ maxLen) (hm : zs.length ≤ maxLen) (hr : Sc.Reads w .u8 A zs) (hz : ∀ z ∈ zs, 0 ≤ z ∧ z ≤ 255) (_ : zs.length ≤ cap) (_ : A = none → cap = 0) :
    Calls Tryd.prog 5 #[.string s, .slice A zs.length cap] w fun e w' => e = .returned (.bool true) ∧ RowKit.Below w.heap.size w w' :=
  (IdentSorts_calls s zs A cap w hs hm hr hz).mono fun e w' ⟨h1, h2⟩ => ⟨h1, h2.toBelow⟩
end Go.Proofs.YtmamegpkpkkkaaaDoor.Mo
