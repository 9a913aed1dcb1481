/-
  DERIVED. GIVEN WITH THE SEED: THE CARDS: each row of YtmamegpkpkkkaaaDoorRows.lean that lists a variable, with what it lists TIED to the program's text (the seventh form; the later family's looks); each row that meets fmt, with fmt's text TOLD by the authors' own Lean function (tested against real Go, not proved from fmt's source: count such statements apart). THE CARD IS WHAT COUNTS. Prove the row's statement (the work); the ties are given (YtmamegpkpkkkaaaDoorTie.lean); close each card by the builder's one call (the guide's Derived/Test/ToyasCard.lean, 'card_holds'). Laid BY PROGRAM, IN A SANDBOX (cutbox-door.mjs). By AI agents, Wed Nov 11 2026. No macro, syntax, notation, axiom, sorry.
-/
import Derived.Test.YtmamegpkpkkkaaaDoorRows
import GoSem.ClaimSeven
namespace Go.Proofs.YtmamegpkpkkkaaaDoor
namespace Rows

/-- THE TIED CARD OF 'sandtablelaw05.IdentChecks'. -/
def identChecksCard : Claim7 := { stood := { row := identChecksRow, standIns := [], harness := (true, "94bbdee9aaaad18b9c4cebd71da41848855e34bfabe829ba2176ead13c098236"), looks := false }, kinds := [], alts := [], laidByText := true, laidKinds := [.data, .data, .data], laidTests := true, laidLooks := .later }
def IdentChecksCardSaid : Prop := Claim7.holds Tryd.pinned (.plain (OpenSpec.ofChange identChecksSpec)) identChecksCard

/-- THE TIED CARD OF 'sandtablelaw05.IdentFresh'. -/
def identFreshCard : Claim7 := { stood := { row := identFreshRow, standIns := [], harness := (true, "94bbdee9aaaad18b9c4cebd71da41848855e34bfabe829ba2176ead13c098236"), looks := false }, kinds := [], alts := [], laidByText := true, laidKinds := [.data, .data, .data], laidTests := true, laidLooks := .later }
def IdentFreshCardSaid : Prop := Claim7.holds Tryd.pinned (.plain (OpenSpec.ofChange identFreshSpec)) identFreshCard

/-- THE TIED CARD OF 'sandtablelaw05.IdentSorts'. -/
def identSortsCard : Claim7 := { stood := { row := identSortsRow, standIns := [], harness := (true, "94bbdee9aaaad18b9c4cebd71da41848855e34bfabe829ba2176ead13c098236"), looks := false }, kinds := [], alts := [], laidByText := true, laidKinds := [.data, .data, .data], laidTests := true, laidLooks := .later }
def IdentSortsCardSaid : Prop := Claim7.holds Tryd.pinned (.plain (OpenSpec.ofChange identSortsSpec)) identSortsCard

/-- THE TIED CARD OF 'sandtablelaw05.IdentFinds'. -/
def identFindsCard : Claim7 := { stood := { row := identFindsRow, standIns := [], harness := (true, "94bbdee9aaaad18b9c4cebd71da41848855e34bfabe829ba2176ead13c098236"), looks := false }, kinds := [], alts := [], laidByText := true, laidKinds := [.data, .data, .data], laidTests := true, laidLooks := .later }
def IdentFindsCardSaid : Prop := Claim7.holds Tryd.pinned (.plain (OpenSpec.ofChange identFindsSpec)) identFindsCard

/-- THE SECOND FORM's CARD OF 'sandtablelaw05.IdentChecks'. -/
def identChecksUptoCard : Claim7 := { stood := { row := identChecksUptoRow, standIns := [], harness := (true, "94bbdee9aaaad18b9c4cebd71da41848855e34bfabe829ba2176ead13c098236"), looks := false }, kinds := [], alts := [], laidByText := true, laidKinds := [.data, .data, .data], laidTests := true, laidLooks := .later }
def IdentChecksUptoCardSaid : Prop := Claim7.holds Tryd.pinned (.plain (OpenSpec.upto identChecksSpec)) identChecksUptoCard

/-- THE SECOND FORM's CARD OF 'sandtablelaw05.IdentFresh'. -/
def identFreshUptoCard : Claim7 := { stood := { row := identFreshUptoRow, standIns := [], harness := (true, "94bbdee9aaaad18b9c4cebd71da41848855e34bfabe829ba2176ead13c098236"), looks := false }, kinds := [], alts := [], laidByText := true, laidKinds := [.data, .data, .data], laidTests := true, laidLooks := .later }
def IdentFreshUptoCardSaid : Prop := Claim7.holds Tryd.pinned (.plain (OpenSpec.upto identFreshSpec)) identFreshUptoCard

/-- THE SECOND FORM's CARD OF 'sandtablelaw05.IdentSorts'. -/
def identSortsUptoCard : Claim7 := { stood := { row := identSortsUptoRow, standIns := [], harness := (true, "94bbdee9aaaad18b9c4cebd71da41848855e34bfabe829ba2176ead13c098236"), looks := false }, kinds := [], alts := [], laidByText := true, laidKinds := [.data, .data, .data], laidTests := true, laidLooks := .later }
def IdentSortsUptoCardSaid : Prop := Claim7.holds Tryd.pinned (.plain (OpenSpec.upto identSortsSpec)) identSortsUptoCard

/-- THE SECOND FORM's CARD OF 'sandtablelaw05.IdentFinds'. -/
def identFindsUptoCard : Claim7 := { stood := { row := identFindsUptoRow, standIns := [], harness := (true, "94bbdee9aaaad18b9c4cebd71da41848855e34bfabe829ba2176ead13c098236"), looks := false }, kinds := [], alts := [], laidByText := true, laidKinds := [.data, .data, .data], laidTests := true, laidLooks := .later }
def IdentFindsUptoCardSaid : Prop := Claim7.holds Tryd.pinned (.plain (OpenSpec.upto identFindsSpec)) identFindsUptoCard
end Rows
end Go.Proofs.YtmamegpkpkkkaaaDoor
