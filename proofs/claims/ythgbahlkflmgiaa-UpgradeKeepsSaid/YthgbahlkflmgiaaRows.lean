/-
  No cell of these rows narrows 'for every input' (looked for: loops, veiled, ifaces, maps, wideKeys, modest, calm, conditions, laid).
  DERIVED. THE GIVEN ROWS OF THIS SEAT. 4 by the template 'for every input the law returns true; each argument reads behind the call as it read before'; 0 by the template 'total and deterministic' (their statements: YthgbahlkflmgiaaTotals.lean).
  GIVEN WITH THE SEED: the statements are not yours to turn. If you find one false, say at which input.
  Laid BY PROGRAM, IN A SANDBOX (cutbox-rows.mjs): the forced cells as the released guide's own fill.sh prints them over the translation 8ee10b8233165ca5… (all of the seat's roots in one cut). By AI agents, Wed Nov 11 2026. No macro, syntax, notation, axiom, sorry.
-/
import Derived.Test.YthgbahlkflmgiaaChecked
import GoSem.Claim
import GoSem.ClaimJoined
import GoSem.ClaimMapViews
import Derived.JoinedTies
import Derived.KernelRfl
namespace Go.Proofs.Ythgbahlkflmgiaa
/- THE CELL 'sum', in the pinned program and in every row, IS THE sha256 OF THE DUMP (.gsa) THAT YthgbahlkflmgiaaProg.lean LOADS. Nothing in Lean hashes anything: it is a label: what it is worth is what the hold of that sum in a sandbox is worth. -/
noncomputable def Try.pinned : Pinned := { name := "ythgbahlkflmgiaa", sum := "8ee10b8233165ca537fa0928b7d15b86afc803f31f9e0aa2d07c8a13a9f0ebab", checked := Try.checked }
namespace Rows
def none {H : Type} : Left H := { results := [], args := [] }

/-- 'sandtablelaw20.UpgradeUps': WHATEVER THE INPUT: true; the input reads as it did. -/
def upgradeUpsSpec : ChangeSpec := { name := "upgradeUps", fn := fun _ => fun
  | [d1, d2] => { results := [.lit (.bool true)], args := [d1, d2] }
  | _ => none }
def upgradeUpsRow : OpenClaim := { program := "ythgbahlkflmgiaa", sum := "8ee10b8233165ca537fa0928b7d15b86afc803f31f9e0aa2d07c8a13a9f0ebab", func := "sandtable/sandtablelaw20.UpgradeUps", spec := "upgradeUps", unfollowed := true, recurses := true, apart := false }
def UpgradeUpsSaid : Prop := upgradeUpsRow.holds Try.pinned (OpenSpec.ofChange upgradeUpsSpec)

/-- ITS FALSE NEIGHBOUR: 'it returns false'. Refute it at one input. -/
def upgradeUpsWrong : ChangeSpec := { name := "upgradeUps", fn := fun _ => fun
  | [d1, d2] => { results := [.lit (.bool false)], args := [d1, d2] }
  | _ => none }
def UpgradeUpsWrongFalsely : Prop := upgradeUpsRow.holds Try.pinned (OpenSpec.ofChange upgradeUpsWrong)

/-- 'sandtablelaw20.UpgradeKeeps': WHATEVER THE INPUT: true; the input reads as it did. -/
def upgradeKeepsSpec : ChangeSpec := { name := "upgradeKeeps", fn := fun _ => fun
  | [d] => { results := [.lit (.bool true)], args := [d] }
  | _ => none }
def upgradeKeepsRow : OpenClaim := { program := "ythgbahlkflmgiaa", sum := "8ee10b8233165ca537fa0928b7d15b86afc803f31f9e0aa2d07c8a13a9f0ebab", func := "sandtable/sandtablelaw20.UpgradeKeeps", spec := "upgradeKeeps", unfollowed := true, recurses := true, apart := false }
def UpgradeKeepsSaid : Prop := upgradeKeepsRow.holds Try.pinned (OpenSpec.ofChange upgradeKeepsSpec)

/-- ITS FALSE NEIGHBOUR: 'it returns false'. Refute it at one input. -/
def upgradeKeepsWrong : ChangeSpec := { name := "upgradeKeeps", fn := fun _ => fun
  | [d] => { results := [.lit (.bool false)], args := [d] }
  | _ => none }
def UpgradeKeepsWrongFalsely : Prop := upgradeKeepsRow.holds Try.pinned (OpenSpec.ofChange upgradeKeepsWrong)

/-- 'sandtablelaw20.UpgradeTimes': WHATEVER THE INPUT: true; the input reads as it did. -/
def upgradeTimesSpec : ChangeSpec := { name := "upgradeTimes", fn := fun _ => fun
  | [d] => { results := [.lit (.bool true)], args := [d] }
  | _ => none }
def upgradeTimesRow : OpenClaim := { program := "ythgbahlkflmgiaa", sum := "8ee10b8233165ca537fa0928b7d15b86afc803f31f9e0aa2d07c8a13a9f0ebab", func := "sandtable/sandtablelaw20.UpgradeTimes", spec := "upgradeTimes", unfollowed := true, recurses := true, apart := false }
def UpgradeTimesSaid : Prop := upgradeTimesRow.holds Try.pinned (OpenSpec.ofChange upgradeTimesSpec)

/-- ITS FALSE NEIGHBOUR: 'it returns false'. Refute it at one input. -/
def upgradeTimesWrong : ChangeSpec := { name := "upgradeTimes", fn := fun _ => fun
  | [d] => { results := [.lit (.bool false)], args := [d] }
  | _ => none }
def UpgradeTimesWrongFalsely : Prop := upgradeTimesRow.holds Try.pinned (OpenSpec.ofChange upgradeTimesWrong)

/-- 'sandtablelaw20.UpgradeWays': WHATEVER THE INPUT: true; the input reads as it did. -/
def upgradeWaysSpec : ChangeSpec := { name := "upgradeWays", fn := fun _ => fun
  | [d] => { results := [.lit (.bool true)], args := [d] }
  | _ => none }
def upgradeWaysRow : OpenClaim := { program := "ythgbahlkflmgiaa", sum := "8ee10b8233165ca537fa0928b7d15b86afc803f31f9e0aa2d07c8a13a9f0ebab", func := "sandtable/sandtablelaw20.UpgradeWays", spec := "upgradeWays", unfollowed := true, recurses := true, apart := false }
def UpgradeWaysSaid : Prop := upgradeWaysRow.holds Try.pinned (OpenSpec.ofChange upgradeWaysSpec)

/-- ITS FALSE NEIGHBOUR: 'it returns false'. Refute it at one input. -/
def upgradeWaysWrong : ChangeSpec := { name := "upgradeWays", fn := fun _ => fun
  | [d] => { results := [.lit (.bool false)], args := [d] }
  | _ => none }
def UpgradeWaysWrongFalsely : Prop := upgradeWaysRow.holds Try.pinned (OpenSpec.ofChange upgradeWaysWrong)

/- THE SECOND FORM. 'bulk': how many values and letters a reading holds, each counted each time it is reached (what is shared counts as often as it is met; a slice's spare places count too). A statement '..UptoSaid' is the law's where the arguments, and the package variables that the reading takes, are together of bulk at most 1048576: NARROWER than '..Said'. Prove '..Said' where nothing that the law and all that it calls make is longer than what came in: it says more and counts as full. Else prove '..UptoSaid'. A law counts once. -/
mutual
def uptoBulk {H : Type} : DataW H → Nat
  | .lit (.string bytes) => bytes.length + 1
  | .lit _ => 1
  | .nil => 1
  | .ptr d => uptoBulk d + 1
  | .slice elems spare => uptoBulkAll elems + uptoBulkAll spare + 1
  | .agg parts => uptoBulkAll parts + 1
  | .iface _ d => uptoBulk d + 1
  | .map entries => uptoBulkEntries entries + 1
  | .held _ => 1
def uptoBulkAll {H : Type} : List (DataW H) → Nat
  | [] => 0
  | d :: r => uptoBulk d + uptoBulkAll r
def uptoBulkEntries {H : Type} : List (Lit × DataW H) → Nat
  | [] => 0
  | x :: r => uptoBulkEntry x + uptoBulkEntries r
def uptoBulkEntry {H : Type} : Lit × DataW H → Nat
  | (.string bytes, d) => bytes.length + uptoBulk d + 1
  | (_, d) => uptoBulk d + 1
 end
def uptoSmall : (H : Type) → List (DataW H) → Bool := fun _ ds => decide (uptoBulkAll ds ≤ 1048576)
def OpenSpec.upto (s : _root_.Go.ChangeSpec) : _root_.Go.OpenSpec := { _root_.Go.OpenSpec.ofChange s with cond := some uptoSmall }

/-- 'sandtablelaw20.UpgradeUps', WHERE WHAT IT READS IS OF BULK AT MOST 1048576: true; the input reads as it did. -/
def upgradeUpsUptoRow : OpenClaim := { program := "ythgbahlkflmgiaa", sum := "8ee10b8233165ca537fa0928b7d15b86afc803f31f9e0aa2d07c8a13a9f0ebab", func := "sandtable/sandtablelaw20.UpgradeUps", spec := "upgradeUps", unfollowed := true, recurses := true, apart := false, narrowed := true }
def UpgradeUpsUptoSaid : Prop := upgradeUpsUptoRow.holds Try.pinned (OpenSpec.upto upgradeUpsSpec)

/-- 'sandtablelaw20.UpgradeKeeps', WHERE WHAT IT READS IS OF BULK AT MOST 1048576: true; the input reads as it did. -/
def upgradeKeepsUptoRow : OpenClaim := { program := "ythgbahlkflmgiaa", sum := "8ee10b8233165ca537fa0928b7d15b86afc803f31f9e0aa2d07c8a13a9f0ebab", func := "sandtable/sandtablelaw20.UpgradeKeeps", spec := "upgradeKeeps", unfollowed := true, recurses := true, apart := false, narrowed := true }
def UpgradeKeepsUptoSaid : Prop := upgradeKeepsUptoRow.holds Try.pinned (OpenSpec.upto upgradeKeepsSpec)

/-- 'sandtablelaw20.UpgradeTimes', WHERE WHAT IT READS IS OF BULK AT MOST 1048576: true; the input reads as it did. -/
def upgradeTimesUptoRow : OpenClaim := { program := "ythgbahlkflmgiaa", sum := "8ee10b8233165ca537fa0928b7d15b86afc803f31f9e0aa2d07c8a13a9f0ebab", func := "sandtable/sandtablelaw20.UpgradeTimes", spec := "upgradeTimes", unfollowed := true, recurses := true, apart := false, narrowed := true }
def UpgradeTimesUptoSaid : Prop := upgradeTimesUptoRow.holds Try.pinned (OpenSpec.upto upgradeTimesSpec)

/-- 'sandtablelaw20.UpgradeWays', WHERE WHAT IT READS IS OF BULK AT MOST 1048576: true; the input reads as it did. -/
def upgradeWaysUptoRow : OpenClaim := { program := "ythgbahlkflmgiaa", sum := "8ee10b8233165ca537fa0928b7d15b86afc803f31f9e0aa2d07c8a13a9f0ebab", func := "sandtable/sandtablelaw20.UpgradeWays", spec := "upgradeWays", unfollowed := true, recurses := true, apart := false, narrowed := true }
def UpgradeWaysUptoSaid : Prop := upgradeWaysUptoRow.holds Try.pinned (OpenSpec.upto upgradeWaysSpec)

end Rows
end Go.Proofs.Ythgbahlkflmgiaa
