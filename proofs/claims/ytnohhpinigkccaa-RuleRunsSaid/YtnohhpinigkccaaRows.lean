/-
  No cell of these rows narrows 'for every input' (looked for: loops, veiled, ifaces, maps, wideKeys, modest, calm, conditions, laid).
  DERIVED. THE GIVEN ROWS OF THIS SEAT. 4 by the template 'for every input the law returns true; each argument reads behind the call as it read before'; 0 by the template 'total and deterministic' (their statements: YtnohhpinigkccaaTotals.lean).
  GIVEN WITH THE SEED: the statements are not yours to turn. If you find one false, say at which input.
  Laid BY PROGRAM, IN A SANDBOX (cutbox-rows.mjs): the forced cells as the released guide's own fill.sh prints them over the translation 922e55fa74eda1b6… (all of the seat's roots in one cut). By AI agents, Wed Nov 11 2026. No macro, syntax, notation, axiom, sorry.
-/
import Derived.Test.YtnohhpinigkccaaChecked
import GoSem.Claim
import GoSem.ClaimJoined
import GoSem.ClaimMapViews
import Derived.JoinedTies
import Derived.KernelRfl
namespace Go.Proofs.Ytnohhpinigkccaa
/- THE CELL 'sum', in the pinned program and in every row, IS THE sha256 OF THE DUMP (.gsa) THAT YtnohhpinigkccaaProg.lean LOADS. Nothing in Lean hashes anything: it is a label: what it is worth is what the hold of that sum in a sandbox is worth. -/
noncomputable def Try.pinned : Pinned := { name := "ytnohhpinigkccaa", sum := "922e55fa74eda1b677c8f2dfeca6e53515ae8ee0ae91d34c162c3c920ef3bfd5", checked := Try.checked }
namespace Rows
def none {H : Type} : Left H := { results := [], args := [] }

/-- 'sandtablelaw26.RuleRuns': WHATEVER THE INPUT: true; the input reads as it did. -/
def ruleRunsSpec : ChangeSpec := { name := "ruleRuns", fn := fun _ => fun
  | [d1, d2, d3, d4] => { results := [.lit (.bool true)], args := [d1, d2, d3, d4] }
  | _ => none }
def ruleRunsRow : OpenClaim := { program := "ytnohhpinigkccaa", sum := "922e55fa74eda1b677c8f2dfeca6e53515ae8ee0ae91d34c162c3c920ef3bfd5", func := "sandtable/sandtablelaw26.RuleRuns", spec := "ruleRuns", unfollowed := true, recurses := true, apart := false }
def RuleRunsSaid : Prop := ruleRunsRow.holds Try.pinned (OpenSpec.ofChange ruleRunsSpec)

/-- ITS FALSE NEIGHBOUR: 'it returns false'. Refute it at one input. -/
def ruleRunsWrong : ChangeSpec := { name := "ruleRuns", fn := fun _ => fun
  | [d1, d2, d3, d4] => { results := [.lit (.bool false)], args := [d1, d2, d3, d4] }
  | _ => none }
def RuleRunsWrongFalsely : Prop := ruleRunsRow.holds Try.pinned (OpenSpec.ofChange ruleRunsWrong)

/-- 'sandtablelaw26.RuleKeeps': WHATEVER THE INPUT: true; the input reads as it did. -/
def ruleKeepsSpec : ChangeSpec := { name := "ruleKeeps", fn := fun _ => fun
  | [d1, d2, d3] => { results := [.lit (.bool true)], args := [d1, d2, d3] }
  | _ => none }
def ruleKeepsRow : OpenClaim := { program := "ytnohhpinigkccaa", sum := "922e55fa74eda1b677c8f2dfeca6e53515ae8ee0ae91d34c162c3c920ef3bfd5", func := "sandtable/sandtablelaw26.RuleKeeps", spec := "ruleKeeps", unfollowed := true, recurses := true, apart := false }
def RuleKeepsSaid : Prop := ruleKeepsRow.holds Try.pinned (OpenSpec.ofChange ruleKeepsSpec)

/-- ITS FALSE NEIGHBOUR: 'it returns false'. Refute it at one input. -/
def ruleKeepsWrong : ChangeSpec := { name := "ruleKeeps", fn := fun _ => fun
  | [d1, d2, d3] => { results := [.lit (.bool false)], args := [d1, d2, d3] }
  | _ => none }
def RuleKeepsWrongFalsely : Prop := ruleKeepsRow.holds Try.pinned (OpenSpec.ofChange ruleKeepsWrong)

/-- 'sandtablelaw26.RulePuts': WHATEVER THE INPUT: true; the input reads as it did. -/
def rulePutsSpec : ChangeSpec := { name := "rulePuts", fn := fun _ => fun
  | [d1, d2, d3, d4] => { results := [.lit (.bool true)], args := [d1, d2, d3, d4] }
  | _ => none }
def rulePutsRow : OpenClaim := { program := "ytnohhpinigkccaa", sum := "922e55fa74eda1b677c8f2dfeca6e53515ae8ee0ae91d34c162c3c920ef3bfd5", func := "sandtable/sandtablelaw26.RulePuts", spec := "rulePuts", unfollowed := true, recurses := true, apart := false }
def RulePutsSaid : Prop := rulePutsRow.holds Try.pinned (OpenSpec.ofChange rulePutsSpec)

/-- ITS FALSE NEIGHBOUR: 'it returns false'. Refute it at one input. -/
def rulePutsWrong : ChangeSpec := { name := "rulePuts", fn := fun _ => fun
  | [d1, d2, d3, d4] => { results := [.lit (.bool false)], args := [d1, d2, d3, d4] }
  | _ => none }
def RulePutsWrongFalsely : Prop := rulePutsRow.holds Try.pinned (OpenSpec.ofChange rulePutsWrong)

/-- 'sandtablelaw26.RuleParts': WHATEVER THE INPUT: true; the input reads as it did. -/
def rulePartsSpec : ChangeSpec := { name := "ruleParts", fn := fun _ => fun
  | [d1, d2, d3, d4] => { results := [.lit (.bool true)], args := [d1, d2, d3, d4] }
  | _ => none }
def rulePartsRow : OpenClaim := { program := "ytnohhpinigkccaa", sum := "922e55fa74eda1b677c8f2dfeca6e53515ae8ee0ae91d34c162c3c920ef3bfd5", func := "sandtable/sandtablelaw26.RuleParts", spec := "ruleParts", unfollowed := true, recurses := true, apart := false }
def RulePartsSaid : Prop := rulePartsRow.holds Try.pinned (OpenSpec.ofChange rulePartsSpec)

/-- ITS FALSE NEIGHBOUR: 'it returns false'. Refute it at one input. -/
def rulePartsWrong : ChangeSpec := { name := "ruleParts", fn := fun _ => fun
  | [d1, d2, d3, d4] => { results := [.lit (.bool false)], args := [d1, d2, d3, d4] }
  | _ => none }
def RulePartsWrongFalsely : Prop := rulePartsRow.holds Try.pinned (OpenSpec.ofChange rulePartsWrong)

/- THE SECOND FORM. 'bulk': how many values and letters a reading holds, each counted each time it is reached (what is shared counts as often as it is met; a slice's spare places count too). A statement '..UptoSaid' is the law's where the arguments, and the package variables that the reading takes, are together of bulk at most 1048576: NARROWER than '..Said'. Prove '..Said' where nothing that the law and all that it calls make is longer than what came in: it says more and counts as full. Else prove '..UptoSaid'. A law counts once. -/
mutual
def uptoBulk {H : Type} : DataW H → Nat
  | .lit (.string bytes) => bytes.length + 1
  | .lit _ => 1
  | .nil => 1
  | .ptr d => uptoBulk d + 1
  | .slice elems spare => uptoBulkAll elems + uptoBulkAll spare + 1
  | .agg parts => uptoBulkAll parts + 1
  | .iface _ d => uptoBulk d + 1
  | .map entries => uptoBulkEntries entries + 1
  | .held _ => 1
def uptoBulkAll {H : Type} : List (DataW H) → Nat
  | [] => 0
  | d :: r => uptoBulk d + uptoBulkAll r
def uptoBulkEntries {H : Type} : List (Lit × DataW H) → Nat
  | [] => 0
  | x :: r => uptoBulkEntry x + uptoBulkEntries r
def uptoBulkEntry {H : Type} : Lit × DataW H → Nat
  | (.string bytes, d) => bytes.length + uptoBulk d + 1
  | (_, d) => uptoBulk d + 1
 end
def uptoSmall : (H : Type) → List (DataW H) → Bool := fun _ ds => decide (uptoBulkAll ds ≤ 1048576)
def OpenSpec.upto (s : _root_.Go.ChangeSpec) : _root_.Go.OpenSpec := { _root_.Go.OpenSpec.ofChange s with cond := some uptoSmall }

/-- 'sandtablelaw26.RuleRuns', WHERE WHAT IT READS IS OF BULK AT MOST 1048576: true; the input reads as it did. -/
def ruleRunsUptoRow : OpenClaim := { program := "ytnohhpinigkccaa", sum := "922e55fa74eda1b677c8f2dfeca6e53515ae8ee0ae91d34c162c3c920ef3bfd5", func := "sandtable/sandtablelaw26.RuleRuns", spec := "ruleRuns", unfollowed := true, recurses := true, apart := false, narrowed := true }
def RuleRunsUptoSaid : Prop := ruleRunsUptoRow.holds Try.pinned (OpenSpec.upto ruleRunsSpec)

/-- 'sandtablelaw26.RuleKeeps', WHERE WHAT IT READS IS OF BULK AT MOST 1048576: true; the input reads as it did. -/
def ruleKeepsUptoRow : OpenClaim := { program := "ytnohhpinigkccaa", sum := "922e55fa74eda1b677c8f2dfeca6e53515ae8ee0ae91d34c162c3c920ef3bfd5", func := "sandtable/sandtablelaw26.RuleKeeps", spec := "ruleKeeps", unfollowed := true, recurses := true, apart := false, narrowed := true }
def RuleKeepsUptoSaid : Prop := ruleKeepsUptoRow.holds Try.pinned (OpenSpec.upto ruleKeepsSpec)

/-- 'sandtablelaw26.RulePuts', WHERE WHAT IT READS IS OF BULK AT MOST 1048576: true; the input reads as it did. -/
def rulePutsUptoRow : OpenClaim := { program := "ytnohhpinigkccaa", sum := "922e55fa74eda1b677c8f2dfeca6e53515ae8ee0ae91d34c162c3c920ef3bfd5", func := "sandtable/sandtablelaw26.RulePuts", spec := "rulePuts", unfollowed := true, recurses := true, apart := false, narrowed := true }
def RulePutsUptoSaid : Prop := rulePutsUptoRow.holds Try.pinned (OpenSpec.upto rulePutsSpec)

/-- 'sandtablelaw26.RuleParts', WHERE WHAT IT READS IS OF BULK AT MOST 1048576: true; the input reads as it did. -/
def rulePartsUptoRow : OpenClaim := { program := "ytnohhpinigkccaa", sum := "922e55fa74eda1b677c8f2dfeca6e53515ae8ee0ae91d34c162c3c920ef3bfd5", func := "sandtable/sandtablelaw26.RuleParts", spec := "ruleParts", unfollowed := true, recurses := true, apart := false, narrowed := true }
def RulePartsUptoSaid : Prop := rulePartsUptoRow.holds Try.pinned (OpenSpec.upto rulePartsSpec)

end Rows
end Go.Proofs.Ytnohhpinigkccaa
