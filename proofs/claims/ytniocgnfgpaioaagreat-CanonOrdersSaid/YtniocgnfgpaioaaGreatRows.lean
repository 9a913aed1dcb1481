/-
  No cell of these rows narrows 'for every input' (looked for: loops, veiled, ifaces, maps, wideKeys, modest, calm, conditions, laid).
  DERIVED. THE GIVEN ROWS OF THIS SEAT. 6 by the template 'for every input the law returns true; each argument reads behind the call as it read before'; 0 by the template 'total and deterministic' (their statements: YtniocgnfgpaioaaGreatTotals.lean).
  GIVEN WITH THE SEED: the statements are not yours to turn. If you find one false, say at which input.
  Laid BY PROGRAM, IN A SANDBOX (cutbox-rows.mjs): the forced cells as the released guide's own fill.sh prints them over the translation 746a4def74f56a20… (all of the seat's roots in one cut). By AI agents, Wed Nov 11 2026. No macro, syntax, notation, axiom, sorry.
-/
import Derived.Test.YtniocgnfgpaioaaGreatChecked
import GoSem.Claim
import GoSem.ClaimJoined
import GoSem.ClaimMapViews
import Derived.JoinedTies
import Derived.KernelRfl
namespace Go.Proofs.YtniocgnfgpaioaaGreat
/- THE CELL 'sum', in the pinned program and in every row, IS THE sha256 OF THE DUMP (.gsa) THAT YtniocgnfgpaioaaGreatProg.lean LOADS. Nothing in Lean hashes anything: it is a label: what it is worth is what the hold of that sum in a sandbox is worth. -/
noncomputable def Tryz.pinned : Pinned := { name := "ytniocgnfgpaioaagreat", sum := "746a4def74f56a202bf546b9dffa3ed75c2b1cc8cb819087c7a1e6dd7fc528b3", checked := Tryz.checked }
namespace Rows
def none {H : Type} : Left H := { results := [], args := [] }

/-- 'sandtablelaw16.CanonLays': WHATEVER THE INPUT: true; the input reads as it did. -/
def canonLaysSpec : ChangeSpec := { name := "canonLays", fn := fun _ => fun
  | [d1, d2] => { results := [.lit (.bool true)], args := [d1, d2] }
  | _ => none }
def canonLaysRow : OpenClaim := { program := "ytniocgnfgpaioaagreat", sum := "746a4def74f56a202bf546b9dffa3ed75c2b1cc8cb819087c7a1e6dd7fc528b3", func := "sandtable/sandtablelaw16.CanonLays", spec := "canonLays", inPlace := ["slices.overlaps[sandtable/ranked.entry[int, int64]]"], unfollowed := true, recurses := true, apart := false }
def CanonLaysSaid : Prop := canonLaysRow.holds Tryz.pinned (OpenSpec.ofChange canonLaysSpec)

/-- ITS FALSE NEIGHBOUR: 'it returns false'. Refute it at one input. -/
def canonLaysWrong : ChangeSpec := { name := "canonLays", fn := fun _ => fun
  | [d1, d2] => { results := [.lit (.bool false)], args := [d1, d2] }
  | _ => none }
def CanonLaysWrongFalsely : Prop := canonLaysRow.holds Tryz.pinned (OpenSpec.ofChange canonLaysWrong)

/-- 'sandtablelaw16.CanonOrders': WHATEVER THE INPUT: true; the input reads as it did. -/
def canonOrdersSpec : ChangeSpec := { name := "canonOrders", fn := fun _ => fun
  | [d] => { results := [.lit (.bool true)], args := [d] }
  | _ => none }
def canonOrdersRow : OpenClaim := { program := "ytniocgnfgpaioaagreat", sum := "746a4def74f56a202bf546b9dffa3ed75c2b1cc8cb819087c7a1e6dd7fc528b3", func := "sandtable/sandtablelaw16.CanonOrders", spec := "canonOrders", inPlace := ["slices.overlaps[sandtable/ranked.entry[int, int64]]"], unfollowed := true, recurses := true, apart := false }
def CanonOrdersSaid : Prop := canonOrdersRow.holds Tryz.pinned (OpenSpec.ofChange canonOrdersSpec)

/-- ITS FALSE NEIGHBOUR: 'it returns false'. Refute it at one input. -/
def canonOrdersWrong : ChangeSpec := { name := "canonOrders", fn := fun _ => fun
  | [d] => { results := [.lit (.bool false)], args := [d] }
  | _ => none }
def CanonOrdersWrongFalsely : Prop := canonOrdersRow.holds Tryz.pinned (OpenSpec.ofChange canonOrdersWrong)

/-- 'sandtablelaw16.CanonSames': WHATEVER THE INPUT: true; the input reads as it did. -/
def canonSamesSpec : ChangeSpec := { name := "canonSames", fn := fun _ => fun
  | [d1, d2, d3] => { results := [.lit (.bool true)], args := [d1, d2, d3] }
  | _ => none }
def canonSamesRow : OpenClaim := { program := "ytniocgnfgpaioaagreat", sum := "746a4def74f56a202bf546b9dffa3ed75c2b1cc8cb819087c7a1e6dd7fc528b3", func := "sandtable/sandtablelaw16.CanonSames", spec := "canonSames", inPlace := ["slices.overlaps[sandtable/ranked.entry[int, int64]]"], unfollowed := true, recurses := true, apart := false }
def CanonSamesSaid : Prop := canonSamesRow.holds Tryz.pinned (OpenSpec.ofChange canonSamesSpec)

/-- ITS FALSE NEIGHBOUR: 'it returns false'. Refute it at one input. -/
def canonSamesWrong : ChangeSpec := { name := "canonSames", fn := fun _ => fun
  | [d1, d2, d3] => { results := [.lit (.bool false)], args := [d1, d2, d3] }
  | _ => none }
def CanonSamesWrongFalsely : Prop := canonSamesRow.holds Tryz.pinned (OpenSpec.ofChange canonSamesWrong)

/-- 'sandtablelaw16.CanonGraphs': WHATEVER THE INPUT: true; the input reads as it did. -/
def canonGraphsSpec : ChangeSpec := { name := "canonGraphs", fn := fun _ => fun
  | [d] => { results := [.lit (.bool true)], args := [d] }
  | _ => none }
def canonGraphsRow : OpenClaim := { program := "ytniocgnfgpaioaagreat", sum := "746a4def74f56a202bf546b9dffa3ed75c2b1cc8cb819087c7a1e6dd7fc528b3", func := "sandtable/sandtablelaw16.CanonGraphs", spec := "canonGraphs", inPlace := ["slices.overlaps[sandtable/ranked.entry[int, int64]]"], unfollowed := true, recurses := true, apart := false }
def CanonGraphsSaid : Prop := canonGraphsRow.holds Tryz.pinned (OpenSpec.ofChange canonGraphsSpec)

/-- ITS FALSE NEIGHBOUR: 'it returns false'. Refute it at one input. -/
def canonGraphsWrong : ChangeSpec := { name := "canonGraphs", fn := fun _ => fun
  | [d] => { results := [.lit (.bool false)], args := [d] }
  | _ => none }
def CanonGraphsWrongFalsely : Prop := canonGraphsRow.holds Tryz.pinned (OpenSpec.ofChange canonGraphsWrong)

/-- 'sandtablelaw16.CanonNames': WHATEVER THE INPUT: true; the input reads as it did. -/
def canonNamesSpec : ChangeSpec := { name := "canonNames", fn := fun _ => fun
  | [d] => { results := [.lit (.bool true)], args := [d] }
  | _ => none }
def canonNamesRow : OpenClaim := { program := "ytniocgnfgpaioaagreat", sum := "746a4def74f56a202bf546b9dffa3ed75c2b1cc8cb819087c7a1e6dd7fc528b3", func := "sandtable/sandtablelaw16.CanonNames", spec := "canonNames", inPlace := ["slices.overlaps[sandtable/ranked.entry[int, int64]]"], unfollowed := true, recurses := true, apart := false }
def CanonNamesSaid : Prop := canonNamesRow.holds Tryz.pinned (OpenSpec.ofChange canonNamesSpec)

/-- ITS FALSE NEIGHBOUR: 'it returns false'. Refute it at one input. -/
def canonNamesWrong : ChangeSpec := { name := "canonNames", fn := fun _ => fun
  | [d] => { results := [.lit (.bool false)], args := [d] }
  | _ => none }
def CanonNamesWrongFalsely : Prop := canonNamesRow.holds Tryz.pinned (OpenSpec.ofChange canonNamesWrong)

/-- 'sandtablelaw16.CanonWeights': WHATEVER THE INPUT: true; the input reads as it did. -/
def canonWeightsSpec : ChangeSpec := { name := "canonWeights", fn := fun _ => fun
  | [d] => { results := [.lit (.bool true)], args := [d] }
  | _ => none }
def canonWeightsRow : OpenClaim := { program := "ytniocgnfgpaioaagreat", sum := "746a4def74f56a202bf546b9dffa3ed75c2b1cc8cb819087c7a1e6dd7fc528b3", func := "sandtable/sandtablelaw16.CanonWeights", spec := "canonWeights", inPlace := ["slices.overlaps[sandtable/ranked.entry[int, int64]]"], unfollowed := true, recurses := true, apart := false }
def CanonWeightsSaid : Prop := canonWeightsRow.holds Tryz.pinned (OpenSpec.ofChange canonWeightsSpec)

/-- ITS FALSE NEIGHBOUR: 'it returns false'. Refute it at one input. -/
def canonWeightsWrong : ChangeSpec := { name := "canonWeights", fn := fun _ => fun
  | [d] => { results := [.lit (.bool false)], args := [d] }
  | _ => none }
def CanonWeightsWrongFalsely : Prop := canonWeightsRow.holds Tryz.pinned (OpenSpec.ofChange canonWeightsWrong)

/- THE SECOND FORM. 'bulk': how many values and letters a reading holds, each counted each time it is reached (what is shared counts as often as it is met; a slice's spare places count too). A statement '..UptoSaid' is the law's where the arguments, and the package variables that the reading takes, are together of bulk at most 1048576: NARROWER than '..Said'. Prove '..Said' where nothing that the law and all that it calls make is longer than what came in: it says more and counts as full. Else prove '..UptoSaid'. A law counts once. -/
mutual
def uptoBulk {H : Type} : DataW H → Nat
  | .lit (.string bytes) => bytes.length + 1
  | .lit _ => 1
  | .nil => 1
  | .ptr d => uptoBulk d + 1
  | .slice elems spare => uptoBulkAll elems + uptoBulkAll spare + 1
  | .agg parts => uptoBulkAll parts + 1
  | .iface _ d => uptoBulk d + 1
  | .map entries => uptoBulkEntries entries + 1
  | .held _ => 1
def uptoBulkAll {H : Type} : List (DataW H) → Nat
  | [] => 0
  | d :: r => uptoBulk d + uptoBulkAll r
def uptoBulkEntries {H : Type} : List (Lit × DataW H) → Nat
  | [] => 0
  | x :: r => uptoBulkEntry x + uptoBulkEntries r
def uptoBulkEntry {H : Type} : Lit × DataW H → Nat
  | (.string bytes, d) => bytes.length + uptoBulk d + 1
  | (_, d) => uptoBulk d + 1
 end
def uptoSmall : (H : Type) → List (DataW H) → Bool := fun _ ds => decide (uptoBulkAll ds ≤ 1048576)
def OpenSpec.upto (s : _root_.Go.ChangeSpec) : _root_.Go.OpenSpec := { _root_.Go.OpenSpec.ofChange s with cond := some uptoSmall }

/-- 'sandtablelaw16.CanonLays', WHERE WHAT IT READS IS OF BULK AT MOST 1048576: true; the input reads as it did. -/
def canonLaysUptoRow : OpenClaim := { program := "ytniocgnfgpaioaagreat", sum := "746a4def74f56a202bf546b9dffa3ed75c2b1cc8cb819087c7a1e6dd7fc528b3", func := "sandtable/sandtablelaw16.CanonLays", spec := "canonLays", inPlace := ["slices.overlaps[sandtable/ranked.entry[int, int64]]"], unfollowed := true, recurses := true, apart := false, narrowed := true }
def CanonLaysUptoSaid : Prop := canonLaysUptoRow.holds Tryz.pinned (OpenSpec.upto canonLaysSpec)

/-- 'sandtablelaw16.CanonOrders', WHERE WHAT IT READS IS OF BULK AT MOST 1048576: true; the input reads as it did. -/
def canonOrdersUptoRow : OpenClaim := { program := "ytniocgnfgpaioaagreat", sum := "746a4def74f56a202bf546b9dffa3ed75c2b1cc8cb819087c7a1e6dd7fc528b3", func := "sandtable/sandtablelaw16.CanonOrders", spec := "canonOrders", inPlace := ["slices.overlaps[sandtable/ranked.entry[int, int64]]"], unfollowed := true, recurses := true, apart := false, narrowed := true }
def CanonOrdersUptoSaid : Prop := canonOrdersUptoRow.holds Tryz.pinned (OpenSpec.upto canonOrdersSpec)

/-- 'sandtablelaw16.CanonSames', WHERE WHAT IT READS IS OF BULK AT MOST 1048576: true; the input reads as it did. -/
def canonSamesUptoRow : OpenClaim := { program := "ytniocgnfgpaioaagreat", sum := "746a4def74f56a202bf546b9dffa3ed75c2b1cc8cb819087c7a1e6dd7fc528b3", func := "sandtable/sandtablelaw16.CanonSames", spec := "canonSames", inPlace := ["slices.overlaps[sandtable/ranked.entry[int, int64]]"], unfollowed := true, recurses := true, apart := false, narrowed := true }
def CanonSamesUptoSaid : Prop := canonSamesUptoRow.holds Tryz.pinned (OpenSpec.upto canonSamesSpec)

/-- 'sandtablelaw16.CanonGraphs', WHERE WHAT IT READS IS OF BULK AT MOST 1048576: true; the input reads as it did. -/
def canonGraphsUptoRow : OpenClaim := { program := "ytniocgnfgpaioaagreat", sum := "746a4def74f56a202bf546b9dffa3ed75c2b1cc8cb819087c7a1e6dd7fc528b3", func := "sandtable/sandtablelaw16.CanonGraphs", spec := "canonGraphs", inPlace := ["slices.overlaps[sandtable/ranked.entry[int, int64]]"], unfollowed := true, recurses := true, apart := false, narrowed := true }
def CanonGraphsUptoSaid : Prop := canonGraphsUptoRow.holds Tryz.pinned (OpenSpec.upto canonGraphsSpec)

/-- 'sandtablelaw16.CanonNames', WHERE WHAT IT READS IS OF BULK AT MOST 1048576: true; the input reads as it did. -/
def canonNamesUptoRow : OpenClaim := { program := "ytniocgnfgpaioaagreat", sum := "746a4def74f56a202bf546b9dffa3ed75c2b1cc8cb819087c7a1e6dd7fc528b3", func := "sandtable/sandtablelaw16.CanonNames", spec := "canonNames", inPlace := ["slices.overlaps[sandtable/ranked.entry[int, int64]]"], unfollowed := true, recurses := true, apart := false, narrowed := true }
def CanonNamesUptoSaid : Prop := canonNamesUptoRow.holds Tryz.pinned (OpenSpec.upto canonNamesSpec)

/-- 'sandtablelaw16.CanonWeights', WHERE WHAT IT READS IS OF BULK AT MOST 1048576: true; the input reads as it did. -/
def canonWeightsUptoRow : OpenClaim := { program := "ytniocgnfgpaioaagreat", sum := "746a4def74f56a202bf546b9dffa3ed75c2b1cc8cb819087c7a1e6dd7fc528b3", func := "sandtable/sandtablelaw16.CanonWeights", spec := "canonWeights", inPlace := ["slices.overlaps[sandtable/ranked.entry[int, int64]]"], unfollowed := true, recurses := true, apart := false, narrowed := true }
def CanonWeightsUptoSaid : Prop := canonWeightsUptoRow.holds Tryz.pinned (OpenSpec.upto canonWeightsSpec)

end Rows
end Go.Proofs.YtniocgnfgpaioaaGreat
