/-
  No cell of these rows narrows 'for every input' (looked for: loops, veiled, ifaces, maps, wideKeys, modest, calm, conditions, laid).
  DERIVED. THE GIVEN ROWS OF THIS SEAT. 5 by the template 'for every input the law returns true; each argument reads behind the call as it read before'; 0 by the template 'total and deterministic' (their statements: YtfkhnhpphcpmmaaTotals.lean).
  GIVEN WITH THE SEED: the statements are not yours to turn. If you find one false, say at which input.
  Laid BY PROGRAM, IN A SANDBOX (cutbox-rows.mjs): the forced cells as the released guide's own fill.sh prints them over the translation 44d07673c5c9e464… (all of the seat's roots in one cut). By AI agents, Wed Nov 11 2026. No macro, syntax, notation, axiom, sorry.
-/
import Derived.Test.YtfkhnhpphcpmmaaChecked
import GoSem.Claim
import GoSem.ClaimJoined
import GoSem.ClaimMapViews
import Derived.JoinedTies
import Derived.KernelRfl
namespace Go.Proofs.Ytfkhnhpphcpmmaa
/- THE CELL 'sum', in the pinned program and in every row, IS THE sha256 OF THE DUMP (.gsa) THAT YtfkhnhpphcpmmaaProg.lean LOADS. Nothing in Lean hashes anything: it is a label: what it is worth is what the hold of that sum in a sandbox is worth. -/
noncomputable def Try.pinned : Pinned := { name := "ytfkhnhpphcpmmaa", sum := "44d07673c5c9e4648b6dc0873dbfa838cacf627ace56c9720b02c5188c059724", checked := Try.checked }
namespace Rows
def none {H : Type} : Left H := { results := [], args := [] }

/-- 'sandtablelaw06.HeapPlays': WHATEVER THE INPUT: true; the input reads as it did. -/
def heapPlaysSpec : ChangeSpec := { name := "heapPlays", fn := fun _ => fun
  | [d] => { results := [.lit (.bool true)], args := [d] }
  | _ => none }
def heapPlaysRow : OpenClaim := { program := "ytfkhnhpphcpmmaa", sum := "44d07673c5c9e4648b6dc0873dbfa838cacf627ace56c9720b02c5188c059724", func := "sandtable/sandtablelaw06.HeapPlays", spec := "heapPlays", unfollowed := true, recurses := true, apart := false }
def HeapPlaysSaid : Prop := heapPlaysRow.holds Try.pinned (OpenSpec.ofChange heapPlaysSpec)

/-- ITS FALSE NEIGHBOUR: 'it returns false'. Refute it at one input. -/
def heapPlaysWrong : ChangeSpec := { name := "heapPlays", fn := fun _ => fun
  | [d] => { results := [.lit (.bool false)], args := [d] }
  | _ => none }
def HeapPlaysWrongFalsely : Prop := heapPlaysRow.holds Try.pinned (OpenSpec.ofChange heapPlaysWrong)

/-- 'sandtablelaw06.HeapSorts': WHATEVER THE INPUT: true; the input reads as it did. -/
def heapSortsSpec : ChangeSpec := { name := "heapSorts", fn := fun _ => fun
  | [d] => { results := [.lit (.bool true)], args := [d] }
  | _ => none }
def heapSortsRow : OpenClaim := { program := "ytfkhnhpphcpmmaa", sum := "44d07673c5c9e4648b6dc0873dbfa838cacf627ace56c9720b02c5188c059724", func := "sandtable/sandtablelaw06.HeapSorts", spec := "heapSorts", unfollowed := true, recurses := true, apart := false }
def HeapSortsSaid : Prop := heapSortsRow.holds Try.pinned (OpenSpec.ofChange heapSortsSpec)

/-- ITS FALSE NEIGHBOUR: 'it returns false'. Refute it at one input. -/
def heapSortsWrong : ChangeSpec := { name := "heapSorts", fn := fun _ => fun
  | [d] => { results := [.lit (.bool false)], args := [d] }
  | _ => none }
def HeapSortsWrongFalsely : Prop := heapSortsRow.holds Try.pinned (OpenSpec.ofChange heapSortsWrong)

/-- 'sandtablelaw06.HeapOrders': WHATEVER THE INPUT: true; the input reads as it did. -/
def heapOrdersSpec : ChangeSpec := { name := "heapOrders", fn := fun _ => fun
  | [d] => { results := [.lit (.bool true)], args := [d] }
  | _ => none }
def heapOrdersRow : OpenClaim := { program := "ytfkhnhpphcpmmaa", sum := "44d07673c5c9e4648b6dc0873dbfa838cacf627ace56c9720b02c5188c059724", func := "sandtable/sandtablelaw06.HeapOrders", spec := "heapOrders", unfollowed := true, recurses := true, apart := false }
def HeapOrdersSaid : Prop := heapOrdersRow.holds Try.pinned (OpenSpec.ofChange heapOrdersSpec)

/-- ITS FALSE NEIGHBOUR: 'it returns false'. Refute it at one input. -/
def heapOrdersWrong : ChangeSpec := { name := "heapOrders", fn := fun _ => fun
  | [d] => { results := [.lit (.bool false)], args := [d] }
  | _ => none }
def HeapOrdersWrongFalsely : Prop := heapOrdersRow.holds Try.pinned (OpenSpec.ofChange heapOrdersWrong)

/-- 'sandtablelaw06.HeapMixes': WHATEVER THE INPUT: true; the input reads as it did. -/
def heapMixesSpec : ChangeSpec := { name := "heapMixes", fn := fun _ => fun
  | [d1, d2] => { results := [.lit (.bool true)], args := [d1, d2] }
  | _ => none }
def heapMixesRow : OpenClaim := { program := "ytfkhnhpphcpmmaa", sum := "44d07673c5c9e4648b6dc0873dbfa838cacf627ace56c9720b02c5188c059724", func := "sandtable/sandtablelaw06.HeapMixes", spec := "heapMixes", unfollowed := true, recurses := true, apart := false }
def HeapMixesSaid : Prop := heapMixesRow.holds Try.pinned (OpenSpec.ofChange heapMixesSpec)

/-- ITS FALSE NEIGHBOUR: 'it returns false'. Refute it at one input. -/
def heapMixesWrong : ChangeSpec := { name := "heapMixes", fn := fun _ => fun
  | [d1, d2] => { results := [.lit (.bool false)], args := [d1, d2] }
  | _ => none }
def HeapMixesWrongFalsely : Prop := heapMixesRow.holds Try.pinned (OpenSpec.ofChange heapMixesWrong)

/-- 'sandtablelaw06.HeapCounts': WHATEVER THE INPUT: true; the input reads as it did. -/
def heapCountsSpec : ChangeSpec := { name := "heapCounts", fn := fun _ => fun
  | [d1, d2] => { results := [.lit (.bool true)], args := [d1, d2] }
  | _ => none }
def heapCountsRow : OpenClaim := { program := "ytfkhnhpphcpmmaa", sum := "44d07673c5c9e4648b6dc0873dbfa838cacf627ace56c9720b02c5188c059724", func := "sandtable/sandtablelaw06.HeapCounts", spec := "heapCounts", unfollowed := true, recurses := true, apart := false }
def HeapCountsSaid : Prop := heapCountsRow.holds Try.pinned (OpenSpec.ofChange heapCountsSpec)

/-- ITS FALSE NEIGHBOUR: 'it returns false'. Refute it at one input. -/
def heapCountsWrong : ChangeSpec := { name := "heapCounts", fn := fun _ => fun
  | [d1, d2] => { results := [.lit (.bool false)], args := [d1, d2] }
  | _ => none }
def HeapCountsWrongFalsely : Prop := heapCountsRow.holds Try.pinned (OpenSpec.ofChange heapCountsWrong)

/- THE SECOND FORM. 'bulk': how many values and letters a reading holds, each counted each time it is reached (what is shared counts as often as it is met; a slice's spare places count too). A statement '..UptoSaid' is the law's where the arguments, and the package variables that the reading takes, are together of bulk at most 1048576: NARROWER than '..Said'. Prove '..Said' where nothing that the law and all that it calls make is longer than what came in: it says more and counts as full. Else prove '..UptoSaid'. A law counts once. -/
mutual
def uptoBulk {H : Type} : DataW H → Nat
  | .lit (.string bytes) => bytes.length + 1
  | .lit _ => 1
  | .nil => 1
  | .ptr d => uptoBulk d + 1
  | .slice elems spare => uptoBulkAll elems + uptoBulkAll spare + 1
  | .agg parts => uptoBulkAll parts + 1
  | .iface _ d => uptoBulk d + 1
  | .map entries => uptoBulkEntries entries + 1
  | .held _ => 1
def uptoBulkAll {H : Type} : List (DataW H) → Nat
  | [] => 0
  | d :: r => uptoBulk d + uptoBulkAll r
def uptoBulkEntries {H : Type} : List (Lit × DataW H) → Nat
  | [] => 0
  | x :: r => uptoBulkEntry x + uptoBulkEntries r
def uptoBulkEntry {H : Type} : Lit × DataW H → Nat
  | (.string bytes, d) => bytes.length + uptoBulk d + 1
  | (_, d) => uptoBulk d + 1
 end
def uptoSmall : (H : Type) → List (DataW H) → Bool := fun _ ds => decide (uptoBulkAll ds ≤ 1048576)
def OpenSpec.upto (s : _root_.Go.ChangeSpec) : _root_.Go.OpenSpec := { _root_.Go.OpenSpec.ofChange s with cond := some uptoSmall }

/-- 'sandtablelaw06.HeapPlays', WHERE WHAT IT READS IS OF BULK AT MOST 1048576: true; the input reads as it did. -/
def heapPlaysUptoRow : OpenClaim := { program := "ytfkhnhpphcpmmaa", sum := "44d07673c5c9e4648b6dc0873dbfa838cacf627ace56c9720b02c5188c059724", func := "sandtable/sandtablelaw06.HeapPlays", spec := "heapPlays", unfollowed := true, recurses := true, apart := false, narrowed := true }
def HeapPlaysUptoSaid : Prop := heapPlaysUptoRow.holds Try.pinned (OpenSpec.upto heapPlaysSpec)

/-- 'sandtablelaw06.HeapSorts', WHERE WHAT IT READS IS OF BULK AT MOST 1048576: true; the input reads as it did. -/
def heapSortsUptoRow : OpenClaim := { program := "ytfkhnhpphcpmmaa", sum := "44d07673c5c9e4648b6dc0873dbfa838cacf627ace56c9720b02c5188c059724", func := "sandtable/sandtablelaw06.HeapSorts", spec := "heapSorts", unfollowed := true, recurses := true, apart := false, narrowed := true }
def HeapSortsUptoSaid : Prop := heapSortsUptoRow.holds Try.pinned (OpenSpec.upto heapSortsSpec)

/-- 'sandtablelaw06.HeapOrders', WHERE WHAT IT READS IS OF BULK AT MOST 1048576: true; the input reads as it did. -/
def heapOrdersUptoRow : OpenClaim := { program := "ytfkhnhpphcpmmaa", sum := "44d07673c5c9e4648b6dc0873dbfa838cacf627ace56c9720b02c5188c059724", func := "sandtable/sandtablelaw06.HeapOrders", spec := "heapOrders", unfollowed := true, recurses := true, apart := false, narrowed := true }
def HeapOrdersUptoSaid : Prop := heapOrdersUptoRow.holds Try.pinned (OpenSpec.upto heapOrdersSpec)

/-- 'sandtablelaw06.HeapMixes', WHERE WHAT IT READS IS OF BULK AT MOST 1048576: true; the input reads as it did. -/
def heapMixesUptoRow : OpenClaim := { program := "ytfkhnhpphcpmmaa", sum := "44d07673c5c9e4648b6dc0873dbfa838cacf627ace56c9720b02c5188c059724", func := "sandtable/sandtablelaw06.HeapMixes", spec := "heapMixes", unfollowed := true, recurses := true, apart := false, narrowed := true }
def HeapMixesUptoSaid : Prop := heapMixesUptoRow.holds Try.pinned (OpenSpec.upto heapMixesSpec)

/-- 'sandtablelaw06.HeapCounts', WHERE WHAT IT READS IS OF BULK AT MOST 1048576: true; the input reads as it did. -/
def heapCountsUptoRow : OpenClaim := { program := "ytfkhnhpphcpmmaa", sum := "44d07673c5c9e4648b6dc0873dbfa838cacf627ace56c9720b02c5188c059724", func := "sandtable/sandtablelaw06.HeapCounts", spec := "heapCounts", unfollowed := true, recurses := true, apart := false, narrowed := true }
def HeapCountsUptoSaid : Prop := heapCountsUptoRow.holds Try.pinned (OpenSpec.upto heapCountsSpec)

end Rows
end Go.Proofs.Ytfkhnhpphcpmmaa
