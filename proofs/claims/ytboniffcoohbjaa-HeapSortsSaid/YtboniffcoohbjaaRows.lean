/-
  No cell of these rows narrows 'for every input' (looked for: loops, veiled, ifaces, maps, wideKeys, modest, calm, conditions, laid).
  DERIVED. THE GIVEN ROWS OF THIS SEAT. 12 by the template 'for every input the law returns true; each argument reads behind the call as it read before'; 0 by the template 'total and deterministic' (their statements: YtboniffcoohbjaaTotals.lean).
  GIVEN WITH THE SEED: the statements are not yours to turn. If you find one false, say at which input.
  Laid BY PROGRAM, IN A SANDBOX (cutbox-rows.mjs): the forced cells as the released guide's own fill.sh prints them over the translation 39e1dbd48be98cd6… (all of the seat's roots in one cut). By AI agents, Wed Nov 11 2026. No macro, syntax, notation, axiom, sorry.
-/
import Derived.Test.YtboniffcoohbjaaChecked
import GoSem.Claim
import GoSem.ClaimJoined
import GoSem.ClaimMapViews
import Derived.JoinedTies
import Derived.KernelRfl
namespace Go.Proofs.Ytboniffcoohbjaa
/- THE CELL 'sum', in the pinned program and in every row, IS THE sha256 OF THE DUMP (.gsa) THAT YtboniffcoohbjaaProg.lean LOADS. Nothing in Lean hashes anything: it is a label: what it is worth is what the hold of that sum in a sandbox is worth. -/
noncomputable def Try.pinned : Pinned := { name := "ytboniffcoohbjaa", sum := "39e1dbd48be98cd6029211ffdb311ff5799b9e55208139b087c18df85c79450b", checked := Try.checked }
namespace Rows
def none {H : Type} : Left H := { results := [], args := [] }

/-- 'sandtablelaw01.ScalarTwo': WHATEVER THE INPUT: true; the input reads as it did. -/
def scalarTwoSpec : ChangeSpec := { name := "scalarTwo", fn := fun _ => fun
  | [d1, d2] => { results := [.lit (.bool true)], args := [d1, d2] }
  | _ => none }
def scalarTwoRow : OpenClaim := { program := "ytboniffcoohbjaa", sum := "39e1dbd48be98cd6029211ffdb311ff5799b9e55208139b087c18df85c79450b", func := "sandtable/sandtablelaw01.ScalarTwo", spec := "scalarTwo", recurses := true, apart := false }
def ScalarTwoSaid : Prop := scalarTwoRow.holds Try.pinned (OpenSpec.ofChange scalarTwoSpec)

/-- ITS FALSE NEIGHBOUR: 'it returns false'. Refute it at one input. -/
def scalarTwoWrong : ChangeSpec := { name := "scalarTwo", fn := fun _ => fun
  | [d1, d2] => { results := [.lit (.bool false)], args := [d1, d2] }
  | _ => none }
def ScalarTwoWrongFalsely : Prop := scalarTwoRow.holds Try.pinned (OpenSpec.ofChange scalarTwoWrong)

/-- 'sandtablelaw01.ScalarHeld': WHATEVER THE INPUT: true; the input reads as it did. -/
def scalarHeldSpec : ChangeSpec := { name := "scalarHeld", fn := fun _ => fun
  | [d1, d2, d3] => { results := [.lit (.bool true)], args := [d1, d2, d3] }
  | _ => none }
def scalarHeldRow : OpenClaim := { program := "ytboniffcoohbjaa", sum := "39e1dbd48be98cd6029211ffdb311ff5799b9e55208139b087c18df85c79450b", func := "sandtable/sandtablelaw01.ScalarHeld", spec := "scalarHeld", apart := false }
def ScalarHeldSaid : Prop := scalarHeldRow.holds Try.pinned (OpenSpec.ofChange scalarHeldSpec)

/-- ITS FALSE NEIGHBOUR: 'it returns false'. Refute it at one input. -/
def scalarHeldWrong : ChangeSpec := { name := "scalarHeld", fn := fun _ => fun
  | [d1, d2, d3] => { results := [.lit (.bool false)], args := [d1, d2, d3] }
  | _ => none }
def ScalarHeldWrongFalsely : Prop := scalarHeldRow.holds Try.pinned (OpenSpec.ofChange scalarHeldWrong)

/-- 'sandtablelaw01.ScalarSums': WHATEVER THE INPUT: true; the input reads as it did. -/
def scalarSumsSpec : ChangeSpec := { name := "scalarSums", fn := fun _ => fun
  | [d] => { results := [.lit (.bool true)], args := [d] }
  | _ => none }
def scalarSumsRow : OpenClaim := { program := "ytboniffcoohbjaa", sum := "39e1dbd48be98cd6029211ffdb311ff5799b9e55208139b087c18df85c79450b", func := "sandtable/sandtablelaw01.ScalarSums", spec := "scalarSums", apart := false }
def ScalarSumsSaid : Prop := scalarSumsRow.holds Try.pinned (OpenSpec.ofChange scalarSumsSpec)

/-- ITS FALSE NEIGHBOUR: 'it returns false'. Refute it at one input. -/
def scalarSumsWrong : ChangeSpec := { name := "scalarSums", fn := fun _ => fun
  | [d] => { results := [.lit (.bool false)], args := [d] }
  | _ => none }
def ScalarSumsWrongFalsely : Prop := scalarSumsRow.holds Try.pinned (OpenSpec.ofChange scalarSumsWrong)

/-- 'sandtablelaw01.ScalarBack': WHATEVER THE INPUT: true; the input reads as it did. -/
def scalarBackSpec : ChangeSpec := { name := "scalarBack", fn := fun _ => fun
  | [d1, d2] => { results := [.lit (.bool true)], args := [d1, d2] }
  | _ => none }
def scalarBackRow : OpenClaim := { program := "ytboniffcoohbjaa", sum := "39e1dbd48be98cd6029211ffdb311ff5799b9e55208139b087c18df85c79450b", func := "sandtable/sandtablelaw01.ScalarBack", spec := "scalarBack", apart := false }
def ScalarBackSaid : Prop := scalarBackRow.holds Try.pinned (OpenSpec.ofChange scalarBackSpec)

/-- ITS FALSE NEIGHBOUR: 'it returns false'. Refute it at one input. -/
def scalarBackWrong : ChangeSpec := { name := "scalarBack", fn := fun _ => fun
  | [d1, d2] => { results := [.lit (.bool false)], args := [d1, d2] }
  | _ => none }
def ScalarBackWrongFalsely : Prop := scalarBackRow.holds Try.pinned (OpenSpec.ofChange scalarBackWrong)

/-- 'sandtablelaw01.ScalarUps': WHATEVER THE INPUT: true; the input reads as it did. -/
def scalarUpsSpec : ChangeSpec := { name := "scalarUps", fn := fun _ => fun
  | [d1, d2, d3] => { results := [.lit (.bool true)], args := [d1, d2, d3] }
  | _ => none }
def scalarUpsRow : OpenClaim := { program := "ytboniffcoohbjaa", sum := "39e1dbd48be98cd6029211ffdb311ff5799b9e55208139b087c18df85c79450b", func := "sandtable/sandtablelaw01.ScalarUps", spec := "scalarUps", apart := false }
def ScalarUpsSaid : Prop := scalarUpsRow.holds Try.pinned (OpenSpec.ofChange scalarUpsSpec)

/-- ITS FALSE NEIGHBOUR: 'it returns false'. Refute it at one input. -/
def scalarUpsWrong : ChangeSpec := { name := "scalarUps", fn := fun _ => fun
  | [d1, d2, d3] => { results := [.lit (.bool false)], args := [d1, d2, d3] }
  | _ => none }
def ScalarUpsWrongFalsely : Prop := scalarUpsRow.holds Try.pinned (OpenSpec.ofChange scalarUpsWrong)

/-- 'sandtablelaw01.ScalarEnds': WHATEVER THE INPUT: true; the input reads as it did. -/
def scalarEndsSpec : ChangeSpec := { name := "scalarEnds", fn := fun _ => fun
  | [d1, d2, d3] => { results := [.lit (.bool true)], args := [d1, d2, d3] }
  | _ => none }
def scalarEndsRow : OpenClaim := { program := "ytboniffcoohbjaa", sum := "39e1dbd48be98cd6029211ffdb311ff5799b9e55208139b087c18df85c79450b", func := "sandtable/sandtablelaw01.ScalarEnds", spec := "scalarEnds", apart := false }
def ScalarEndsSaid : Prop := scalarEndsRow.holds Try.pinned (OpenSpec.ofChange scalarEndsSpec)

/-- ITS FALSE NEIGHBOUR: 'it returns false'. Refute it at one input. -/
def scalarEndsWrong : ChangeSpec := { name := "scalarEnds", fn := fun _ => fun
  | [d1, d2, d3] => { results := [.lit (.bool false)], args := [d1, d2, d3] }
  | _ => none }
def ScalarEndsWrongFalsely : Prop := scalarEndsRow.holds Try.pinned (OpenSpec.ofChange scalarEndsWrong)

/-- 'sandtablelaw01.ScalarTimes': WHATEVER THE INPUT: true; the input reads as it did. -/
def scalarTimesSpec : ChangeSpec := { name := "scalarTimes", fn := fun _ => fun
  | [d1, d2, d3] => { results := [.lit (.bool true)], args := [d1, d2, d3] }
  | _ => none }
def scalarTimesRow : OpenClaim := { program := "ytboniffcoohbjaa", sum := "39e1dbd48be98cd6029211ffdb311ff5799b9e55208139b087c18df85c79450b", func := "sandtable/sandtablelaw01.ScalarTimes", spec := "scalarTimes", apart := false }
def ScalarTimesSaid : Prop := scalarTimesRow.holds Try.pinned (OpenSpec.ofChange scalarTimesSpec)

/-- ITS FALSE NEIGHBOUR: 'it returns false'. Refute it at one input. -/
def scalarTimesWrong : ChangeSpec := { name := "scalarTimes", fn := fun _ => fun
  | [d1, d2, d3] => { results := [.lit (.bool false)], args := [d1, d2, d3] }
  | _ => none }
def ScalarTimesWrongFalsely : Prop := scalarTimesRow.holds Try.pinned (OpenSpec.ofChange scalarTimesWrong)

/-- 'sandtablelaw01.ScalarRows': WHATEVER THE INPUT: true; the input reads as it did. -/
def scalarRowsSpec : ChangeSpec := { name := "scalarRows", fn := fun _ => fun
  | [d1, d2] => { results := [.lit (.bool true)], args := [d1, d2] }
  | _ => none }
def scalarRowsRow : OpenClaim := { program := "ytboniffcoohbjaa", sum := "39e1dbd48be98cd6029211ffdb311ff5799b9e55208139b087c18df85c79450b", func := "sandtable/sandtablelaw01.ScalarRows", spec := "scalarRows", apart := false }
def ScalarRowsSaid : Prop := scalarRowsRow.holds Try.pinned (OpenSpec.ofChange scalarRowsSpec)

/-- ITS FALSE NEIGHBOUR: 'it returns false'. Refute it at one input. -/
def scalarRowsWrong : ChangeSpec := { name := "scalarRows", fn := fun _ => fun
  | [d1, d2] => { results := [.lit (.bool false)], args := [d1, d2] }
  | _ => none }
def ScalarRowsWrongFalsely : Prop := scalarRowsRow.holds Try.pinned (OpenSpec.ofChange scalarRowsWrong)

/-- 'sandtablelaw06.HeapPlays': WHATEVER THE INPUT: true; the input reads as it did. -/
def heapPlaysSpec : ChangeSpec := { name := "heapPlays", fn := fun _ => fun
  | [d] => { results := [.lit (.bool true)], args := [d] }
  | _ => none }
def heapPlaysRow : OpenClaim := { program := "ytboniffcoohbjaa", sum := "39e1dbd48be98cd6029211ffdb311ff5799b9e55208139b087c18df85c79450b", func := "sandtable/sandtablelaw06.HeapPlays", spec := "heapPlays", unfollowed := true, recurses := true, apart := false }
def HeapPlaysSaid : Prop := heapPlaysRow.holds Try.pinned (OpenSpec.ofChange heapPlaysSpec)

/-- ITS FALSE NEIGHBOUR: 'it returns false'. Refute it at one input. -/
def heapPlaysWrong : ChangeSpec := { name := "heapPlays", fn := fun _ => fun
  | [d] => { results := [.lit (.bool false)], args := [d] }
  | _ => none }
def HeapPlaysWrongFalsely : Prop := heapPlaysRow.holds Try.pinned (OpenSpec.ofChange heapPlaysWrong)

/-- 'sandtablelaw06.HeapSorts': WHATEVER THE INPUT: true; the input reads as it did. -/
def heapSortsSpec : ChangeSpec := { name := "heapSorts", fn := fun _ => fun
  | [d] => { results := [.lit (.bool true)], args := [d] }
  | _ => none }
def heapSortsRow : OpenClaim := { program := "ytboniffcoohbjaa", sum := "39e1dbd48be98cd6029211ffdb311ff5799b9e55208139b087c18df85c79450b", func := "sandtable/sandtablelaw06.HeapSorts", spec := "heapSorts", unfollowed := true, recurses := true, apart := false }
def HeapSortsSaid : Prop := heapSortsRow.holds Try.pinned (OpenSpec.ofChange heapSortsSpec)

/-- ITS FALSE NEIGHBOUR: 'it returns false'. Refute it at one input. -/
def heapSortsWrong : ChangeSpec := { name := "heapSorts", fn := fun _ => fun
  | [d] => { results := [.lit (.bool false)], args := [d] }
  | _ => none }
def HeapSortsWrongFalsely : Prop := heapSortsRow.holds Try.pinned (OpenSpec.ofChange heapSortsWrong)

/-- 'sandtablelaw06.HeapOrders': WHATEVER THE INPUT: true; the input reads as it did. -/
def heapOrdersSpec : ChangeSpec := { name := "heapOrders", fn := fun _ => fun
  | [d] => { results := [.lit (.bool true)], args := [d] }
  | _ => none }
def heapOrdersRow : OpenClaim := { program := "ytboniffcoohbjaa", sum := "39e1dbd48be98cd6029211ffdb311ff5799b9e55208139b087c18df85c79450b", func := "sandtable/sandtablelaw06.HeapOrders", spec := "heapOrders", unfollowed := true, recurses := true, apart := false }
def HeapOrdersSaid : Prop := heapOrdersRow.holds Try.pinned (OpenSpec.ofChange heapOrdersSpec)

/-- ITS FALSE NEIGHBOUR: 'it returns false'. Refute it at one input. -/
def heapOrdersWrong : ChangeSpec := { name := "heapOrders", fn := fun _ => fun
  | [d] => { results := [.lit (.bool false)], args := [d] }
  | _ => none }
def HeapOrdersWrongFalsely : Prop := heapOrdersRow.holds Try.pinned (OpenSpec.ofChange heapOrdersWrong)

/-- 'sandtablelaw06.HeapMixes': WHATEVER THE INPUT: true; the input reads as it did. -/
def heapMixesSpec : ChangeSpec := { name := "heapMixes", fn := fun _ => fun
  | [d1, d2] => { results := [.lit (.bool true)], args := [d1, d2] }
  | _ => none }
def heapMixesRow : OpenClaim := { program := "ytboniffcoohbjaa", sum := "39e1dbd48be98cd6029211ffdb311ff5799b9e55208139b087c18df85c79450b", func := "sandtable/sandtablelaw06.HeapMixes", spec := "heapMixes", unfollowed := true, recurses := true, apart := false }
def HeapMixesSaid : Prop := heapMixesRow.holds Try.pinned (OpenSpec.ofChange heapMixesSpec)

/-- ITS FALSE NEIGHBOUR: 'it returns false'. Refute it at one input. -/
def heapMixesWrong : ChangeSpec := { name := "heapMixes", fn := fun _ => fun
  | [d1, d2] => { results := [.lit (.bool false)], args := [d1, d2] }
  | _ => none }
def HeapMixesWrongFalsely : Prop := heapMixesRow.holds Try.pinned (OpenSpec.ofChange heapMixesWrong)

/- THE SECOND FORM. 'bulk': how many values and letters a reading holds, each counted each time it is reached (what is shared counts as often as it is met; a slice's spare places count too). A statement '..UptoSaid' is the law's where the arguments, and the package variables that the reading takes, are together of bulk at most 1048576: NARROWER than '..Said'. Prove '..Said' where nothing that the law and all that it calls make is longer than what came in: it says more and counts as full. Else prove '..UptoSaid'. A law counts once. -/
mutual
def uptoBulk {H : Type} : DataW H → Nat
  | .lit (.string bytes) => bytes.length + 1
  | .lit _ => 1
  | .nil => 1
  | .ptr d => uptoBulk d + 1
  | .slice elems spare => uptoBulkAll elems + uptoBulkAll spare + 1
  | .agg parts => uptoBulkAll parts + 1
  | .iface _ d => uptoBulk d + 1
  | .map entries => uptoBulkEntries entries + 1
  | .held _ => 1
def uptoBulkAll {H : Type} : List (DataW H) → Nat
  | [] => 0
  | d :: r => uptoBulk d + uptoBulkAll r
def uptoBulkEntries {H : Type} : List (Lit × DataW H) → Nat
  | [] => 0
  | x :: r => uptoBulkEntry x + uptoBulkEntries r
def uptoBulkEntry {H : Type} : Lit × DataW H → Nat
  | (.string bytes, d) => bytes.length + uptoBulk d + 1
  | (_, d) => uptoBulk d + 1
 end
def uptoSmall : (H : Type) → List (DataW H) → Bool := fun _ ds => decide (uptoBulkAll ds ≤ 1048576)
def OpenSpec.upto (s : _root_.Go.ChangeSpec) : _root_.Go.OpenSpec := { _root_.Go.OpenSpec.ofChange s with cond := some uptoSmall }

/-- 'sandtablelaw01.ScalarTwo', WHERE WHAT IT READS IS OF BULK AT MOST 1048576: true; the input reads as it did. -/
def scalarTwoUptoRow : OpenClaim := { program := "ytboniffcoohbjaa", sum := "39e1dbd48be98cd6029211ffdb311ff5799b9e55208139b087c18df85c79450b", func := "sandtable/sandtablelaw01.ScalarTwo", spec := "scalarTwo", recurses := true, apart := false, narrowed := true }
def ScalarTwoUptoSaid : Prop := scalarTwoUptoRow.holds Try.pinned (OpenSpec.upto scalarTwoSpec)

/-- 'sandtablelaw01.ScalarHeld', WHERE WHAT IT READS IS OF BULK AT MOST 1048576: true; the input reads as it did. -/
def scalarHeldUptoRow : OpenClaim := { program := "ytboniffcoohbjaa", sum := "39e1dbd48be98cd6029211ffdb311ff5799b9e55208139b087c18df85c79450b", func := "sandtable/sandtablelaw01.ScalarHeld", spec := "scalarHeld", apart := false, narrowed := true }
def ScalarHeldUptoSaid : Prop := scalarHeldUptoRow.holds Try.pinned (OpenSpec.upto scalarHeldSpec)

/-- 'sandtablelaw01.ScalarSums', WHERE WHAT IT READS IS OF BULK AT MOST 1048576: true; the input reads as it did. -/
def scalarSumsUptoRow : OpenClaim := { program := "ytboniffcoohbjaa", sum := "39e1dbd48be98cd6029211ffdb311ff5799b9e55208139b087c18df85c79450b", func := "sandtable/sandtablelaw01.ScalarSums", spec := "scalarSums", apart := false, narrowed := true }
def ScalarSumsUptoSaid : Prop := scalarSumsUptoRow.holds Try.pinned (OpenSpec.upto scalarSumsSpec)

/-- 'sandtablelaw01.ScalarBack', WHERE WHAT IT READS IS OF BULK AT MOST 1048576: true; the input reads as it did. -/
def scalarBackUptoRow : OpenClaim := { program := "ytboniffcoohbjaa", sum := "39e1dbd48be98cd6029211ffdb311ff5799b9e55208139b087c18df85c79450b", func := "sandtable/sandtablelaw01.ScalarBack", spec := "scalarBack", apart := false, narrowed := true }
def ScalarBackUptoSaid : Prop := scalarBackUptoRow.holds Try.pinned (OpenSpec.upto scalarBackSpec)

/-- 'sandtablelaw01.ScalarUps', WHERE WHAT IT READS IS OF BULK AT MOST 1048576: true; the input reads as it did. -/
def scalarUpsUptoRow : OpenClaim := { program := "ytboniffcoohbjaa", sum := "39e1dbd48be98cd6029211ffdb311ff5799b9e55208139b087c18df85c79450b", func := "sandtable/sandtablelaw01.ScalarUps", spec := "scalarUps", apart := false, narrowed := true }
def ScalarUpsUptoSaid : Prop := scalarUpsUptoRow.holds Try.pinned (OpenSpec.upto scalarUpsSpec)

/-- 'sandtablelaw01.ScalarEnds', WHERE WHAT IT READS IS OF BULK AT MOST 1048576: true; the input reads as it did. -/
def scalarEndsUptoRow : OpenClaim := { program := "ytboniffcoohbjaa", sum := "39e1dbd48be98cd6029211ffdb311ff5799b9e55208139b087c18df85c79450b", func := "sandtable/sandtablelaw01.ScalarEnds", spec := "scalarEnds", apart := false, narrowed := true }
def ScalarEndsUptoSaid : Prop := scalarEndsUptoRow.holds Try.pinned (OpenSpec.upto scalarEndsSpec)

/-- 'sandtablelaw01.ScalarTimes', WHERE WHAT IT READS IS OF BULK AT MOST 1048576: true; the input reads as it did. -/
def scalarTimesUptoRow : OpenClaim := { program := "ytboniffcoohbjaa", sum := "39e1dbd48be98cd6029211ffdb311ff5799b9e55208139b087c18df85c79450b", func := "sandtable/sandtablelaw01.ScalarTimes", spec := "scalarTimes", apart := false, narrowed := true }
def ScalarTimesUptoSaid : Prop := scalarTimesUptoRow.holds Try.pinned (OpenSpec.upto scalarTimesSpec)

/-- 'sandtablelaw01.ScalarRows', WHERE WHAT IT READS IS OF BULK AT MOST 1048576: true; the input reads as it did. -/
def scalarRowsUptoRow : OpenClaim := { program := "ytboniffcoohbjaa", sum := "39e1dbd48be98cd6029211ffdb311ff5799b9e55208139b087c18df85c79450b", func := "sandtable/sandtablelaw01.ScalarRows", spec := "scalarRows", apart := false, narrowed := true }
def ScalarRowsUptoSaid : Prop := scalarRowsUptoRow.holds Try.pinned (OpenSpec.upto scalarRowsSpec)

/-- 'sandtablelaw06.HeapPlays', WHERE WHAT IT READS IS OF BULK AT MOST 1048576: true; the input reads as it did. -/
def heapPlaysUptoRow : OpenClaim := { program := "ytboniffcoohbjaa", sum := "39e1dbd48be98cd6029211ffdb311ff5799b9e55208139b087c18df85c79450b", func := "sandtable/sandtablelaw06.HeapPlays", spec := "heapPlays", unfollowed := true, recurses := true, apart := false, narrowed := true }
def HeapPlaysUptoSaid : Prop := heapPlaysUptoRow.holds Try.pinned (OpenSpec.upto heapPlaysSpec)

/-- 'sandtablelaw06.HeapSorts', WHERE WHAT IT READS IS OF BULK AT MOST 1048576: true; the input reads as it did. -/
def heapSortsUptoRow : OpenClaim := { program := "ytboniffcoohbjaa", sum := "39e1dbd48be98cd6029211ffdb311ff5799b9e55208139b087c18df85c79450b", func := "sandtable/sandtablelaw06.HeapSorts", spec := "heapSorts", unfollowed := true, recurses := true, apart := false, narrowed := true }
def HeapSortsUptoSaid : Prop := heapSortsUptoRow.holds Try.pinned (OpenSpec.upto heapSortsSpec)

/-- 'sandtablelaw06.HeapOrders', WHERE WHAT IT READS IS OF BULK AT MOST 1048576: true; the input reads as it did. -/
def heapOrdersUptoRow : OpenClaim := { program := "ytboniffcoohbjaa", sum := "39e1dbd48be98cd6029211ffdb311ff5799b9e55208139b087c18df85c79450b", func := "sandtable/sandtablelaw06.HeapOrders", spec := "heapOrders", unfollowed := true, recurses := true, apart := false, narrowed := true }
def HeapOrdersUptoSaid : Prop := heapOrdersUptoRow.holds Try.pinned (OpenSpec.upto heapOrdersSpec)

/-- 'sandtablelaw06.HeapMixes', WHERE WHAT IT READS IS OF BULK AT MOST 1048576: true; the input reads as it did. -/
def heapMixesUptoRow : OpenClaim := { program := "ytboniffcoohbjaa", sum := "39e1dbd48be98cd6029211ffdb311ff5799b9e55208139b087c18df85c79450b", func := "sandtable/sandtablelaw06.HeapMixes", spec := "heapMixes", unfollowed := true, recurses := true, apart := false, narrowed := true }
def HeapMixesUptoSaid : Prop := heapMixesUptoRow.holds Try.pinned (OpenSpec.upto heapMixesSpec)

end Rows
end Go.Proofs.Ytboniffcoohbjaa
