/-
  No cell of these rows narrows 'for every input' (looked for: loops, veiled, ifaces, maps, wideKeys, modest, calm, conditions, laid).
  DERIVED. THE GIVEN ROWS OF THIS SEAT. 5 by the template 'for every input the law returns true; each argument reads behind the call as it read before'; 0 by the template 'total and deterministic' (their statements: YtehecolejeonaaaTotals.lean).
  GIVEN WITH THE SEED: the statements are not yours to turn. If you find one false, say at which input.
  Laid BY PROGRAM, IN A SANDBOX (cutbox-rows.mjs): the forced cells as the released guide's own fill.sh prints them over the translation 38804d48203cdb8d… (all of the seat's roots in one cut). By AI agents, Wed Nov 11 2026. No macro, syntax, notation, axiom, sorry.
-/
import Derived.Test.YtehecolejeonaaaChecked
import GoSem.Claim
import GoSem.ClaimJoined
import GoSem.ClaimMapViews
import Derived.JoinedTies
import Derived.KernelRfl
namespace Go.Proofs.Ytehecolejeonaaa
/- THE CELL 'sum', in the pinned program and in every row, IS THE sha256 OF THE DUMP (.gsa) THAT YtehecolejeonaaaProg.lean LOADS. Nothing in Lean hashes anything: it is a label: what it is worth is what the hold of that sum in a sandbox is worth. -/
noncomputable def Try.pinned : Pinned := { name := "ytehecolejeonaaa", sum := "38804d48203cdb8dd4bec98f0f60460c4e358459044e4fc42141fcfe1b28388e", checked := Try.checked }
namespace Rows
def none {H : Type} : Left H := { results := [], args := [] }

/-- 'sandtablelaw15.ModelChecks': WHATEVER THE INPUT: true; the input reads as it did. -/
def modelChecksSpec : ChangeSpec := { name := "modelChecks", fn := fun _ => fun
  | [d1, d2, d3, d4] => { results := [.lit (.bool true)], args := [d1, d2, d3, d4] }
  | _ => none }
def modelChecksRow : OpenClaim := { program := "ytehecolejeonaaa", sum := "38804d48203cdb8dd4bec98f0f60460c4e358459044e4fc42141fcfe1b28388e", func := "sandtable/sandtablelaw15.ModelChecks", spec := "modelChecks", unfollowed := true, recurses := true, apart := false }
def ModelChecksSaid : Prop := modelChecksRow.holds Try.pinned (OpenSpec.ofChange modelChecksSpec)

/-- ITS FALSE NEIGHBOUR: 'it returns false'. Refute it at one input. -/
def modelChecksWrong : ChangeSpec := { name := "modelChecks", fn := fun _ => fun
  | [d1, d2, d3, d4] => { results := [.lit (.bool false)], args := [d1, d2, d3, d4] }
  | _ => none }
def ModelChecksWrongFalsely : Prop := modelChecksRow.holds Try.pinned (OpenSpec.ofChange modelChecksWrong)

/-- 'sandtablelaw15.ModelMany': WHATEVER THE INPUT: true; the input reads as it did. -/
def modelManySpec : ChangeSpec := { name := "modelMany", fn := fun _ => fun
  | [d1, d2] => { results := [.lit (.bool true)], args := [d1, d2] }
  | _ => none }
def modelManyRow : OpenClaim := { program := "ytehecolejeonaaa", sum := "38804d48203cdb8dd4bec98f0f60460c4e358459044e4fc42141fcfe1b28388e", func := "sandtable/sandtablelaw15.ModelMany", spec := "modelMany", unfollowed := true, recurses := true, apart := false }
def ModelManySaid : Prop := modelManyRow.holds Try.pinned (OpenSpec.ofChange modelManySpec)

/-- ITS FALSE NEIGHBOUR: 'it returns false'. Refute it at one input. -/
def modelManyWrong : ChangeSpec := { name := "modelMany", fn := fun _ => fun
  | [d1, d2] => { results := [.lit (.bool false)], args := [d1, d2] }
  | _ => none }
def ModelManyWrongFalsely : Prop := modelManyRow.holds Try.pinned (OpenSpec.ofChange modelManyWrong)

/-- 'sandtablelaw15.ModelLess': WHATEVER THE INPUT: true; the input reads as it did. -/
def modelLessSpec : ChangeSpec := { name := "modelLess", fn := fun _ => fun
  | [d] => { results := [.lit (.bool true)], args := [d] }
  | _ => none }
def modelLessRow : OpenClaim := { program := "ytehecolejeonaaa", sum := "38804d48203cdb8dd4bec98f0f60460c4e358459044e4fc42141fcfe1b28388e", func := "sandtable/sandtablelaw15.ModelLess", spec := "modelLess", unfollowed := true, recurses := true, apart := false }
def ModelLessSaid : Prop := modelLessRow.holds Try.pinned (OpenSpec.ofChange modelLessSpec)

/-- ITS FALSE NEIGHBOUR: 'it returns false'. Refute it at one input. -/
def modelLessWrong : ChangeSpec := { name := "modelLess", fn := fun _ => fun
  | [d] => { results := [.lit (.bool false)], args := [d] }
  | _ => none }
def ModelLessWrongFalsely : Prop := modelLessRow.holds Try.pinned (OpenSpec.ofChange modelLessWrong)

/-- 'sandtablelaw15.ModelMore': WHATEVER THE INPUT: true; the input reads as it did. -/
def modelMoreSpec : ChangeSpec := { name := "modelMore", fn := fun _ => fun
  | [d1, d2] => { results := [.lit (.bool true)], args := [d1, d2] }
  | _ => none }
def modelMoreRow : OpenClaim := { program := "ytehecolejeonaaa", sum := "38804d48203cdb8dd4bec98f0f60460c4e358459044e4fc42141fcfe1b28388e", func := "sandtable/sandtablelaw15.ModelMore", spec := "modelMore", unfollowed := true, recurses := true, apart := false }
def ModelMoreSaid : Prop := modelMoreRow.holds Try.pinned (OpenSpec.ofChange modelMoreSpec)

/-- ITS FALSE NEIGHBOUR: 'it returns false'. Refute it at one input. -/
def modelMoreWrong : ChangeSpec := { name := "modelMore", fn := fun _ => fun
  | [d1, d2] => { results := [.lit (.bool false)], args := [d1, d2] }
  | _ => none }
def ModelMoreWrongFalsely : Prop := modelMoreRow.holds Try.pinned (OpenSpec.ofChange modelMoreWrong)

/-- 'sandtablelaw15.ModelTurns': WHATEVER THE INPUT: true; the input reads as it did. -/
def modelTurnsSpec : ChangeSpec := { name := "modelTurns", fn := fun _ => fun
  | [d1, d2] => { results := [.lit (.bool true)], args := [d1, d2] }
  | _ => none }
def modelTurnsRow : OpenClaim := { program := "ytehecolejeonaaa", sum := "38804d48203cdb8dd4bec98f0f60460c4e358459044e4fc42141fcfe1b28388e", func := "sandtable/sandtablelaw15.ModelTurns", spec := "modelTurns", unfollowed := true, recurses := true, apart := false }
def ModelTurnsSaid : Prop := modelTurnsRow.holds Try.pinned (OpenSpec.ofChange modelTurnsSpec)

/-- ITS FALSE NEIGHBOUR: 'it returns false'. Refute it at one input. -/
def modelTurnsWrong : ChangeSpec := { name := "modelTurns", fn := fun _ => fun
  | [d1, d2] => { results := [.lit (.bool false)], args := [d1, d2] }
  | _ => none }
def ModelTurnsWrongFalsely : Prop := modelTurnsRow.holds Try.pinned (OpenSpec.ofChange modelTurnsWrong)

/- THE SECOND FORM. 'bulk': how many values and letters a reading holds, each counted each time it is reached (what is shared counts as often as it is met; a slice's spare places count too). A statement '..UptoSaid' is the law's where the arguments, and the package variables that the reading takes, are together of bulk at most 1048576: NARROWER than '..Said'. Prove '..Said' where nothing that the law and all that it calls make is longer than what came in: it says more and counts as full. Else prove '..UptoSaid'. A law counts once. -/
mutual
def uptoBulk {H : Type} : DataW H → Nat
  | .lit (.string bytes) => bytes.length + 1
  | .lit _ => 1
  | .nil => 1
  | .ptr d => uptoBulk d + 1
  | .slice elems spare => uptoBulkAll elems + uptoBulkAll spare + 1
  | .agg parts => uptoBulkAll parts + 1
  | .iface _ d => uptoBulk d + 1
  | .map entries => uptoBulkEntries entries + 1
  | .held _ => 1
def uptoBulkAll {H : Type} : List (DataW H) → Nat
  | [] => 0
  | d :: r => uptoBulk d + uptoBulkAll r
def uptoBulkEntries {H : Type} : List (Lit × DataW H) → Nat
  | [] => 0
  | x :: r => uptoBulkEntry x + uptoBulkEntries r
def uptoBulkEntry {H : Type} : Lit × DataW H → Nat
  | (.string bytes, d) => bytes.length + uptoBulk d + 1
  | (_, d) => uptoBulk d + 1
 end
def uptoSmall : (H : Type) → List (DataW H) → Bool := fun _ ds => decide (uptoBulkAll ds ≤ 1048576)
def OpenSpec.upto (s : _root_.Go.ChangeSpec) : _root_.Go.OpenSpec := { _root_.Go.OpenSpec.ofChange s with cond := some uptoSmall }

/-- 'sandtablelaw15.ModelChecks', WHERE WHAT IT READS IS OF BULK AT MOST 1048576: true; the input reads as it did. -/
def modelChecksUptoRow : OpenClaim := { program := "ytehecolejeonaaa", sum := "38804d48203cdb8dd4bec98f0f60460c4e358459044e4fc42141fcfe1b28388e", func := "sandtable/sandtablelaw15.ModelChecks", spec := "modelChecks", unfollowed := true, recurses := true, apart := false, narrowed := true }
def ModelChecksUptoSaid : Prop := modelChecksUptoRow.holds Try.pinned (OpenSpec.upto modelChecksSpec)

/-- 'sandtablelaw15.ModelMany', WHERE WHAT IT READS IS OF BULK AT MOST 1048576: true; the input reads as it did. -/
def modelManyUptoRow : OpenClaim := { program := "ytehecolejeonaaa", sum := "38804d48203cdb8dd4bec98f0f60460c4e358459044e4fc42141fcfe1b28388e", func := "sandtable/sandtablelaw15.ModelMany", spec := "modelMany", unfollowed := true, recurses := true, apart := false, narrowed := true }
def ModelManyUptoSaid : Prop := modelManyUptoRow.holds Try.pinned (OpenSpec.upto modelManySpec)

/-- 'sandtablelaw15.ModelLess', WHERE WHAT IT READS IS OF BULK AT MOST 1048576: true; the input reads as it did. -/
def modelLessUptoRow : OpenClaim := { program := "ytehecolejeonaaa", sum := "38804d48203cdb8dd4bec98f0f60460c4e358459044e4fc42141fcfe1b28388e", func := "sandtable/sandtablelaw15.ModelLess", spec := "modelLess", unfollowed := true, recurses := true, apart := false, narrowed := true }
def ModelLessUptoSaid : Prop := modelLessUptoRow.holds Try.pinned (OpenSpec.upto modelLessSpec)

/-- 'sandtablelaw15.ModelMore', WHERE WHAT IT READS IS OF BULK AT MOST 1048576: true; the input reads as it did. -/
def modelMoreUptoRow : OpenClaim := { program := "ytehecolejeonaaa", sum := "38804d48203cdb8dd4bec98f0f60460c4e358459044e4fc42141fcfe1b28388e", func := "sandtable/sandtablelaw15.ModelMore", spec := "modelMore", unfollowed := true, recurses := true, apart := false, narrowed := true }
def ModelMoreUptoSaid : Prop := modelMoreUptoRow.holds Try.pinned (OpenSpec.upto modelMoreSpec)

/-- 'sandtablelaw15.ModelTurns', WHERE WHAT IT READS IS OF BULK AT MOST 1048576: true; the input reads as it did. -/
def modelTurnsUptoRow : OpenClaim := { program := "ytehecolejeonaaa", sum := "38804d48203cdb8dd4bec98f0f60460c4e358459044e4fc42141fcfe1b28388e", func := "sandtable/sandtablelaw15.ModelTurns", spec := "modelTurns", unfollowed := true, recurses := true, apart := false, narrowed := true }
def ModelTurnsUptoSaid : Prop := modelTurnsUptoRow.holds Try.pinned (OpenSpec.upto modelTurnsSpec)

end Rows
end Go.Proofs.Ytehecolejeonaaa
