/- A row of numbers that lies in memory and is read. Nothing of the program is named. -/
import Derived.Test.YthgbahlkflmgiaaScBase
import Derived.OpenShut
import Derived.WalkKit
namespace Go.Proofs.Ythgbahlkflmgiaa.Sc
open Go Go.RowKit Go.WideShapes Go.ChangeShapes

/-- A row of numbers that lies in memory and is read. -/
def Reads (w : World) (K : IntKind) (A : Option Addr) (zs : List Int) : Prop :=
  zs = [] ∨ ∃ b off, A = some ⟨b, off, none⟩ ∧ ∀ j, j < zs.length → w.cell? ⟨b, off + j, none⟩ = some (.int K (zs[j]?.getD 0))

theorem reads_of_open {w : World} {K : IntKind} {x : Addr} {n c : Nat} {zs : List Int} (hl : n ≤ c) (hm : c ≤ maxLen) (hz : zs.length = c)
    (hc : ∀ i, i < zs.length → w.cell? (x.add i) = some (.int K (zs.getD i 0))) (hw : ∀ z ∈ zs, (Lit.int .i64 z).wf = true) :
    ∃ l : List Int, l.length = n ∧ l.length ≤ maxLen ∧ (∀ z ∈ l, I64 z) ∧ Reads w K (some x) l := by
  refine ⟨zs.take n, by rw [List.length_take]; omega, by rw [List.length_take]; omega, fun z h => I64.of_wf (hw z (List.mem_of_mem_take h)), ?_⟩
  by_cases h0 : n = 0
  · exact .inl (by rw [h0]; rfl)
  · obtain ⟨b, off, rfl, hcc⟩ := ints_at hc (by omega)
    refine .inr ⟨b, off, rfl, fun j hj => ?_⟩
    rw [List.length_take] at hj
    rw [hcc j (by omega), List.getElem?_take_of_lt (by omega)]
    simp

end Go.Proofs.Ythgbahlkflmgiaa.Sc
