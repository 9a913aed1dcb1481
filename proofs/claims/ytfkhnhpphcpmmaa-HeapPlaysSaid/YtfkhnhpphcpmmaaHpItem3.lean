/- The walks of package heap at the element type sandtable/sandtableref06.Item, third part: Peek, Push, Pop, New. Conditions: 'less' answers an order and turns nothing. -/
import Derived.Test.YtfkhnhpphcpmmaaHpItem2
namespace Go.Proofs.Ytfkhnhpphcpmmaa.HpItem
open Go Go.RowKit Go.Proofs.Ytfkhnhpphcpmmaa.Lb Go.Proofs.Ytfkhnhpphcpmmaa.HpPure
set_option linter.unusedVariables false
set_option linter.unusedSimpArgs false

theorem Peek_none {w : World} {base h lf : Nat} {lcap : Array Value} {v : Value} {xs : List (It × Int)} {seq : Int} (H : IsHeap w base h lf lcap v xs seq) (hx : xs = []) :
    Calls Try.prog 15 #[.pointer (some ⟨h, 0, none⟩)] w fun e w' => e = .returned (.tuple #[.agg #[.int .i64 0, .int .i64 0], .bool false]) ∧ Kept Nil w w' := by
  obtain ⟨c0, c1, c2, cf, hh⟩ := H.cells
  obtain ⟨A, cap, rfl⟩ := H.slice
  subst hx
  clear H c0 c2
  go_enter Try.func15, Try.ntmps15
  go_wp2
  refine bodyPost_ret (v := .tuple #[.agg #[.int .i64 0, .int .i64 0], .bool false]) (by simp [results, Try.results15, go_sem]) rfl ⟨rfl, ?_⟩
  repeat (first | exact Kept.refl _ _ | refine Kept.drew ?_ | refine Kept.alloc ?_ _)

theorem Peek_some {w : World} {base h lf : Nat} {lcap : Array Value} {v : Value} {xs : List (It × Int)} {seq : Int} (H : IsHeap w base h lf lcap v xs seq) {a0 : Int} {a1 : Int} {a2 : Int} (hx : xs[0]? = some (⟨a0, a1⟩, a2)) :
    Calls Try.prog 15 #[.pointer (some ⟨h, 0, none⟩)] w fun e w' => e = .returned (.tuple #[.agg #[.int .i64 a0, .int .i64 a1], .bool true]) ∧ Kept Nil w w' := by
  have hn := (List.getElem?_eq_some_iff.1 hx).1
  obtain ⟨c0, c1, c2, cf, hh⟩ := H.cells
  obtain ⟨g, cap, rfl, hbg, hne, hgs, hcap, hm, hf⟩ := H.row hn
  obtain ⟨a0c, a1c, a2c⟩ := H.at rfl hx
  have hfew := H.few
  have hlb : ((xs.length : Int) == 0) = false := beq_eq_false_iff_ne.2 (by omega)
  simp only [Nat.zero_mul, Nat.zero_add] at a0c a1c a2c
  clear H c0 c2 hx
  generalize xs.length = n at *
  go_enter Try.func15, Try.ntmps15
  go_wp2
  refine bodyPost_ret (v := .tuple #[.agg #[.int .i64 a0, .int .i64 a1], .bool true]) (by simp [results, Try.results15, go_sem]) rfl ⟨rfl, ?_⟩
  repeat (first | exact Kept.refl _ _ | refine Kept.drew ?_ | refine Kept.alloc ?_ _)

theorem New_is (lf : Nat) (lcap : Array Value) (w : World) : Calls Try.prog 9 #[.func (.func lf) #[] lcap] w fun e w' => e = .returned (.pointer (some ⟨w.heap.size, 0, none⟩)) ∧ IsHeap w' w.heap.size w.heap.size lf lcap (.slice none 0 0) [] 0 ∧ Kept Nil w w' := by
  go_enter Try.func9, Try.ntmps9
  go_wp2
  go_ret
  exact ⟨rfl, ⟨Nat.le_refl _, heap_new _ _, World.ownsRow_nil _ _ _ _, by simp [Value.ownBlock], by simp⟩, (Kept.refl _ _).alloc _⟩

end Go.Proofs.Ytfkhnhpphcpmmaa.HpItem
