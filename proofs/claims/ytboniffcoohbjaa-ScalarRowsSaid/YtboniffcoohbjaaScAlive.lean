/- The statements' own example of package scalar holds. No conditions. -/
import Derived.Test.YtboniffcoohbjaaScMore
import Derived.Below
namespace Go.Proofs.Ytboniffcoohbjaa.Sc
open Go Go.RowKit

theorem alive_m1 (w : World) : Calls Try.prog 20 #[.int .i64 4294967296, .int .i64 2147483648] w fun e w' => e = .returned (.tuple #[.int .i64 0, .bool false]) ∧ w = w' :=
  Mul_calls 4294967296 2147483648 w (by unfold I64; omega) (by unfold I64; omega)
theorem alive_m2 (w : World) : Calls Try.prog 20 #[.int .i64 (-4294967296), .int .i64 2147483648] w fun e w' => e = .returned (.tuple #[.int .i64 (-9223372036854775808), .bool true]) ∧ w = w' :=
  Mul_calls (-4294967296) 2147483648 w (by unfold I64; omega) (by unfold I64; omega)
theorem alive_d (w : World) : Calls Try.prog 18 #[.int .i64 (-9223372036854775808), .int .i64 1] w fun e w' => e = .returned (.tuple #[.int .i64 0, .bool false]) ∧ w = w' :=
  Sub_calls (-9223372036854775808) 1 w (by unfold I64; omega) (by unfold I64; omega)
theorem alive_a (w : World) : Calls Try.prog 16 #[.int .i64 2, .int .i64 3] w fun e w' => e = .returned (.tuple #[.int .i64 5, .bool true]) ∧ w = w' :=
  Add_calls 2 3 w (by unfold I64; omega) (by unfold I64; omega)
theorem alive_u (w : World) : Calls Try.prog 22 #[.int .i64 7, .int .i64 2] w fun e w' => e = .returned (.int .i64 4) ∧ w = w' :=
  Up_calls 7 2 w (by unfold I64; omega) (by unfold I64; omega)
theorem alive_c (w : World) : Calls Try.prog 24 #[.int .i64 9, .int .i64 1, .int .i64 3] w fun e w' => e = .returned (.int .i64 3) ∧ w = w' :=
  Clamp_calls 9 1 3 w
theorem alive_w (w : World) : Calls Try.prog 25 #[.int .i64 3, .int .i64 1, .int .i64 3] w fun e w' => e = .returned (.bool true) ∧ w = w' :=
  Within_calls 3 1 3 w
theorem alive_s (A : Option Addr) (cap : Nat) (w : World) (hr : Reads w .i64 A [3, -1]) : Calls Try.prog 42 #[.slice A 2 cap] w fun e w' => e = .returned (.tuple #[.int .i64 2, .bool true]) ∧ w = w' :=
  SumInt_calls [3, -1] A cap w (by simp) (by unfold I64; intro z hz; simp at hz; omega) hr

theorem reads_two (w : World) (K : IntKind) (a b : Int) (t : TypeId) : Reads (w.alloc (.cells #[.int K a, .int K b] t)) K (some ⟨w.heap.size, 0, none⟩) [a, b] := by
  refine .inr ⟨_, 0, rfl, fun j hj => ?_⟩
  rw [Nat.zero_add, World.cell?_alloc_new]
  have : j = 0 ∨ j = 1 := by simp at hj; omega
  rcases this with rfl | rfl <;> rfl

set_option maxHeartbeats 1000000 in
theorem alive_calls (w : World) : Calls Try.prog 15 #[] w fun e w' => e = .returned (.bool true) ∧ Below w.heap.size w w' := by
  go_enter Try.func15, Try.ntmps15
  go_wp2_with fail
  refine (alive_m1 _).mono ?_
  rintro e w1 ⟨rfl, rfl⟩
  go_wp2_with fail
  refine (alive_m2 _).mono ?_
  rintro e w1 ⟨rfl, rfl⟩
  go_wp2_with fail
  refine (alive_s _ _ _ (reads_two w .i64 3 (-1) _)).mono ?_
  rintro e w1 ⟨rfl, rfl⟩
  go_wp2_with fail
  refine (alive_d _).mono ?_
  rintro e w1 ⟨rfl, rfl⟩
  go_wp2_with fail
  refine (alive_a _).mono ?_
  rintro e w1 ⟨rfl, rfl⟩
  go_wp2_with fail
  refine (alive_u _).mono ?_
  rintro e w1 ⟨rfl, rfl⟩
  go_wp2_with fail
  refine (alive_c _).mono ?_
  rintro e w1 ⟨rfl, rfl⟩
  go_wp2_with fail
  refine (alive_w _).mono ?_
  rintro e w1 ⟨rfl, rfl⟩
  go_wp2
  go_ret
  exact ⟨rfl, (Below.refl _ _).alloc (Nat.le_refl _) _⟩
end Go.Proofs.Ytboniffcoohbjaa.Sc
