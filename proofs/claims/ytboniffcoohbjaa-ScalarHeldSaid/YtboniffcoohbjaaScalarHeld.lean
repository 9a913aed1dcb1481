/- ScalarHeld's walk: of all numbers and bounds the law returns true. Conditions: the numbers lie in int64's range. -/
import Derived.Test.YtboniffcoohbjaaScAlive
namespace Go.Proofs.Ytboniffcoohbjaa.Sc
open Go Go.RowKit
set_option linter.unusedVariables false
set_option linter.unusedSimpArgs false
theorem ScalarHeld_calls (n low high : Int) (w : World) (h1 : I64 n) (h2 : I64 low) (h3 : I64 high) :
    Calls Try.prog 4 #[.int .i64 n, .int .i64 low, .int .i64 high] w fun e w' => e = .returned (.bool true) ∧ Below w.heap.size w w' := by
  clear h1 h2 h3
  have hC := fun w => Clamp_calls n low high w
  have hW := fun w => Within_calls n low high w
  unfold clampS at hC
  unfold withinS at hW
  by_cases h1 : high < n
  · by_cases h2 : high < low
    · by_cases h3 : low ≤ n
      · try omega
        all_goals
          have hC' : ∀ w, Calls Try.prog 24 #[.int .i64 n, .int .i64 low, .int .i64 high] w fun e w' => e = .returned (.int .i64 low) ∧ w = w' := fun w => by
            have := hC w; rwa [if_pos h1, if_pos h2] at this
          have hW' : ∀ w, Calls Try.prog 25 #[.int .i64 n, .int .i64 low, .int .i64 high] w fun e w' => e = .returned (.bool false) ∧ w = w' := fun w => by
            have := hW w; rwa [decide_eq_false (by omega)] at this
          have HC := Lib.hid hC'
          have HW := Lib.hid hW'
          clear hC hW hC' hW'
          have hb1 : decide (n ≤ high) = false := by simp; omega
          go_enter Try.func4, Try.ntmps4
          go_wp2_with fail
          refine (alive_calls _).mono ?_
          rintro e w1 ⟨rfl, hb⟩
          go_wp2_with fail
          refine (HC.out _).mono ?_
          rintro e w1 ⟨rfl, rfl⟩
          go_wp2_with fail
          refine (HW.out _).mono ?_
          rintro e w1 ⟨rfl, rfl⟩
          go_wp2
          go_ret
          exact ⟨rfl, hb⟩
      · try omega
        all_goals
          have hC' : ∀ w, Calls Try.prog 24 #[.int .i64 n, .int .i64 low, .int .i64 high] w fun e w' => e = .returned (.int .i64 low) ∧ w = w' := fun w => by
            have := hC w; rwa [if_pos h1, if_pos h2] at this
          have hW' : ∀ w, Calls Try.prog 25 #[.int .i64 n, .int .i64 low, .int .i64 high] w fun e w' => e = .returned (.bool false) ∧ w = w' := fun w => by
            have := hW w; rwa [decide_eq_false (by omega)] at this
          have HC := Lib.hid hC'
          have HW := Lib.hid hW'
          clear hC hW hC' hW'
          have hb1 : decide (n ≤ high) = false := by simp; omega
          go_enter Try.func4, Try.ntmps4
          go_wp2_with fail
          refine (alive_calls _).mono ?_
          rintro e w1 ⟨rfl, hb⟩
          go_wp2_with fail
          refine (HC.out _).mono ?_
          rintro e w1 ⟨rfl, rfl⟩
          go_wp2_with fail
          refine (HW.out _).mono ?_
          rintro e w1 ⟨rfl, rfl⟩
          go_wp2
          go_ret
          exact ⟨rfl, hb⟩
    · by_cases h3 : low ≤ n
      · try omega
        all_goals
          have hC' : ∀ w, Calls Try.prog 24 #[.int .i64 n, .int .i64 low, .int .i64 high] w fun e w' => e = .returned (.int .i64 high) ∧ w = w' := fun w => by
            have := hC w; rwa [if_pos h1, if_neg h2] at this
          have hW' : ∀ w, Calls Try.prog 25 #[.int .i64 n, .int .i64 low, .int .i64 high] w fun e w' => e = .returned (.bool false) ∧ w = w' := fun w => by
            have := hW w; rwa [decide_eq_false (by omega)] at this
          have HC := Lib.hid hC'
          have HW := Lib.hid hW'
          clear hC hW hC' hW'
          have hb1 : decide (n ≤ high) = false := by simp; omega
          go_enter Try.func4, Try.ntmps4
          go_wp2_with fail
          refine (alive_calls _).mono ?_
          rintro e w1 ⟨rfl, hb⟩
          go_wp2_with fail
          refine (HC.out _).mono ?_
          rintro e w1 ⟨rfl, rfl⟩
          go_wp2_with fail
          refine (HW.out _).mono ?_
          rintro e w1 ⟨rfl, rfl⟩
          go_wp2
          go_ret
          exact ⟨rfl, hb⟩
      · try omega
        all_goals
          have hC' : ∀ w, Calls Try.prog 24 #[.int .i64 n, .int .i64 low, .int .i64 high] w fun e w' => e = .returned (.int .i64 high) ∧ w = w' := fun w => by
            have := hC w; rwa [if_pos h1, if_neg h2] at this
          have hW' : ∀ w, Calls Try.prog 25 #[.int .i64 n, .int .i64 low, .int .i64 high] w fun e w' => e = .returned (.bool false) ∧ w = w' := fun w => by
            have := hW w; rwa [decide_eq_false (by omega)] at this
          have HC := Lib.hid hC'
          have HW := Lib.hid hW'
          clear hC hW hC' hW'
          have hb1 : decide (n ≤ high) = false := by simp; omega
          go_enter Try.func4, Try.ntmps4
          go_wp2_with fail
          refine (alive_calls _).mono ?_
          rintro e w1 ⟨rfl, hb⟩
          go_wp2_with fail
          refine (HC.out _).mono ?_
          rintro e w1 ⟨rfl, rfl⟩
          go_wp2_with fail
          refine (HW.out _).mono ?_
          rintro e w1 ⟨rfl, rfl⟩
          go_wp2
          go_ret
          exact ⟨rfl, hb⟩
  · by_cases h2 : n < low
    · by_cases h3 : low ≤ n
      · try omega
        all_goals
          have hC' : ∀ w, Calls Try.prog 24 #[.int .i64 n, .int .i64 low, .int .i64 high] w fun e w' => e = .returned (.int .i64 low) ∧ w = w' := fun w => by
            have := hC w; rwa [if_neg h1, if_pos h2] at this
          have hW' : ∀ w, Calls Try.prog 25 #[.int .i64 n, .int .i64 low, .int .i64 high] w fun e w' => e = .returned (.bool true) ∧ w = w' := fun w => by
            have := hW w; rwa [decide_eq_true (by omega)] at this
          have HC := Lib.hid hC'
          have HW := Lib.hid hW'
          clear hC hW hC' hW'
          have hb1 : decide (n ≤ high) = true := by simp; omega
          go_enter Try.func4, Try.ntmps4
          go_wp2_with fail
          refine (alive_calls _).mono ?_
          rintro e w1 ⟨rfl, hb⟩
          go_wp2_with fail
          refine (HC.out _).mono ?_
          rintro e w1 ⟨rfl, rfl⟩
          go_wp2_with fail
          refine (HW.out _).mono ?_
          rintro e w1 ⟨rfl, rfl⟩
          go_wp2
          go_ret
          exact ⟨rfl, hb⟩
      · try omega
        all_goals
          have hC' : ∀ w, Calls Try.prog 24 #[.int .i64 n, .int .i64 low, .int .i64 high] w fun e w' => e = .returned (.int .i64 low) ∧ w = w' := fun w => by
            have := hC w; rwa [if_neg h1, if_pos h2] at this
          have hW' : ∀ w, Calls Try.prog 25 #[.int .i64 n, .int .i64 low, .int .i64 high] w fun e w' => e = .returned (.bool false) ∧ w = w' := fun w => by
            have := hW w; rwa [decide_eq_false (by omega)] at this
          have HC := Lib.hid hC'
          have HW := Lib.hid hW'
          clear hC hW hC' hW'
          have hb1 : decide (n ≤ high) = true := by simp; omega
          go_enter Try.func4, Try.ntmps4
          go_wp2_with fail
          refine (alive_calls _).mono ?_
          rintro e w1 ⟨rfl, hb⟩
          go_wp2_with fail
          refine (HC.out _).mono ?_
          rintro e w1 ⟨rfl, rfl⟩
          go_wp2_with fail
          refine (HW.out _).mono ?_
          rintro e w1 ⟨rfl, rfl⟩
          go_wp2
          go_ret
          exact ⟨rfl, hb⟩
    · by_cases h3 : low ≤ n
      · try omega
        all_goals
          have hC' : ∀ w, Calls Try.prog 24 #[.int .i64 n, .int .i64 low, .int .i64 high] w fun e w' => e = .returned (.int .i64 n) ∧ w = w' := fun w => by
            have := hC w; rwa [if_neg h1, if_neg h2] at this
          have hW' : ∀ w, Calls Try.prog 25 #[.int .i64 n, .int .i64 low, .int .i64 high] w fun e w' => e = .returned (.bool true) ∧ w = w' := fun w => by
            have := hW w; rwa [decide_eq_true (by omega)] at this
          have HC := Lib.hid hC'
          have HW := Lib.hid hW'
          clear hC hW hC' hW'
          have hb1 : decide (n ≤ high) = true := by simp; omega
          go_enter Try.func4, Try.ntmps4
          go_wp2_with fail
          refine (alive_calls _).mono ?_
          rintro e w1 ⟨rfl, hb⟩
          go_wp2_with fail
          refine (HC.out _).mono ?_
          rintro e w1 ⟨rfl, rfl⟩
          go_wp2_with fail
          refine (HW.out _).mono ?_
          rintro e w1 ⟨rfl, rfl⟩
          go_wp2
          go_ret
          exact ⟨rfl, hb⟩
      · try omega
        all_goals
          have hC' : ∀ w, Calls Try.prog 24 #[.int .i64 n, .int .i64 low, .int .i64 high] w fun e w' => e = .returned (.int .i64 n) ∧ w = w' := fun w => by
            have := hC w; rwa [if_neg h1, if_neg h2] at this
          have hW' : ∀ w, Calls Try.prog 25 #[.int .i64 n, .int .i64 low, .int .i64 high] w fun e w' => e = .returned (.bool false) ∧ w = w' := fun w => by
            have := hW w; rwa [decide_eq_false (by omega)] at this
          have HC := Lib.hid hC'
          have HW := Lib.hid hW'
          clear hC hW hC' hW'
          have hb1 : decide (n ≤ high) = true := by simp; omega
          go_enter Try.func4, Try.ntmps4
          go_wp2_with fail
          refine (alive_calls _).mono ?_
          rintro e w1 ⟨rfl, hb⟩
          go_wp2_with fail
          refine (HC.out _).mono ?_
          rintro e w1 ⟨rfl, rfl⟩
          go_wp2_with fail
          refine (HW.out _).mono ?_
          rintro e w1 ⟨rfl, rfl⟩
          go_wp2
          go_ret
          exact ⟨rfl, hb⟩
end Go.Proofs.Ytboniffcoohbjaa.Sc
