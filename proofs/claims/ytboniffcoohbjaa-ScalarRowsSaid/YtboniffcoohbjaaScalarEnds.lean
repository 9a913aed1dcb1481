/- ScalarEnds' and ScalarUps' walks: what is held is within its bounds; a quotient upwards. Conditions: the numbers lie in int64's range. -/
import Derived.Test.YtboniffcoohbjaaScAlive
namespace Go.Proofs.Ytboniffcoohbjaa.Sc
open Go Go.RowKit
set_option linter.unusedVariables false
set_option linter.unusedSimpArgs false

theorem clamp_in {n low high : Int} (h : low ≤ n) (h' : n ≤ high) : clampS n low high = n := by
  unfold clampS; rw [if_neg (by omega), if_neg (by omega)]
theorem clamp_bounds {n low high : Int} (h : low ≤ high) : low ≤ clampS n low high ∧ clampS n low high ≤ high := by
  unfold clampS; split <;> split <;> omega
theorem clamp_over {n low high : Int} (h : high < low) : clampS n low high = low := by
  unfold clampS; by_cases h1 : high < n
  · rw [if_pos h1, if_pos h]
  · rw [if_neg h1, if_pos (by omega)]
theorem clamp_again (n low high : Int) : clampS (clampS n low high) low high = clampS n low high := by
  by_cases h : low ≤ high
  · have := clamp_bounds (n := n) h; exact clamp_in this.1 this.2
  · rw [clamp_over (by omega), clamp_over (by omega)]

set_option maxHeartbeats 1000000 in
theorem ScalarEnds_calls (n low high : Int) (w : World) (h1 : I64 n) (h2 : I64 low) (h3 : I64 high) :
    Calls Try.prog 8 #[.int .i64 n, .int .i64 low, .int .i64 high] w fun e w' => e = .returned (.bool true) ∧ Below w.heap.size w w' := by
  clear h1 h2 h3
  have C1 := fun w => Clamp_calls n low high w
  have C2 := fun w => Clamp_calls (clampS n low high) low high w
  have W1 := fun w => Within_calls n low high w
  have W2 := fun w => Within_calls (clampS n low high) low high w
  simp only [clamp_again] at C2
  by_cases hin : low ≤ n ∧ n ≤ high
  · simp only [clamp_in hin.1 hin.2] at C1 C2 W2
    have e : withinS n low high = true := by unfold withinS; exact decide_eq_true hin
    simp only [e] at W1 W2
    replace C1 := Lib.hid C1
    replace C2 := Lib.hid C2
    replace W1 := Lib.hid W1
    replace W2 := Lib.hid W2
    have hlh : low ≤ high := by omega
    clear hin e
    go_enter Try.func8, Try.ntmps8
    go_wp2_with fail
    refine (alive_calls _).mono ?_
    rintro e w1 ⟨rfl, hb⟩
    go_wp2_with fail
    refine (C1.out _).mono ?_
    rintro e w1 ⟨rfl, rfl⟩
    go_wp2_with fail
    refine (C1.out _).mono ?_
    rintro e w1 ⟨rfl, rfl⟩
    go_wp2_with fail
    refine (W1.out _).mono ?_
    rintro e w1 ⟨rfl, rfl⟩
    go_wp2_with fail
    refine (W1.out _).mono ?_
    rintro e w1 ⟨rfl, rfl⟩
    go_wp2
    go_ret
    exact ⟨rfl, hb⟩
  · have e : withinS n low high = false := by unfold withinS; exact decide_eq_false hin
    simp only [e] at W1
    by_cases ho : high < low
    · simp only [clamp_over ho] at C1 C2 W2
      replace C1 := Lib.hid C1
      replace C2 := Lib.hid C2
      replace W1 := Lib.hid W1
      clear hin e
      go_enter Try.func8, Try.ntmps8
      go_wp2_with fail
      refine (alive_calls _).mono ?_
      rintro e w1 ⟨rfl, hb⟩
      go_wp2_with fail
      refine (C1.out _).mono ?_
      rintro e w1 ⟨rfl, rfl⟩
      go_wp2_with fail
      refine (C2.out _).mono ?_
      rintro e w1 ⟨rfl, rfl⟩
      go_wp2_with fail
      refine (W1.out _).mono ?_
      rintro e w1 ⟨rfl, rfl⟩
      go_wp2
      go_ret
      exact ⟨rfl, hb⟩
    · have hlh : low ≤ high := by omega
      have e2 : withinS (clampS n low high) low high = true := by unfold withinS; exact decide_eq_true (clamp_bounds hlh)
      simp only [e2] at W2
      generalize clampS n low high = c at *
      replace C1 := Lib.hid C1
      replace C2 := Lib.hid C2
      replace W1 := Lib.hid W1
      replace W2 := Lib.hid W2
      clear hin e e2
      go_enter Try.func8, Try.ntmps8
      go_wp2_with fail
      refine (alive_calls _).mono ?_
      rintro e w1 ⟨rfl, hb⟩
      go_wp2_with fail
      refine (C1.out _).mono ?_
      rintro e w1 ⟨rfl, rfl⟩
      go_wp2_with fail
      refine (C2.out _).mono ?_
      rintro e w1 ⟨rfl, rfl⟩
      go_wp2_with fail
      refine (W1.out _).mono ?_
      rintro e w1 ⟨rfl, rfl⟩
      go_wp2_with fail
      refine (W2.out _).mono ?_
      rintro e w1 ⟨rfl, rfl⟩
      go_wp2
      go_ret
      exact ⟨rfl, hb⟩

theorem up_ge {a b : Int} (ha : 1 ≤ a) (hb : 1 ≤ b) : a ≤ upS a b * b ∧ (upS a b - 1) * b < a := by
  unfold upS
  rw [if_neg (by omega)]
  have h := Int.mul_ediv_add_emod (a - 1) b
  have h1 := Int.emod_nonneg (a - 1) (show b ≠ 0 by omega)
  have h2 := Int.emod_lt_of_pos (a - 1) (show 0 < b by omega)
  generalize (a - 1) / b = q at *
  rw [Int.add_mul, Int.mul_comm q b, show q + 1 - 1 = q by omega, Int.mul_comm q b]
  omega
theorem up_le_iff {a b q : Int} (ha : 1 ≤ a) (hb : 1 ≤ b) (h : a ≤ q * b) : upS a b ≤ q := by
  have := up_ge ha hb
  have h3 : (upS a b - 1) * b < q * b := by omega
  have h4 := Int.lt_of_mul_lt_mul_right h3 (by omega)
  omega
theorem up_pos {a b : Int} (ha : 1 ≤ a) (hb : 1 ≤ b) : 1 ≤ upS a b ∧ upS a b ≤ a := by
  refine ⟨?_, up_le_iff ha hb ?_⟩
  · unfold upS; rw [if_neg (by omega)]; have : 0 ≤ (a - 1) / b := Int.ediv_nonneg (by omega) (by omega); omega
  · have := Int.mul_le_mul_of_nonneg_left hb (show 0 ≤ a by omega); omega
theorem up_sum {a b c : Int} (ha : 1 ≤ a) (hb : 1 ≤ b) (hc : 1 ≤ c) : upS (a + c) b ≤ upS a b + upS c b ∧ upS a b ≤ upS (a + c) b := by
  refine ⟨up_le_iff (by omega) hb ?_, up_le_iff ha hb ?_⟩
  · rw [Int.add_mul]; have := up_ge ha hb; have := up_ge hc hb; omega
  · have := up_ge (a := a + c) (by omega) hb; omega
theorem up_one {a : Int} (ha : 1 ≤ a) : upS a 1 = a := by unfold upS; rw [if_neg (by omega), Int.ediv_one]; omega
theorem up_zero (b : Int) : upS 0 b = 0 := by unfold upS; rw [if_pos (by omega)]

set_option maxHeartbeats 1000000 in
theorem ScalarUps_calls (a b c : Int) (w : World) (h1 : I64 a) (h2 : I64 b) (h3 : I64 c) :
    Calls Try.prog 7 #[.int .i64 a, .int .i64 b, .int .i64 c] w fun e w' => e = .returned (.bool true) ∧ Below w.heap.size w w' := by
  clear h1 h2 h3
  have C1 := fun w => Clamp_calls a 1 1099511627776 w
  have C2 := fun w => Clamp_calls b 1 1048576 w
  have C3 := fun w => Clamp_calls c 1 1099511627776 w
  have ba := clamp_bounds (n := a) (show (1 : Int) ≤ 1099511627776 by omega)
  have bb := clamp_bounds (n := b) (show (1 : Int) ≤ 1048576 by omega)
  have bc := clamp_bounds (n := c) (show (1 : Int) ≤ 1099511627776 by omega)
  generalize clampS a 1 1099511627776 = x at *
  generalize clampS b 1 1048576 = y at *
  generalize clampS c 1 1099511627776 = z at *
  obtain ⟨a1, a2⟩ := ba
  obtain ⟨b1, b2⟩ := bb
  obtain ⟨c1, c2⟩ := bc
  have U1 := fun w => Up_calls x y w (by unfold I64; omega) (by unfold I64; omega)
  have U2 := fun w => Up_calls (x + z) y w (by unfold I64; omega) (by unfold I64; omega)
  have U3 := fun w => Up_calls z y w (by unfold I64; omega) (by unfold I64; omega)
  have U4 := fun w => Up_calls x 1 w (by unfold I64; omega) (by unfold I64; omega)
  have U5 := fun w => Up_calls 0 y w (by unfold I64; omega) (by unfold I64; omega)
  simp only [up_one a1] at U4
  simp only [up_zero] at U5
  have g1 := up_ge a1 b1
  have g2 := up_pos a1 b1
  have g3 := up_pos c1 b1
  have g4 := up_sum a1 b1 c1
  generalize hq : upS x y = q at *
  generalize upS z y = r at *
  generalize upS (x + z) y = s at *
  have m1 : q * y ≤ 1099511627776 * 1048576 := Int.mul_le_mul (by omega) b2 (by omega) (by omega)
  have m2 : 0 ≤ q * y := Int.mul_nonneg (by omega) (by omega)
  have m3 : 0 ≤ (q - 1) * y := Int.mul_nonneg (by omega) (by omega)
  have t1 : decide (x ≤ wrap64 (q * y)) = true := by rw [w64 (by unfold I64; omega)]; exact decide_eq_true g1.1
  have t2 : decide (wrap64 ((q - 1) * y) < x) = true := by rw [w64 (by unfold I64; omega)]; exact decide_eq_true g1.2
  obtain ⟨g21, g22⟩ := g2
  obtain ⟨g31, g32⟩ := g3
  obtain ⟨g41, g42⟩ := g4
  replace C1 := Lib.hid C1
  replace C2 := Lib.hid C2
  replace C3 := Lib.hid C3
  replace U1 := Lib.hid U1
  replace U2 := Lib.hid U2
  replace U3 := Lib.hid U3
  replace U4 := Lib.hid U4
  replace U5 := Lib.hid U5
  clear m1 m2 m3 g1 hq
  go_enter Try.func7, Try.ntmps7
  go_wp2_with fail
  refine (alive_calls _).mono ?_
  rintro e w1 ⟨rfl, hb⟩
  go_wp2_with fail
  refine (C1.out _).mono ?_
  rintro e w1 ⟨rfl, rfl⟩
  go_wp2_with fail
  refine (C2.out _).mono ?_
  rintro e w1 ⟨rfl, rfl⟩
  go_wp2_with fail
  refine (C3.out _).mono ?_
  rintro e w1 ⟨rfl, rfl⟩
  go_wp2_with fail
  refine (U1.out _).mono ?_
  rintro e w1 ⟨rfl, rfl⟩
  go_wp2_with fail
  refine (U2.out _).mono ?_
  rintro e w1 ⟨rfl, rfl⟩
  go_wp2_with fail
  refine (U3.out _).mono ?_
  rintro e w1 ⟨rfl, rfl⟩
  go_wp2_with fail
  refine (U2.out _).mono ?_
  rintro e w1 ⟨rfl, rfl⟩
  go_wp2_with fail
  refine (U4.out _).mono ?_
  rintro e w1 ⟨rfl, rfl⟩
  go_wp2_with fail
  refine (U5.out _).mono ?_
  rintro e w1 ⟨rfl, rfl⟩
  go_wp2
  go_ret
  exact ⟨rfl, hb⟩
end Go.Proofs.Ytboniffcoohbjaa.Sc
