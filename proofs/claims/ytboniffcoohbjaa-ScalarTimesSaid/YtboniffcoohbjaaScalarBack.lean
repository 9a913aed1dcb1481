/- ScalarBack's and ScalarTimes' walks: what is added is taken off again; a product with a sum is the sum of the products. Conditions: the numbers lie in int64's range. -/
import Derived.Test.YtboniffcoohbjaaScalarEnds
namespace Go.Proofs.Ytboniffcoohbjaa.Sc
open Go Go.RowKit
set_option linter.unusedVariables false
set_option linter.unusedSimpArgs false

set_option maxHeartbeats 1000000 in
theorem ScalarBack_calls (a b : Int) (w : World) (h1 : I64 a) (h2 : I64 b) :
    Calls Try.prog 6 #[.int .i64 a, .int .i64 b] w fun e w' => e = .returned (.bool true) ∧ Below w.heap.size w w' := by
  have A1 := fun w => Add_calls a b w h1 h2
  have A2 := fun w => Add_calls b a w h2 h1
  have M1 := fun w => Mul_calls a b w h1 h2
  have M2 := fun w => Mul_calls b a w h2 h1
  simp only [Int.add_comm b a] at A2
  simp only [Int.mul_comm b a] at M2
  have hM3 : I64 (b + 1) → ∀ w, Calls Try.prog 20 #[.int .i64 a, .int .i64 (b + 1)] w fun e w' => e = .returned (.tuple #[.int .i64 (held (a * b + a)), .bool (fits (a * b + a))]) ∧ w = w' := fun h w => by
    have := Mul_calls a (b + 1) w h1 h
    rwa [Int.mul_add, Int.mul_one] at this
  generalize a * b = p at *
  -- the second half: products
  have key : ∀ b1 : Bool, fits (a + b) = b1 → Calls Try.prog 6 #[.int .i64 a, .int .i64 b] w fun e w' => e = .returned (.bool true) ∧ Below w.heap.size w w' := by
    intro b1 hb1
    cases hp : fits p
    · have hpz : held p = 0 := held_no hp
      simp only [hp, hpz] at M1 M2
      clear hp hpz
      cases b1
      · have hs : held (a + b) = 0 := held_no hb1
        simp only [hs, hb1] at A1 A2
        generalize a + b = s at *
        replace A1 := Lib.hid A1
        replace A2 := Lib.hid A2
        replace M1 := Lib.hid M1
        replace M2 := Lib.hid M2
        clear h1 h2 hb1 hs hM3
        go_enter Try.func6, Try.ntmps6
        go_wp2_with fail
        refine (alive_calls _).mono ?_
        rintro e w1 ⟨rfl, hb⟩
        go_wp2_with fail
        refine (A1.out _).mono ?_
        rintro e w1 ⟨rfl, rfl⟩
        go_wp2_with fail
        refine (A2.out _).mono ?_
        rintro e w1 ⟨rfl, rfl⟩
        go_wp2_with fail
        refine (M1.out _).mono ?_
        rintro e w1 ⟨rfl, rfl⟩
        go_wp2_with fail
        refine (M2.out _).mono ?_
        rintro e w1 ⟨rfl, rfl⟩
        go_wp2
        go_ret
        exact ⟨rfl, hb⟩
      · have hs : held (a + b) = a + b := held_yes hb1
        have S1 := fun w => Sub_calls (a + b) b w (fits_iff.1 hb1) h2
        simp only [show a + b - b = a by omega, fits_iff.2 h1, held_yes (fits_iff.2 h1)] at S1
        simp only [hs, hb1] at A1 A2
        replace S1 := Lib.hid S1
        generalize a + b = s at *
        replace A1 := Lib.hid A1
        replace A2 := Lib.hid A2
        replace M1 := Lib.hid M1
        replace M2 := Lib.hid M2
        clear h1 h2 hb1 hs hM3
        go_enter Try.func6, Try.ntmps6
        go_wp2_with fail
        refine (alive_calls _).mono ?_
        rintro e w1 ⟨rfl, hb⟩
        go_wp2_with fail
        refine (A1.out _).mono ?_
        rintro e w1 ⟨rfl, rfl⟩
        go_wp2_with fail
        refine (A2.out _).mono ?_
        rintro e w1 ⟨rfl, rfl⟩
        go_wp2_with fail
        refine (S1.out _).mono ?_
        rintro e w1 ⟨rfl, rfl⟩
        go_wp2_with fail
        refine (M1.out _).mono ?_
        rintro e w1 ⟨rfl, rfl⟩
        go_wp2_with fail
        refine (M2.out _).mono ?_
        rintro e w1 ⟨rfl, rfl⟩
        go_wp2
        go_ret
        exact ⟨rfl, hb⟩
    · have hpz : held p = p := held_yes hp
      have A3 := fun w => Add_calls p a w (fits_iff.1 hp) h1
      simp only [hp, hpz] at M1 M2
      clear hp hpz
      by_cases hbm : b = 9223372036854775807
      · clear A3
        subst hbm
        cases b1
        · have hs : held (a + 9223372036854775807) = 0 := held_no hb1
          simp only [hs, hb1] at A1 A2
          generalize a + 9223372036854775807 = s at *
          replace A1 := Lib.hid A1
          replace A2 := Lib.hid A2
          replace M1 := Lib.hid M1
          replace M2 := Lib.hid M2
          clear h1 h2 hb1 hs hM3
          go_enter Try.func6, Try.ntmps6
          go_wp2_with fail
          refine (alive_calls _).mono ?_
          rintro e w1 ⟨rfl, hb⟩
          go_wp2_with fail
          refine (A1.out _).mono ?_
          rintro e w1 ⟨rfl, rfl⟩
          go_wp2_with fail
          refine (A2.out _).mono ?_
          rintro e w1 ⟨rfl, rfl⟩
          go_wp2_with fail
          refine (M1.out _).mono ?_
          rintro e w1 ⟨rfl, rfl⟩
          go_wp2_with fail
          refine (M2.out _).mono ?_
          rintro e w1 ⟨rfl, rfl⟩
          go_wp2
          go_ret
          exact ⟨rfl, hb⟩
        · have hs : held (a + 9223372036854775807) = a + 9223372036854775807 := held_yes hb1
          have S1 := fun w => Sub_calls (a + 9223372036854775807) 9223372036854775807 w (fits_iff.1 hb1) h2
          simp only [show a + 9223372036854775807 - 9223372036854775807 = a by omega, fits_iff.2 h1, held_yes (fits_iff.2 h1)] at S1
          simp only [hs, hb1] at A1 A2
          replace S1 := Lib.hid S1
          generalize a + 9223372036854775807 = s at *
          replace A1 := Lib.hid A1
          replace A2 := Lib.hid A2
          replace M1 := Lib.hid M1
          replace M2 := Lib.hid M2
          clear h1 h2 hb1 hs hM3
          go_enter Try.func6, Try.ntmps6
          go_wp2_with fail
          refine (alive_calls _).mono ?_
          rintro e w1 ⟨rfl, hb⟩
          go_wp2_with fail
          refine (A1.out _).mono ?_
          rintro e w1 ⟨rfl, rfl⟩
          go_wp2_with fail
          refine (A2.out _).mono ?_
          rintro e w1 ⟨rfl, rfl⟩
          go_wp2_with fail
          refine (S1.out _).mono ?_
          rintro e w1 ⟨rfl, rfl⟩
          go_wp2_with fail
          refine (M1.out _).mono ?_
          rintro e w1 ⟨rfl, rfl⟩
          go_wp2_with fail
          refine (M2.out _).mono ?_
          rintro e w1 ⟨rfl, rfl⟩
          go_wp2
          go_ret
          exact ⟨rfl, hb⟩
      · have M3 := hM3 (by unfold I64 at h2 ⊢; omega)
        generalize p + a = t at *
        generalize held t = ht at *
        generalize fits t = ft at *
        replace A3 := Lib.hid A3
        replace M3 := Lib.hid M3
        cases b1
        · have hs : held (a + b) = 0 := held_no hb1
          simp only [hs, hb1] at A1 A2
          generalize a + b = s at *
          replace A1 := Lib.hid A1
          replace A2 := Lib.hid A2
          replace M1 := Lib.hid M1
          replace M2 := Lib.hid M2
          have hbm' : (b == 9223372036854775807) = false := by simpa using hbm
          have bl : -9223372036854775808 ≤ b := by unfold I64 at h2; omega
          have bh : b + 1 ≤ 9223372036854775807 := by unfold I64 at h2; omega
          clear h1 h2 hb1 hs hbm hM3
          go_enter Try.func6, Try.ntmps6
          go_wp2_with fail
          refine (alive_calls _).mono ?_
          rintro e w1 ⟨rfl, hb⟩
          go_wp2_with fail
          refine (A1.out _).mono ?_
          rintro e w1 ⟨rfl, rfl⟩
          go_wp2_with fail
          refine (A2.out _).mono ?_
          rintro e w1 ⟨rfl, rfl⟩
          go_wp2_with fail
          refine (M1.out _).mono ?_
          rintro e w1 ⟨rfl, rfl⟩
          go_wp2_with fail
          refine (M2.out _).mono ?_
          rintro e w1 ⟨rfl, rfl⟩
          go_wp2_with fail
          refine (M3.out _).mono ?_
          rintro e w1 ⟨rfl, rfl⟩
          go_wp2_with fail
          refine (A3.out _).mono ?_
          rintro e w1 ⟨rfl, rfl⟩
          go_wp2
          go_ret
          exact ⟨rfl, hb⟩
        · have hs : held (a + b) = a + b := held_yes hb1
          have S1 := fun w => Sub_calls (a + b) b w (fits_iff.1 hb1) h2
          simp only [show a + b - b = a by omega, fits_iff.2 h1, held_yes (fits_iff.2 h1)] at S1
          simp only [hs, hb1] at A1 A2
          replace S1 := Lib.hid S1
          generalize a + b = s at *
          replace A1 := Lib.hid A1
          replace A2 := Lib.hid A2
          replace M1 := Lib.hid M1
          replace M2 := Lib.hid M2
          have hbm' : (b == 9223372036854775807) = false := by simpa using hbm
          have bl : -9223372036854775808 ≤ b := by unfold I64 at h2; omega
          have bh : b + 1 ≤ 9223372036854775807 := by unfold I64 at h2; omega
          clear h1 h2 hb1 hs hbm hM3
          go_enter Try.func6, Try.ntmps6
          go_wp2_with fail
          refine (alive_calls _).mono ?_
          rintro e w1 ⟨rfl, hb⟩
          go_wp2_with fail
          refine (A1.out _).mono ?_
          rintro e w1 ⟨rfl, rfl⟩
          go_wp2_with fail
          refine (A2.out _).mono ?_
          rintro e w1 ⟨rfl, rfl⟩
          go_wp2_with fail
          refine (S1.out _).mono ?_
          rintro e w1 ⟨rfl, rfl⟩
          go_wp2_with fail
          refine (M1.out _).mono ?_
          rintro e w1 ⟨rfl, rfl⟩
          go_wp2_with fail
          refine (M2.out _).mono ?_
          rintro e w1 ⟨rfl, rfl⟩
          go_wp2_with fail
          refine (M3.out _).mono ?_
          rintro e w1 ⟨rfl, rfl⟩
          go_wp2_with fail
          refine (A3.out _).mono ?_
          rintro e w1 ⟨rfl, rfl⟩
          go_wp2
          go_ret
          exact ⟨rfl, hb⟩
  exact key _ rfl

theorem sum_two (x y : Int) (hx : I64 x) : sumF 0 [x, y] = if fits (x + y) = true then some (x + y) else none := by
  simp only [sumF, Int.zero_add]
  rw [if_pos (fits_iff.2 hx)]

set_option maxHeartbeats 2000000 in
theorem ScalarTimes_calls (a b c : Int) (w : World) (h1 : I64 a) (h2 : I64 b) (h3 : I64 c) :
    Calls Try.prog 9 #[.int .i64 a, .int .i64 b, .int .i64 c] w fun e w' => e = .returned (.bool true) ∧ Below w.heap.size w w' := by
  have M1 := fun w => Mul_calls a 1 w h1 (by unfold I64; omega)
  have M2 := fun w => Mul_calls a (-1) w h1 (by unfold I64; omega)
  have S1 := fun w => Sub_calls 0 a w (by unfold I64; omega) h1
  simp only [Int.mul_one, fits_iff.2 h1, held_yes (fits_iff.2 h1)] at M1
  simp only [show a * -1 = -a by omega] at M2
  simp only [show 0 - a = -a by omega] at S1
  have C1 := fun w => Clamp_calls a (-1073741824) 1073741824 w
  have C2 := fun w => Clamp_calls b (-1073741824) 1073741824 w
  have C3 := fun w => Clamp_calls c (-1073741824) 1073741824 w
  have ba := clamp_bounds (n := a) (show (-1073741824 : Int) ≤ 1073741824 by omega)
  have bb := clamp_bounds (n := b) (show (-1073741824 : Int) ≤ 1073741824 by omega)
  have bc := clamp_bounds (n := c) (show (-1073741824 : Int) ≤ 1073741824 by omega)
  have hfa : fits (-a) = !(a == -9223372036854775808) := by
    rw [Bool.eq_iff_iff, fits_iff]; unfold I64 at *; simp; omega
  generalize clampS a (-1073741824) 1073741824 = x at *
  generalize clampS b (-1073741824) 1073741824 = y at *
  generalize clampS c (-1073741824) 1073741824 = z at *
  obtain ⟨a1, a2⟩ := ba
  obtain ⟨b1, b2⟩ := bb
  obtain ⟨c1, c2⟩ := bc
  have big : ∀ u v : Int, -1073741824 ≤ u → u ≤ 1073741824 → -1073741824 ≤ v → v ≤ 1073741824 → -1152921504606846976 ≤ u * v ∧ u * v ≤ 1152921504606846976 := by
    intro u v hu hu' hv hv'
    have h : (u * v).natAbs ≤ 1073741824 * 1073741824 := by rw [Int.natAbs_mul]; exact Nat.mul_le_mul (by omega) (by omega)
    omega
  have p1 := big x y a1 a2 b1 b2
  have p2 := big x z a1 a2 c1 c2
  have M4 := fun w => Mul_calls x y w (by unfold I64; omega) (by unfold I64; omega)
  have M5 := fun w => Mul_calls x z w (by unfold I64; omega) (by unfold I64; omega)
  have M6 := fun w => Mul_calls x (y + z) w (by unfold I64; omega) (by unfold I64; omega)
  simp only [Int.mul_add] at M6
  generalize x * y = u at *
  generalize x * z = v at *
  have f1 : fits u = true := fits_iff.2 (by unfold I64; omega)
  have f2 : fits v = true := fits_iff.2 (by unfold I64; omega)
  have f3 : fits (u + v) = true := fits_iff.2 (by unfold I64; omega)
  have T1 := fun w A cap hr => Sum64_calls [u, v] A cap w (by simp) (by intro z' hz; simp at hz; rcases hz with rfl | rfl <;> (unfold I64; omega)) hr
  have e1 : sumV [u, v] = u + v := by unfold sumV; rw [sum_two u v (fits_iff.1 f1), if_pos f3]; rfl
  have e2 : sumB [u, v] = true := by unfold sumB; rw [sum_two u v (fits_iff.1 f1), if_pos f3]; rfl
  simp only [e1, e2] at T1
  simp only [f1, held_yes f1] at M4
  simp only [f2, held_yes f2] at M5
  simp only [f3, held_yes f3] at M6
  clear h2 h3 f1 f2 f3 e1 e2 p1 p2 big
  generalize u + v = s at *
  generalize held (-a) = ha at *
  replace M1 := Lib.hid M1
  replace M4 := Lib.hid M4
  replace M5 := Lib.hid M5
  replace M6 := Lib.hid M6
  replace C1 := Lib.hid C1
  replace C2 := Lib.hid C2
  replace C3 := Lib.hid C3
  replace T1 := Lib.hid T1
  cases hl : (a == -9223372036854775808)
  · simp only [hfa, hl, Bool.not_false] at M2 S1
    have hlo : -9223372036854775807 ≤ a := by
      have h9 : a ≠ -9223372036854775808 := by simpa using hl
      unfold I64 at h1; omega
    have hln : (a != -9223372036854775808) = true := by simpa using hl
    replace M2 := Lib.hid M2
    replace S1 := Lib.hid S1
    clear hfa h1
    go_enter Try.func9, Try.ntmps9
    go_wp2_with fail
    refine (alive_calls _).mono ?_
    rintro e w1 ⟨rfl, hb⟩
    go_wp2_with fail
    refine (M1.out _).mono ?_
    rintro e w1 ⟨rfl, rfl⟩
    go_wp2_with fail
    refine (M2.out _).mono ?_
    rintro e w1 ⟨rfl, rfl⟩
    go_wp2_with fail
    refine (S1.out _).mono ?_
    rintro e w1 ⟨rfl, rfl⟩
    go_wp2_with fail
    refine (C1.out _).mono ?_
    rintro e w1 ⟨rfl, rfl⟩
    go_wp2_with fail
    refine (C2.out _).mono ?_
    rintro e w1 ⟨rfl, rfl⟩
    go_wp2_with fail
    refine (C3.out _).mono ?_
    rintro e w1 ⟨rfl, rfl⟩
    go_wp2_with fail
    refine (M4.out _).mono ?_
    rintro e w1 ⟨rfl, rfl⟩
    go_wp2_with fail
    refine (M5.out _).mono ?_
    rintro e w1 ⟨rfl, rfl⟩
    go_wp2_with fail
    refine (M6.out _).mono ?_
    rintro e w1 ⟨rfl, rfl⟩
    go_wp2_with fail
    refine (T1.out _ _ _ (reads_two _ .i64 u v _)).mono ?_
    rintro e w1 ⟨rfl, rfl⟩
    go_wp2
    go_ret
    exact ⟨rfl, hb.alloc hb.size _⟩
  · simp only [hfa, hl, Bool.not_true] at M2 S1
    obtain rfl : a = -9223372036854775808 := by simpa using hl
    replace M2 := Lib.hid M2
    replace S1 := Lib.hid S1
    clear hfa h1
    go_enter Try.func9, Try.ntmps9
    go_wp2_with fail
    refine (alive_calls _).mono ?_
    rintro e w1 ⟨rfl, hb⟩
    go_wp2_with fail
    refine (M1.out _).mono ?_
    rintro e w1 ⟨rfl, rfl⟩
    go_wp2_with fail
    refine (M2.out _).mono ?_
    rintro e w1 ⟨rfl, rfl⟩
    go_wp2_with fail
    refine (S1.out _).mono ?_
    rintro e w1 ⟨rfl, rfl⟩
    go_wp2_with fail
    refine (C1.out _).mono ?_
    rintro e w1 ⟨rfl, rfl⟩
    go_wp2_with fail
    refine (C2.out _).mono ?_
    rintro e w1 ⟨rfl, rfl⟩
    go_wp2_with fail
    refine (C3.out _).mono ?_
    rintro e w1 ⟨rfl, rfl⟩
    go_wp2_with fail
    refine (M4.out _).mono ?_
    rintro e w1 ⟨rfl, rfl⟩
    go_wp2_with fail
    refine (M5.out _).mono ?_
    rintro e w1 ⟨rfl, rfl⟩
    go_wp2_with fail
    refine (M6.out _).mono ?_
    rintro e w1 ⟨rfl, rfl⟩
    go_wp2_with fail
    refine (T1.out _ _ _ (reads_two _ .i64 u v _)).mono ?_
    rintro e w1 ⟨rfl, rfl⟩
    go_wp2
    go_ret
    exact ⟨rfl, hb.alloc hb.size _⟩
end Go.Proofs.Ytboniffcoohbjaa.Sc
