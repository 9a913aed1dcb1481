/- ScalarTwo's walk: of all pairs of numbers sums, differences, products and quotients are as the reference says. Conditions: the numbers lie in int64's range. -/
import Derived.Test.YtboniffcoohbjaaScRefM
import Derived.Test.YtboniffcoohbjaaScalarEnds
namespace Go.Proofs.Ytboniffcoohbjaa.Sc
open Go Go.RowKit
set_option linter.unusedVariables false
set_option linter.unusedSimpArgs false

set_option maxHeartbeats 400000 in
theorem RMul_calls (a b : Int) (w : World) (ha : I64 a) (hb : I64 b) :
    Calls Try.prog 21 #[.int .i64 a, .int .i64 b] w fun e w' => e = .returned (.tuple #[.int .i64 (held (a * b)), .bool (fits (a * b))]) ∧ w = w' := by
  have haa := ha
  unfold I64 at haa
  have hbb := hb
  unfold I64 at hbb
  by_cases a0 : a = 0
  · subst a0
    rw [Int.zero_mul, show fits 0 = true from rfl, show held 0 = 0 from rfl]
    clear haa ha hb hbb
    go_enter Try.func21, Try.ntmps21
    go_wp2
    go_ret2
    exact ⟨rfl, rfl⟩
  by_cases ap : 1 ≤ a
  · exact RMul_pos a b w ap haa.2 hb
  obtain ⟨an1, an2⟩ := haa
  obtain ⟨hb1, hb2⟩ := hbb
  have an : a < 0 := by omega
  by_cases b0 : b = 0
  · subst b0
    rw [Int.mul_zero, show fits 0 = true from rfl, show held 0 = 0 from rfl]
    clear ha hb a0 ap
    go_enter Try.func21, Try.ntmps21
    go_wp2
    go_ret2
    exact ⟨rfl, rfl⟩
  have b0b : (b == 0) = false := by simpa using b0
  by_cases b1 : b = 1
  · subst b1
    rw [Int.mul_one, fits_iff.2 ha, held_yes (fits_iff.2 ha)]
    clear ha hb a0 ap b0
    go_enter Try.func21, Try.ntmps21
    go_wp2
    go_ret2
    exact ⟨rfl, rfl⟩
  have b1b : (b == 1) = false := by simpa using b1
  by_cases al : a = -9223372036854775808
  · subst al
    have hf : fits (-9223372036854775808 * b) = false := by rw [fits_not]; unfold I64; omega
    rw [hf, held_no hf]
    clear ha hb b0 b1 hf a0 ap
    go_enter Try.func21, Try.ntmps21
    go_wp2
    go_ret2
    exact ⟨rfl, rfl⟩
  have al1 : -9223372036854775807 ≤ a := by omega
  have alb : (a == -9223372036854775808) = false := by simpa using al
  by_cases bl : b = -9223372036854775808
  · subst bl
    have hf : fits (a * -9223372036854775808) = false := by rw [fits_not]; unfold I64; omega
    rw [hf, held_no hf]
    clear ha hb b0 b1 hf a0 ap al
    go_enter Try.func21, Try.ntmps21
    go_wp2
    go_ret2
    exact ⟨rfl, rfl⟩
  have blb : (b == -9223372036854775808) = false := by simpa using bl
  have M := fun w => RMul_pos (-a) b w (by omega) (by omega) hb
  have E1 := fun w => Redge_no (-a) b w (by omega) (by omega) hb
  have E2 := fun w => Redge_yes (-a) b w (by omega) (by omega) hb
  simp only [Int.neg_mul] at M E1 E2
  generalize a * b = z at *
  cases hf : fits (-z)
  · have hn : held (-z) = 0 := held_no hf
    have k := fits_not.1 hf
    unfold I64 at k
    simp only [hf, hn] at M
    replace M := Lib.hid M
    by_cases e : -z = 9223372036854775808
    · have E := fun w => E2 w e
      have f2 : fits z = true := by rw [fits_iff]; unfold I64; omega
      rw [f2, held_yes f2, show z = -9223372036854775808 by omega]
      replace E := Lib.hid E
      clear E1 E2 f2 e k hf hn ha hb a0 ap b0 b1 al bl
      go_enter Try.func21, Try.ntmps21
      go_wp2_with fail
      refine (M.out _).mono ?_
      rintro e w1 ⟨rfl, rfl⟩
      go_wp2_with fail
      refine (E.out _).mono ?_
      rintro e w1 ⟨rfl, rfl⟩
      go_wp2
      go_ret2
      exact ⟨rfl, rfl⟩
    · have E := fun w => E1 w e
      have f2 : fits z = false := by rw [fits_not]; unfold I64; omega
      rw [f2, held_no f2]
      replace E := Lib.hid E
      clear E1 E2 f2 e k hf hn ha hb a0 ap b0 b1 al bl
      go_enter Try.func21, Try.ntmps21
      go_wp2_with fail
      refine (M.out _).mono ?_
      rintro e w1 ⟨rfl, rfl⟩
      go_wp2_with fail
      refine (E.out _).mono ?_
      rintro e w1 ⟨rfl, rfl⟩
      go_wp2
      go_ret2
      exact ⟨rfl, rfl⟩
  · have hn : held (-z) = -z := held_yes hf
    have k := fits_iff.1 hf
    unfold I64 at k
    obtain ⟨k1, k2⟩ := k
    simp only [hf, hn] at M
    by_cases e : z = 9223372036854775808
    · have f2 : fits z = false := by rw [fits_not]; unfold I64; omega
      rw [f2, held_no f2]
      subst e
      replace M := Lib.hid M
      clear E1 E2 f2 hf hn ha hb a0 ap b0 b1 al bl
      go_enter Try.func21, Try.ntmps21
      go_wp2_with fail
      refine (M.out _).mono ?_
      rintro e w1 ⟨rfl, rfl⟩
      go_wp2
      go_ret2
      exact ⟨rfl, rfl⟩
    · have f2 : fits z = true := by rw [fits_iff]; unfold I64; omega
      rw [f2, held_yes f2]
      obtain ⟨y, rfl⟩ : ∃ y, z = -y := ⟨-z, by omega⟩
      simp only [Int.neg_neg] at M
      replace M := Lib.hid M
      have l1 : -9223372036854775807 ≤ y := by omega
      have l2 : y ≤ 9223372036854775807 := by omega
      have l3 : (y == -9223372036854775808) = false := by simp; omega
      clear E1 E2 f2 e k1 k2 hf hn ha hb a0 ap b0 b1 al bl
      go_enter Try.func21, Try.ntmps21
      go_wp2_with fail
      refine (M.out _).mono ?_
      rintro e w1 ⟨rfl, rfl⟩
      go_wp2
      go_ret2
      exact ⟨rfl, rfl⟩

theorem upS_mod {a b : Int} (ha : 1 ≤ a) (hb : 1 ≤ b) : upS a b = if 0 < a % b then a / b + 1 else a / b := by
  have h := up_ge ha hb
  have e := Int.mul_ediv_add_emod a b
  have e1 := Int.emod_nonneg a (show b ≠ 0 by omega)
  have e2 := Int.emod_lt_of_pos a (show 0 < b by omega)
  rw [Int.sub_mul, Int.one_mul] at h
  generalize upS a b = u at *
  have tri : u = a / b ∨ u = a / b + 1 ∨ u < a / b ∨ a / b + 1 < u := by omega
  have mono : ∀ x y : Int, x ≤ y → b * x ≤ b * y := fun x y h => Int.mul_le_mul_of_nonneg_left h (by omega)
  rw [Int.mul_comm u b] at h
  generalize a / b = q at *
  have d1 : b * (q + 1) = b * q + b := by rw [Int.mul_add, Int.mul_one]
  have d2 : b * (q - 1) = b * q - b := by rw [Int.mul_sub, Int.mul_one]
  have d3 : b * (q + 2) = b * q + b + b := by rw [Int.mul_add]; omega
  rcases tri with t | t | t | t
  · subst t; split <;> omega
  · subst t; split <;> omega
  · have := mono u (q - 1) (by omega); omega
  · have := mono (q + 2) u (by omega); omega

set_option maxHeartbeats 400000 in
theorem RUp_calls (a b : Int) (w : World) (ha : I64 a) (hb : I64 b) :
    Calls Try.prog 23 #[.int .i64 a, .int .i64 b] w fun e w' => e = .returned (.int .i64 (upS a b)) ∧ w = w' := by
  by_cases h1 : a < 1
  · rw [show upS a b = 0 from if_pos (Or.inl h1)]
    clear ha hb
    go_enter Try.func23, Try.ntmps23
    go_wp2
    go_ret
    exact ⟨rfl, rfl⟩
  by_cases h2 : b < 1
  · rw [show upS a b = 0 from if_pos (Or.inr h2)]
    clear ha hb
    go_enter Try.func23, Try.ntmps23
    go_wp2
    go_ret
    exact ⟨rfl, rfl⟩
  have hu := upS_mod (a := a) (b := b) (by omega) (by omega)
  have u2 := up_pos (a := a) (b := b) (by omega) (by omega)
  have q1 : 0 ≤ a / b := Int.ediv_nonneg (by omega) (by omega)
  unfold I64 at ha hb
  obtain ⟨ha1, ha2⟩ := ha
  obtain ⟨hb1, hb2⟩ := hb
  by_cases hm : 0 < a % b
  · rw [if_pos hm] at hu
    rw [hu] at u2 ⊢
    obtain ⟨u3, u4⟩ := u2
    clear hu
    go_enter Try.func23, Try.ntmps23
    go_wp2
    go_ret
    exact ⟨rfl, rfl⟩
  · rw [if_neg hm] at hu
    rw [hu] at u2 ⊢
    obtain ⟨u3, u4⟩ := u2
    clear hu
    go_enter Try.func23, Try.ntmps23
    go_wp2
    go_ret
    exact ⟨rfl, rfl⟩

set_option maxHeartbeats 1000000 in
theorem ScalarTwo_calls (a b : Int) (w : World) (h1 : I64 a) (h2 : I64 b) :
    Calls Try.prog 3 #[.int .i64 a, .int .i64 b] w fun e w' => e = .returned (.bool true) ∧ Below w.heap.size w w' := by
  have A1 := Lib.hid fun w => Add_calls a b w h1 h2
  have A2 := Lib.hid fun w => RAdd_calls a b w h1 h2
  have S1 := Lib.hid fun w => Sub_calls a b w h1 h2
  have S2 := Lib.hid fun w => RSub_calls a b w h1 h2
  have M1 := Lib.hid fun w => Mul_calls a b w h1 h2
  have M2 := Lib.hid fun w => RMul_calls a b w h1 h2
  have U1 := Lib.hid fun w => Up_calls a b w h1 h2
  have U2 := Lib.hid fun w => RUp_calls a b w h1 h2
  generalize held (a + b) = r1 at *
  generalize fits (a + b) = r2 at *
  generalize held (a - b) = r3 at *
  generalize fits (a - b) = r4 at *
  generalize held (a * b) = r5 at *
  generalize fits (a * b) = r6 at *
  generalize upS a b = r7 at *
  clear h1 h2
  go_enter Try.func3, Try.ntmps3
  go_wp2_with fail
  refine (alive_calls _).mono ?_
  rintro e w1 ⟨rfl, hb⟩
  go_wp2_with fail
  refine (A1.out _).mono ?_
  rintro e w1 ⟨rfl, rfl⟩
  go_wp2_with fail
  refine (A2.out _).mono ?_
  rintro e w1 ⟨rfl, rfl⟩
  go_wp2_with fail
  refine (S1.out _).mono ?_
  rintro e w1 ⟨rfl, rfl⟩
  go_wp2_with fail
  refine (S2.out _).mono ?_
  rintro e w1 ⟨rfl, rfl⟩
  go_wp2_with fail
  refine (M1.out _).mono ?_
  rintro e w1 ⟨rfl, rfl⟩
  go_wp2_with fail
  refine (M2.out _).mono ?_
  rintro e w1 ⟨rfl, rfl⟩
  go_wp2_with fail
  refine (U1.out _).mono ?_
  rintro e w1 ⟨rfl, rfl⟩
  go_wp2_with fail
  refine (U2.out _).mono ?_
  rintro e w1 ⟨rfl, rfl⟩
  go_wp2
  go_ret
  exact ⟨rfl, hb⟩
end Go.Proofs.Ytboniffcoohbjaa.Sc
