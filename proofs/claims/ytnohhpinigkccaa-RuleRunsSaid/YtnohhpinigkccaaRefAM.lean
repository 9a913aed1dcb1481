/- The reference's sum and product (layer 1), for seats without the other calls of that layer. Conditions: the numbers lie in int64's range. -/
import Derived.Test.YtnohhpinigkccaaScWalk
namespace Go.Proofs.Ytnohhpinigkccaa.Sc
open Go Go.RowKit
set_option linter.unusedVariables false
set_option linter.unusedSimpArgs false

theorem RAdd_calls (a b : Int) (w : World) (ha : I64 a) (hb : I64 b) :
    Calls Try.prog 25 #[.int .i64 a, .int .i64 b] w fun e w' => e = .returned (.tuple #[.int .i64 (held (a + b)), .bool (fits (a + b))]) ∧ w = w' := by
  unfold I64 at ha hb
  obtain ⟨ha1, ha2⟩ := ha
  obtain ⟨hb1, hb2⟩ := hb
  cases h : fits (a + b)
  · rw [held_no h]
    rw [fits_not] at h
    unfold I64 at h
    by_cases h0 : 0 < b
    · have k1 : 9223372036854775807 - b < a := by omega
      clear h
      go_enter Try.func25, Try.ntmps25
      go_wp2
      go_ret2
      exact ⟨rfl, rfl⟩
    · have k0 : b < 0 := by omega
      have k1 : a < -9223372036854775808 - b := by omega
      clear h
      go_enter Try.func25, Try.ntmps25
      go_wp2
      go_ret2
      exact ⟨rfl, rfl⟩
  · rw [held_yes h]
    rw [fits_iff] at h
    unfold I64 at h
    obtain ⟨k1, k2⟩ := h
    by_cases h0 : 0 < b
    · have k1 : a ≤ 9223372036854775807 - b := by omega
      go_enter Try.func25, Try.ntmps25
      go_wp2
      go_ret2
      exact ⟨rfl, rfl⟩
    · by_cases h1 : b < 0
      · have k1 : -9223372036854775808 - b ≤ a := by omega
        go_enter Try.func25, Try.ntmps25
        go_wp2
        go_ret2
        exact ⟨rfl, rfl⟩
      · go_enter Try.func25, Try.ntmps25
        go_wp2
        go_ret2
        exact ⟨rfl, rfl⟩

theorem posi_up {a b : Int} (ha : 2 ≤ a) (hb : 0 < b) (ha2 : a ≤ 9223372036854775807) : fits (a * b) = decide (b ≤ 9223372036854775807 / a) := by
  rw [Bool.eq_iff_iff, fits_iff, decide_eq_true_iff, Int.le_ediv_iff_mul_le (by omega), Int.mul_comm]
  unfold I64
  have : 0 ≤ b * a := Int.mul_nonneg (by omega) (by omega)
  omega
theorem posi_dn {a b : Int} (ha : 2 ≤ a) (hb : b < 0) (ha2 : a ≤ 9223372036854775807) : fits (a * b) = decide (-(9223372036854775808 / a) ≤ b) := by
  have h := Int.le_ediv_iff_mul_le (a := -b) (b := 9223372036854775808) (c := a) (by omega)
  rw [Bool.eq_iff_iff, fits_iff, decide_eq_true_iff]
  have e : -(9223372036854775808 / a) ≤ b ↔ -b ≤ 9223372036854775808 / a := by omega
  rw [e, h, Int.neg_mul, Int.mul_comm b a]
  unfold I64
  have : a * b ≤ 0 := Int.mul_nonpos_of_nonneg_of_nonpos (by omega) (by omega)
  omega
theorem quo_lo {a : Int} (ha : 1 ≤ a) : 0 ≤ (9223372036854775807 : Int) / a ∧ (9223372036854775807 : Int) / a ≤ 9223372036854775807 := ⟨Int.ediv_nonneg (by omega) (by omega), Int.ediv_le_self _ (by omega)⟩
theorem quo_hi {a : Int} (ha : 1 ≤ a) : 0 ≤ (9223372036854775808 : Int) / a ∧ (9223372036854775808 : Int) / a ≤ 9223372036854775808 := ⟨Int.ediv_nonneg (by omega) (by omega), Int.ediv_le_self _ (by omega)⟩

theorem tdiv_least {a : Int} (ha : 1 ≤ a) : wrap64 (-Int.tdiv 9223372036854775808 a) = -(9223372036854775808 / a) := by
  have q := quo_hi ha
  rw [Int.tdiv_eq_ediv_of_nonneg (by omega)]
  exact w64 (by unfold I64; omega)

set_option maxHeartbeats 400000 in
theorem Rpositive_calls (a b : Int) (w : World) (ha : 2 ≤ a) (ha2 : a ≤ 9223372036854775807) (hb : I64 b) (h0 : b ≠ 0) :
    Calls Try.prog 35 #[.int .i64 a, .int .i64 b] w fun e w' => e = .returned (.tuple #[.int .i64 (held (a * b)), .bool (fits (a * b))]) ∧ w = w' := by
  unfold I64 at hb
  obtain ⟨hb1, hb2⟩ := hb
  have ha0 : ¬ a = 0 := by omega
  by_cases hp : 0 < b
  · have q := quo_lo (a := a) (by omega)
    cases h : fits (a * b)
    · have k := h
      rw [posi_up ha hp ha2, decide_eq_false_iff_not] at k
      have k1 : 9223372036854775807 / a < b := by omega
      rw [held_no h]
      clear h k h0
      go_enter Try.func35, Try.ntmps35
      go_wp2
      go_ret2
      exact ⟨rfl, rfl⟩
    · have k := h
      rw [posi_up ha hp ha2, decide_eq_true_iff] at k
      have f := fits_iff.1 h
      rw [held_yes h, ← w64 f]
      clear h h0 f
      go_enter Try.func35, Try.ntmps35
      go_wp2
      go_ret2
      exact ⟨rfl, rfl⟩
  · have hn : b < 0 := by omega
    have q := quo_hi (a := a) (by omega)
    cases h : fits (a * b)
    · have k := h
      rw [posi_dn ha hn ha2, decide_eq_false_iff_not] at k
      have k1 : b < wrap64 (-Int.tdiv 9223372036854775808 a) := by rw [tdiv_least (by omega)]; omega
      rw [held_no h]
      clear h k h0
      go_enter Try.func35, Try.ntmps35
      go_wp2
      go_ret2
      exact ⟨rfl, rfl⟩
    · have k := h
      rw [posi_dn ha hn ha2, decide_eq_true_iff, ← tdiv_least (by omega)] at k
      have f := fits_iff.1 h
      rw [held_yes h, ← w64 f]
      clear h h0 f
      go_enter Try.func35, Try.ntmps35
      go_wp2
      go_ret2
      exact ⟨rfl, rfl⟩

/-- Is the product just the least number? (a is at least 1, the other side's product goes round) -/
theorem edge_iff {a b : Int} (ha : 1 ≤ a) (hb : 0 < b) : (-(9223372036854775808 / a) = -b ∧ 9223372036854775808 % a = 0) ↔ a * b = 9223372036854775808 := by
  have h := Int.mul_ediv_add_emod 9223372036854775808 a
  constructor
  · rintro ⟨h1, h2⟩
    have : 9223372036854775808 / a = b := by omega
    rw [this, h2] at h; omega
  · intro e
    have h2 : (9223372036854775808 : Int) % a = 0 := by rw [← e]; exact Int.mul_emod_right a b
    have h3 : (9223372036854775808 : Int) / a = b := by rw [← e]; exact Int.mul_ediv_cancel_left b (by omega)
    exact ⟨by omega, h2⟩

set_option maxHeartbeats 400000 in
theorem Redge_no (a b : Int) (w : World) (ha : 1 ≤ a) (ha2 : a ≤ 9223372036854775807) (hb : I64 b) (h : a * b ≠ 9223372036854775808) :
    Calls Try.prog 34 #[.int .i64 a, .int .i64 b] w fun e w' => e = .returned (.tuple #[.int .i64 0, .bool false]) ∧ w = w' := by
  unfold I64 at hb
  obtain ⟨hb1, hb2⟩ := hb
  have ha0 : ¬ a = 0 := by omega
  by_cases hp : 0 < b
  · have k := mt (edge_iff ha hp).1 h
    rw [← tdiv_least ha] at k
    by_cases k1 : wrap64 (-Int.tdiv 9223372036854775808 a) = -b
    · have k2 : ¬ 9223372036854775808 % a = 0 := fun hh => k ⟨k1, hh⟩
      have k1b : (wrap64 (-Int.tdiv 9223372036854775808 a) == -b) = true := by rw [k1]; simp
      have k2b : (-(9223372036854775808 % a) == 0) = false := by simp; omega
      clear k h k1 k2
      go_enter Try.func34, Try.ntmps34
      go_wp2
      go_ret2
      exact ⟨rfl, rfl⟩
    · have k1b : (wrap64 (-Int.tdiv 9223372036854775808 a) == -b) = false := by simpa using k1
      clear k h k1
      go_enter Try.func34, Try.ntmps34
      go_wp2
      go_ret2
      exact ⟨rfl, rfl⟩
  · clear h
    go_enter Try.func34, Try.ntmps34
    go_wp2
    go_ret2
    exact ⟨rfl, rfl⟩

set_option maxHeartbeats 400000 in
theorem Redge_yes (a b : Int) (w : World) (ha : 1 ≤ a) (ha2 : a ≤ 9223372036854775807) (hb : I64 b) (h : a * b = 9223372036854775808) :
    Calls Try.prog 34 #[.int .i64 a, .int .i64 b] w fun e w' => e = .returned (.tuple #[.int .i64 (-9223372036854775808), .bool true]) ∧ w = w' := by
  unfold I64 at hb
  obtain ⟨hb1, hb2⟩ := hb
  have ha0 : ¬ a = 0 := by omega
  have hp : 0 < b := by
    by_cases hp : 0 < b
    · exact hp
    · have : a * b ≤ 0 := Int.mul_nonpos_of_nonneg_of_nonpos (by omega) (by omega)
      omega
  have k := (edge_iff ha hp).2 h
  rw [← tdiv_least ha] at k
  have k1b : (wrap64 (-Int.tdiv 9223372036854775808 a) == -b) = true := by rw [k.1]; simp
  have k2b : (-(9223372036854775808 % a) == 0) = true := by simp; omega
  clear k h
  go_enter Try.func34, Try.ntmps34
  go_wp2
  go_ret2
  exact ⟨rfl, rfl⟩

/-- The product of a number from 1 on. -/
theorem RMul_pos (a b : Int) (w : World) (ha : 1 ≤ a) (ha2 : a ≤ 9223372036854775807) (hb : I64 b) :
    Calls Try.prog 26 #[.int .i64 a, .int .i64 b] w fun e w' => e = .returned (.tuple #[.int .i64 (held (a * b)), .bool (fits (a * b))]) ∧ w = w' := by
  have hbb := hb
  unfold I64 at hbb
  obtain ⟨hb1, hb2⟩ := hbb
  by_cases b0 : b = 0
  · subst b0
    rw [Int.mul_zero, show fits 0 = true from rfl, show held 0 = 0 from rfl]
    clear hb
    go_enter Try.func26, Try.ntmps26
    go_wp2
    go_ret2
    exact ⟨rfl, rfl⟩
  have b0b : (b == 0) = false := by simpa using b0
  have b0c : (b != 0) = true := by simpa using b0
  by_cases a1 : a = 1
  · subst a1
    rw [Int.one_mul, fits_iff.2 hb, held_yes (fits_iff.2 hb)]
    clear hb b0
    go_enter Try.func26, Try.ntmps26
    go_wp2
    go_ret2
    exact ⟨rfl, rfl⟩
  have a2 : 2 ≤ a := by omega
  by_cases b1 : b = 1
  · subst b1
    have ha : I64 a := by unfold I64; omega
    rw [Int.mul_one, fits_iff.2 ha, held_yes (fits_iff.2 ha)]
    clear hb b0 ha
    go_enter Try.func26, Try.ntmps26
    go_wp2
    go_ret2
    exact ⟨rfl, rfl⟩
  have b1b : (b == 1) = false := by simpa using b1
  by_cases bl : b = -9223372036854775808
  · subst bl
    have hf : fits (a * -9223372036854775808) = false := by rw [fits_not]; unfold I64; omega
    rw [hf, held_no hf]
    clear hb b0 b1 hf
    go_enter Try.func26, Try.ntmps26
    go_wp2
    go_ret2
    exact ⟨rfl, rfl⟩
  have blb : (b == -9223372036854775808) = false := by simpa using bl
  have P := fun w => Rpositive_calls a b w a2 ha2 hb b0
  generalize held (a * b) = H at *
  generalize fits (a * b) = B at *
  replace P := Lib.hid P
  clear hb b0 b1 bl a1
  go_enter Try.func26, Try.ntmps26
  go_wp2_with fail
  refine (P.out _).mono ?_
  rintro e w1 ⟨rfl, rfl⟩
  go_wp2
  go_ret2
  exact ⟨rfl, rfl⟩

set_option maxHeartbeats 400000 in
theorem RMul_calls (a b : Int) (w : World) (ha : I64 a) (hb : I64 b) :
    Calls Try.prog 26 #[.int .i64 a, .int .i64 b] w fun e w' => e = .returned (.tuple #[.int .i64 (held (a * b)), .bool (fits (a * b))]) ∧ w = w' := by
  have haa := ha
  unfold I64 at haa
  have hbb := hb
  unfold I64 at hbb
  by_cases a0 : a = 0
  · subst a0
    rw [Int.zero_mul, show fits 0 = true from rfl, show held 0 = 0 from rfl]
    clear haa ha hb hbb
    go_enter Try.func26, Try.ntmps26
    go_wp2
    go_ret2
    exact ⟨rfl, rfl⟩
  by_cases ap : 1 ≤ a
  · exact RMul_pos a b w ap haa.2 hb
  obtain ⟨an1, an2⟩ := haa
  obtain ⟨hb1, hb2⟩ := hbb
  have an : a < 0 := by omega
  by_cases b0 : b = 0
  · subst b0
    rw [Int.mul_zero, show fits 0 = true from rfl, show held 0 = 0 from rfl]
    clear ha hb a0 ap
    go_enter Try.func26, Try.ntmps26
    go_wp2
    go_ret2
    exact ⟨rfl, rfl⟩
  have b0b : (b == 0) = false := by simpa using b0
  by_cases b1 : b = 1
  · subst b1
    rw [Int.mul_one, fits_iff.2 ha, held_yes (fits_iff.2 ha)]
    clear ha hb a0 ap b0
    go_enter Try.func26, Try.ntmps26
    go_wp2
    go_ret2
    exact ⟨rfl, rfl⟩
  have b1b : (b == 1) = false := by simpa using b1
  by_cases al : a = -9223372036854775808
  · subst al
    have hf : fits (-9223372036854775808 * b) = false := by rw [fits_not]; unfold I64; omega
    rw [hf, held_no hf]
    clear ha hb b0 b1 hf a0 ap
    go_enter Try.func26, Try.ntmps26
    go_wp2
    go_ret2
    exact ⟨rfl, rfl⟩
  have al1 : -9223372036854775807 ≤ a := by omega
  have alb : (a == -9223372036854775808) = false := by simpa using al
  by_cases bl : b = -9223372036854775808
  · subst bl
    have hf : fits (a * -9223372036854775808) = false := by rw [fits_not]; unfold I64; omega
    rw [hf, held_no hf]
    clear ha hb b0 b1 hf a0 ap al
    go_enter Try.func26, Try.ntmps26
    go_wp2
    go_ret2
    exact ⟨rfl, rfl⟩
  have blb : (b == -9223372036854775808) = false := by simpa using bl
  have M := fun w => RMul_pos (-a) b w (by omega) (by omega) hb
  have E1 := fun w => Redge_no (-a) b w (by omega) (by omega) hb
  have E2 := fun w => Redge_yes (-a) b w (by omega) (by omega) hb
  simp only [Int.neg_mul] at M E1 E2
  generalize a * b = z at *
  cases hf : fits (-z)
  · have hn : held (-z) = 0 := held_no hf
    have k := fits_not.1 hf
    unfold I64 at k
    simp only [hf, hn] at M
    replace M := Lib.hid M
    by_cases e : -z = 9223372036854775808
    · have E := fun w => E2 w e
      have f2 : fits z = true := by rw [fits_iff]; unfold I64; omega
      rw [f2, held_yes f2, show z = -9223372036854775808 by omega]
      replace E := Lib.hid E
      clear E1 E2 f2 e k hf hn ha hb a0 ap b0 b1 al bl
      go_enter Try.func26, Try.ntmps26
      go_wp2_with fail
      refine (M.out _).mono ?_
      rintro e w1 ⟨rfl, rfl⟩
      go_wp2_with fail
      refine (E.out _).mono ?_
      rintro e w1 ⟨rfl, rfl⟩
      go_wp2
      go_ret2
      exact ⟨rfl, rfl⟩
    · have E := fun w => E1 w e
      have f2 : fits z = false := by rw [fits_not]; unfold I64; omega
      rw [f2, held_no f2]
      replace E := Lib.hid E
      clear E1 E2 f2 e k hf hn ha hb a0 ap b0 b1 al bl
      go_enter Try.func26, Try.ntmps26
      go_wp2_with fail
      refine (M.out _).mono ?_
      rintro e w1 ⟨rfl, rfl⟩
      go_wp2_with fail
      refine (E.out _).mono ?_
      rintro e w1 ⟨rfl, rfl⟩
      go_wp2
      go_ret2
      exact ⟨rfl, rfl⟩
  · have hn : held (-z) = -z := held_yes hf
    have k := fits_iff.1 hf
    unfold I64 at k
    obtain ⟨k1, k2⟩ := k
    simp only [hf, hn] at M
    by_cases e : z = 9223372036854775808
    · have f2 : fits z = false := by rw [fits_not]; unfold I64; omega
      rw [f2, held_no f2]
      subst e
      replace M := Lib.hid M
      clear E1 E2 f2 hf hn ha hb a0 ap b0 b1 al bl
      go_enter Try.func26, Try.ntmps26
      go_wp2_with fail
      refine (M.out _).mono ?_
      rintro e w1 ⟨rfl, rfl⟩
      go_wp2
      go_ret2
      exact ⟨rfl, rfl⟩
    · have f2 : fits z = true := by rw [fits_iff]; unfold I64; omega
      rw [f2, held_yes f2]
      obtain ⟨y, rfl⟩ : ∃ y, z = -y := ⟨-z, by omega⟩
      simp only [Int.neg_neg] at M
      replace M := Lib.hid M
      have l1 : -9223372036854775807 ≤ y := by omega
      have l2 : y ≤ 9223372036854775807 := by omega
      have l3 : (y == -9223372036854775808) = false := by simp; omega
      clear E1 E2 f2 e k1 k2 hf hn ha hb a0 ap b0 b1 al bl
      go_enter Try.func26, Try.ntmps26
      go_wp2_with fail
      refine (M.out _).mono ?_
      rintro e w1 ⟨rfl, rfl⟩
      go_wp2
      go_ret2
      exact ⟨rfl, rfl⟩


end Go.Proofs.Ytnohhpinigkccaa.Sc
