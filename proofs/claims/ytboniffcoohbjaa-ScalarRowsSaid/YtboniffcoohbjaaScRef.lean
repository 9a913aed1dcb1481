/- What the reference's sums, products and quotients (layer 1) answer. Conditions: the numbers lie in int64's range. -/
import Derived.Test.YtboniffcoohbjaaScMore
namespace Go.Proofs.Ytboniffcoohbjaa.Sc
open Go Go.RowKit
set_option linter.unusedVariables false
set_option linter.unusedSimpArgs false

theorem RAdd_calls (a b : Int) (w : World) (ha : I64 a) (hb : I64 b) :
    Calls Try.prog 17 #[.int .i64 a, .int .i64 b] w fun e w' => e = .returned (.tuple #[.int .i64 (held (a + b)), .bool (fits (a + b))]) ∧ w = w' := by
  unfold I64 at ha hb
  obtain ⟨ha1, ha2⟩ := ha
  obtain ⟨hb1, hb2⟩ := hb
  cases h : fits (a + b)
  · rw [held_no h]
    rw [fits_not] at h
    unfold I64 at h
    by_cases h0 : 0 < b
    · have k1 : 9223372036854775807 - b < a := by omega
      clear h
      go_enter Try.func17, Try.ntmps17
      go_wp2
      go_ret2
      exact ⟨rfl, rfl⟩
    · have k0 : b < 0 := by omega
      have k1 : a < -9223372036854775808 - b := by omega
      clear h
      go_enter Try.func17, Try.ntmps17
      go_wp2
      go_ret2
      exact ⟨rfl, rfl⟩
  · rw [held_yes h]
    rw [fits_iff] at h
    unfold I64 at h
    obtain ⟨k1, k2⟩ := h
    by_cases h0 : 0 < b
    · have k1 : a ≤ 9223372036854775807 - b := by omega
      go_enter Try.func17, Try.ntmps17
      go_wp2
      go_ret2
      exact ⟨rfl, rfl⟩
    · by_cases h1 : b < 0
      · have k1 : -9223372036854775808 - b ≤ a := by omega
        go_enter Try.func17, Try.ntmps17
        go_wp2
        go_ret2
        exact ⟨rfl, rfl⟩
      · go_enter Try.func17, Try.ntmps17
        go_wp2
        go_ret2
        exact ⟨rfl, rfl⟩

theorem RSub_calls (a b : Int) (w : World) (ha : I64 a) (hb : I64 b) :
    Calls Try.prog 19 #[.int .i64 a, .int .i64 b] w fun e w' => e = .returned (.tuple #[.int .i64 (held (a - b)), .bool (fits (a - b))]) ∧ w = w' := by
  unfold I64 at ha hb
  obtain ⟨ha1, ha2⟩ := ha
  obtain ⟨hb1, hb2⟩ := hb
  cases h : fits (a - b)
  · rw [held_no h]
    rw [fits_not] at h
    unfold I64 at h
    by_cases h0 : b < 0
    · have k1 : 9223372036854775807 + b < a := by omega
      clear h
      go_enter Try.func19, Try.ntmps19
      go_wp2
      go_ret2
      exact ⟨rfl, rfl⟩
    · have k0 : 0 < b := by omega
      have k1 : a < -9223372036854775808 + b := by omega
      clear h
      go_enter Try.func19, Try.ntmps19
      go_wp2
      go_ret2
      exact ⟨rfl, rfl⟩
  · rw [held_yes h]
    rw [fits_iff] at h
    unfold I64 at h
    obtain ⟨k1, k2⟩ := h
    by_cases h0 : b < 0
    · have k1 : a ≤ 9223372036854775807 + b := by omega
      go_enter Try.func19, Try.ntmps19
      go_wp2
      go_ret2
      exact ⟨rfl, rfl⟩
    · by_cases h1 : 0 < b
      · have k1 : -9223372036854775808 + b ≤ a := by omega
        go_enter Try.func19, Try.ntmps19
        go_wp2
        go_ret2
        exact ⟨rfl, rfl⟩
      · go_enter Try.func19, Try.ntmps19
        go_wp2
        go_ret2
        exact ⟨rfl, rfl⟩

end Go.Proofs.Ytboniffcoohbjaa.Sc
