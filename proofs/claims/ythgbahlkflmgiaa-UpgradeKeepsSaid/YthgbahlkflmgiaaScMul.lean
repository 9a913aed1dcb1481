/- What the functions of package scalar answer, for all numbers: each walk through one function's code. Conditions: arguments lie in int64's range. -/
import Derived.Test.YthgbahlkflmgiaaProg
import Derived.Test.YthgbahlkflmgiaaScBase
import Derived.WalkKit
import Derived.WalkSpells
import Derived.WalkLawsBesides
import Derived.Lib.Hide
import Derived.IntWalk
import Derived.Deep.QuietTactic
import Derived.BigQuiet
namespace Go.Proofs.Ythgbahlkflmgiaa.Sc
open Go Go.RowKit

theorem size_calls (a : Int) (w : World) (ha : I64 a) :
    Calls Try.prog 61 #[.int .i64 a] w fun e w' => e = .returned (.int .u64 (a.natAbs : Int)) ∧ w = w' := by
  by_cases h : a < 0
  · rw [← size_neg ha h]
    clear ha
    go_enter Try.func61, Try.ntmps61
    go_wp2
    go_ret
    exact ⟨rfl, rfl⟩
  · rw [← size_pos ha h]
    clear ha
    go_enter Try.func61, Try.ntmps61
    go_wp2
    go_ret
    exact ⟨rfl, rfl⟩

set_option maxHeartbeats 400000 in
theorem Mul64_calls (a b : Int) (w : World) (ha0 : 0 ≤ a) (ha : a < 18446744073709551616) (hb0 : 0 ≤ b) (hb : b < 18446744073709551616) :
    Calls Try.prog 60 #[.int .u64 a, .int .u64 b] w fun e w' => e = .returned (.tuple #[.int .u64 (a * b / 18446744073709551616), .int .u64 (a * b % 18446744073709551616)]) ∧ w = w' := by
  rw [← mul64_hi ha0 ha hb0 hb, ← u64wd]
  clear ha hb
  go_enter Try.func60, Try.ntmps60
  go_wp2
  go_ret2
  exact ⟨rfl, rfl⟩

set_option maxHeartbeats 1000000 in
theorem Mul_calls (a b : Int) (w : World) (ha : I64 a) (hb : I64 b) :
    Calls Try.prog 41 #[.int .i64 a, .int .i64 b] w fun e w' => e = .returned (.tuple #[.int .i64 (held (a * b)), .bool (fits (a * b))]) ∧ w = w' := by
  have hs := mul_sign a b
  have c1 := size_calls a w ha
  have c2 := size_calls b w hb
  have c3 := Mul64_calls (a.natAbs : Int) (b.natAbs : Int) w (by omega) (by unfold I64 at ha; omega) (by omega) (by unfold I64 at hb; omega)
  rw [← Int.natCast_mul] at c3
  have hm : ((a.natAbs * b.natAbs : Nat) : Int) < 85070591730234615865843651857942052865 := by
    have : a.natAbs * b.natAbs ≤ 9223372036854775808 * 9223372036854775808 := Nat.mul_le_mul (by unfold I64 at ha; omega) (by unfold I64 at hb; omega)
    omega
  generalize a * b = z at *
  generalize hA : (a.natAbs : Int) = A at *
  generalize hB : (b.natAbs : Int) = B at *
  generalize a.natAbs * b.natAbs = m at *
  clear hA hB
  obtain ⟨sg, hsg⟩ : ∃ sg, (decide (a < 0) != decide (b < 0)) = sg := ⟨_, rfl⟩
  rw [hsg] at hs
  have C1 := Lib.hid c1
  have C2 := Lib.hid c2
  have C3 := Lib.hid c3
  clear c1 c2 c3 ha hb
  generalize hH : (m : Int) / 18446744073709551616 = H at *
  generalize hL : (m : Int) % 18446744073709551616 = L at *
  by_cases k1 : 0 < H
  · have hf : fits z = false := by
      rw [fits_not]; unfold I64; rw [hs]; split <;> omega
    rw [hf, held_no hf]
    clear hf hs hH hL hm
    have HS := Lib.hid hsg
    clear hsg
    go_enter Try.func41, Try.ntmps41
    go_wp2_with fail
    refine C1.out.mono ?_
    rintro e w1 ⟨rfl, rfl⟩
    go_wp2_with fail
    refine C2.out.mono ?_
    rintro e w1 ⟨rfl, rfl⟩
    go_wp2_with fail
    refine C3.out.mono ?_
    rintro e w1 ⟨rfl, rfl⟩
    go_wp2
    go_ret2
    exact ⟨rfl, rfl⟩
  have hL' : (m : Int) = L := by omega
  rw [hL'] at hs
  have hL0 : 0 ≤ L := by omega
  clear hH hL hm hL'
  by_cases k2 : 9223372036854775808 < L
  · have hf : fits z = false := by
      rw [fits_not]; unfold I64; rw [hs]; split <;> omega
    rw [hf, held_no hf]
    clear hf hs
    have HS := Lib.hid hsg
    clear hsg
    go_enter Try.func41, Try.ntmps41
    go_wp2_with fail
    refine C1.out.mono ?_
    rintro e w1 ⟨rfl, rfl⟩
    go_wp2_with fail
    refine C2.out.mono ?_
    rintro e w1 ⟨rfl, rfl⟩
    go_wp2_with fail
    refine C3.out.mono ?_
    rintro e w1 ⟨rfl, rfl⟩
    go_wp2
    go_ret2
    exact ⟨rfl, rfl⟩
  by_cases k3 : L = 9223372036854775808
  · have k3b : (L == 9223372036854775808) = true := by simpa using k3
    cases sg
    · have hf : fits z = false := by
        rw [fits_not]; unfold I64; rw [hs]; simp only [Bool.false_eq_true, if_false]; omega
      rw [hf, held_no hf]
      have hsg' : (decide (a < 0) == decide (b < 0)) = true := by cases h1 : decide (a < 0) <;> cases h2 : decide (b < 0) <;> simp_all
      clear hf hs k3 hsg hL0
      go_enter Try.func41, Try.ntmps41
      go_wp2_with fail
      refine C1.out.mono ?_
      rintro e w1 ⟨rfl, rfl⟩
      go_wp2_with fail
      refine C2.out.mono ?_
      rintro e w1 ⟨rfl, rfl⟩
      go_wp2_with fail
      refine C3.out.mono ?_
      rintro e w1 ⟨rfl, rfl⟩
      go_wp2
      go_ret2
      exact ⟨rfl, rfl⟩
    · have hf : fits z = true := by
        rw [fits_iff]; unfold I64; rw [hs]; simp only [if_true]; omega
      have hz : z = wrap64 (IntKind.u64.wrap (-L)) := by rw [hs, u64wd]; simp only [if_true]; unfold wrap64; omega
      rw [hf, held_yes hf, hz]
      have hsg' : (decide (a < 0) == decide (b < 0)) = false := by cases h1 : decide (a < 0) <;> cases h2 : decide (b < 0) <;> simp_all
      clear hf hs hz k3 hsg hL0
      go_enter Try.func41, Try.ntmps41
      go_wp2_with fail
      refine C1.out.mono ?_
      rintro e w1 ⟨rfl, rfl⟩
      go_wp2_with fail
      refine C2.out.mono ?_
      rintro e w1 ⟨rfl, rfl⟩
      go_wp2_with fail
      refine C3.out.mono ?_
      rintro e w1 ⟨rfl, rfl⟩
      go_wp2
      go_ret2
      exact ⟨rfl, rfl⟩
  · have k3b : (L == 9223372036854775808) = false := by simpa using k3
    cases sg
    · have hf : fits z = true := by
        rw [fits_iff]; unfold I64; rw [hs]; simp only [Bool.false_eq_true, if_false]; omega
      have hz : z = wrap64 L := by rw [hs]; simp only [Bool.false_eq_true, if_false]; unfold wrap64; omega
      rw [hf, held_yes hf, hz]
      have hsg' : (decide (a < 0) == decide (b < 0)) = true := by cases h1 : decide (a < 0) <;> cases h2 : decide (b < 0) <;> simp_all
      clear hf hs hz k3 hsg hL0
      go_enter Try.func41, Try.ntmps41
      go_wp2_with fail
      refine C1.out.mono ?_
      rintro e w1 ⟨rfl, rfl⟩
      go_wp2_with fail
      refine C2.out.mono ?_
      rintro e w1 ⟨rfl, rfl⟩
      go_wp2_with fail
      refine C3.out.mono ?_
      rintro e w1 ⟨rfl, rfl⟩
      go_wp2
      go_ret2
      exact ⟨rfl, rfl⟩
    · have hf : fits z = true := by
        rw [fits_iff]; unfold I64; rw [hs]; simp only [if_true]; omega
      have hz : z = wrap64 (IntKind.u64.wrap (-L)) := by rw [hs, u64wd]; simp only [if_true]; unfold wrap64; omega
      rw [hf, held_yes hf, hz]
      have hsg' : (decide (a < 0) == decide (b < 0)) = false := by cases h1 : decide (a < 0) <;> cases h2 : decide (b < 0) <;> simp_all
      clear hf hs hz k3 hsg hL0
      go_enter Try.func41, Try.ntmps41
      go_wp2_with fail
      refine C1.out.mono ?_
      rintro e w1 ⟨rfl, rfl⟩
      go_wp2_with fail
      refine C2.out.mono ?_
      rintro e w1 ⟨rfl, rfl⟩
      go_wp2_with fail
      refine C3.out.mono ?_
      rintro e w1 ⟨rfl, rfl⟩
      go_wp2
      go_ret2
      exact ⟨rfl, rfl⟩

end Go.Proofs.Ythgbahlkflmgiaa.Sc
