/- x & 7, x & 255, x & 511 of an int. Nothing of the program is named. -/
import Derived.Laws.BitsLemmas
namespace Go.Proofs.Ytehecolejeonaaa.Lb
open Go
set_option linter.unusedVariables false
theorem i64_low (n c : Int) (k : Nat) (hc : (BitVec.ofInt 64 c).toNat = 2 ^ k - 1) (hk : k ≤ 62) : bits .and .i64 n c = n % (2 ^ k : Nat) := by
  have key : (BitVec.ofInt 64 n &&& BitVec.ofInt 64 c).toNat = (n % ((2 ^ 64 : Nat) : Int)).toNat % 2 ^ k := by
    rw [BitVec.toNat_and, BitVec.toNat_ofInt, hc, Nat.and_two_pow_sub_one_eq_mod]
  show IntKind.i64.wrap ((BitVec.ofInt 64 n &&& BitVec.ofInt 64 c).toNat : Nat) = _
  have hd : 2 ^ k ∣ 2 ^ 64 := Nat.pow_dvd_pow 2 (by omega)
  have hp : 0 < 2 ^ k := Nat.pow_pos (by decide)
  have hb : 2 ^ k ≤ 2 ^ 62 := Nat.pow_le_pow_right (by decide) hk
  have e : (((n % ((2 ^ 64 : Nat) : Int)).toNat % 2 ^ k : Nat) : Int) = n % (2 ^ k : Nat) := by
    rw [Int.natCast_emod, Int.toNat_of_nonneg (Int.emod_nonneg _ (by decide))]
    exact Int.emod_emod_of_dvd n (Int.natCast_dvd_natCast.2 hd)
  rw [key, e, IntKind.wrap_i64]
  have h0 : 0 ≤ n % ((2 ^ k : Nat) : Int) := Int.emod_nonneg _ (by omega)
  have h1 : n % ((2 ^ k : Nat) : Int) < ((2 ^ k : Nat) : Int) := Int.emod_lt_of_pos _ (by omega)
  omega
theorem i64_and255 (n : Int) : bits .and .i64 n 255 = n % 256 := i64_low n 255 8 (by decide) (by decide)
theorem i64_and511 (n : Int) : bits .and .i64 n 511 = n % 512 := i64_low n 511 9 (by decide) (by decide)
theorem i64_and7 (n : Int) : bits .and .i64 n 7 = n % 8 := i64_low n 7 3 (by decide) (by decide)
theorem cut_of (n : Int) (len : Nat) (c : Int) (h0 : 0 ≤ n) : ∃ m : Nat, n.tmod ((len : Int) + 1) = m ∧ m ≤ len := by
  rw [Int.tmod_eq_emod_of_nonneg h0]
  have h1 := Int.emod_nonneg n (show ((len : Int) + 1) ≠ 0 by omega)
  have h2 := Int.emod_lt_of_pos n (show 0 < ((len : Int) + 1) by omega)
  exact ⟨(n % ((len : Int) + 1)).toNat, by omega, by omega⟩
end Go.Proofs.Ytehecolejeonaaa.Lb
