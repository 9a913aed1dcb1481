/- Plain arithmetic under the walks of package scalar: sums, differences and products of 64-bit numbers, and when they go round. Conditions: the numbers lie in int64's range. -/
import Derived.Laws.BitsLemmas
import Derived.RowKit
import Derived.Lib.Mul64
namespace Go.Proofs.Ythgbahlkflmgiaa.Sc
open Go Go.RowKit

def I64 (a : Int) : Prop := -9223372036854775808 ≤ a ∧ a ≤ 9223372036854775807
theorem I64.of_wf {a : Int} (h : (Lit.int .i64 a).wf = true) : I64 a := by
  simp [Lit.wf, IntKind.min, IntKind.max, IntKind.bits, IntKind.signed] at h
  unfold I64; omega
theorem w64 {a : Int} (h : I64 a) : wrap64 a = a := by unfold wrap64; unfold I64 at h; omega
theorem i64wrap_toNat (r : BitVec 64) : IntKind.i64.wrap (r.toNat : Int) = r.toInt := by
  rw [IntKind.wrap_i64, BitVec.toInt_eq_toNat_bmod, Int.bmod_def]
  have := r.isLt
  split <;> omega
theorem bits_xor_i64 (a b : Int) : bits .xor .i64 a b = (BitVec.ofInt 64 a ^^^ BitVec.ofInt 64 b).toInt := by
  rw [← i64wrap_toNat]; rfl
theorem bits_and_i64 (a b : Int) : bits .and .i64 a b = (BitVec.ofInt 64 a &&& BitVec.ofInt 64 b).toInt := by
  rw [← i64wrap_toNat]; rfl
theorem msb_ofInt {a : Int} (h : I64 a) : (BitVec.ofInt 64 a).msb = decide (a < 0) := by
  rw [BitVec.msb_eq_toInt, BitVec.toInt_ofInt]
  unfold I64 at h
  have : a.bmod (2^64) = a := by rw [Int.bmod_def]; split <;> omega
  rw [this]
theorem msb_neg (r : BitVec 64) : r.toInt < 0 ↔ r.msb = true := by rw [BitVec.msb_eq_toInt]; simp
theorem sign_add (a b s : Int) (ha : I64 a) (hb : I64 b) (hs : I64 s) :
    (bits .and .i64 (bits .xor .i64 a s) (bits .xor .i64 b s) < 0) ↔ (decide (a < 0) ≠ decide (s < 0) ∧ decide (b < 0) ≠ decide (s < 0)) := by
  rw [bits_and_i64, bits_xor_i64, bits_xor_i64, BitVec.ofInt_toInt, BitVec.ofInt_toInt, msb_neg]
  rw [BitVec.msb_and, BitVec.msb_xor, BitVec.msb_xor, msb_ofInt ha, msb_ofInt hb, msb_ofInt hs]
  simp
theorem sign_sub (a b d : Int) (ha : I64 a) (hb : I64 b) (hs : I64 d) :
    (bits .and .i64 (bits .xor .i64 a b) (bits .xor .i64 a d) < 0) ↔ (decide (a < 0) ≠ decide (b < 0) ∧ decide (a < 0) ≠ decide (d < 0)) := by
  rw [bits_and_i64, bits_xor_i64, bits_xor_i64, BitVec.ofInt_toInt, BitVec.ofInt_toInt, msb_neg]
  rw [BitVec.msb_and, BitVec.msb_xor, BitVec.msb_xor, msb_ofInt ha, msb_ofInt hb, msb_ofInt hs]
  simp
theorem i64_wrap64 (n : Int) : I64 (wrap64 n) := by unfold I64 wrap64; omega

/-- Does the number fit? -/
def fits (n : Int) : Bool := decide (-9223372036854775808 ≤ n) && decide (n ≤ 9223372036854775807)
theorem fits_iff {n : Int} : fits n = true ↔ I64 n := by unfold fits I64; simp
theorem fits_not {n : Int} : fits n = false ↔ ¬ I64 n := by rw [← fits_iff]; simp
theorem add_over {a b : Int} (ha : I64 a) (hb : I64 b) : decide (bits .and .i64 (bits .xor .i64 a (wrap64 (a + b))) (bits .xor .i64 b (wrap64 (a + b))) < 0) = !fits (a + b) := by
  have h := sign_add a b (wrap64 (a + b)) ha hb (i64_wrap64 _)
  rw [Bool.eq_iff_iff, decide_eq_true_iff, h, Bool.not_eq_true', fits_not]
  unfold I64 at *
  simp only [ne_eq, decide_eq_decide]
  unfold wrap64
  omega
theorem sub_over {a b : Int} (ha : I64 a) (hb : I64 b) : decide (bits .and .i64 (bits .xor .i64 a b) (bits .xor .i64 a (wrap64 (a - b))) < 0) = !fits (a - b) := by
  have h := sign_sub a b (wrap64 (a - b)) ha hb (i64_wrap64 _)
  rw [Bool.eq_iff_iff, decide_eq_true_iff, h, Bool.not_eq_true', fits_not]
  unfold I64 at *
  simp only [ne_eq, decide_eq_decide]
  unfold wrap64
  omega
/-- The number, or 0 where it goes round. -/
def held (n : Int) : Int := if fits n = true then n else 0
theorem held_yes {n : Int} (h : fits n = true) : held n = n := if_pos h
theorem held_no {n : Int} (h : fits n = false) : held n = 0 := if_neg (by simp [h])
theorem held_i64 (n : Int) : I64 (held n) := by
  cases h : fits n
  · rw [held_no h]; unfold I64; omega
  · rw [held_yes h]; exact fits_iff.1 h

theorem and_mask {a : Int} (h0 : 0 ≤ a) (h1 : a < 18446744073709551616) : bits .and .u64 a 4294967295 = a % 4294967296 :=
  bits_mask .u64 64 (by decide) (fun n h0 h1 => by simp [IntKind.wrap, IntKind.bits, IntKind.signed]; omega) 32 (by decide) a h0 (by omega)
theorem u64w {a : Int} (h0 : 0 ≤ a) (h1 : a < 18446744073709551616) : IntKind.u64.wrap a = a := by simp [IntKind.wrap, IntKind.bits, IntKind.signed]; omega
theorem u64wd (a : Int) : IntKind.u64.wrap a = a % 18446744073709551616 := by simp [IntKind.wrap, IntKind.bits, IntKind.signed]
theorem mul64_hi {a b : Int} (ha0 : 0 ≤ a) (ha : a < 18446744073709551616) (hb0 : 0 ≤ b) (hb : b < 18446744073709551616) :
    IntKind.u64.wrap ((IntKind.u64.wrap ((IntKind.u64.wrap ((a / 4294967296) * (b / 4294967296))) + ((IntKind.u64.wrap ((IntKind.u64.wrap ((a / 4294967296) * (Go.bits .and .u64 b 4294967295))) + ((IntKind.u64.wrap ((Go.bits .and .u64 a 4294967295) * (Go.bits .and .u64 b 4294967295))) / 4294967296))) / 4294967296))) + ((IntKind.u64.wrap ((Go.bits .and .u64 (IntKind.u64.wrap ((IntKind.u64.wrap ((a / 4294967296) * (Go.bits .and .u64 b 4294967295))) + ((IntKind.u64.wrap ((Go.bits .and .u64 a 4294967295) * (Go.bits .and .u64 b 4294967295))) / 4294967296))) 4294967295) + (IntKind.u64.wrap ((Go.bits .and .u64 a 4294967295) * (b / 4294967296))))) / 4294967296)) = a * b / 18446744073709551616 := by
  rw [and_mask ha0 ha, and_mask hb0 hb]
  obtain ⟨x, rfl⟩ := Int.eq_ofNat_of_zero_le ha0
  obtain ⟨y, rfl⟩ := Int.eq_ofNat_of_zero_le hb0
  have h := Lib.mul64_hi x y (by omega) (by omega)
  obtain ⟨h1, h2, h3, h4⟩ := h
  rw [show (x : Int) % 4294967296 = ((x % 4294967296 : Nat) : Int) by omega, show (y : Int) % 4294967296 = ((y % 4294967296 : Nat) : Int) by omega,
    show (x : Int) / 4294967296 = ((x / 4294967296 : Nat) : Int) by omega, show (y : Int) / 4294967296 = ((y / 4294967296 : Nat) : Int) by omega,
    ← Int.natCast_mul, ← Int.natCast_mul, ← Int.natCast_mul, ← Int.natCast_mul, ← Int.natCast_mul]
  have hxy : x * y < 18446744073709551616 * 18446744073709551616 := Nat.mul_lt_mul'' (by omega) (by omega)
  generalize x % 4294967296 * (y % 4294967296) = p at *
  generalize x / 4294967296 * (y % 4294967296) = q at *
  generalize x % 4294967296 * (y / 4294967296) = r at *
  generalize x / 4294967296 * (y / 4294967296) = s at *
  generalize x * y = m at *
  rw [u64w (a := (p : Int)) (by omega) (by omega), u64w (a := (q : Int)) (by omega) (by omega), u64w (a := (r : Int)) (by omega) (by omega), u64w (a := (s : Int)) (by omega) (by omega)]
  rw [u64w (a := (q : Int) + (p : Int) / 4294967296) (by omega) (by omega)]
  rw [and_mask (by omega) (by omega)]
  rw [u64w (a := _ + (r : Int)) (by omega) (by omega)]
  rw [u64w (a := (s : Int) + _) (by omega) (by omega)]
  rw [u64w (by omega) (by omega)]
  omega
theorem size_neg {a : Int} (ha : I64 a) (h : a < 0) : IntKind.u64.wrap (-(IntKind.u64.wrap a)) = (a.natAbs : Int) := by
  unfold I64 at ha; rw [u64wd, u64wd]; omega
theorem size_pos {a : Int} (ha : I64 a) (h : ¬ a < 0) : IntKind.u64.wrap a = (a.natAbs : Int) := by
  unfold I64 at ha; rw [u64wd]; omega
theorem mul_sign (a b : Int) : a * b = if (decide (a < 0) != decide (b < 0)) = true then -((a.natAbs * b.natAbs : Nat) : Int) else ((a.natAbs * b.natAbs : Nat) : Int) := by
  rw [Int.natCast_mul]
  by_cases h1 : a < 0 <;> by_cases h2 : b < 0
  · have e1 : (a.natAbs : Int) = -a := by omega
    have e2 : (b.natAbs : Int) = -b := by omega
    rw [e1, e2]; simp [h1, h2, Int.neg_mul_neg]
  · have e1 : (a.natAbs : Int) = -a := by omega
    have e2 : (b.natAbs : Int) = b := by omega
    rw [e1, e2]; simp [h1, h2, Int.neg_mul]
  · have e1 : (a.natAbs : Int) = a := by omega
    have e2 : (b.natAbs : Int) = -b := by omega
    rw [e1, e2]; simp [h1, h2, Int.mul_neg]
  · have e1 : (a.natAbs : Int) = a := by omega
    have e2 : (b.natAbs : Int) = b := by omega
    rw [e1, e2]; simp [h1, h2]
end Go.Proofs.Ythgbahlkflmgiaa.Sc
