/- What package scalar's Clamp, Within and Sum over []int answer, and that the statements' own example holds. Conditions: arguments lie in int64's range. -/
import Derived.Test.YtboniffcoohbjaaScSum
namespace Go.Proofs.Ytboniffcoohbjaa.Sc
open Go Go.RowKit

theorem max2_int (k k' : IntKind) (x y : Int) : Builtin.max2 (.int k x) (.int k' y) = pure (.int k (if x < y then y else x)) := by simp only [Builtin.max2, gt_iff_lt]
theorem min2_int (k k' : IntKind) (x y : Int) : Builtin.min2 (.int k x) (.int k' y) = pure (.int k (if y < x then y else x)) := by simp only [Builtin.min2]
theorem max_two (ats : Array TypeId) (ty : TypeId) (a b : Value) : Builtin.max_ ats ty #[a, b] = (Builtin.max2 a b >>= fun s => pure s) := by simp only [Builtin.max_, List.foldlM_cons, List.foldlM_nil]
theorem min_two (ats : Array TypeId) (ty : TypeId) (a b : Value) : Builtin.min_ ats ty #[a, b] = (Builtin.min2 a b >>= fun s => pure s) := by simp only [Builtin.min_, List.foldlM_cons, List.foldlM_nil]
attribute [local go_sem] max2_int min2_int max_two min_two

def clampS (n low high : Int) : Int := if (if high < n then high else n) < low then low else (if high < n then high else n)
theorem clampS_i64 {n low high : Int} (h1 : I64 n) (h2 : I64 low) (h3 : I64 high) : I64 (clampS n low high) := by
  unfold clampS; split <;> (try split) <;> assumption

theorem Clamp_calls (n low high : Int) (w : World) :
    Calls Try.prog 24 #[.int .i64 n, .int .i64 low, .int .i64 high] w fun e w' => e = .returned (.int .i64 (clampS n low high)) ∧ w = w' := by
  unfold clampS
  by_cases h1 : high < n
  · rw [if_pos h1]
    by_cases h2 : high < low
    · rw [if_pos h2]
      go_enter Try.func24, Try.ntmps24
      go_wp2
      go_ret
      exact ⟨rfl, rfl⟩
    · rw [if_neg h2]
      go_enter Try.func24, Try.ntmps24
      go_wp2
      go_ret
      exact ⟨rfl, rfl⟩
  · rw [if_neg h1]
    by_cases h2 : n < low
    · rw [if_pos h2]
      go_enter Try.func24, Try.ntmps24
      go_wp2
      go_ret
      exact ⟨rfl, rfl⟩
    · rw [if_neg h2]
      go_enter Try.func24, Try.ntmps24
      go_wp2
      go_ret
      exact ⟨rfl, rfl⟩

def withinS (n low high : Int) : Bool := decide (low ≤ n ∧ n ≤ high)
theorem Within_calls (n low high : Int) (w : World) :
    Calls Try.prog 25 #[.int .i64 n, .int .i64 low, .int .i64 high] w fun e w' => e = .returned (.bool (withinS n low high)) ∧ w = w' := by
  unfold withinS
  by_cases h1 : low ≤ n
  · by_cases h2 : n ≤ high
    · rw [decide_eq_true ⟨h1, h2⟩]
      go_enter Try.func25, Try.ntmps25
      go_wp2
      go_ret
      exact ⟨rfl, rfl⟩
    · rw [decide_eq_false (by omega)]
      go_enter Try.func25, Try.ntmps25
      go_wp2
      go_ret
      exact ⟨rfl, rfl⟩
  · rw [decide_eq_false (by omega)]
    go_enter Try.func25, Try.ntmps25
    go_wp2
    go_ret
    exact ⟨rfl, rfl⟩

set_option maxHeartbeats 1000000 in
theorem SumInt_calls (zs : List Int) (A : Option Addr) (cap : Nat) (w : World) (hl : zs.length ≤ 9223372036854775806) (hz : ∀ z ∈ zs, I64 z) (hr : Reads w .i64 A zs) :
    Calls Try.prog 42 #[.slice A zs.length cap] w fun e w' => e = .returned (.tuple #[.int .i64 (sumV zs), .bool (sumB zs)]) ∧ w = w' := by
  have HZ := Lib.hid hz
  clear hz
  rcases hr with rfl | ⟨b, off, rfl, hc⟩
  · go_enter Try.func42, Try.ntmps42
    go_wp2
    go_loop [4, 5, 10] (fun t o i => i = .int .i64 0 ∧ t = .int .i64 0 ∧ o = .bool true) (fun _ _ _ => 0)
    case atStart => exact ⟨rfl, rfl, rfl⟩
    case round =>
      obtain ⟨rfl, rfl, rfl⟩ := hrel
      go_wp2
      go_ret2
      exact ⟨rfl, rfl⟩
  · have HC := Lib.hid hc
    clear hc
    go_enter Try.func42, Try.ntmps42
    go_wp2
    go_loop [4, 5, 10] (fun t o i => ∃ (k : Nat) (acc : Int), k ≤ zs.length ∧ i = .int .i64 k ∧ t = .int .i64 acc ∧ o = .bool true ∧ I64 acc ∧ sumF acc (zs.drop k) = sumF 0 zs) (fun _ _ i => zs.length - (intOf i).toNat)
    case atStart => exact ⟨0, 0, Nat.zero_le _, rfl, rfl, rfl, by unfold I64; omega, rfl⟩
    case round =>
      obtain ⟨k, acc, hk, rfl, rfl, rfl, hacc, hs⟩ := hrel
      by_cases hlt : k < zs.length
      · have hc := HC.out k hlt
        have hI : I64 (zs[k]?.getD 0) := by rw [List.getElem?_eq_getElem hlt]; exact HZ.out _ (List.getElem_mem _)
        rw [sumF_drop acc zs k hlt] at hs
        generalize zs[k]?.getD 0 = z at *
        have hca := Add_calls acc z w hacc hI
        have hzw := w64 hI
        cases hf : fits (acc + z)
        · rw [hf] at hca hs
          have HS := Lib.hid hs
          have HA := Lib.hid hca
          clear hs hca hI hacc hf
          go_wp2_with fail
          refine HA.out.mono ?_
          rintro e w1 ⟨rfl, rfl⟩
          go_wp2
          go_ret2
          have := HS.out
          simp only [Bool.false_eq_true, if_false] at this
          exact ⟨by unfold sumV sumB; rw [← this]; rfl, rfl⟩
        · rw [hf, held_yes hf] at hca
          rw [if_pos hf] at hs
          have HF := Lib.hid (fits_iff.1 hf)
          have HS := Lib.hid hs
          have HA := Lib.hid hca
          clear hs hca hI hacc hf
          go_wp2_with fail
          refine HA.out.mono ?_
          rintro e w1 ⟨rfl, rfl⟩
          go_wp2
          go_round
          case rel => exact ⟨k + 1, _, by omega, by go_num, rfl, rfl, HF.out, HS.out⟩
          case measure => simp [intOf]; omega
      · obtain rfl : k = zs.length := by omega
        have HS := Lib.hid hs
        clear hs
        go_wp2
        go_ret2
        have := HS.out
        rw [List.drop_length, sumF] at this
        exact ⟨by unfold sumV sumB; rw [← this]; rfl, rfl⟩
end Go.Proofs.Ytboniffcoohbjaa.Sc
