/- ScalarSums' walk: of all rows of up to 300 numbers the sum is as the reference says. Conditions: the row is read as it lies. -/
import Derived.Test.YtboniffcoohbjaaScRef
import Derived.Test.YtboniffcoohbjaaScAlive
namespace Go.Proofs.Ytboniffcoohbjaa.Sc
open Go Go.RowKit
set_option linter.unusedVariables false
set_option linter.unusedSimpArgs false

theorem cell_lt {w : World} {p : Addr} {v : Value} (h : w.cell? p = some v) : p.block < w.heap.size := by
  by_cases hp : p.block < w.heap.size
  · exact hp
  · exfalso
    have : w.heap[p.block]? = none := by simp; omega
    simp [World.cell?, this] at h
theorem Reads.below {w w1 : World} {K : IntKind} {A : Option Addr} {zs : List Int} (h : Reads w K A zs) (hb : Below w.heap.size w w1) : Reads w1 K A zs := by
  rcases h with rfl | ⟨b, off, rfl, hc⟩
  · exact .inl rfl
  · refine .inr ⟨b, off, rfl, fun j hj => ?_⟩
    rw [hb.cell (p := ⟨b, off + j, none⟩) (cell_lt (hc j hj))]
    exact hc j hj

set_option maxHeartbeats 1000000 in
theorem RSum_calls (zs : List Int) (A : Option Addr) (cap : Nat) (w : World) (hl : zs.length ≤ maxLen) (hz : ∀ z ∈ zs, I64 z) (hr : Reads w .i64 A zs) :
    Calls Try.prog 27 #[.slice A zs.length cap] w fun e w' => e = .returned (.tuple #[.int .i64 (sumV zs), .bool (sumB zs)]) ∧ w = w' := by
  unfold maxLen at hl
  have HZ := Lib.hid hz
  clear hz
  rcases hr with rfl | ⟨b, off, rfl, hc⟩
  · go_enter Try.func27, Try.ntmps27
    go_wp2
    go_loop [4, 5] (fun t i => i = .int .i64 0 ∧ t = .int .i64 0) (fun _ _ => 0)
    case atStart => exact ⟨rfl, rfl⟩
    case round =>
      obtain ⟨rfl, rfl⟩ := hrel
      go_wp2
      go_ret2
      exact ⟨rfl, rfl⟩
  · have HC := Lib.hid hc
    clear hc
    go_enter Try.func27, Try.ntmps27
    go_wp2
    go_loop [4, 5] (fun t i => ∃ (k : Nat) (acc : Int), k ≤ zs.length ∧ i = .int .i64 k ∧ t = .int .i64 acc ∧ I64 acc ∧ sumF acc (zs.drop k) = sumF 0 zs) (fun _ i => zs.length - (intOf i).toNat)
    case atStart => exact ⟨0, 0, Nat.zero_le _, rfl, rfl, by unfold I64; omega, rfl⟩
    case round =>
      obtain ⟨k, acc, hk, rfl, rfl, hacc, hs⟩ := hrel
      by_cases hlt : k < zs.length
      · have hc := HC.out k hlt
        have hI : I64 (zs[k]?.getD 0) := by rw [List.getElem?_eq_getElem hlt]; exact HZ.out _ (List.getElem_mem _)
        rw [sumF_drop acc zs k hlt] at hs
        generalize zs[k]?.getD 0 = z at *
        have hca := RAdd_calls acc z w hacc hI
        cases hf : fits (acc + z)
        · rw [hf] at hca hs
          have HS := Lib.hid hs
          have HA := Lib.hid hca
          clear hs hca hI hacc hf
          go_wp2_with fail
          refine (HA.out).mono ?_
          rintro e w1 ⟨rfl, rfl⟩
          go_wp2
          go_ret2
          have := HS.out
          simp only [Bool.false_eq_true, if_false] at this
          exact ⟨by unfold sumV sumB; rw [← this]; rfl, rfl⟩
        · rw [hf, held_yes hf] at hca
          rw [if_pos hf] at hs
          have HF := Lib.hid (fits_iff.1 hf)
          have HS := Lib.hid hs
          have HA := Lib.hid hca
          clear hs hca hI hacc hf
          go_wp2_with fail
          refine (HA.out).mono ?_
          rintro e w1 ⟨rfl, rfl⟩
          go_wp2
          go_round
          case rel => exact ⟨k + 1, _, by omega, by go_num, rfl, HF.out, HS.out⟩
          case measure => simp [intOf]; omega
      · obtain rfl : k = zs.length := by omega
        have HS := Lib.hid hs
        clear hs
        go_wp2
        go_ret2
        have := HS.out
        rw [List.drop_length, sumF] at this
        exact ⟨by unfold sumV sumB; rw [← this]; rfl, rfl⟩

set_option maxHeartbeats 1000000 in
theorem ScalarSums_calls (zs : List Int) (A : Option Addr) (cap : Nat) (w : World) (hl : zs.length ≤ maxLen) (hz : ∀ z ∈ zs, I64 z) (hr : Reads w .i64 A zs) :
    Calls Try.prog 5 #[.slice A zs.length cap] w fun e w' => e = .returned (.bool true) ∧ Below w.heap.size w w' := by
  by_cases hlen : 300 < zs.length
  · clear hl hz hr
    go_enter Try.func5, Try.ntmps5
    go_wp2_with fail
    refine (alive_calls _).mono ?_
    rintro e w1 ⟨rfl, hb⟩
    go_wp2
    go_ret
    exact ⟨rfl, hb⟩
  · have H1 := Lib.hid fun w1 (hb : Below w.heap.size w w1) => Sum64_calls zs A cap w1 (by omega) hz (hr.below hb)
    have H2 := Lib.hid fun w1 (hb : Below w.heap.size w w1) => RSum_calls zs A cap w1 hl hz (hr.below hb)
    generalize sumV zs = v at *
    generalize sumB zs = b at *
    clear hl hz hr
    go_enter Try.func5, Try.ntmps5
    go_wp2_with fail
    refine (alive_calls _).mono ?_
    rintro e w1 ⟨rfl, hb⟩
    go_wp2_with fail
    refine (H1.out _ hb).mono ?_
    rintro e w1 ⟨rfl, rfl⟩
    go_wp2_with fail
    refine (H2.out _ hb).mono ?_
    rintro e w1 ⟨rfl, rfl⟩
    go_wp2
    go_ret
    exact ⟨rfl, hb⟩
end Go.Proofs.Ytboniffcoohbjaa.Sc
