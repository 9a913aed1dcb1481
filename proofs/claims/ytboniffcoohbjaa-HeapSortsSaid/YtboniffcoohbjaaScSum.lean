/- What package scalar's Up, Clamp, Within and Sum answer. Conditions: arguments lie in int64's range; a row is read as it lies. -/
import Derived.Test.YtboniffcoohbjaaScWalk
import Derived.LoopTactic
import Derived.Deep.LoopGhost
import Derived.OpenShut
namespace Go.Proofs.Ytboniffcoohbjaa.Sc
open Go Go.RowKit Go.WideShapes Go.ChangeShapes

/-- A row of numbers that lies in memory and is read. -/
def Reads (w : World) (K : IntKind) (A : Option Addr) (zs : List Int) : Prop :=
  zs = [] ∨ ∃ b off, A = some ⟨b, off, none⟩ ∧ ∀ j, j < zs.length → w.cell? ⟨b, off + j, none⟩ = some (.int K (zs[j]?.getD 0))

theorem reads_of_open {w : World} {K : IntKind} {x : Addr} {n c : Nat} {zs : List Int} (hl : n ≤ c) (hm : c ≤ maxLen) (hz : zs.length = c)
    (hc : ∀ i, i < zs.length → w.cell? (x.add i) = some (.int K (zs.getD i 0))) (hw : ∀ z ∈ zs, (Lit.int .i64 z).wf = true) :
    ∃ l : List Int, l.length = n ∧ l.length ≤ maxLen ∧ (∀ z ∈ l, I64 z) ∧ Reads w K (some x) l := by
  refine ⟨zs.take n, by rw [List.length_take]; omega, by rw [List.length_take]; omega, fun z h => I64.of_wf (hw z (List.mem_of_mem_take h)), ?_⟩
  by_cases h0 : n = 0
  · exact .inl (by rw [h0]; rfl)
  · obtain ⟨b, off, rfl, hcc⟩ := ints_at hc (by omega)
    refine .inr ⟨b, off, rfl, fun j hj => ?_⟩
    rw [List.length_take] at hj
    rw [hcc j (by omega), List.getElem?_take_of_lt (by omega)]
    simp

def sumF : Int → List Int → Option Int
  | acc, [] => some acc
  | acc, z :: zs => if fits (acc + z) = true then sumF (acc + z) zs else none
def sumV (zs : List Int) : Int := (sumF 0 zs).getD 0
def sumB (zs : List Int) : Bool := (sumF 0 zs).isSome

theorem sumF_drop (acc : Int) (zs : List Int) (k : Nat) (hk : k < zs.length) : sumF acc (zs.drop k) = if fits (acc + zs[k]?.getD 0) = true then sumF (acc + zs[k]?.getD 0) (zs.drop (k + 1)) else none := by
  rw [List.drop_eq_getElem_cons hk, sumF, List.getElem?_eq_getElem hk]; rfl

def upS (a b : Int) : Int := if a < 1 ∨ b < 1 then 0 else (a - 1) / b + 1
theorem Up_calls (a b : Int) (w : World) (ha : I64 a) (hb : I64 b) :
    Calls Try.prog 22 #[.int .i64 a, .int .i64 b] w fun e w' => e = .returned (.int .i64 (upS a b)) ∧ w = w' := by
  unfold I64 at ha hb
  unfold upS
  by_cases h1 : a < 1
  · rw [if_pos (Or.inl h1)]
    go_enter Try.func22, Try.ntmps22
    go_wp2
    go_ret
    exact ⟨rfl, rfl⟩
  · by_cases h2 : b < 1
    · rw [if_pos (Or.inr h2)]
      go_enter Try.func22, Try.ntmps22
      go_wp2
      go_ret
      exact ⟨rfl, rfl⟩
    · rw [if_neg (by omega)]
      have hq1 : 0 ≤ (a - 1) / b := Int.ediv_nonneg (by omega) (by omega)
      have hq2 : (a - 1) / b ≤ a - 1 := Int.ediv_le_self _ (by omega)
      go_enter Try.func22, Try.ntmps22
      go_wp2
      go_ret
      exact ⟨rfl, rfl⟩

set_option maxHeartbeats 1000000 in
theorem Sum64_calls (zs : List Int) (A : Option Addr) (cap : Nat) (w : World) (hl : zs.length ≤ 9223372036854775806) (hz : ∀ z ∈ zs, I64 z) (hr : Reads w .i64 A zs) :
    Calls Try.prog 26 #[.slice A zs.length cap] w fun e w' => e = .returned (.tuple #[.int .i64 (sumV zs), .bool (sumB zs)]) ∧ w = w' := by
  have HZ := Lib.hid hz
  clear hz
  rcases hr with rfl | ⟨b, off, rfl, hc⟩
  · go_enter Try.func26, Try.ntmps26
    go_wp2
    go_loop [4, 5, 10] (fun t o i => i = .int .i64 0 ∧ t = .int .i64 0 ∧ o = .bool true) (fun _ _ _ => 0)
    case atStart => exact ⟨rfl, rfl, rfl⟩
    case round =>
      obtain ⟨rfl, rfl, rfl⟩ := hrel
      go_wp2
      go_ret2
      exact ⟨rfl, rfl⟩
  · have HC := Lib.hid hc
    clear hc
    go_enter Try.func26, Try.ntmps26
    go_wp2
    go_loop [4, 5, 10] (fun t o i => ∃ (k : Nat) (acc : Int), k ≤ zs.length ∧ i = .int .i64 k ∧ t = .int .i64 acc ∧ o = .bool true ∧ I64 acc ∧ sumF acc (zs.drop k) = sumF 0 zs) (fun _ _ i => zs.length - (intOf i).toNat)
    case atStart => exact ⟨0, 0, Nat.zero_le _, rfl, rfl, rfl, by unfold I64; omega, rfl⟩
    case round =>
      obtain ⟨k, acc, hk, rfl, rfl, rfl, hacc, hs⟩ := hrel
      by_cases hlt : k < zs.length
      · have hc := HC.out k hlt
        have hI : I64 (zs[k]?.getD 0) := by rw [List.getElem?_eq_getElem hlt]; exact HZ.out _ (List.getElem_mem _)
        rw [sumF_drop acc zs k hlt] at hs
        generalize zs[k]?.getD 0 = z at *
        have hca := Add_calls acc z w hacc hI
        cases hf : fits (acc + z)
        · rw [hf] at hca hs
          have HS := Lib.hid hs
          have HA := Lib.hid hca
          clear hs hca hI hacc hf
          go_wp2_with fail
          refine HA.out.mono ?_
          rintro e w1 ⟨rfl, rfl⟩
          go_wp2
          go_ret2
          have := HS.out
          simp only [Bool.false_eq_true, if_false] at this
          exact ⟨by unfold sumV sumB; rw [← this]; rfl, rfl⟩
        · rw [hf, held_yes hf] at hca
          rw [if_pos hf] at hs
          have HF := Lib.hid (fits_iff.1 hf)
          have HS := Lib.hid hs
          have HA := Lib.hid hca
          clear hs hca hI hacc hf
          go_wp2_with fail
          refine HA.out.mono ?_
          rintro e w1 ⟨rfl, rfl⟩
          go_wp2
          go_round
          case rel => exact ⟨k + 1, _, by omega, by go_num, rfl, rfl, HF.out, HS.out⟩
          case measure => simp [intOf]; omega
      · obtain rfl : k = zs.length := by omega
        have HS := Lib.hid hs
        clear hs
        go_wp2
        go_ret2
        have := HS.out
        rw [List.drop_length, sumF] at this
        exact ⟨by unfold sumV sumB; rw [← this]; rfl, rfl⟩
end Go.Proofs.Ytboniffcoohbjaa.Sc
