/- The walk of the reference's Same (layer 5). -/
import Derived.Test.YtmamegpkpkkkaaaDoorBasics
namespace Go.Proofs.YtmamegpkpkkkaaaDoor.Mo
open Go Go.RowKit Go.Proofs.YtmamegpkpkkkaaaDoor.Lb
set_option linter.unusedVariables false
set_option linter.unusedSimpArgs false

set_option maxHeartbeats 2000000 in
theorem Same_is (xs : List ByteArray) (A B : Option Addr) (capA capB : Nat) (w : World) (hr : RStrs w A xs) (hr2 : RStrs w B xs) (hn : xs.length ≤ 4294967296) :
    Calls Tryd.prog 18 #[.slice A xs.length capA, .slice B xs.length capB] w fun e w' => e = .returned (.bool true) ∧ Kept Nil w w' := by
  have HR := Lib.hid hr
  have HR2 := Lib.hid hr2
  clear hr hr2
  go_enter Tryd.func18, Tryd.ntmps18
  go_wp2
  go_loopw [5] (fun i wr => ∃ k : Nat, k ≤ xs.length ∧ i = .int .i64 k ∧ Kept Nil w wr) (fun i _ => xs.length - (intOf i).toNat)
  case atStart => exact ⟨0, Nat.zero_le _, rfl, Kept.refl _ _⟩
  case round =>
    obtain ⟨k, hk, rfl, hK⟩ := hrel
    have HK := Lib.hid hK
    clear hK
    by_cases hlt : k < xs.length
    · obtain ⟨z, ez⟩ : ∃ x, xs[k]? = some x := ⟨_, List.getElem?_eq_getElem hlt⟩
      obtain ⟨b, off, rfl, c0⟩ := (HR.out.kept HK.out (fun _ _ _ _ h => h)).at ez
      obtain ⟨b2, off2, rfl, d0⟩ := (HR2.out.kept HK.out (fun _ _ _ _ h => h)).at ez
      clear ez
      go_wp2_with fail
      go_big_quiet (fail)
      go_wp2_with fail
      go_round
      case rel => exact ⟨k + 1, by omega, by go_num, HK.out.drewN _⟩
      case measure => (simp [intOf] <;> omega)
    · obtain rfl : k = xs.length := by omega
      go_wp2
      go_ret
      exact ⟨rfl, HK.out⟩
end Go.Proofs.YtmamegpkpkkkaaaDoor.Mo
