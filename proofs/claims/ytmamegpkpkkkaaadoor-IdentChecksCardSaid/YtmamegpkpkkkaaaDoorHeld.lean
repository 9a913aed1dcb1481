/- The walk of the reference's Held. -/
import Derived.Test.YtmamegpkpkkkaaaDoorBasics
namespace Go.Proofs.YtmamegpkpkkkaaaDoor.Mo
open Go Go.RowKit Go.Proofs.YtmamegpkpkkkaaaDoor.Lb
set_option linter.unusedVariables false
set_option linter.unusedSimpArgs false
theorem Held_is (n lo hi : Int) (h : lo ≤ hi) (w : World) : Calls Tryd.prog 11 #[.int .i64 n, .int .i64 lo, .int .i64 hi] w fun e w' => e = .returned (.int .i64 (if hi < n then hi else if n < lo then lo else n)) ∧ w = w' := by
  obtain ⟨r, hr⟩ : ∃ r, (if hi < n then hi else if n < lo then lo else n) = r := ⟨_, rfl⟩
  rw [hr]
  have HR := Lib.hid hr
  clear hr
  by_cases hq1 : hi < n
  · skip
    have fq1_0y : decide (hi < n) = true := by first | (simp [hq1]; done) | (simp; omega) | (simp at hq1 ⊢; exact hq1) | exact hq1
    have fq1_1y : decide (hi < lo) = false := by first | (simp [hq1]; done) | (simp; omega) | (simp at hq1 ⊢; exact hq1) | exact hq1
    have HN := Lib.hid (show r = hi by (rw [← HR.out]; simp [*]))
    clear hq1
    go_enter Tryd.func11, Tryd.ntmps11
    go_wp2_with fail
    go_ret
    exact ⟨by rw [HN.out]; rfl, rfl⟩
  · skip
    have fq1_0n : decide (hi < n) = false := by first | (simp [hq1]; done) | (simp; omega) | (simp at hq1 ⊢; exact hq1) | exact hq1
    by_cases hq2 : n < lo
    · skip
      have fq2_0y : decide (n < lo) = true := by first | (simp [hq2]; done) | (simp; omega) | (simp at hq2 ⊢; exact hq2) | exact hq2
      have HN := Lib.hid (show r = lo by (rw [← HR.out]; simp [*]))
      clear hq1 hq2
      go_enter Tryd.func11, Tryd.ntmps11
      go_wp2_with fail
      go_ret
      exact ⟨by rw [HN.out]; rfl, rfl⟩
    · skip
      have fq2_0n : decide (n < lo) = false := by first | (simp [hq2]; done) | (simp; omega) | (simp at hq2 ⊢; exact hq2) | exact hq2
      have HN := Lib.hid (show r = n by (rw [← HR.out]; simp [*]))
      clear hq1 hq2
      go_enter Tryd.func11, Tryd.ntmps11
      go_wp2_with fail
      go_ret
      exact ⟨by rw [HN.out]; rfl, rfl⟩
end Go.Proofs.YtmamegpkpkkkaaaDoor.Mo
