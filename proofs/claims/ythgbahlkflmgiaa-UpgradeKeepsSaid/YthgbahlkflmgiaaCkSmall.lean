/- The walks of the small functions of the check: numbers, weights, arguments. -/
import Derived.Test.YthgbahlkflmgiaaIdentCk
import Derived.Test.YthgbahlkflmgiaaPlaces
import Derived.Test.YthgbahlkflmgiaaVar
namespace Go.Proofs.Ythgbahlkflmgiaa.Mo
open Go Go.RowKit Go.Proofs.Ythgbahlkflmgiaa.Lb
set_option linter.unusedVariables false
set_option linter.unusedSimpArgs false

theorem Within_is (n lo hi : Int) (w : World) : Calls Try.prog 58 #[.int .i64 n, .int .i64 lo, .int .i64 hi] w fun e w' => e = .returned (.bool (decide (lo ≤ n) && decide (n ≤ hi))) ∧ w = w' := by
  by_cases h1 : lo ≤ n
  · have h1b : decide (lo ≤ n) = true := decide_eq_true h1
    go_enter Try.func58, Try.ntmps58
    go_wp2
    all_goals
      go_ret
      exact ⟨by simp [*], rfl⟩
  · have h1b : decide (lo ≤ n) = false := decide_eq_false h1
    go_enter Try.func58, Try.ntmps58
    go_wp2
    go_ret
    exact ⟨by simp [h1b], rfl⟩
theorem number_is (n : Int) (w : World) : Calls Try.prog 59 #[.int .i64 n] w fun e w' => e = .returned (.bool (numB n)) ∧ w = w' := by
  go_enter Try.func59, Try.ntmps59
  go_wp2_with fail
  refine (Within_is n _ _ _).mono ?_
  rintro e w1 ⟨rfl, rfl⟩
  rw [show (decide ((-1099511627776 : Int) ≤ n) && decide (n ≤ 1099511627776)) = numB n from rfl]
  go_wp2_with fail
  go_ret
  exact ⟨rfl, rfl⟩
theorem RefNumber_is (n : Int) (w : World) : Calls Try.prog 30 #[.int .i64 n] w fun e w' => e = .returned (.bool (numB n)) ∧ w = w' := by
  unfold numB
  by_cases h1 : (-1099511627776 : Int) ≤ n
  · have h1b : decide ((-1099511627776 : Int) ≤ n) = true := decide_eq_true h1
    go_enter Try.func30, Try.ntmps30
    go_wp2
    all_goals
      go_ret
      exact ⟨by simp [*], rfl⟩
  · have h1b : decide ((-1099511627776 : Int) ≤ n) = false := decide_eq_false h1
    go_enter Try.func30, Try.ntmps30
    go_wp2
    go_ret
    exact ⟨by simp [h1b], rfl⟩

theorem emp_facts {s : ByteArray} (h : ¬ s.toList = []) : s.toList.isEmpty = false ∧ (!s.toList.isEmpty) = true := by
  cases hl : s.toList with
  | nil => exact absurd hl h
  | cons a l => simp
set_option maxHeartbeats 2000000 in
theorem RefArg_is (p : Pr) (s : S) (w : World) (hr : RProc w p) : Calls Try.prog 62 #[p.val, s.arg] w fun e w' => e = .returned (.int .i64 (argC p.vs s)) ∧ Kept Nil w w' := by
  have HR := Lib.hid hr
  clear hr
  obtain ⟨pn, pw, va, vs, vc, sa, ss, pc_⟩ := p
  obtain ⟨k0, nm, ak, an, as_⟩ := s
  unfold Pr.val S.arg
  simp only
  obtain ⟨x, hx⟩ : ∃ x, varIx vs as_ = x := ⟨_, rfl⟩
  have HX := Lib.hid hx
  clear hx
  have hk0 : Kept Nil w ((w.alloc (.cells #[.string pn, .int .i64 pw, .slice va vs.length vc, .slice sa ss.length pc_] 52)).alloc (.cells #[.int .i64 ak, .int .i64 an, .string as_] 88)) := ((Kept.refl Nil w).alloc _).alloc _
  by_cases hq1 : ak = 0
  · skip
    have fq1_0y : (ak == 0) = true := by first | (simp [hq1]; done) | (simp; omega) | (simp at hq1 ⊢; exact hq1) | exact hq1
    by_cases hq2 : numB an = true
    · skip
      have fq2_0y : numB an = true := by first | (simp [hq2]; done) | (simp; omega) | (simp at hq2 ⊢; exact hq2) | exact hq2
      by_cases hq3 : as_.toList = []
      · skip
        have fq3_0y : as_.toList = [] := by first | (simp [hq3]; done) | (simp; omega) | (simp at hq3 ⊢; exact hq3) | exact hq3
        have HN := Lib.hid (show argC vs ⟨k0, nm, ak, an, as_⟩ = 0 by unfold argC; simp only; simp [HX.out, *])
        clear hq1 hq2 hq3
        go_enter Try.func62, Try.ntmps62
        go_wp2_with (first | (go_at_call 49; refine (RefVar_is _ as_ _ (HR.out.nil (by repeat (first | exact Kept.refl _ _ | assumption | refine Kept.drew ?_ | refine Kept.drewN ?_ _ | refine Kept.alloc ?_ _ | refine Kept.step ?_ (by assumption))))).mono ?_; rintro e w1 ⟨rfl, hk1⟩; rw [show varIx _ _ = _ from HX.out]; obtain ⟨hc1, hf1⟩ := hk1.rules; have hz1 : w.heap.size + 1 < w1.heap.size := by have := hk1.size; simp at this; omega) | (go_at_call 30; refine (RefNumber_is an _).mono ?_; rintro e w1 ⟨rfl, rfl⟩))
        go_ret
        exact ⟨by rw [HN.out]; rfl, (by repeat (first | exact Kept.refl _ _ | assumption | refine Kept.drew ?_ | refine Kept.drewN ?_ _ | refine Kept.alloc ?_ _ | refine Kept.step ?_ (by assumption)))⟩
      · skip
        have fq3_0n : as_.toList.isEmpty = false := by first | (simp [hq3]; done) | (simp; omega) | (simp at hq3 ⊢; exact hq3) | exact hq3
        have fq3_1n : (!as_.toList.isEmpty) = true := by first | (simp [hq3]; done) | (simp; omega) | (simp at hq3 ⊢; exact hq3) | exact hq3
        have HN := Lib.hid (show argC vs ⟨k0, nm, ak, an, as_⟩ = 21 by unfold argC; simp only; simp [HX.out, *])
        clear hq1 hq2 hq3
        go_enter Try.func62, Try.ntmps62
        go_wp2_with (first | (go_at_call 49; refine (RefVar_is _ as_ _ (HR.out.nil (by repeat (first | exact Kept.refl _ _ | assumption | refine Kept.drew ?_ | refine Kept.drewN ?_ _ | refine Kept.alloc ?_ _ | refine Kept.step ?_ (by assumption))))).mono ?_; rintro e w1 ⟨rfl, hk1⟩; rw [show varIx _ _ = _ from HX.out]; obtain ⟨hc1, hf1⟩ := hk1.rules; have hz1 : w.heap.size + 1 < w1.heap.size := by have := hk1.size; simp at this; omega) | (go_at_call 30; refine (RefNumber_is an _).mono ?_; rintro e w1 ⟨rfl, rfl⟩))
        go_ret
        exact ⟨by rw [HN.out]; rfl, (by repeat (first | exact Kept.refl _ _ | assumption | refine Kept.drew ?_ | refine Kept.drewN ?_ _ | refine Kept.alloc ?_ _ | refine Kept.step ?_ (by assumption)))⟩
    · skip
      have fq2_0n : numB an = false := by first | (simp [hq2]; done) | (simp; omega) | (simp at hq2 ⊢; exact hq2) | exact hq2
      have HN := Lib.hid (show argC vs ⟨k0, nm, ak, an, as_⟩ = 23 by unfold argC; simp only; simp [HX.out, *])
      clear hq1 hq2
      go_enter Try.func62, Try.ntmps62
      go_wp2_with (first | (go_at_call 49; refine (RefVar_is _ as_ _ (HR.out.nil (by repeat (first | exact Kept.refl _ _ | assumption | refine Kept.drew ?_ | refine Kept.drewN ?_ _ | refine Kept.alloc ?_ _ | refine Kept.step ?_ (by assumption))))).mono ?_; rintro e w1 ⟨rfl, hk1⟩; rw [show varIx _ _ = _ from HX.out]; obtain ⟨hc1, hf1⟩ := hk1.rules; have hz1 : w.heap.size + 1 < w1.heap.size := by have := hk1.size; simp at this; omega) | (go_at_call 30; refine (RefNumber_is an _).mono ?_; rintro e w1 ⟨rfl, rfl⟩))
      go_ret
      exact ⟨by rw [HN.out]; rfl, (by repeat (first | exact Kept.refl _ _ | assumption | refine Kept.drew ?_ | refine Kept.drewN ?_ _ | refine Kept.alloc ?_ _ | refine Kept.step ?_ (by assumption)))⟩
  · skip
    have fq1_0n : (ak == 0) = false := by first | (simp [hq1]; done) | (simp; omega) | (simp at hq1 ⊢; exact hq1) | exact hq1
    by_cases hq4 : an = 0
    · skip
      have fq4_0y : (an != 0) = false := by first | (simp [hq4]; done) | (simp; omega) | (simp at hq4 ⊢; exact hq4) | exact hq4
      by_cases hq5 : ak = 1
      · skip
        have fq5_0y : (ak == 1) = true := by first | (simp [hq5]; done) | (simp; omega) | (simp at hq5 ⊢; exact hq5) | exact hq5
        have fq5_1y : (ak == 2) = false := by first | (simp [hq5]; done) | (simp; omega) | (simp at hq5 ⊢; exact hq5) | exact hq5
        by_cases hq6 : x < 0
        · skip
          have fq6_0y : decide (x < 0) = true := by first | (simp [hq6]; done) | (simp; omega) | (simp at hq6 ⊢; exact hq6) | exact hq6
          have HN := Lib.hid (show argC vs ⟨k0, nm, ak, an, as_⟩ = 4 by unfold argC; simp only; simp [HX.out, *])
          clear hq1 hq4 hq5 hq6
          go_enter Try.func62, Try.ntmps62
          go_wp2_with (first | (go_at_call 49; refine (RefVar_is _ as_ _ (HR.out.nil (by repeat (first | exact Kept.refl _ _ | assumption | refine Kept.drew ?_ | refine Kept.drewN ?_ _ | refine Kept.alloc ?_ _ | refine Kept.step ?_ (by assumption))))).mono ?_; rintro e w1 ⟨rfl, hk1⟩; rw [show varIx _ _ = _ from HX.out]; obtain ⟨hc1, hf1⟩ := hk1.rules; have hz1 : w.heap.size + 1 < w1.heap.size := by have := hk1.size; simp at this; omega) | (go_at_call 30; refine (RefNumber_is an _).mono ?_; rintro e w1 ⟨rfl, rfl⟩))
          go_ret
          exact ⟨by rw [HN.out]; rfl, (by repeat (first | exact Kept.refl _ _ | assumption | refine Kept.drew ?_ | refine Kept.drewN ?_ _ | refine Kept.alloc ?_ _ | refine Kept.step ?_ (by assumption)))⟩
        · skip
          have fq6_0n : decide (x < 0) = false := by first | (simp [hq6]; done) | (simp; omega) | (simp at hq6 ⊢; exact hq6) | exact hq6
          have HN := Lib.hid (show argC vs ⟨k0, nm, ak, an, as_⟩ = 0 by unfold argC; simp only; simp [HX.out, *])
          clear hq1 hq4 hq5 hq6
          go_enter Try.func62, Try.ntmps62
          go_wp2_with (first | (go_at_call 49; refine (RefVar_is _ as_ _ (HR.out.nil (by repeat (first | exact Kept.refl _ _ | assumption | refine Kept.drew ?_ | refine Kept.drewN ?_ _ | refine Kept.alloc ?_ _ | refine Kept.step ?_ (by assumption))))).mono ?_; rintro e w1 ⟨rfl, hk1⟩; rw [show varIx _ _ = _ from HX.out]; obtain ⟨hc1, hf1⟩ := hk1.rules; have hz1 : w.heap.size + 1 < w1.heap.size := by have := hk1.size; simp at this; omega) | (go_at_call 30; refine (RefNumber_is an _).mono ?_; rintro e w1 ⟨rfl, rfl⟩))
          go_ret
          exact ⟨by rw [HN.out]; rfl, (by repeat (first | exact Kept.refl _ _ | assumption | refine Kept.drew ?_ | refine Kept.drewN ?_ _ | refine Kept.alloc ?_ _ | refine Kept.step ?_ (by assumption)))⟩
      · skip
        have fq5_0n : (ak == 1) = false := by first | (simp [hq5]; done) | (simp; omega) | (simp at hq5 ⊢; exact hq5) | exact hq5
        by_cases hq7 : ak = 2
        · skip
          have fq7_0y : (ak == 2) = true := by first | (simp [hq7]; done) | (simp; omega) | (simp at hq7 ⊢; exact hq7) | exact hq7
          by_cases hq8 : as_.toList = []
          · skip
            have fq8_0y : as_.toList = [] := by first | (simp [hq8]; done) | (simp; omega) | (simp at hq8 ⊢; exact hq8) | exact hq8
            have HN := Lib.hid (show argC vs ⟨k0, nm, ak, an, as_⟩ = 0 by unfold argC; simp only; simp [HX.out, *])
            clear hq1 hq4 hq5 hq7 hq8
            go_enter Try.func62, Try.ntmps62
            go_wp2_with (first | (go_at_call 49; refine (RefVar_is _ as_ _ (HR.out.nil (by repeat (first | exact Kept.refl _ _ | assumption | refine Kept.drew ?_ | refine Kept.drewN ?_ _ | refine Kept.alloc ?_ _ | refine Kept.step ?_ (by assumption))))).mono ?_; rintro e w1 ⟨rfl, hk1⟩; rw [show varIx _ _ = _ from HX.out]; obtain ⟨hc1, hf1⟩ := hk1.rules; have hz1 : w.heap.size + 1 < w1.heap.size := by have := hk1.size; simp at this; omega) | (go_at_call 30; refine (RefNumber_is an _).mono ?_; rintro e w1 ⟨rfl, rfl⟩))
            go_ret
            exact ⟨by rw [HN.out]; rfl, (by repeat (first | exact Kept.refl _ _ | assumption | refine Kept.drew ?_ | refine Kept.drewN ?_ _ | refine Kept.alloc ?_ _ | refine Kept.step ?_ (by assumption)))⟩
          · skip
            have fq8_0n : as_.toList.isEmpty = false := by first | (simp [hq8]; done) | (simp; omega) | (simp at hq8 ⊢; exact hq8) | exact hq8
            have fq8_1n : (!as_.toList.isEmpty) = true := by first | (simp [hq8]; done) | (simp; omega) | (simp at hq8 ⊢; exact hq8) | exact hq8
            have HN := Lib.hid (show argC vs ⟨k0, nm, ak, an, as_⟩ = 21 by unfold argC; simp only; simp [HX.out, *])
            clear hq1 hq4 hq5 hq7 hq8
            go_enter Try.func62, Try.ntmps62
            go_wp2_with (first | (go_at_call 49; refine (RefVar_is _ as_ _ (HR.out.nil (by repeat (first | exact Kept.refl _ _ | assumption | refine Kept.drew ?_ | refine Kept.drewN ?_ _ | refine Kept.alloc ?_ _ | refine Kept.step ?_ (by assumption))))).mono ?_; rintro e w1 ⟨rfl, hk1⟩; rw [show varIx _ _ = _ from HX.out]; obtain ⟨hc1, hf1⟩ := hk1.rules; have hz1 : w.heap.size + 1 < w1.heap.size := by have := hk1.size; simp at this; omega) | (go_at_call 30; refine (RefNumber_is an _).mono ?_; rintro e w1 ⟨rfl, rfl⟩))
            go_ret
            exact ⟨by rw [HN.out]; rfl, (by repeat (first | exact Kept.refl _ _ | assumption | refine Kept.drew ?_ | refine Kept.drewN ?_ _ | refine Kept.alloc ?_ _ | refine Kept.step ?_ (by assumption)))⟩
        · skip
          have fq7_0n : (ak == 2) = false := by first | (simp [hq7]; done) | (simp; omega) | (simp at hq7 ⊢; exact hq7) | exact hq7
          have HN := Lib.hid (show argC vs ⟨k0, nm, ak, an, as_⟩ = 0 by unfold argC; simp only; simp [HX.out, *])
          clear hq1 hq4 hq5 hq7
          go_enter Try.func62, Try.ntmps62
          go_wp2_with (first | (go_at_call 49; refine (RefVar_is _ as_ _ (HR.out.nil (by repeat (first | exact Kept.refl _ _ | assumption | refine Kept.drew ?_ | refine Kept.drewN ?_ _ | refine Kept.alloc ?_ _ | refine Kept.step ?_ (by assumption))))).mono ?_; rintro e w1 ⟨rfl, hk1⟩; rw [show varIx _ _ = _ from HX.out]; obtain ⟨hc1, hf1⟩ := hk1.rules; have hz1 : w.heap.size + 1 < w1.heap.size := by have := hk1.size; simp at this; omega) | (go_at_call 30; refine (RefNumber_is an _).mono ?_; rintro e w1 ⟨rfl, rfl⟩))
          go_ret
          exact ⟨by rw [HN.out]; rfl, (by repeat (first | exact Kept.refl _ _ | assumption | refine Kept.drew ?_ | refine Kept.drewN ?_ _ | refine Kept.alloc ?_ _ | refine Kept.step ?_ (by assumption)))⟩
    · skip
      have fq4_0n : (an != 0) = true := by first | (simp [hq4]; done) | (simp; omega) | (simp at hq4 ⊢; exact hq4) | exact hq4
      have HN := Lib.hid (show argC vs ⟨k0, nm, ak, an, as_⟩ = 21 by unfold argC; simp only; simp [HX.out, *])
      clear hq1 hq4
      go_enter Try.func62, Try.ntmps62
      go_wp2_with (first | (go_at_call 49; refine (RefVar_is _ as_ _ (HR.out.nil (by repeat (first | exact Kept.refl _ _ | assumption | refine Kept.drew ?_ | refine Kept.drewN ?_ _ | refine Kept.alloc ?_ _ | refine Kept.step ?_ (by assumption))))).mono ?_; rintro e w1 ⟨rfl, hk1⟩; rw [show varIx _ _ = _ from HX.out]; obtain ⟨hc1, hf1⟩ := hk1.rules; have hz1 : w.heap.size + 1 < w1.heap.size := by have := hk1.size; simp at this; omega) | (go_at_call 30; refine (RefNumber_is an _).mono ?_; rintro e w1 ⟨rfl, rfl⟩))
      go_ret
      exact ⟨by rw [HN.out]; rfl, (by repeat (first | exact Kept.refl _ _ | assumption | refine Kept.drew ?_ | refine Kept.drewN ?_ _ | refine Kept.alloc ?_ _ | refine Kept.step ?_ (by assumption)))⟩
end Go.Proofs.Ythgbahlkflmgiaa.Mo
