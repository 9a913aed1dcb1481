/- The walk of the checker's step. -/
import Derived.Test.YthgbahlkflmgiaaCkMap
import Derived.Deep.Cut
import Derived.Deep.CutRange
namespace Go.Proofs.Ythgbahlkflmgiaa.Mo
open Go Go.RowKit Go.Proofs.Ythgbahlkflmgiaa.Lb
set_option linter.unusedVariables false
set_option linter.unusedSimpArgs false

set_option maxRecDepth 4000 in
set_option maxHeartbeats 8000000 in
theorem CkStep_is {c bp bl : Nat} {m : Md} (p : Pr) (s : S) (w : World) (hc : CkAt w c bp bl m) (hm : RModel w m) (hr : RProc w p) (hsz : s.name.size ≤ maxLen) : Calls Try.prog 56 #[.pointer (some ⟨c, 0, none⟩), p.val, s.val] w fun e w' => e = .returned (.int .i64 (stepC m.ls p s)) ∧ Kept Nil w w' := by
  have HR := Lib.hid hr
  have HM := Lib.hid hm
  have HC := Lib.hid hc
  have HS := Lib.hid hsz
  have hll := hm.ll
  unfold maxLen at hll
  clear hr hm hc hsz
  obtain ⟨ver, pa, ps, pc, la, ls, lc, ea, es, ec⟩ := m
  obtain ⟨pn, pw, va, vs, vc, sa, ss, pc_⟩ := p
  obtain ⟨k0, nm, ak, an, as_⟩ := s
  unfold Pr.val S.val
  simp only at *
  obtain ⟨x, hx⟩ : ∃ x, varIx vs nm = x := ⟨_, rfl⟩
  have HX := Lib.hid hx
  have HXN := Lib.hid (varIx_neg vs nm)
  obtain ⟨y, hy⟩ : ∃ y, findI (ls.map Lk.name) nm = y := ⟨_, rfl⟩
  have HY := Lib.hid hy
  obtain ⟨z, hz⟩ : ∃ z, argC vs ⟨k0, nm, ak, an, as_⟩ = z := ⟨_, rfl⟩
  have HZ := Lib.hid hz
  have HYN := Lib.hid (findI_neg1 (ls.map Lk.name) nm)
  clear hx hy hz
  obtain ⟨W1, hW⟩ : ∃ W, ((w.alloc (.cells #[.string pn, .int .i64 pw, .slice va vs.length vc, .slice sa ss.length pc_] 52)).alloc (.cells #[.int .i64 k0, .string nm, .int .i64 ak, .int .i64 an, .string as_] 90)) = W := ⟨_, rfl⟩
  have hk : Kept Nil w W1 := by rw [← hW]; exact (((Kept.refl Nil w).alloc _).alloc _)
  have hsz : W1.heap.size = w.heap.size + 2 := by rw [← hW]; simp
  have hb : W1.heap[w.heap.size]? = some (.cells #[.string pn, .int .i64 pw, .slice va vs.length vc, .slice sa ss.length pc_] 52 (0, 0)) := by
    rw [← hW]
    rw [heap_old _ _ (by simp only [World.size_alloc]; omega)]
    have h9 := heap_new w (.cells #[.string pn, .int .i64 pw, .slice va vs.length vc, .slice sa ss.length pc_] 52)
    exact h9
  have G0 := Lib.hid (show W1.cell? ⟨w.heap.size, 0, none⟩ = some (.string pn) by rw [cell_of hb]; rfl)
  have G1 := Lib.hid (show W1.cell? ⟨w.heap.size, 1, none⟩ = some (.int .i64 pw) by rw [cell_of hb]; rfl)
  have G2 := Lib.hid (show W1.cell? ⟨w.heap.size, 2, none⟩ = some (.slice va vs.length vc) by rw [cell_of hb]; rfl)
  have G3 := Lib.hid (show W1.cell? ⟨w.heap.size, 3, none⟩ = some (.slice sa ss.length pc_) by rw [cell_of hb]; rfl)
  have GB := Lib.hid hb
  have hzg : w.heap.size < W1.heap.size := by omega
  clear hb
  have hb : W1.heap[w.heap.size + 1]? = some (.cells #[.int .i64 k0, .string nm, .int .i64 ak, .int .i64 an, .string as_] 90 (0, 0)) := by
    rw [← hW]
    have h9 := heap_new (w.alloc (.cells #[.string pn, .int .i64 pw, .slice va vs.length vc, .slice sa ss.length pc_] 52)) (.cells #[.int .i64 k0, .string nm, .int .i64 ak, .int .i64 an, .string as_] 90)
    simp only [World.size_alloc] at h9
    exact h9
  have Q0 := Lib.hid (show W1.cell? ⟨w.heap.size + 1, 0, none⟩ = some (.int .i64 k0) by rw [cell_of hb]; rfl)
  have Q1 := Lib.hid (show W1.cell? ⟨w.heap.size + 1, 1, none⟩ = some (.string nm) by rw [cell_of hb]; rfl)
  have Q2 := Lib.hid (show W1.cell? ⟨w.heap.size + 1, 2, none⟩ = some (.int .i64 ak) by rw [cell_of hb]; rfl)
  have Q3 := Lib.hid (show W1.cell? ⟨w.heap.size + 1, 3, none⟩ = some (.int .i64 an) by rw [cell_of hb]; rfl)
  have Q4 := Lib.hid (show W1.cell? ⟨w.heap.size + 1, 4, none⟩ = some (.string as_) by rw [cell_of hb]; rfl)
  have QB := Lib.hid hb
  have hzq : w.heap.size + 1 < W1.heap.size := by omega
  clear hb
  have HW := Lib.hid hW
  have HK := Lib.hid hk
  have HSZ := Lib.hid hsz
  clear hW hk hsz
  have hk0 := HK.out
  rw [← HW.out] at hk0
  by_cases hq1 : k0 < 1
  · skip
    have fq1_0y : decide (k0 < 1) = true := by first | (simp [hq1]; done) | (simp; omega) | (simp at hq1 ⊢; exact hq1) | exact hq1
    have HN := Lib.hid (show stepC ls ⟨pn, pw, va, vs, vc, sa, ss, pc_⟩ ⟨k0, nm, ak, an, as_⟩ = 21 by unfold stepC; simp only; simp [HX.out, HY.out, HZ.out, *])
    clear hq1
    go_enter Try.func56, Try.ntmps56
    go_wp2_with (first | (go_at_call 65; refine (Var_is _ nm _ (HR.out.nil (by repeat (first | exact Kept.refl _ _ | assumption | refine Kept.drew ?_ | refine Kept.drewN ?_ _ | refine Kept.alloc ?_ _ | refine Kept.step ?_ (by assumption))))).mono ?_; rintro e w1 ⟨rfl, hk1⟩; rw [show varIx _ _ = _ from HX.out]; obtain ⟨hc1, hf1⟩ := hk1.rules; have hz1_0 : w.heap.size < w1.heap.size := (by have := hk1.size; first | omega | (simp at this; omega)); have hz1_1 : w.heap.size + 1 < w1.heap.size := (by have := hk1.size; first | omega | (simp at this; omega))) | (go_at_call 66; refine (Arg_is ⟨pn, pw, va, vs, vc, sa, ss, pc_⟩ ⟨k0, nm, ak, an, as_⟩ _ (HR.out.nil (by repeat (first | exact Kept.refl _ _ | assumption | refine Kept.drew ?_ | refine Kept.drewN ?_ _ | refine Kept.alloc ?_ _ | refine Kept.step ?_ (by assumption))))).mono ?_; rintro e w2 ⟨rfl, hk2⟩; rw [show argC _ _ = _ from HZ.out]))
    go_ret
    exact ⟨by rw [HN.out]; rfl, (by repeat (first | exact Kept.refl _ _ | assumption | refine Kept.drew ?_ | refine Kept.drewN ?_ _ | refine Kept.alloc ?_ _ | refine Kept.step ?_ (by assumption)))⟩
  · skip
    have fq1_0n : decide (k0 < 1) = false := by first | (simp [hq1]; done) | (simp; omega) | (simp at hq1 ⊢; exact hq1) | exact hq1
    by_cases hq2 : 4 < k0
    · skip
      have fq2_0y : decide (4 < k0) = true := by first | (simp [hq2]; done) | (simp; omega) | (simp at hq2 ⊢; exact hq2) | exact hq2
      have HN := Lib.hid (show stepC ls ⟨pn, pw, va, vs, vc, sa, ss, pc_⟩ ⟨k0, nm, ak, an, as_⟩ = 21 by unfold stepC; simp only; simp [HX.out, HY.out, HZ.out, *])
      clear hq1 hq2
      go_enter Try.func56, Try.ntmps56
      go_wp2_with (first | (go_at_call 65; refine (Var_is _ nm _ (HR.out.nil (by repeat (first | exact Kept.refl _ _ | assumption | refine Kept.drew ?_ | refine Kept.drewN ?_ _ | refine Kept.alloc ?_ _ | refine Kept.step ?_ (by assumption))))).mono ?_; rintro e w1 ⟨rfl, hk1⟩; rw [show varIx _ _ = _ from HX.out]; obtain ⟨hc1, hf1⟩ := hk1.rules; have hz1_0 : w.heap.size < w1.heap.size := (by have := hk1.size; first | omega | (simp at this; omega)); have hz1_1 : w.heap.size + 1 < w1.heap.size := (by have := hk1.size; first | omega | (simp at this; omega))) | (go_at_call 66; refine (Arg_is ⟨pn, pw, va, vs, vc, sa, ss, pc_⟩ ⟨k0, nm, ak, an, as_⟩ _ (HR.out.nil (by repeat (first | exact Kept.refl _ _ | assumption | refine Kept.drew ?_ | refine Kept.drewN ?_ _ | refine Kept.alloc ?_ _ | refine Kept.step ?_ (by assumption))))).mono ?_; rintro e w2 ⟨rfl, hk2⟩; rw [show argC _ _ = _ from HZ.out]))
      go_ret
      exact ⟨by rw [HN.out]; rfl, (by repeat (first | exact Kept.refl _ _ | assumption | refine Kept.drew ?_ | refine Kept.drewN ?_ _ | refine Kept.alloc ?_ _ | refine Kept.step ?_ (by assumption)))⟩
    · skip
      have fq2_0n : decide (4 < k0) = false := by first | (simp [hq2]; done) | (simp; omega) | (simp at hq2 ⊢; exact hq2) | exact hq2
      by_cases hq3 : ak < 0
      · skip
        have fq3_0y : decide (ak < 0) = true := by first | (simp [hq3]; done) | (simp; omega) | (simp at hq3 ⊢; exact hq3) | exact hq3
        have HN := Lib.hid (show stepC ls ⟨pn, pw, va, vs, vc, sa, ss, pc_⟩ ⟨k0, nm, ak, an, as_⟩ = 21 by unfold stepC; simp only; simp [HX.out, HY.out, HZ.out, *])
        clear hq1 hq2 hq3
        go_enter Try.func56, Try.ntmps56
        go_wp2_with (first | (go_at_call 65; refine (Var_is _ nm _ (HR.out.nil (by repeat (first | exact Kept.refl _ _ | assumption | refine Kept.drew ?_ | refine Kept.drewN ?_ _ | refine Kept.alloc ?_ _ | refine Kept.step ?_ (by assumption))))).mono ?_; rintro e w1 ⟨rfl, hk1⟩; rw [show varIx _ _ = _ from HX.out]; obtain ⟨hc1, hf1⟩ := hk1.rules; have hz1_0 : w.heap.size < w1.heap.size := (by have := hk1.size; first | omega | (simp at this; omega)); have hz1_1 : w.heap.size + 1 < w1.heap.size := (by have := hk1.size; first | omega | (simp at this; omega))) | (go_at_call 66; refine (Arg_is ⟨pn, pw, va, vs, vc, sa, ss, pc_⟩ ⟨k0, nm, ak, an, as_⟩ _ (HR.out.nil (by repeat (first | exact Kept.refl _ _ | assumption | refine Kept.drew ?_ | refine Kept.drewN ?_ _ | refine Kept.alloc ?_ _ | refine Kept.step ?_ (by assumption))))).mono ?_; rintro e w2 ⟨rfl, hk2⟩; rw [show argC _ _ = _ from HZ.out]))
        go_ret
        exact ⟨by rw [HN.out]; rfl, (by repeat (first | exact Kept.refl _ _ | assumption | refine Kept.drew ?_ | refine Kept.drewN ?_ _ | refine Kept.alloc ?_ _ | refine Kept.step ?_ (by assumption)))⟩
      · skip
        have fq3_0n : decide (ak < 0) = false := by first | (simp [hq3]; done) | (simp; omega) | (simp at hq3 ⊢; exact hq3) | exact hq3
        by_cases hq4 : 2 < ak
        · skip
          have fq4_0y : decide (2 < ak) = true := by first | (simp [hq4]; done) | (simp; omega) | (simp at hq4 ⊢; exact hq4) | exact hq4
          have HN := Lib.hid (show stepC ls ⟨pn, pw, va, vs, vc, sa, ss, pc_⟩ ⟨k0, nm, ak, an, as_⟩ = 21 by unfold stepC; simp only; simp [HX.out, HY.out, HZ.out, *])
          clear hq1 hq2 hq3 hq4
          go_enter Try.func56, Try.ntmps56
          go_wp2_with (first | (go_at_call 65; refine (Var_is _ nm _ (HR.out.nil (by repeat (first | exact Kept.refl _ _ | assumption | refine Kept.drew ?_ | refine Kept.drewN ?_ _ | refine Kept.alloc ?_ _ | refine Kept.step ?_ (by assumption))))).mono ?_; rintro e w1 ⟨rfl, hk1⟩; rw [show varIx _ _ = _ from HX.out]; obtain ⟨hc1, hf1⟩ := hk1.rules; have hz1_0 : w.heap.size < w1.heap.size := (by have := hk1.size; first | omega | (simp at this; omega)); have hz1_1 : w.heap.size + 1 < w1.heap.size := (by have := hk1.size; first | omega | (simp at this; omega))) | (go_at_call 66; refine (Arg_is ⟨pn, pw, va, vs, vc, sa, ss, pc_⟩ ⟨k0, nm, ak, an, as_⟩ _ (HR.out.nil (by repeat (first | exact Kept.refl _ _ | assumption | refine Kept.drew ?_ | refine Kept.drewN ?_ _ | refine Kept.alloc ?_ _ | refine Kept.step ?_ (by assumption))))).mono ?_; rintro e w2 ⟨rfl, hk2⟩; rw [show argC _ _ = _ from HZ.out]))
          go_ret
          exact ⟨by rw [HN.out]; rfl, (by repeat (first | exact Kept.refl _ _ | assumption | refine Kept.drew ?_ | refine Kept.drewN ?_ _ | refine Kept.alloc ?_ _ | refine Kept.step ?_ (by assumption)))⟩
        · skip
          have fq4_0n : decide (2 < ak) = false := by first | (simp [hq4]; done) | (simp; omega) | (simp at hq4 ⊢; exact hq4) | exact hq4
          by_cases hq5 : k0 = 4
          · skip
            have fq5_0y : (k0 != 4) = false := by first | (simp [hq5]; done) | (simp; omega) | (simp at hq5 ⊢; exact hq5) | exact hq5
            by_cases hq6 : y < 0
            · skip
              have hy0 : y < 0 := by assumption
              have HN := Lib.hid (show stepC ls ⟨pn, pw, va, vs, vc, sa, ss, pc_⟩ ⟨k0, nm, ak, an, as_⟩ = 4 by unfold stepC; simp only; simp [HX.out, HY.out, HZ.out, *])
              clear hq1 hq2 hq3 hq4 hq5 hq6
              go_enter Try.func56, Try.ntmps56
              go_wp2_with (first | (go_at_call 65; refine (Var_is _ nm _ (HR.out.nil (by repeat (first | exact Kept.refl _ _ | assumption | refine Kept.drew ?_ | refine Kept.drewN ?_ _ | refine Kept.alloc ?_ _ | refine Kept.step ?_ (by assumption))))).mono ?_; rintro e w1 ⟨rfl, hk1⟩; rw [show varIx _ _ = _ from HX.out]; obtain ⟨hc1, hf1⟩ := hk1.rules; have hz1_0 : w.heap.size < w1.heap.size := (by have := hk1.size; first | omega | (simp at this; omega)); have hz1_1 : w.heap.size + 1 < w1.heap.size := (by have := hk1.size; first | omega | (simp at this; omega))) | (go_at_call 66; refine (Arg_is ⟨pn, pw, va, vs, vc, sa, ss, pc_⟩ ⟨k0, nm, ak, an, as_⟩ _ (HR.out.nil (by repeat (first | exact Kept.refl _ _ | assumption | refine Kept.drew ?_ | refine Kept.drewN ?_ _ | refine Kept.alloc ?_ _ | refine Kept.step ?_ (by assumption))))).mono ?_; rintro e w2 ⟨rfl, hk2⟩; rw [show argC _ _ = _ from HZ.out]))
              rw [HW.out]
              have g0 := G0.out
              have g1 := G1.out
              have g2 := G2.out
              have g3 := G3.out
              have q0 := Q0.out
              have q1 := Q1.out
              have q2 := Q2.out
              have q3 := Q3.out
              have q4 := Q4.out
              obtain ⟨m0, m1, m2, m3, m4, m5, hcb⟩ := (HC.out.nil HK.out).cells
              simp only at m0 m1 m2 m3
              obtain ⟨kk, hlm⟩ := (HC.out.nil HK.out).lm
              have hlook := ix_none hlm nm HS.out (by rw [HY.out]; assumption)
              clear hlm
              go_big_quiet (fail)
              go_wp2_with (first | (go_at_call 66; refine (Arg_is ⟨pn, pw, va, vs, vc, sa, ss, pc_⟩ ⟨k0, nm, ak, an, as_⟩ _ (HR.out.nil <| HK.out.step (by repeat (first | exact Kept.refl _ _ | assumption | refine Kept.drew ?_ | refine Kept.drewN ?_ _ | refine Kept.alloc ?_ _ | refine Kept.step ?_ (by assumption))))).mono ?_; rintro e w2 ⟨rfl, hk2⟩; rw [show argC _ _ = _ from HZ.out]))
              go_ret
              exact ⟨by rw [HN.out]; rfl, HK.out.step (by repeat (first | exact Kept.refl _ _ | assumption | refine Kept.drew ?_ | refine Kept.drewN ?_ _ | refine Kept.alloc ?_ _ | refine Kept.step ?_ (by assumption)))⟩
            · skip
              obtain ⟨j, hj, hjl⟩ : ∃ j : Nat, y = j ∧ j < ls.length := by
                rcases HYN.out with h | ⟨j, h, hl⟩
                · rw [HY.out] at h; omega
                · exact ⟨j, HY.out.symm.trans h, by simpa using hl⟩
              subst hj
              obtain ⟨l, hl⟩ : ∃ l, ls[j]? = some l := ⟨_, List.getElem?_eq_getElem hjl⟩
              obtain ⟨b, off, rfl, c0, c1, c2, c3, c4⟩ := (HM.out.l).at hl
              have hbl : b < w.heap.size := World.block_lt_of_cell? _ _ c0
              have hjI : (j : Int) < (ls.length : Int) := by omega
              have hls := hl
              by_cases hq7 : l.src.toList = pn.toList
              · skip
                have fq7_0y : (l.src.toList != pn.toList) = false := by first | (simp [hq7]; done) | (simp; omega) | (simp at hq7 ⊢; exact hq7) | exact hq7
                have fq7_1y : (l.src.toList == pn.toList) = true := by first | (simp [hq7]; done) | (simp; omega) | (simp at hq7 ⊢; exact hq7) | exact hq7
                have fq7_2y : decide (l.src.toList = pn.toList) = true := by first | (simp [hq7]; done) | (simp; omega) | (simp at hq7 ⊢; exact hq7) | exact hq7
                have HN := Lib.hid (show stepC ls ⟨pn, pw, va, vs, vc, sa, ss, pc_⟩ ⟨k0, nm, ak, an, as_⟩ = z by rw [stepC_own (by simp only; omega) (by simp only; omega) (by simp only; omega) HY.out hls]; simp only; rw [if_pos (by assumption)]; exact HZ.out)
                clear hq1 hq2 hq3 hq4 hq5 hq6 hl hls hq7
                go_enter Try.func56, Try.ntmps56
                go_wp2_with (first | (go_at_call 65; refine (Var_is _ nm _ (HR.out.nil (by repeat (first | exact Kept.refl _ _ | assumption | refine Kept.drew ?_ | refine Kept.drewN ?_ _ | refine Kept.alloc ?_ _ | refine Kept.step ?_ (by assumption))))).mono ?_; rintro e w1 ⟨rfl, hk1⟩; rw [show varIx _ _ = _ from HX.out]; obtain ⟨hc1, hf1⟩ := hk1.rules; have hz1_0 : w.heap.size < w1.heap.size := (by have := hk1.size; first | omega | (simp at this; omega)); have hz1_1 : w.heap.size + 1 < w1.heap.size := (by have := hk1.size; first | omega | (simp at this; omega))) | (go_at_call 66; refine (Arg_is ⟨pn, pw, va, vs, vc, sa, ss, pc_⟩ ⟨k0, nm, ak, an, as_⟩ _ (HR.out.nil (by repeat (first | exact Kept.refl _ _ | assumption | refine Kept.drew ?_ | refine Kept.drewN ?_ _ | refine Kept.alloc ?_ _ | refine Kept.step ?_ (by assumption))))).mono ?_; rintro e w2 ⟨rfl, hk2⟩; rw [show argC _ _ = _ from HZ.out]))
                rw [HW.out]
                have g0 := G0.out
                have g1 := G1.out
                have g2 := G2.out
                have g3 := G3.out
                have q0 := Q0.out
                have q1 := Q1.out
                have q2 := Q2.out
                have q3 := Q3.out
                have q4 := Q4.out
                obtain ⟨m0, m1, m2, m3, m4, m5, hcb⟩ := (HC.out.nil HK.out).cells
                simp only at m0 m1 m2 m3
                obtain ⟨kk, hlm⟩ := (HC.out.nil HK.out).lm
                have hlook := ix_some hlm nm HS.out HY.out
                have lc1 := HK.out.cell c1 (fun h => h)
                clear hlm
                go_big_quiet (fail)
                go_wp2_with fail
                go_big_quiet (fail)
                go_wp2_with (first | (go_at_call 66; refine (Arg_is ⟨pn, pw, va, vs, vc, sa, ss, pc_⟩ ⟨k0, nm, ak, an, as_⟩ _ (HR.out.nil <| HK.out.step (by repeat (first | exact Kept.refl _ _ | assumption | refine Kept.drew ?_ | refine Kept.drewN ?_ _ | refine Kept.alloc ?_ _ | refine Kept.step ?_ (by assumption))))).mono ?_; rintro e w2 ⟨rfl, hk2⟩; rw [show argC _ _ = _ from HZ.out]))
                go_ret
                exact ⟨by rw [HN.out]; rfl, HK.out.step (by repeat (first | exact Kept.refl _ _ | assumption | refine Kept.drew ?_ | refine Kept.drewN ?_ _ | refine Kept.alloc ?_ _ | refine Kept.step ?_ (by assumption)))⟩
              · skip
                have fq7_0n : (l.src.toList != pn.toList) = true := by first | (simp [hq7]; done) | (simp; omega) | (simp at hq7 ⊢; exact hq7) | exact hq7
                have fq7_1n : (l.src.toList == pn.toList) = false := by first | (simp [hq7]; done) | (simp; omega) | (simp at hq7 ⊢; exact hq7) | exact hq7
                have fq7_2n : decide (l.src.toList = pn.toList) = false := by first | (simp [hq7]; done) | (simp; omega) | (simp at hq7 ⊢; exact hq7) | exact hq7
                have HN := Lib.hid (show stepC ls ⟨pn, pw, va, vs, vc, sa, ss, pc_⟩ ⟨k0, nm, ak, an, as_⟩ = 47 by rw [stepC_own (by simp only; omega) (by simp only; omega) (by simp only; omega) HY.out hls]; simp only; rw [if_neg (by assumption)])
                clear hq1 hq2 hq3 hq4 hq5 hq6 hl hls hq7
                go_enter Try.func56, Try.ntmps56
                go_wp2_with (first | (go_at_call 65; refine (Var_is _ nm _ (HR.out.nil (by repeat (first | exact Kept.refl _ _ | assumption | refine Kept.drew ?_ | refine Kept.drewN ?_ _ | refine Kept.alloc ?_ _ | refine Kept.step ?_ (by assumption))))).mono ?_; rintro e w1 ⟨rfl, hk1⟩; rw [show varIx _ _ = _ from HX.out]; obtain ⟨hc1, hf1⟩ := hk1.rules; have hz1_0 : w.heap.size < w1.heap.size := (by have := hk1.size; first | omega | (simp at this; omega)); have hz1_1 : w.heap.size + 1 < w1.heap.size := (by have := hk1.size; first | omega | (simp at this; omega))) | (go_at_call 66; refine (Arg_is ⟨pn, pw, va, vs, vc, sa, ss, pc_⟩ ⟨k0, nm, ak, an, as_⟩ _ (HR.out.nil (by repeat (first | exact Kept.refl _ _ | assumption | refine Kept.drew ?_ | refine Kept.drewN ?_ _ | refine Kept.alloc ?_ _ | refine Kept.step ?_ (by assumption))))).mono ?_; rintro e w2 ⟨rfl, hk2⟩; rw [show argC _ _ = _ from HZ.out]))
                rw [HW.out]
                have g0 := G0.out
                have g1 := G1.out
                have g2 := G2.out
                have g3 := G3.out
                have q0 := Q0.out
                have q1 := Q1.out
                have q2 := Q2.out
                have q3 := Q3.out
                have q4 := Q4.out
                obtain ⟨m0, m1, m2, m3, m4, m5, hcb⟩ := (HC.out.nil HK.out).cells
                simp only at m0 m1 m2 m3
                obtain ⟨kk, hlm⟩ := (HC.out.nil HK.out).lm
                have hlook := ix_some hlm nm HS.out HY.out
                have lc1 := HK.out.cell c1 (fun h => h)
                clear hlm
                go_big_quiet (fail)
                go_wp2_with fail
                go_big_quiet (fail)
                go_wp2_with (first | (go_at_call 66; refine (Arg_is ⟨pn, pw, va, vs, vc, sa, ss, pc_⟩ ⟨k0, nm, ak, an, as_⟩ _ (HR.out.nil <| HK.out.step (by repeat (first | exact Kept.refl _ _ | assumption | refine Kept.drew ?_ | refine Kept.drewN ?_ _ | refine Kept.alloc ?_ _ | refine Kept.step ?_ (by assumption))))).mono ?_; rintro e w2 ⟨rfl, hk2⟩; rw [show argC _ _ = _ from HZ.out]))
                go_ret
                exact ⟨by rw [HN.out]; rfl, HK.out.step (by repeat (first | exact Kept.refl _ _ | assumption | refine Kept.drew ?_ | refine Kept.drewN ?_ _ | refine Kept.alloc ?_ _ | refine Kept.step ?_ (by assumption)))⟩
          · skip
            have fq5_0n : (k0 != 4) = true := by first | (simp [hq5]; done) | (simp; omega) | (simp at hq5 ⊢; exact hq5) | exact hq5
            have hxn := HXN.out
            rw [HX.out] at hxn
            by_cases hq8 : x < 0
            · skip
              have fq8_0y : (x == -1) = true := by first | (simp [hq8]; done) | (simp; omega) | (simp at hq8 ⊢; exact hq8) | exact hq8
              have HN := Lib.hid (show stepC ls ⟨pn, pw, va, vs, vc, sa, ss, pc_⟩ ⟨k0, nm, ak, an, as_⟩ = 4 by unfold stepC; simp only; simp [HX.out, HY.out, HZ.out, *])
              clear hq1 hq2 hq3 hq4 hq5 hxn hq8
              go_enter Try.func56, Try.ntmps56
              go_wp2_with (first | (go_at_call 65; refine (Var_is _ nm _ (HR.out.nil (by repeat (first | exact Kept.refl _ _ | assumption | refine Kept.drew ?_ | refine Kept.drewN ?_ _ | refine Kept.alloc ?_ _ | refine Kept.step ?_ (by assumption))))).mono ?_; rintro e w1 ⟨rfl, hk1⟩; rw [show varIx _ _ = _ from HX.out]; obtain ⟨hc1, hf1⟩ := hk1.rules; have hz1_0 : w.heap.size < w1.heap.size := (by have := hk1.size; first | omega | (simp at this; omega)); have hz1_1 : w.heap.size + 1 < w1.heap.size := (by have := hk1.size; first | omega | (simp at this; omega))) | (go_at_call 66; refine (Arg_is ⟨pn, pw, va, vs, vc, sa, ss, pc_⟩ ⟨k0, nm, ak, an, as_⟩ _ (HR.out.nil (by repeat (first | exact Kept.refl _ _ | assumption | refine Kept.drew ?_ | refine Kept.drewN ?_ _ | refine Kept.alloc ?_ _ | refine Kept.step ?_ (by assumption))))).mono ?_; rintro e w2 ⟨rfl, hk2⟩; rw [show argC _ _ = _ from HZ.out]))
              go_ret
              exact ⟨by rw [HN.out]; rfl, (by repeat (first | exact Kept.refl _ _ | assumption | refine Kept.drew ?_ | refine Kept.drewN ?_ _ | refine Kept.alloc ?_ _ | refine Kept.step ?_ (by assumption)))⟩
            · skip
              have fq8_0n : (x == -1) = false := by first | (simp [hq8]; done) | (simp; omega) | (simp at hq8 ⊢; exact hq8) | exact hq8
              have HN := Lib.hid (show stepC ls ⟨pn, pw, va, vs, vc, sa, ss, pc_⟩ ⟨k0, nm, ak, an, as_⟩ = z by unfold stepC; simp only; simp [HX.out, HY.out, HZ.out, *])
              clear hq1 hq2 hq3 hq4 hq5 hxn hq8
              go_enter Try.func56, Try.ntmps56
              go_wp2_with (first | (go_at_call 65; refine (Var_is _ nm _ (HR.out.nil (by repeat (first | exact Kept.refl _ _ | assumption | refine Kept.drew ?_ | refine Kept.drewN ?_ _ | refine Kept.alloc ?_ _ | refine Kept.step ?_ (by assumption))))).mono ?_; rintro e w1 ⟨rfl, hk1⟩; rw [show varIx _ _ = _ from HX.out]; obtain ⟨hc1, hf1⟩ := hk1.rules; have hz1_0 : w.heap.size < w1.heap.size := (by have := hk1.size; first | omega | (simp at this; omega)); have hz1_1 : w.heap.size + 1 < w1.heap.size := (by have := hk1.size; first | omega | (simp at this; omega))) | (go_at_call 66; refine (Arg_is ⟨pn, pw, va, vs, vc, sa, ss, pc_⟩ ⟨k0, nm, ak, an, as_⟩ _ (HR.out.nil (by repeat (first | exact Kept.refl _ _ | assumption | refine Kept.drew ?_ | refine Kept.drewN ?_ _ | refine Kept.alloc ?_ _ | refine Kept.step ?_ (by assumption))))).mono ?_; rintro e w2 ⟨rfl, hk2⟩; rw [show argC _ _ = _ from HZ.out]))
              go_ret
              exact ⟨by rw [HN.out]; rfl, (by repeat (first | exact Kept.refl _ _ | assumption | refine Kept.drew ?_ | refine Kept.drewN ?_ _ | refine Kept.alloc ?_ _ | refine Kept.step ?_ (by assumption)))⟩
end Go.Proofs.Ythgbahlkflmgiaa.Mo
