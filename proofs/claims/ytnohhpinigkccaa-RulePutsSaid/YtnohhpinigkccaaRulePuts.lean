/- The walk of the statement RulePuts. -/
import Derived.Test.YtnohhpinigkccaaPutsP
import Derived.Test.YtnohhpinigkccaaRuleKeeps
import Derived.Test.YtnohhpinigkccaaAppendR
import Derived.Test.YtnohhpinigkccaaMask
import Derived.Deep.Cut
import Derived.Deep.CutRange
namespace Go.Proofs.Ytnohhpinigkccaa.Mo
open Go Go.RowKit Go.Maps Go.Shelf Go.Proofs.Ytnohhpinigkccaa.Lb
set_option linter.unusedVariables false
set_option linter.unusedSimpArgs false

set_option maxRecDepth 4000 in
set_option maxHeartbeats 4000000 in
theorem RulePuts_calls (p : Pr) (A : Option Addr) (cap : Nat) (vars : List Int) (value : Int) (w : World) (hp : RProc w p) (hs : ∀ s ∈ p.ss, s.name.size ≤ maxLen) (hr : Sc.Reads w .i64 A vars) (hc : A = none → cap = 0) (hi : ∀ z ∈ vars, Sc.I64 z) (hm : vars.length ≤ maxLen) (hv : Sc.I64 value) (n : Int) (hn : Sc.I64 n) (hcap : p.ss.length ≤ p.sc) (hnone : p.sa = none → p.sc = 0) :
    Calls Try.prog 5 #[p.val, .slice A vars.length cap, .int .i64 value, .int .i64 n] w fun e w' => e = .returned (.bool true) ∧ Below w.heap.size w w' := by
  obtain ⟨j0, hjnf, hy0, hy1, hy2⟩ := info_parts infoI64
  obtain ⟨pn, pw, va, vs, vc, sa, ss, pc_⟩ := p
  simp only at *
  have HP := Lib.hid hp
  have HS := Lib.hid hs
  have HR := Lib.hid hr
  have HC := Lib.hid hc
  have HI := Lib.hid hi
  have HV := Lib.hid hv
  have HCAP := Lib.hid hcap
  have HNONE := Lib.hid hnone
  unfold maxLen at hm
  clear hp hs hr hc hi hv hn hcap hnone
  obtain ⟨W0, hW0⟩ : ∃ W0, w.alloc (.cells #[.string pn, .int .i64 pw, .slice va vs.length vc, .slice sa ss.length pc_] 25) = W0 := ⟨_, rfl⟩
  have hk0 : Kept Nil w W0 := by rw [← hW0]; exact (Kept.refl Nil w).alloc _
  have p0 : W0.cell? ⟨w.heap.size, 0, none⟩ = some (.string pn) := by rw [← hW0]; simp
  have p1 : W0.cell? ⟨w.heap.size, 1, none⟩ = some (.int .i64 pw) := by rw [← hW0]; simp
  have p2 : W0.cell? ⟨w.heap.size, 2, none⟩ = some (.slice va vs.length vc) := by rw [← hW0]; simp
  have p3 : W0.cell? ⟨w.heap.size, 3, none⟩ = some (.slice sa ss.length pc_) := by rw [← hW0]; simp
  have hsz : W0.heap.size = w.heap.size + 1 := by rw [← hW0]; simp
  have HW0 := Lib.hid hW0
  have HK0 := Lib.hid hk0
  have G0 := Lib.hid p0
  have G1 := Lib.hid p1
  have G2 := Lib.hid p2
  have G3 := Lib.hid p3
  have HSZ := Lib.hid hsz
  clear hW0 hk0 p0 p1 p2 p3

  unfold Pr.val
  simp only
  go_enter Try.func5, Try.ntmps5
  go_wp2_with fail
  rw [HW0.out]
  refine (alive_is W0).mono ?_
  rintro e w1 ⟨rfl, hk1⟩
  have HK1 := Lib.hid hk1
  clear hk1
  have a0 := (HK1.out).cell G0.out (fun h => h)
  have a1 := (HK1.out).cell G1.out (fun h => h)
  have a2 := (HK1.out).cell G2.out (fun h => h)
  have a3 := (HK1.out).cell G3.out (fun h => h)
  have hb1 : w.heap.size < w1.heap.size := by have := HK1.out.size; omega
  go_wp2_with fail
  refine (few_is ⟨pn, pw, va, vs, vc, sa, ss, pc_⟩ w1 (HP.out.nil (HK0.out.step HK1.out))).mono ?_
  rintro e w2 ⟨b, rfl, hbb, hk2⟩
  have HK2 := Lib.hid (HK1.out.step hk2)
  have HBB := Lib.hid hbb
  have hb2 : w.heap.size < w2.heap.size := by have := hk2.size; omega
  clear hk2 hbb a0 a1 a2 a3
  cases b with
  | false =>
    go_wp2_with fail
    go_ret
    exact ⟨rfl, (HK0.out.step HK2.out).toBelow⟩
  | true =>
    by_cases h100 : 100 < vars.length
    · go_wp2_with fail
      go_ret
      exact ⟨rfl, (HK0.out.step HK2.out).toBelow⟩
    · have hvl := (HBB.out rfl).1
      have hsl := (HBB.out rfl).2
      simp only at hvl hsl
      have a0 := (HK2.out).cell G0.out (fun h => h)
      have a1 := (HK2.out).cell G1.out (fun h => h)
      have a2 := (HK2.out).cell G2.out (fun h => h)
      have a3 := (HK2.out).cell G3.out (fun h => h)
      by_cases h0 : vars.length = 0
      · go_wp2_with fail
        go_ret
        exact ⟨rfl, (HK0.out.step HK2.out).toBelow⟩
      · have h0n : 0 < vars.length := Nat.pos_of_ne_zero h0
        have h100B : decide (100 < (vars.length : Int)) = false := decide_eq_false (by omega)
        have h0B : ((vars.length : Int) == 0) = false := by simp only [beq_eq_false_iff_ne, ne_eq]; omega
        clear h0
        obtain ⟨r, hrr⟩ : ∃ r, runP ⟨pn, pw, va, vs, vc, sa, ss, pc_⟩ vars value = r := ⟨_, rfl⟩
        have HRR := Lib.hid hrr
        clear hrr
        go_wp2_with fail
        refine (Run_is ⟨pn, pw, va, vs, vc, sa, ss, pc_⟩ A cap vars value w2 (HP.out.nil (HK0.out.step HK2.out)) (reads_kept HR.out (HK0.out.step HK2.out) (fun _ _ _ h => h)) HI.out HV.out (by omega) (by simp only; omega)).mono ?_
        rintro e w4 ⟨u4, v4, rfl, ⟨hu4, hv4⟩, hk4⟩
        rw [HRR.out] at hu4 hv4 ⊢
        obtain ⟨re, rn, rs⟩ := r
        simp only at hu4 hv4
        obtain ⟨-, A4, c4, rfl, hA4, -⟩ := longs_of_own hu4
        obtain ⟨B4, d4, rfl⟩ := own_slice hv4
        have HA4 := Lib.hid hA4
        have HV4 := Lib.hid hv4
        have HK4 := Lib.hid (HK2.out.step hk4)
        have hb4 : w.heap.size < w4.heap.size := by have := hk4.size; omega
        clear h100B h0B hu4 hv4 hA4 hk4 a0 a1 a2 a3
        have a0 := (HK4.out).cell G0.out (fun h => h)
        have a1 := (HK4.out).cell G1.out (fun h => h)
        have a2 := (HK4.out).cell G2.out (fun h => h)
        have a3 := (HK4.out).cell G3.out (fun h => h)
        by_cases hre : re = 0
        · subst hre
          have hok := runP_ok (show (runP ⟨pn, pw, va, vs, vc, sa, ss, pc_⟩ vars value).1 = 0 by rw [HRR.out])
          rw [HRR.out] at hok
          simp only at hok
          have HVV := Lib.hid hok.1
          have HRL := Lib.hid (run_sends hok.2.2)
          clear hok
          obtain ⟨m, hmm, hml⟩ := mod_of (bits .and .i64 n 255) vs.length (by rw [i64_and255]; omega) (by have := HVV.out; omega)
          obtain ⟨⟨nm, ini⟩, ev⟩ : ∃ v, vs[m]? = some v := ⟨_, List.getElem?_eq_getElem hml⟩
          obtain ⟨j, hj, hjl, ju, ej⟩ := varIx_found ev rfl
          simp only at hj ej
          obtain ⟨bv, off, eva, q0, q1⟩ := (HP.out.nil (HK0.out.step HK4.out)).v.at ev
          simp only at eva
          subst eva
          have HJ := Lib.hid hj
          have HEJ := Lib.hid ej
          have hbv : bv < w4.heap.size := World.block_lt_of_cell? _ _ q0
          have hvn : vs ≠ [] := fun h => by rw [h] at hml; simp at hml
          have hvI : ((vs.length : Int) == 0) = false := by simp only [beq_eq_false_iff_ne, ne_eq]; omega
          have hml2 : (m : Int) < (vs.length : Int) := by omega
          clear hj ej ev q1
          go_wp2_with fail
          refine region_tail 12 (by kernel_rfl) (by kernel_rfl) ?_
          simp only [List.take_succ_cons, List.take_zero, List.drop_succ_cons, List.drop_zero]
          repeat still_step
          refine wpStill_nil ?_
          go_wp2_with fail
          refine (RefVar_is ⟨pn, pw, some ⟨bv, off, none⟩, vs, vc, sa, ss, pc_⟩ nm _ (HP.out.nil ((HK0.out.step HK4.out).drew))).mono ?_
          rintro e w5 ⟨rfl, hk5⟩
          rw [show varIx _ _ = _ from HJ.out]
          have HK5 := Lib.hid (HK4.out.drew.step hk5)
          have hb5 : w.heap.size < w5.heap.size := by have := hk5.size; simp at this; omega
          have hbv5 : bv < w5.heap.size := by have := hk5.size; simp at this; omega
          have HK45 := Lib.hid hk5
          clear hk5 a0 a1 a2 a3 q0 hmm hml hml2 hbv hvn hvI
          have a0 := (HK5.out).cell G0.out (fun h => h)
          have a1 := (HK5.out).cell G1.out (fun h => h)
          have a2 := (HK5.out).cell G2.out (fun h => h)
          have a3 := (HK5.out).cell G3.out (fun h => h)
          obtain ⟨W9, hW9⟩ : ∃ W9, w5.alloc (.cells #[.string pn, .int .i64 pw, .slice (some ⟨bv, off, none⟩) vs.length vc, .slice sa ss.length pc_] 25) = W9 := ⟨_, rfl⟩
          have hk9 : Kept Nil w5 W9 := by rw [← hW9]; exact (Kept.refl Nil w5).alloc _
          have hsz9 : W9.heap.size = w5.heap.size + 1 := by rw [← hW9]; simp
          have hC9 : W9.heap[w5.heap.size]? = some (.cells #[.string pn, .int .i64 pw, .slice (some ⟨bv, off, none⟩) vs.length vc, .slice sa ss.length pc_] 25 (0, 0)) := by rw [← hW9]; exact heap_new _ _
          have HC9 := Lib.hid hC9
          have HK9 := Lib.hid hk9
          have f9 := frozen_of hC9 3
          have HS9 := Lib.hid hsz9
          have HW9 := Lib.hid hW9
          have g9 : w5.heap.size < W9.heap.size := by omega
          clear hk9 hsz9 hC9 hW9
          go_upto_region 10 with fail
          rw [HW9.out]
          clear a0 a1 a2 a3
          have a0 := ((HK5.out.step HK9.out)).cell G0.out (fun h => h)
          have a1 := ((HK5.out.step HK9.out)).cell G1.out (fun h => h)
          have a2 := ((HK5.out.step HK9.out)).cell G2.out (fun h => h)
          have a3 := ((HK5.out.step HK9.out)).cell G3.out (fun h => h)
          have hRP9 := HP.out.nil (HK0.out.step (HK5.out.step HK9.out))
          have HRP9 := Lib.hid hRP9
          have q9 : W9.cell? ⟨bv, off + j * 2, none⟩ = some (.string nm) := by
            obtain ⟨b', o', e', h1, h2⟩ := hRP9.v.at HEJ.out
            simp only at e'
            cases e'
            exact h1
          have hjI : (j : Int) < (vs.length : Int) := by omega
          have ne1 : w5.heap.size ≠ w.heap.size := by omega
          have ne2 : w5.heap.size ≠ bv := by omega
          clear hRP9
          have d0 : W9.cell? ⟨w5.heap.size, 0, none⟩ = some (.string pn) := by rw [cell_of HC9.out]; rfl
          have d1 : W9.cell? ⟨w5.heap.size, 1, none⟩ = some (.int .i64 pw) := by rw [cell_of HC9.out]; rfl
          have d2 : W9.cell? ⟨w5.heap.size, 2, none⟩ = some (.slice (some ⟨bv, off, none⟩) vs.length vc) := by rw [cell_of HC9.out]; rfl
          have d3 : W9.cell? ⟨w5.heap.size, 3, none⟩ = some (.slice sa ss.length pc_) := by rw [cell_of HC9.out]; rfl
          obtain ⟨i0, hinf, hz0, hz1, hz2⟩ := info_parts infoStep
          have hW9s := HS9.out
          go_cut [] from 57 to 79 (fun wx => ∃ A' c', wx.cell? ⟨w5.heap.size, 0, none⟩ = some (.string pn) ∧ wx.cell? ⟨w5.heap.size, 1, none⟩ = some (.int .i64 pw) ∧ wx.cell? ⟨w5.heap.size, 2, none⟩ = some (.slice (some ⟨bv, off, none⟩) vs.length vc) ∧ wx.cell? ⟨w5.heap.size, 3, none⟩ = some (.slice A' (ss ++ [putS nm, sendS nm]).length c') ∧ RSteps wx A' (ss ++ [putS nm, sendS nm]) ∧ Kept Nil w5 wx)
          case first =>
            go_region_held3 (fun w' => w'.cell? ⟨w.heap.size, 2, none⟩ = some (.slice (some ⟨bv, off, none⟩) vs.length vc) ∧ w'.cell? ⟨w.heap.size, 3, none⟩ = some (.slice sa ss.length pc_) ∧ w'.cell? ⟨bv, off + j * 2, none⟩ = some (.string nm)) (go_keep) (first
              | (refine step_append_src rfl (.tmp 57) (.tmp 59) 23 rfl (w5.heap.size + 1) 47 i0 zS 5 56 Try.underlying23 hinf hz0 hz1 hz2 rfl (by decide) (.slice (some ⟨W9.heap.size, 0, none⟩) 0 0) 0 [] (.slice sa ss.length pc_) ss.length (ss.flatMap cellsS) ?_ ?_ ?_ ?_ (cellsS_one ss) (by unfold maxLen; omega) (by omega) ?_ ?_
                 · simp [Act.eval, Act.put]
                 · simp [Act.eval, Act.put]
                 · with_reducible exact own_drew (own_lit0 (w := W9) rfl (by omega))
                 · exact (HRP9.out.s.kept (K := Nil) (by repeat (first | exact Kept.refl _ _ | refine Kept.drew ?_ | refine Kept.alloc ?_ _)) (fun _ _ _ _ h => h)).src HNONE.out
                 · first | omega | (simp; omega)
                 intro v3 w3 hown3 hgrow3
                 have hk3 : Kept Nil W9 w3 := Kept.grown (by repeat (first | exact Kept.refl _ _ | refine Kept.drew ?_ | refine Kept.alloc ?_ _)) hgrow3 (fun k e => .inr (by simp [Value.ownBlock] at e; omega))
                 have s2 := hk3.cell a2 (fun h => h)
                 have s3 := hk3.cell a3 (fun h => h)
                 have sq := hk3.cell q9 (fun h => h)
                 skip
                 have HO3 := Lib.hid hown3
                 have HK3 := Lib.hid hk3
                 have hs3 := hk3.size
                 clear hown3 hgrow3 hk3)
              | (refine step_append_src rfl (.tmp 57) (.tmp 59) 23 rfl (w5.heap.size + 1) 47 i0 zS 5 56 Try.underlying23 hinf hz0 hz1 hz2 rfl (by decide) (.slice (some ⟨W9.heap.size, 0, none⟩) 0 0) 0 [] (.slice sa ss.length pc_) ss.length (ss.flatMap cellsS) ?_ ?_ ?_ ?_ (cellsS_one ss) (by unfold maxLen; omega) (by omega) ?_ ?_
                 · simp [Act.eval, Act.put]
                 · simp [Act.eval, Act.put]
                 · with_reducible exact own_drew ((own_lit0 (w := W9) rfl (by omega)).alloc _)
                 · exact (HRP9.out.s.kept (K := Nil) (by repeat (first | exact Kept.refl _ _ | refine Kept.drew ?_ | refine Kept.alloc ?_ _)) (fun _ _ _ _ h => h)).src HNONE.out
                 · first | omega | (simp; omega)
                 intro v3 w3 hown3 hgrow3
                 have hk3 : Kept Nil W9 w3 := Kept.grown (by repeat (first | exact Kept.refl _ _ | refine Kept.drew ?_ | refine Kept.alloc ?_ _)) hgrow3 (fun k e => .inr (by simp [Value.ownBlock] at e; omega))
                 have s2 := hk3.cell a2 (fun h => h)
                 have s3 := hk3.cell a3 (fun h => h)
                 have sq := hk3.cell q9 (fun h => h)
                 have hB2 : w3.heap[W9.heap.size + 1]? = some (.cells #[.int .i64 1, .string nm, .int .i64 2, .int .i64 0, .string ⟨#[]⟩, .int .i64 4, .string ⟨#[108]⟩, .int .i64 1, .int .i64 0, .string nm] 47 (0, 0)) := (hgrow3.block (W9.heap.size + 1) (by simp) (by simp [Value.ownBlock])).trans (by have h9 := heap_new (W9.alloc (.cells #[] 47)) (.cells #[.int .i64 1, .string nm, .int .i64 2, .int .i64 0, .string ⟨#[]⟩, .int .i64 4, .string ⟨#[108]⟩, .int .i64 1, .int .i64 0, .string nm] 47); rw [World.size_alloc] at h9; exact h9)
                 have HO3 := Lib.hid hown3
                 have HK3 := Lib.hid hk3
                 have hs3 := hk3.size
                 clear hown3 hgrow3 hk3)
              | (refine step_append_src rfl (.tmp 57) (.tmp 59) 23 rfl (w5.heap.size + 1) 47 i0 zS 5 56 Try.underlying23 hinf hz0 hz1 hz2 rfl (by decide) (.slice (some ⟨W9.heap.size + 1, 0, none⟩) 0 0) 0 [] (.slice sa ss.length pc_) ss.length (ss.flatMap cellsS) ?_ ?_ ?_ ?_ (cellsS_one ss) (by unfold maxLen; omega) (by omega) ?_ ?_
                 · simp [Act.eval, Act.put]
                 · simp [Act.eval, Act.put]
                 · with_reducible exact own_drew (own_lit0 (w := W9.alloc _) (World.size_alloc _ _) (by omega))
                 · exact (HRP9.out.s.kept (K := Nil) (by repeat (first | exact Kept.refl _ _ | refine Kept.drew ?_ | refine Kept.alloc ?_ _)) (fun _ _ _ _ h => h)).src HNONE.out
                 · first | omega | (simp; omega)
                 intro v3 w3 hown3 hgrow3
                 have hk3 : Kept Nil W9 w3 := Kept.grown (by repeat (first | exact Kept.refl _ _ | refine Kept.drew ?_ | refine Kept.alloc ?_ _)) hgrow3 (fun k e => .inr (by simp [Value.ownBlock] at e; omega))
                 have s2 := hk3.cell a2 (fun h => h)
                 have s3 := hk3.cell a3 (fun h => h)
                 have sq := hk3.cell q9 (fun h => h)
                 have hB2 : w3.heap[W9.heap.size]? = some (.cells #[.int .i64 1, .string nm, .int .i64 2, .int .i64 0, .string ⟨#[]⟩, .int .i64 4, .string ⟨#[108]⟩, .int .i64 1, .int .i64 0, .string nm] 47 (0, 0)) := (hgrow3.block W9.heap.size (by simp <;> omega) (by simp [Value.ownBlock])).trans ((heap_old _ _ (by simp)).trans (heap_new W9 (.cells #[.int .i64 1, .string nm, .int .i64 2, .int .i64 0, .string ⟨#[]⟩, .int .i64 4, .string ⟨#[108]⟩, .int .i64 1, .int .i64 0, .string nm] 47)))
                 have HO3 := Lib.hid hown3
                 have HK3 := Lib.hid hk3
                 have hs3 := hk3.size
                 clear hown3 hgrow3 hk3)
              | (refine step_append_src rfl (.tmp 60) (.tmp 77) 23 rfl (w5.heap.size + 1) 47 i0 zS 5 56 Try.underlying23 hinf hz0 hz1 hz2 rfl (by decide) v3 (0 + ss.length) ([] ++ ss.flatMap cellsS) (.slice (some ⟨w3.heap.size, 0, none⟩) 2 2) 2 ([putS nm, sendS nm].flatMap cellsS) ?_ ?_ ?_ ?_ (cellsS_one _) (by unfold maxLen; omega) (by omega) ?_ ?_
                 · simp [Act.eval, Act.put]
                 · simp [Act.eval, Act.put]
                 · with_reducible exact (HO3.out.alloc _)
                 · with_reducible refine src2 (heap_new _ _) ?_ ?_
                   · rfl
                   · rfl
                 · first | omega | (simp; omega)
                 intro v4 w6 hown4 hgrow4
                 have hk4 : Kept Nil W9 w6 := Kept.grown (by repeat (first | exact HK3.out | refine Kept.drew ?_ | refine Kept.alloc ?_ _)) hgrow4 (fun k e => .inr (by have := (HO3.out.lt k e).1; omega))
                 have s2' := hk4.cell a2 (fun h => h)
                 have s3' := hk4.cell a3 (fun h => h)
                 have sq' := hk4.cell q9 (fun h => h)
                 have e3' := hk4.cell d3 (fun h => h)
                 have ff := hk4.frozen (by simp only; omega) f9 (fun h => h)
                 have hown5 : w6.ownsRow (w5.heap.size + 1) 47 5 v4 (ss ++ [putS nm, sendS nm]).length ((ss ++ [putS nm, sendS nm]).flatMap cellsS) := by
                   simpa using hown4
                 obtain ⟨A', c', ev4, hRS4, hlow4⟩ := steps_of_own hown5
                 subst ev4
                 have HRS4 := Lib.hid hRS4
                 have HLOW4 := Lib.hid hlow4
                 have HK6 := Lib.hid hk4
                 clear hown4 hown5 hgrow4 hk4 hRS4 hlow4)
              | (refine step_append_src rfl (.tmp 60) (.tmp 77) 23 rfl (w5.heap.size + 1) 47 i0 zS 5 56 Try.underlying23 hinf hz0 hz1 hz2 rfl (by decide) v3 (0 + ss.length) ([] ++ ss.flatMap cellsS) (.slice (some ⟨W9.heap.size + 1, 0, none⟩) 2 2) 2 ([putS nm, sendS nm].flatMap cellsS) ?_ ?_ ?_ ?_ (cellsS_one _) (by unfold maxLen; omega) (by omega) ?_ ?_
                 · simp [Act.eval, Act.put]
                 · simp [Act.eval, Act.put]
                 · with_reducible exact HO3.out
                 · with_reducible refine src2 hB2 ?_ ?_
                   · rfl
                   · rfl
                 · first | omega | (simp; omega)
                 intro v4 w6 hown4 hgrow4
                 have hk4 : Kept Nil W9 w6 := Kept.grown (by repeat (first | exact HK3.out | refine Kept.drew ?_ | refine Kept.alloc ?_ _)) hgrow4 (fun k e => .inr (by have := (HO3.out.lt k e).1; omega))
                 have s2' := hk4.cell a2 (fun h => h)
                 have s3' := hk4.cell a3 (fun h => h)
                 have sq' := hk4.cell q9 (fun h => h)
                 have e3' := hk4.cell d3 (fun h => h)
                 have ff := hk4.frozen (by simp only; omega) f9 (fun h => h)
                 have hown5 : w6.ownsRow (w5.heap.size + 1) 47 5 v4 (ss ++ [putS nm, sendS nm]).length ((ss ++ [putS nm, sendS nm]).flatMap cellsS) := by
                   simpa using hown4
                 obtain ⟨A', c', ev4, hRS4, hlow4⟩ := steps_of_own hown5
                 subst ev4
                 have HRS4 := Lib.hid hRS4
                 have HLOW4 := Lib.hid hlow4
                 have HK6 := Lib.hid hk4
                 clear hown4 hown5 hgrow4 hk4 hRS4 hlow4)
              | (refine step_append_src rfl (.tmp 60) (.tmp 77) 23 rfl (w5.heap.size + 1) 47 i0 zS 5 56 Try.underlying23 hinf hz0 hz1 hz2 rfl (by decide) v3 (0 + ss.length) ([] ++ ss.flatMap cellsS) (.slice (some ⟨W9.heap.size, 0, none⟩) 2 2) 2 ([putS nm, sendS nm].flatMap cellsS) ?_ ?_ ?_ ?_ (cellsS_one _) (by unfold maxLen; omega) (by omega) ?_ ?_
                 · simp [Act.eval, Act.put]
                 · simp [Act.eval, Act.put]
                 · with_reducible exact HO3.out
                 · with_reducible refine src2 hB2 ?_ ?_
                   · rfl
                   · rfl
                 · first | omega | (simp; omega)
                 intro v4 w6 hown4 hgrow4
                 have hk4 : Kept Nil W9 w6 := Kept.grown (by repeat (first | exact HK3.out | refine Kept.drew ?_ | refine Kept.alloc ?_ _)) hgrow4 (fun k e => .inr (by have := (HO3.out.lt k e).1; omega))
                 have s2' := hk4.cell a2 (fun h => h)
                 have s3' := hk4.cell a3 (fun h => h)
                 have sq' := hk4.cell q9 (fun h => h)
                 have e3' := hk4.cell d3 (fun h => h)
                 have ff := hk4.frozen (by simp only; omega) f9 (fun h => h)
                 have hown5 : w6.ownsRow (w5.heap.size + 1) 47 5 v4 (ss ++ [putS nm, sendS nm]).length ((ss ++ [putS nm, sendS nm]).flatMap cellsS) := by
                   simpa using hown4
                 obtain ⟨A', c', ev4, hRS4, hlow4⟩ := steps_of_own hown5
                 subst ev4
                 have HRS4 := Lib.hid hRS4
                 have HLOW4 := Lib.hid hlow4
                 have HK6 := Lib.hid hk4
                 clear hown4 hown5 hgrow4 hk4 hRS4 hlow4))
            all_goals (go_wp2_with fail)
            all_goals go_meet
            all_goals (
              have e0 := HK6.out.cell d0 (fun h => h)
              have e1 := HK6.out.cell d1 (fun h => h)
              have e2 := HK6.out.cell d2 (fun h => h)
              refine ⟨A', c', (World.cell?_setCell_other _ _ _ _ (by simp)).trans e0, (World.cell?_setCell_other _ _ _ _ (by simp)).trans e1, (World.cell?_setCell_other _ _ _ _ (by simp)).trans e2, ?_, HRS4.out.kept (K := fun i => i = w5.heap.size) (Kept.setCell (S := fun i => i = w5.heap.size) (p := ⟨w5.heap.size, 3, none⟩) (Kept.refl _ w6) (.inl rfl) _) (fun b off _ e h => by have := HLOW4.out b off e; omega), (HK9.out.step HK6.out).setCell (.inr (Nat.le_refl _)) _⟩
              have hq := World.cell?_setCell_same w6 ⟨w5.heap.size, 3, none⟩ (.slice A' (ss.length + 2) c') e3'
              simpa using hq)
          case rest =>
            obtain ⟨A', c', d0, d1, d2, d3, hRS, hkc⟩ := hcut
            clear hW9s
            have hbc : w5.heap.size < wc.heap.size := World.block_lt_of_cell? _ _ d0
            have HKc := Lib.hid (HK5.out.step hkc)
            have HK5c := Lib.hid hkc
            have hpz : RProc wc (withSteps ⟨pn, pw, some ⟨bv, off, none⟩, vs, vc, sa, ss, pc_⟩ A' (ss ++ [putS nm, sendS nm]) c') := by
              have h9 := HP.out.nil (HK0.out.step (HK5.out.step hkc))
              refine ⟨h9.v, hRS, h9.vl, by simp [withSteps, maxLen]; omega, fun s hs => ?_⟩
              simp only [withSteps, List.mem_append, List.mem_cons, List.not_mem_nil, or_false] at hs
              rcases hs with hs | rfl | rfl
              · exact h9.si s hs
              · exact ⟨by simp [putS, sendS], by simp [putS, sendS]⟩
              · exact ⟨by simp [putS, sendS], by simp [putS, sendS]⟩
            have HPZ := Lib.hid hpz
            clear hkc hpz hRS
            go_wp2_with fail
            have hva : (withSteps ⟨pn, pw, some ⟨bv, off, none⟩, vs, vc, sa, ss, pc_⟩ A' (ss ++ [putS nm, sendS nm]) c').val = .agg #[.string pn, .int .i64 pw, .slice (some ⟨bv, off, none⟩) vs.length vc, .slice A' (ss.length + 2) c'] := by simp [withSteps, Pr.val]
            have hrun7 := Run_is (withSteps ⟨pn, pw, some ⟨bv, off, none⟩, vs, vc, sa, ss, pc_⟩ A' (ss ++ [putS nm, sendS nm]) c') A cap vars value wc HPZ.out (reads_kept HR.out (HK0.out.step HKc.out) (fun _ _ _ h => h)) HI.out HV.out (by omega) (by simp [withSteps]; omega)
            rw [hva] at hrun7
            refine hrun7.mono ?_
            clear hrun7 hva
            rintro e w7 ⟨u7, v7, rfl, ⟨hu7, hv7⟩, hk7⟩
            have hrun := puts (p := ⟨pn, pw, some ⟨bv, off, none⟩, vs, vc, sa, ss, pc_⟩) (vars := vars) (value := value) (nm := nm) (j := j) HJ.out (by have := HVV.out; omega) A' c' (by rw [HRR.out])
            rw [hrun] at hu7 hv7 ⊢
            rw [HRR.out] at hu7 hv7 ⊢
            clear hrun
            simp only at hu7 hv7
            have hrnl : rn.length = vars.length := HRL.out.1
            have hrsl : rs.length ≤ 300 := by
              have h9 := HRL.out.2
              have h8 : sendsN ss ≤ ss.length := List.length_filter_le _ _
              simp only [List.length_nil, Nat.zero_add] at h9
              rw [h9]; omega
            have hrn100 : rn.length ≤ 100 := by omega
            have hjr : j < rn.length := by have := HVV.out; omega
            obtain ⟨un, hun⟩ : ∃ un, rn.set j value = un := ⟨_, rfl⟩
            obtain ⟨tn, htn⟩ : ∃ tn, rs ++ [(ByteArray.mk #[108], value)] = tn := ⟨_, rfl⟩
            have hul : un.length = rn.length := by rw [← hun]; simp
            have htl : tn.length = rs.length + 1 := by rw [← htn]; simp
            have huj : un[j]? = some value := by rw [← hun]; simp [List.getElem?_set, hjr]
            have huk : ∀ k, k ≠ j → un[k]? = rn[k]? := fun k hk => by rw [← hun, List.getElem?_set, if_neg (Ne.symm hk)]
            have htj : tn[rs.length]? = some (ByteArray.mk #[108], value) := by rw [← htn]; simp
            have htk : ∀ k, k < rs.length → tn[k]? = rs[k]? := fun k hk => by rw [← htn, List.getElem?_append_left hk]
            rw [hun] at hu7
            rw [htn] at hv7
            obtain ⟨-, A7, c7, e7, hA7, -⟩ := longs_of_own hu7
            rw [hul] at e7
            subst e7
            obtain ⟨-, B7, d7, f7, hB7⟩ := sends_of_own hv7
            rw [htl] at f7
            subst f7
            obtain ⟨-, B4', d4', e4, hB4⟩ := sends_of_own HV4.out
            cases e4
            have HA7 := Lib.hid hA7
            have HB7 := Lib.hid hB7
            have HB4 := Lib.hid hB4
            have HUK := Lib.hid huk
            have HTK := Lib.hid htk
            have HK7 := Lib.hid (HKc.out.step hk7)
            have HK47 := Lib.hid (((Kept.refl Nil w4).drew.step HK45.out).step (HK5c.out.step hk7))
            obtain ⟨g7, o7, rfl, f0⟩ := reads_at hA7 huj
            obtain ⟨s7, rfl, f1, f2⟩ : ∃ s7, B7 = some ⟨s7, 0, none⟩ ∧ w7.cell? ⟨s7, rs.length * 2, none⟩ = some (.string ⟨#[108]⟩) ∧ w7.cell? ⟨s7, rs.length * 2 + 1, none⟩ = some (.int .i64 value) := by
              rcases hB7 with h | ⟨g, h, _, _, _, hc⟩
              · rw [h] at htl; simp at htl
              · obtain ⟨h1, h2⟩ := hc _ _ htj
                exact ⟨g, h, h1, h2⟩
            have hg7 : g7 < w7.heap.size := World.block_lt_of_cell? _ _ f0
            have hs7 : s7 < w7.heap.size := World.block_lt_of_cell? _ _ f1
            have q1 : ((rn.length : Int) != (rn.length : Int)) = false := by simp
            have q2 : ((rs.length : Int) + 1 != (rs.length : Int) + 1) = false := by simp
            have q3 : (value != value) = false := by simp
            have hjB : (j : Int) < (rn.length : Int) := by omega
            clear hun htn hul htl huj huk htj htk hA7 hB7 hB4 hu7 hv7 hk7 d0 d1 d2 d3 a0 a1 a2 a3 q9 hrnl hinf hz0 hz1 hz2
            go_wp2_with fail
            clear f0 f1 f2 q1 q2 q3
            go_loopw [125] (fun i wr => ∃ k : Nat, k ≤ rn.length ∧ i = .int .i64 k ∧ Kept Nil w7 wr) (fun i _ => rn.length - (intOf i).toNat)
            case atStart => exact ⟨0, Nat.zero_le _, rfl, by first | exact Kept.refl _ _ | (repeat (first | exact Kept.refl _ _ | refine Kept.drew ?_ | refine Kept.alloc ?_ _))⟩
            case round =>
              obtain ⟨k, hk, rfl, hK⟩ := hrel
              have HKr := Lib.hid hK
              clear hK
              by_cases hlt : k < rn.length
              · have hltI : (k : Int) < (rn.length : Int) := by omega
                by_cases hkj : k = j
                · have hb : ((k : Int) != (j : Int)) = false := by simp [hkj]
                  clear hkj
                  go_wp2_with fail
                  go_big_quiet (fail)
                  go_wp2_with fail
                  go_round
                  case measure => (simp [intOf] <;> omega)
                  exact ⟨k + 1, by omega, by go_num, HKr.out.drewN _⟩
                · have hb : ((k : Int) != (j : Int)) = true := by simp; omega
                  obtain ⟨z, ez⟩ : ∃ z, rn[k]? = some z := ⟨_, List.getElem?_eq_getElem hlt⟩
                  obtain ⟨b4, o4, e4, f3⟩ := reads_at (reads_kept HA4.out (HK47.out.step HKr.out) (fun _ _ _ h => h)) ez
                  obtain ⟨b5, o5, e5, f4⟩ := reads_at (reads_kept HA7.out HKr.out (fun _ _ _ h => h)) ((HUK.out k hkj).trans ez)
                  cases e5
                  subst e4
                  have q4 : (z != z) = false := by simp
                  clear hkj ez
                  go_wp2_with fail
                  go_big_quiet (fail)
                  go_wp2_with fail
                  go_round
                  case measure => (simp [intOf] <;> omega)
                  exact ⟨k + 1, by omega, by go_num, HKr.out.drewN _⟩
              · obtain ⟨wa, hwa⟩ : ∃ x, x = wr := ⟨_, rfl⟩
                subst hwa
                have hltI : ¬ (k : Int) < (rn.length : Int) := by omega
                go_wp2_with fail
                clear hltI
                go_loopw [145] (fun i wr => ∃ k : Nat, k ≤ rs.length ∧ i = .int .i64 k ∧ Kept Nil w7 wr) (fun i _ => rs.length - (intOf i).toNat)
                case atStart => exact ⟨0, Nat.zero_le _, rfl, HKr.out⟩
                case round =>
                  obtain ⟨k, hk, rfl, hK⟩ := hrel
                  have HKs := Lib.hid hK
                  clear hK
                  by_cases hlt : k < rs.length
                  · obtain ⟨⟨l, x⟩, ez⟩ : ∃ z, rs[k]? = some z := ⟨_, List.getElem?_eq_getElem hlt⟩
                    obtain ⟨f0, f1⟩ : wr.cell? ⟨s7, k * 2, none⟩ = some (.string l) ∧ wr.cell? ⟨s7, k * 2 + 1, none⟩ = some (.int .i64 x) := by
                      rcases HB7.out with h | ⟨g, h, _, _, _, hc⟩
                      · have h9 := HTK.out k hlt
                        rw [h, ez] at h9; simp at h9
                      · cases h
                        obtain ⟨h1, h2⟩ := hc k _ ((HTK.out k hlt).trans ez)
                        exact ⟨HKs.out.cell h1 (fun h => h), HKs.out.cell h2 (fun h => h)⟩
                    obtain ⟨g2, rfl, f2, f3⟩ : ∃ g2, B4 = some ⟨g2, 0, none⟩ ∧ wr.cell? ⟨g2, k * 2, none⟩ = some (.string l) ∧ wr.cell? ⟨g2, k * 2 + 1, none⟩ = some (.int .i64 x) := by
                      rcases HB4.out with h | ⟨g, h, _, _, _, hc⟩
                      · rw [h] at hlt; simp at hlt
                      · obtain ⟨h1, h2⟩ := hc k _ ez
                        exact ⟨g, h, HKs.out.cell (HK47.out.cell h1 (fun h => h)) (fun h => h), HKs.out.cell (HK47.out.cell h2 (fun h => h)) (fun h => h)⟩
                    have hltI : (k : Int) < (rs.length : Int) := by omega
                    have hltJ : (k : Int) < (rs.length : Int) + 1 := by omega
                    have hlt1 : k < rs.length + 1 := by omega
                    clear ez
                    go_wp2_with fail
                    go_big_quiet (fail)
                    go_wp2_with fail
                    go_round
                    case measure => (simp [intOf] <;> omega)
                    exact ⟨k + 1, by omega, by go_num, HKs.out.drewN _⟩
                  · have hltI : ¬ (k : Int) < (rs.length : Int) := by omega
                    go_wp2_with fail
                    go_ret
                    exact ⟨rfl, ((HK0.out.step HK7.out).step HKs.out).toBelow⟩
        · have hreb : (re != 0) = true := by simp [hre]
          go_wp2_with fail
          go_ret
          exact ⟨rfl, (HK0.out.step HK4.out).toBelow⟩
end Go.Proofs.Ytnohhpinigkccaa.Mo
