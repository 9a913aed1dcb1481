/- The walk of the statement RuleParts. -/
import Derived.Test.YtnohhpinigkccaaPartsP
import Derived.Test.YtnohhpinigkccaaRuleKeeps
import Derived.Test.YtnohhpinigkccaaAppendR
import Derived.Test.YtnohhpinigkccaaMask
import Derived.Deep.Cut
import Derived.Deep.CutRange
namespace Go.Proofs.Ytnohhpinigkccaa.Mo
open Go Go.RowKit Go.Maps Go.Shelf Go.Proofs.Ytnohhpinigkccaa.Lb
set_option linter.unusedVariables false
set_option linter.unusedSimpArgs false

set_option maxRecDepth 4000 in
set_option maxHeartbeats 8000000 in
theorem RuleParts_calls (p : Pr) (A : Option Addr) (cap : Nat) (vars : List Int) (value : Int) (w : World) (hp : RProc w p) (hs : ∀ s ∈ p.ss, s.name.size ≤ maxLen) (hr : Sc.Reads w .i64 A vars) (hc : A = none → cap = 0) (hi : ∀ z ∈ vars, Sc.I64 z) (hm : vars.length ≤ maxLen) (hv : Sc.I64 value) (n : Int) (hn : Sc.I64 n) (hcap : p.ss.length ≤ p.sc) :
    Calls Try.prog 6 #[p.val, .slice A vars.length cap, .int .i64 value, .int .i64 n] w fun e w' => e = .returned (.bool true) ∧ Below w.heap.size w w' := by
  obtain ⟨j0, hjnf, hy0, hy1, hy2⟩ := info_parts infoI64
  obtain ⟨pn, pw, va, vs, vc, sa, ss, pc_⟩ := p
  simp only at *
  have HP := Lib.hid hp
  have HS := Lib.hid hs
  have HR := Lib.hid hr
  have HC := Lib.hid hc
  have HI := Lib.hid hi
  have HV := Lib.hid hv
  have HCAP := Lib.hid hcap
  unfold maxLen at hm
  clear hp hs hr hc hi hv hn hcap
  obtain ⟨W0, hW0⟩ : ∃ W0, w.alloc (.cells #[.string pn, .int .i64 pw, .slice va vs.length vc, .slice sa ss.length pc_] 25) = W0 := ⟨_, rfl⟩
  have hk0 : Kept Nil w W0 := by rw [← hW0]; exact (Kept.refl Nil w).alloc _
  have p0 : W0.cell? ⟨w.heap.size, 0, none⟩ = some (.string pn) := by rw [← hW0]; simp
  have p1 : W0.cell? ⟨w.heap.size, 1, none⟩ = some (.int .i64 pw) := by rw [← hW0]; simp
  have p2 : W0.cell? ⟨w.heap.size, 2, none⟩ = some (.slice va vs.length vc) := by rw [← hW0]; simp
  have p3 : W0.cell? ⟨w.heap.size, 3, none⟩ = some (.slice sa ss.length pc_) := by rw [← hW0]; simp
  have hsz : W0.heap.size = w.heap.size + 1 := by rw [← hW0]; simp
  have HW0 := Lib.hid hW0
  have HK0 := Lib.hid hk0
  have G0 := Lib.hid p0
  have G1 := Lib.hid p1
  have G2 := Lib.hid p2
  have G3 := Lib.hid p3
  have HSZ := Lib.hid hsz
  clear hW0 hk0 p0 p1 p2 p3

  unfold Pr.val
  simp only
  go_enter Try.func6, Try.ntmps6
  go_wp2_with fail
  rw [HW0.out]
  refine (alive_is W0).mono ?_
  rintro e w1 ⟨rfl, hk1⟩
  have HK1 := Lib.hid hk1
  clear hk1
  have a0 := (HK1.out).cell G0.out (fun h => h)
  have a1 := (HK1.out).cell G1.out (fun h => h)
  have a2 := (HK1.out).cell G2.out (fun h => h)
  have a3 := (HK1.out).cell G3.out (fun h => h)
  have hb1 : w.heap.size < w1.heap.size := by have := HK1.out.size; omega
  go_wp2_with fail
  refine (few_is ⟨pn, pw, va, vs, vc, sa, ss, pc_⟩ w1 (HP.out.nil (HK0.out.step HK1.out))).mono ?_
  rintro e w2 ⟨b, rfl, hbb, hk2⟩
  have HK2 := Lib.hid (HK1.out.step hk2)
  have HBB := Lib.hid hbb
  have hb2 : w.heap.size < w2.heap.size := by have := hk2.size; omega
  clear hk2 hbb a0 a1 a2 a3
  cases b with
  | false =>
    go_wp2_with fail
    go_ret
    exact ⟨rfl, (HK0.out.step HK2.out).toBelow⟩
  | true =>
    by_cases h100 : 100 < vars.length
    · go_wp2_with fail
      go_ret
      exact ⟨rfl, (HK0.out.step HK2.out).toBelow⟩
    · have hvl := (HBB.out rfl).1
      have hsl := (HBB.out rfl).2
      simp only at hvl hsl
      have a0 := (HK2.out).cell G0.out (fun h => h)
      have a1 := (HK2.out).cell G1.out (fun h => h)
      have a2 := (HK2.out).cell G2.out (fun h => h)
      have a3 := (HK2.out).cell G3.out (fun h => h)
      obtain ⟨r, hrr⟩ : ∃ r, runP ⟨pn, pw, va, vs, vc, sa, ss, pc_⟩ vars value = r := ⟨_, rfl⟩
      have HRR := Lib.hid hrr
      clear hrr
      go_wp2_with fail
      refine (Run_is ⟨pn, pw, va, vs, vc, sa, ss, pc_⟩ A cap vars value w2 (HP.out.nil (HK0.out.step HK2.out)) (reads_kept HR.out (HK0.out.step HK2.out) (fun _ _ _ h => h)) HI.out HV.out (by omega) (by simp only; omega)).mono ?_
      rintro e w4 ⟨u4, v4, rfl, ⟨hu4, hv4⟩, hk4⟩
      rw [HRR.out] at hu4 hv4 ⊢
      obtain ⟨re, rn, rs⟩ := r
      simp only at hu4 hv4
      obtain ⟨-, A4, c4, rfl, hA4, -⟩ := longs_of_own hu4
      obtain ⟨B4, d4, rfl⟩ := own_slice hv4
      have HA4 := Lib.hid hA4
      have HV4 := Lib.hid hv4
      have HK4 := Lib.hid (HK2.out.step hk4)
      have hb4 : w.heap.size < w4.heap.size := by have := hk4.size; omega
      clear hu4 hv4 hA4 hk4 a0 a1 a2 a3
      have a0 := (HK4.out).cell G0.out (fun h => h)
      have a1 := (HK4.out).cell G1.out (fun h => h)
      have a2 := (HK4.out).cell G2.out (fun h => h)
      have a3 := (HK4.out).cell G3.out (fun h => h)
      obtain ⟨m, hmm, hml⟩ := cut_of (bits .and .i64 n 511) ss.length 0 (by rw [i64_and511]; omega)
      have HM := Lib.hid hmm
      clear hmm
      go_upto_region 7 with fail
      rw [HM.out]
      have hcp := HCAP.out
      have hpl : ss.length ≤ 300 := hsl
      go_cut [12, 13] from 47 to 58 (fun x y wx => ∃ b c, x = .pointer (some ⟨b, 0, none⟩) ∧ y = .pointer (some ⟨c, 0, none⟩) ∧ b ≠ c ∧ w4.heap.size ≤ b ∧ w4.heap.size ≤ c ∧
        wx.heap[b]? = some (.cells #[.string pn, .int .i64 pw, .slice va vs.length vc, .slice sa ss.length pc_] 25 (0, 0)) ∧ wx.heap[c]? = some (.cells #[.string pn, .int .i64 pw, .slice va vs.length vc, .slice sa ss.length pc_] 25 (0, 0)) ∧ Kept Nil w4 wx)
      case first =>
        go_region
        all_goals (go_wp2_with fail)
        all_goals go_meet
        · refine ⟨w4.heap.size, w4.heap.size + 1, rfl, rfl, by omega, by omega, by omega, ?_, ?_, (by (repeat (first | exact Kept.refl _ _ | refine Kept.drew ?_ | refine Kept.alloc ?_ _)))⟩
          · exact (heap_old _ _ (by simp)).trans (heap_new _ _)
          · have h9 := heap_new (w4.alloc (.cells #[.string pn, .int .i64 pw, .slice va vs.length vc, .slice sa ss.length pc_] 25)) (.cells #[.string pn, .int .i64 pw, .slice va vs.length vc, .slice sa ss.length pc_] 25)
            rw [World.size_alloc] at h9
            exact h9
        · refine ⟨w4.heap.size + 1, w4.heap.size, rfl, rfl, by omega, by omega, by omega, ?_, ?_, (by (repeat (first | exact Kept.refl _ _ | refine Kept.drew ?_ | refine Kept.alloc ?_ _)))⟩
          · have h9 := heap_new (w4.alloc (.cells #[.string pn, .int .i64 pw, .slice va vs.length vc, .slice sa ss.length pc_] 25)) (.cells #[.string pn, .int .i64 pw, .slice va vs.length vc, .slice sa ss.length pc_] 25)
            rw [World.size_alloc] at h9
            exact h9
          · exact (heap_old _ _ (by simp)).trans (heap_new _ _)
      case rest =>
        obtain ⟨b, c, rfl, rfl, hbc, hbl, hcl, hB, hC, hkc⟩ := hcut
        have HKc := Lib.hid (HK4.out.step hkc)
        have HKd := Lib.hid hkc
        have hbs : b < wc.heap.size := (Array.getElem?_eq_some_iff.1 hB).1
        have hcs : c < wc.heap.size := (Array.getElem?_eq_some_iff.1 hC).1
        have b3 : wc.cell? ⟨b, 3, none⟩ = some (.slice sa ss.length pc_) := by rw [cell_of hB]; rfl
        have c3 : wc.cell? ⟨c, 3, none⟩ = some (.slice sa ss.length pc_) := by rw [cell_of hC]; rfl
        have b0 : wc.cell? ⟨b, 0, none⟩ = some (.string pn) := by rw [cell_of hB]; rfl
        have b1 : wc.cell? ⟨b, 1, none⟩ = some (.int .i64 pw) := by rw [cell_of hB]; rfl
        have b2 : wc.cell? ⟨b, 2, none⟩ = some (.slice va vs.length vc) := by rw [cell_of hB]; rfl
        have c0 : wc.cell? ⟨c, 0, none⟩ = some (.string pn) := by rw [cell_of hC]; rfl
        have c1 : wc.cell? ⟨c, 1, none⟩ = some (.int .i64 pw) := by rw [cell_of hC]; rfl
        have c2 : wc.cell? ⟨c, 2, none⟩ = some (.slice va vs.length vc) := by rw [cell_of hC]; rfl
        have fb := frozen_of hB 3
        have fc := frozen_of hC 3
        have HB := Lib.hid hB
        have HCc := Lib.hid hC
        have hne2 : b ≠ w.heap.size := by omega
        have hne3 : c ≠ w.heap.size := by omega
        have ht : Try.prog.underlying 23 = some (.slice (Try.prog.elem 23)) := by kernel_rfl
        obtain ⟨sb, hsb⟩ : ∃ sb, (if pc_ = m then sa else sa.map (·.add (m * 5))) = sb := ⟨_, rfl⟩
        have hs1 : ∀ w' : World, (Instr.slice 23 (.slice sa ss.length pc_) none (some (.int .i64 (m : Int))) none).run Try.prog w' = .ok (.slice sa m pc_) w' := by
          intro w'
          rw [run_slice_h w' _ sa ss.length pc_ ht .i64 (m : Int) (by omega) (by omega)]
          cases sa with
          | none => simp [go_sem, sliced, Result.andThen]
          | some a => simp [go_sem, sliced, Result.andThen, Addr.add]
        have hs2 : ∀ w' : World, (Instr.slice 23 (.slice sa ss.length pc_) (some (.int .i64 (m : Int))) none none).run Try.prog w' = .ok (.slice sb (ss.length - m) (pc_ - m)) w' := by
          intro w'
          rw [run_slice_l w' _ sa ss.length pc_ ht .i64 (m : Int) (by omega) (by omega)]
          simp [go_sem, sliced, Result.andThen, ← hsb]
        have HSB := Lib.hid hsb
        clear hkc hB hC hsb ht a0 a1 a2 a3
        have a0 := (HKc.out).cell G0.out (fun h => h)
        have a1 := (HKc.out).cell G1.out (fun h => h)
        have a2 := (HKc.out).cell G2.out (fun h => h)
        have a3 := (HKc.out).cell G3.out (fun h => h)
        go_upto_region 8 with fail
        go_region
        have hk8 : Kept Nil w4 ((wc.setCell ⟨b, 3, none⟩ (.slice sa m pc_)).setCell ⟨c, 3, none⟩ (.slice sb (ss.length - m) (pc_ - m))).drew := ((HKd.out.setCell (.inr hbl) _).setCell (.inr hcl) _).drew
        have hcc : ((wc.setCell ⟨b, 3, none⟩ (.slice sa m pc_)).setCell ⟨c, 3, none⟩ (.slice sb (ss.length - m) (pc_ - m))).drew.heap[c]? = some (.cells (#[.string pn, .int .i64 pw, .slice va vs.length vc, .slice sa ss.length pc_].setIfInBounds 3 (.slice sb (ss.length - m) (pc_ - m))) 25 (0, 0)) :=
          heap_set ((heap_set_other (p := ⟨b, 3, none⟩) (fun h => hbc h.symm) _).trans HCc.out) 3 _
        have d0 : ((wc.setCell ⟨b, 3, none⟩ (.slice sa m pc_)).setCell ⟨c, 3, none⟩ (.slice sb (ss.length - m) (pc_ - m))).drew.cell? ⟨c, 0, none⟩ = some (.string pn) := by rw [cell_of hcc]; rfl
        have d1 : ((wc.setCell ⟨b, 3, none⟩ (.slice sa m pc_)).setCell ⟨c, 3, none⟩ (.slice sb (ss.length - m) (pc_ - m))).drew.cell? ⟨c, 1, none⟩ = some (.int .i64 pw) := by rw [cell_of hcc]; rfl
        have d2 : ((wc.setCell ⟨b, 3, none⟩ (.slice sa m pc_)).setCell ⟨c, 3, none⟩ (.slice sb (ss.length - m) (pc_ - m))).drew.cell? ⟨c, 2, none⟩ = some (.slice va vs.length vc) := by rw [cell_of hcc]; rfl
        have d3 : ((wc.setCell ⟨b, 3, none⟩ (.slice sa m pc_)).setCell ⟨c, 3, none⟩ (.slice sb (ss.length - m) (pc_ - m))).drew.cell? ⟨c, 3, none⟩ = some (.slice sb (ss.length - m) (pc_ - m)) := by rw [cell_of hcc]; rfl
        have D0 := Lib.hid d0
        have D1 := Lib.hid d1
        have D2 := Lib.hid d2
        have D3 := Lib.hid d3
        have HK8 := Lib.hid (HK4.out.step hk8)
        have HK48 := Lib.hid hk8
        have hb8 := hk8.size
        clear hk8 d0 d1 d2 d3 hcc
        go_wp2_with fail
        obtain ⟨W8, hW8⟩ : ∃ W8, ((wc.setCell ⟨b, 3, none⟩ (.slice sa m pc_)).setCell ⟨c, 3, none⟩ (.slice sb (ss.length - m) (pc_ - m))).drew = W8 := ⟨_, rfl⟩
        rw [hW8] at D0 D1 D2 D3 HK8 HK48 hb8 ⊢
        clear hW8 a0 a1 a2 a3 b0 b1 b2 b3 c0 c1 c2 c3 fb fc hs1 hs2
        have hRP := HP.out.nil (HK0.out.step HK8.out)
        have hpa : RProc W8 (withSteps ⟨pn, pw, va, vs, vc, sa, ss, pc_⟩ sa (ss.take m) pc_) := ⟨hRP.v, hRP.s.take m, hRP.vl, Nat.le_trans (by simp [withSteps]; omega) hRP.sl, fun s h => hRP.si s (List.mem_of_mem_take h)⟩
        have hpb : RProc W8 (withSteps ⟨pn, pw, va, vs, vc, sa, ss, pc_⟩ sb (ss.drop m) (pc_ - m)) := ⟨hRP.v, by rw [← HSB.out]; exact hRP.s.drop m pc_ hml hcp, hRP.vl, Nat.le_trans (by simp [withSteps]) hRP.sl, fun s h => hRP.si s (List.mem_of_mem_drop h)⟩
        have hva : (withSteps ⟨pn, pw, va, vs, vc, sa, ss, pc_⟩ sa (ss.take m) pc_).val = .agg #[.string pn, .int .i64 pw, .slice va vs.length vc, .slice sa m pc_] := by simp [withSteps, Pr.val, Nat.min_eq_left hml]
        have hvb : (withSteps ⟨pn, pw, va, vs, vc, sa, ss, pc_⟩ sb (ss.drop m) (pc_ - m)).val = .agg #[.string pn, .int .i64 pw, .slice va vs.length vc, .slice sb (ss.length - m) (pc_ - m)] := by simp [withSteps, Pr.val]
        have hrun := Run_is (withSteps ⟨pn, pw, va, vs, vc, sa, ss, pc_⟩ sa (ss.take m) pc_) A cap vars value W8 hpa (reads_kept HR.out (HK0.out.step HK8.out) (fun _ _ _ h => h)) HI.out HV.out (by omega) (by simp [withSteps]; omega)
        rw [hva] at hrun
        have HPB := Lib.hid hpb
        have HVB := Lib.hid hvb
        clear hRP hpa hpb hva hvb
        refine hrun.mono ?_
        clear hrun
        rintro e w9 ⟨u9, v9, rfl, ⟨hu9, hv9⟩, hk9⟩
        obtain ⟨ra, hra⟩ : ∃ ra, runP (withSteps ⟨pn, pw, va, vs, vc, sa, ss, pc_⟩ sa (ss.take m) pc_) vars value = ra := ⟨_, rfl⟩
        rw [hra] at hu9 hv9 ⊢
        obtain ⟨fe, xn, ts⟩ := ra
        have HRA := Lib.hid hra
        simp only at hu9 hv9
        obtain ⟨-, A9, c9, rfl, hA9, -⟩ := longs_of_own hu9
        obtain ⟨B9, d9, rfl⟩ := own_slice hv9
        have HA9 := Lib.hid hA9
        have HV9 := Lib.hid hv9
        have HK9 := Lib.hid (HK8.out.step hk9)
        have HK49 := Lib.hid (HK48.out.step hk9)
        have e0 := hk9.cell D0.out (fun h => h)
        have e1 := hk9.cell D1.out (fun h => h)
        have e2 := hk9.cell D2.out (fun h => h)
        have e3 := hk9.cell D3.out (fun h => h)
        have hb9 : c < w9.heap.size := World.block_lt_of_cell? _ _ e0
        have HPB9 := Lib.hid (HPB.out.nil hk9)
        clear hra hu9 hv9 hA9 hk9
        by_cases hf : fe = 0
        · subst hf
          have hok := runP_ok (show (runP _ vars value).1 = 0 by rw [HRA.out])
          rw [HRA.out] at hok
          have hxl : xn.length = vars.length := (run_sends hok.2.2).1
          have hxi : ∀ z ∈ xn, Sc.I64 z := run_i64 HV.out hok.2.2 (fun s h => HP.out.si s (List.mem_of_mem_take h)) HI.out
          have HXL := Lib.hid hxl
          have HXI := Lib.hid hxi
          have hx100 : xn.length ≤ 100 := by omega
          clear hok hxl hxi
          go_wp2_with fail
          have hrun := Run_is (withSteps ⟨pn, pw, va, vs, vc, sa, ss, pc_⟩ sb (ss.drop m) (pc_ - m)) A9 c9 xn value w9 HPB9.out HA9.out HXI.out HV.out (by omega) (by simp [withSteps]; omega)
          rw [HVB.out] at hrun
          refine hrun.mono ?_
          clear hrun e0 e1 e2 e3
          rintro e w10 ⟨u10, v10, rfl, ⟨hu10, hv10⟩, hk10⟩
          obtain ⟨rb, hrb⟩ : ∃ rb, runP (withSteps ⟨pn, pw, va, vs, vc, sa, ss, pc_⟩ sb (ss.drop m) (pc_ - m)) xn value = rb := ⟨_, rfl⟩
          rw [hrb] at hu10 hv10 ⊢
          obtain ⟨ge, yn, us⟩ := rb
          have HRB := Lib.hid hrb
          simp only at hu10 hv10
          obtain ⟨-, A10, c10, rfl, hA10, -⟩ := longs_of_own hu10
          obtain ⟨B10, d10, rfl⟩ := own_slice hv10
          have HA10 := Lib.hid hA10
          have HV10 := Lib.hid hv10
          have HK10 := Lib.hid (HK9.out.step hk10)
          have HK410 := Lib.hid (HK49.out.step hk10)
          have HK910 := Lib.hid hk10
          clear hrb hu10 hv10 hA10 hk10
          by_cases hg : ge = 0
          · subst hg
            have hwh := whole (p := ⟨pn, pw, va, vs, vc, sa, ss, pc_⟩) (vars := vars) (value := value) m sa sb pc_ (pc_ - m) (by rw [HRA.out]) (by rw [HRA.out]; simp only; rw [HRB.out])
            have hre : re = 0 := by rw [HRR.out] at hwh; exact hwh
            subst hre
            obtain ⟨x', t', u', k1, k2, k3, k4⟩ := parts (p := ⟨pn, pw, va, vs, vc, sa, ss, pc_⟩) (vars := vars) (value := value) m sa sb pc_ (pc_ - m) (by rw [HRR.out])
            simp only at k1 k2
            rw [HRA.out] at k1
            obtain ⟨-, rfl, rfl⟩ : (0 : Int) = 0 ∧ xn = x' ∧ ts = t' := by simpa using k1
            rw [HRB.out, HRR.out] at k2
            obtain ⟨-, rfl, rfl⟩ : (0 : Int) = 0 ∧ yn = rn ∧ us = u' := by simpa using k2
            rw [HRR.out] at k3
            have k3' : rs = ts ++ us := k3
            subst k3'
            have hyl : yn.length = vars.length := by
              have h9 := (run_sends (runP_ok (show (runP ⟨pn, pw, va, vs, vc, sa, ss, pc_⟩ vars value).1 = 0 by rw [HRR.out])).2.2).1
              rw [HRR.out] at h9
              exact h9
            have hsl2 : (ts ++ us).length ≤ 300 := by
              have h9 := (run_sends (runP_ok (show (runP ⟨pn, pw, va, vs, vc, sa, ss, pc_⟩ vars value).1 = 0 by rw [HRR.out])).2.2).2
              rw [HRR.out] at h9
              simp only at h9
              have h8 : sendsN ss ≤ ss.length := List.length_filter_le _ _
              rw [h9]; simp; omega
            have hlap : (ts ++ us).length = ts.length + us.length := List.length_append
            have htl : ts.length ≤ 300 := by omega
            have hul : us.length ≤ 300 := by omega
            have hyl2 : yn.length ≤ 100 := by omega
            have HLAP := Lib.hid hlap
            clear hwh k1 k2 k3 k4 hyl hlap hsl2
            go_wp2_with fail
            refine (SameLongs_is yn A10 A4 c10 c4 w10 HA10.out (reads_kept HA4.out HK410.out (fun _ _ _ h => h)) (by omega)).mono ?_
            rintro e w11 ⟨rfl, hk11⟩
            have HK11 := Lib.hid (HK10.out.step hk11)
            have HK411 := Lib.hid (HK410.out.step hk11)
            have HV9b := Lib.hid ((HK910.out.step hk11).own HV9.out (fun _ _ h => h))
            have HV10b := Lib.hid (hk11.own HV10.out (fun _ _ h => h))
            have H1T := Lib.hid (fun (l : List Se) (u : Value) (hu : u ∈ l.flatMap sc) => (by
              obtain ⟨e, _, he⟩ := List.mem_flatMap.1 hu
              simp only [sc, List.mem_cons, List.not_mem_nil, or_false] at he
              rcases he with rfl | rfl <;> rfl : u.oneCell' = true))
            obtain ⟨i0, hinf, hz0, hz1, hz2⟩ := info_parts infoSend
            clear hk11
            go_wp2_with (at_builtin; refine stop_append _ _ _ rfl ?_)
            unfold StopA
            refine wpList_append_rows rfl _ _ 29 rfl w11.heap.size 54 i0 (.agg #[.string ⟨#[]⟩, .int .i64 0]) 2 24 Try.underlying29 hinf hz0 hz1 hz2 rfl (by decide) (.slice (some ⟨w11.heap.size, 0, none⟩) 0 0) 0 [] rfl (World.ownsRow_lit w11 #[] 0 (Nat.le_refl _) (by decide) rfl) _ _ ts.length (ts.flatMap sc) rfl (HV9b.out.alloc _) (H1T.out ts) (by unfold maxLen; omega) (by omega) (by simp) ?_
            intro v12 w12 hO12 hg12
            have hk12 : Kept Nil w11 w12 := ((Kept.refl Nil w11).alloc _).grown hg12 (fun j e => .inr (by simp [Value.ownBlock] at e; omega))
            have HO12 := Lib.hid hO12
            have HK12 := Lib.hid hk12
            have hs12 := hk12.size
            clear hO12 hg12 hk12
            go_wp2_with (at_builtin; refine stop_append _ _ _ rfl ?_)
            unfold StopA
            refine wpList_append_rows rfl _ _ 29 rfl w11.heap.size 54 i0 (.agg #[.string ⟨#[]⟩, .int .i64 0]) 2 24 Try.underlying29 hinf hz0 hz1 hz2 rfl (by decide) v12 (0 + ts.length) ([] ++ ts.flatMap sc) rfl HO12.out _ _ us.length (us.flatMap sc) rfl (HK12.out.own HV10b.out (fun _ _ h => h)) (H1T.out us) (by unfold maxLen; omega) (by omega) hs12 ?_
            intro v13 w13 hO13 hg13
            have hk13 : Kept Nil w11 w13 := HK12.out.grown hg13 (fun j e => .inr (HO12.out.lt j e).1)
            have hO13' : w13.ownsRow w11.heap.size 54 2 v13 (ts ++ us).length ((ts ++ us).flatMap sc) := by
              rw [HLAP.out]
              simpa using hO13
            obtain ⟨-, A13, c13, rfl, hA13⟩ := sends_of_own hO13'
            obtain ⟨-, A14, c14, e14, hA14⟩ := sends_of_own HV4.out
            cases e14
            have HA13 := Lib.hid hA13
            have HA14 := Lib.hid hA14
            have HK13 := Lib.hid (HK11.out.step hk13)
            have HK413 := Lib.hid (HK411.out.step hk13)
            obtain ⟨zs, hzs⟩ : ∃ zs, ts ++ us = zs := ⟨_, rfl⟩
            have HZL := Lib.hid (show zs.length = ts.length + us.length by rw [← hzs]; exact HLAP.out)
            rw [hzs] at HA13 HA14 ⊢
            clear hO13 hO13' hg13 hk13 hA13 hA14 hzs
            go_wp2_with fail
            go_loopw [107] (fun i wr => ∃ k : Nat, k ≤ ts.length + us.length ∧ i = .int .i64 k ∧ Kept Nil w13 wr) (fun i _ => ts.length + us.length - (intOf i).toNat)
            case atStart => exact ⟨0, Nat.zero_le _, rfl, Kept.refl _ _⟩
            case round =>
              obtain ⟨k, hk, rfl, hK⟩ := hrel
              have HKr := Lib.hid hK
              clear hK
              by_cases hlt : k < ts.length + us.length
              · have hkz : k < zs.length := by rw [HZL.out]; exact hlt
                obtain ⟨⟨l, x⟩, ez⟩ : ∃ z, zs[k]? = some z := ⟨_, List.getElem?_eq_getElem hkz⟩
                obtain ⟨g1, rfl, f0, f1⟩ : ∃ g1, A13 = some ⟨g1, 0, none⟩ ∧ wr.cell? ⟨g1, k * 2, none⟩ = some (.string l) ∧ wr.cell? ⟨g1, k * 2 + 1, none⟩ = some (.int .i64 x) := by
                  rcases HA13.out with h | ⟨g, h, _, _, _, hc⟩
                  · rw [h] at hkz; simp at hkz
                  · obtain ⟨h1, h2⟩ := hc k _ ez
                    exact ⟨g, h, HKr.out.cell h1 (fun h => h), HKr.out.cell h2 (fun h => h)⟩
                obtain ⟨g2, rfl, f2, f3⟩ : ∃ g2, B4 = some ⟨g2, 0, none⟩ ∧ wr.cell? ⟨g2, k * 2, none⟩ = some (.string l) ∧ wr.cell? ⟨g2, k * 2 + 1, none⟩ = some (.int .i64 x) := by
                  rcases HA14.out with h | ⟨g, h, _, _, _, hc⟩
                  · rw [h] at hkz; simp at hkz
                  · obtain ⟨h1, h2⟩ := hc k _ ez
                    exact ⟨g, h, HKr.out.cell (HK413.out.cell h1 (fun h => h)) (fun h => h), HKr.out.cell (HK413.out.cell h2 (fun h => h)) (fun h => h)⟩
                have hg1 : g1 < wr.heap.size := World.block_lt_of_cell? _ _ f0
                have hg2 : g2 < wr.heap.size := World.block_lt_of_cell? _ _ f2
                have hltI : (k : Int) < (ts.length : Int) + (us.length : Int) := by omega
                have hltB : decide ((k : Int) < (ts.length : Int) + (us.length : Int)) = true := decide_eq_true hltI
                clear ez
                go_wp2_with fail
                go_big_quiet (fail)
                go_wp2_with fail
                go_round
                case measure => (simp [intOf] <;> omega)
                exact ⟨k + 1, by omega, by go_num, (HKr.out.alloc _).drewN _⟩
              · have hltI : ¬ (k : Int) < (ts.length : Int) + (us.length : Int) := by omega
                have hltB : decide ((k : Int) < (ts.length : Int) + (us.length : Int)) = false := decide_eq_false hltI
                have hkz : ¬ k < zs.length := by rw [HZL.out]; exact hlt
                go_wp2_with fail
                go_ret
                exact ⟨rfl, ((HK0.out.step HK13.out).step HKr.out).toBelow⟩
          · have hgb : (ge != 0) = true := by simp [hg]
            have hreb : (re != 0) = true := by
              have : re ≠ 0 := fun h => by
                obtain ⟨x', t', u', k1, k2, k3, k4⟩ := parts (p := ⟨pn, pw, va, vs, vc, sa, ss, pc_⟩) (vars := vars) (value := value) m sa sb pc_ (pc_ - m) (by rw [HRR.out]; exact h)
                simp only at k1 k2
                rw [HRA.out] at k1
                obtain ⟨-, rfl, rfl⟩ : (0 : Int) = 0 ∧ xn = x' ∧ ts = t' := by simpa using k1
                rw [HRB.out] at k2
                have := congrArg Prod.fst k2
                exact hg this
              simp [this]
            go_wp2_with fail
            go_ret
            exact ⟨rfl, (HK0.out.step HK10.out).toBelow⟩
        · have hfb : (fe != 0) = true := by simp [hf]
          have hreb : (re != 0) = true := by
            have : re ≠ 0 := fun h => by
              obtain ⟨x', t', u', k1, k2, k3, k4⟩ := parts (p := ⟨pn, pw, va, vs, vc, sa, ss, pc_⟩) (vars := vars) (value := value) m sa sb pc_ (pc_ - m) (by rw [HRR.out]; exact h)
              simp only at k1
              rw [HRA.out] at k1
              have := congrArg Prod.fst k1
              exact hf this
            simp [this]
          go_wp2_with fail
          go_ret
          exact ⟨rfl, (HK0.out.step HK9.out).toBelow⟩
end Go.Proofs.Ytnohhpinigkccaa.Mo
