/- The walk of model.Check. -/
import Derived.Test.YtniocgnfgpaioaaGreatG31
import Derived.Deep.Cut
import Derived.Deep.CutRange
set_option linter.unusedVariables false
set_option linter.unusedSimpArgs false
namespace Go.Proofs.YtniocgnfgpaioaaGreat.Mo
open Go Go.RowKit Go.Proofs.YtniocgnfgpaioaaGreat.Lb

set_option maxRecDepth 4000 in
set_option maxHeartbeats 16000000 in
theorem CheckM_is (m : Md) (w : World) (hm : RModel w m) (hs : SzM m) (hvl : ∀ p ∈ m.ps, p.vs.length ≤ 100000) : Calls Tryz.prog 17 #[m.val] w fun e w' => e = .returned (.agg #[.int .i64 (mdCheck m).1, .int .i64 (mdCheck m).2]) ∧ Kept Nil w w' := by
 obtain ⟨r, hr⟩ : ∃ r, mdCheck m = r := ⟨_, rfl⟩
 rw [hr]
 have HR := Lib.hid hr
 have HM := Lib.hid hm
 have HZ := Lib.hid hs
 have HVL := Lib.hid hvl
 have hpl := hm.pl
 have hll := hm.ll
 have hel := hm.el
 unfold maxLen at hpl hll hel
 clear hr hm hs hvl
 obtain ⟨ver, pa, ps, pc, la, ls, lc, ea, es, ec⟩ := m
 unfold Md.val
 simp only at *
 obtain ⟨W1, hW⟩ : ∃ W, ((w.alloc (.cells #[.int .i64 ver, .slice pa ps.length pc, .slice la ls.length lc, .slice ea es.length ec] 26)).alloc (.cells #[.int .i64 0, .int .i64 0] 45)) = W := ⟨_, rfl⟩
 have hk : Kept Nil w W1 := by rw [← hW]; exact (((Kept.refl Nil w).alloc _).alloc _)
 have hsz : W1.heap.size = w.heap.size + 2 := by rw [← hW]; simp
 have hb : W1.heap[w.heap.size]? = some (.cells #[.int .i64 ver, .slice pa ps.length pc, .slice la ls.length lc, .slice ea es.length ec] 26 (0, 0)) := by
  rw [← hW]
  rw [heap_old _ _ (by simp only [World.size_alloc]; omega)]
  have h9 := heap_new w (.cells #[.int .i64 ver, .slice pa ps.length pc, .slice la ls.length lc, .slice ea es.length ec] 26)
  exact h9
 have G0 := Lib.hid (show W1.cell? ⟨w.heap.size, 0, none⟩ = some (.int .i64 ver) by rw [cell_of hb]; rfl)
 have G1 := Lib.hid (show W1.cell? ⟨w.heap.size, 1, none⟩ = some (.slice pa ps.length pc) by rw [cell_of hb]; rfl)
 have G2 := Lib.hid (show W1.cell? ⟨w.heap.size, 2, none⟩ = some (.slice la ls.length lc) by rw [cell_of hb]; rfl)
 have G3 := Lib.hid (show W1.cell? ⟨w.heap.size, 3, none⟩ = some (.slice ea es.length ec) by rw [cell_of hb]; rfl)
 have GB := Lib.hid hb
 have hzg : w.heap.size < W1.heap.size := by omega
 clear hb
 have hb : W1.heap[w.heap.size + 1]? = some (.cells #[.int .i64 0, .int .i64 0] 45 (0, 0)) := by
  rw [← hW]
  have h9 := heap_new (w.alloc (.cells #[.int .i64 ver, .slice pa ps.length pc, .slice la ls.length lc, .slice ea es.length ec] 26)) (.cells #[.int .i64 0, .int .i64 0] 45)
  simp only [World.size_alloc] at h9
  exact h9
 have Q0 := Lib.hid (show W1.cell? ⟨w.heap.size + 1, 0, none⟩ = some (.int .i64 0) by rw [cell_of hb]; rfl)
 have Q1 := Lib.hid (show W1.cell? ⟨w.heap.size + 1, 1, none⟩ = some (.int .i64 0) by rw [cell_of hb]; rfl)
 have QB := Lib.hid hb
 have hzq : w.heap.size + 1 < W1.heap.size := by omega
 clear hb
 have HW := Lib.hid hW
 have HK := Lib.hid hk
 have HSZ := Lib.hid hsz
 clear hW hk hsz
 by_cases hv : ver < 1 ∨ 3 < ver
 ·have HN := Lib.hid (show r = (43, 0) by rw [← HR.out]; unfold mdCheck; simp only; rw [if_pos hv])
  by_cases h1 : ver < 1
  ·skip
   have k0 : decide (ver < 1) = true := by first | (simp; omega) | (simp; done)
   clear hv
   go_enter Tryz.func17, Tryz.ntmps17
   go_wp2_with fail
   refine bodyPost_ret (v := .agg #[.int .i64 43, .int .i64 0]) (by simp [results, Tryz.results17, go_sem]) rfl ?_
   rw [HN.out]
   exact ⟨rfl, by first | (repeat (first | exact Kept.refl _ _ | refine Kept.drew ?_ | refine Kept.alloc ?_ _)) | skip⟩
  ·have h3 : 3 < ver := by omega
   have k0 : decide (ver < 1) = false := by first | (simp; omega) | (simp; done)
   have k1 : decide (3 < ver) = true := by first | (simp; omega) | (simp; done)
   clear hv
   go_enter Tryz.func17, Tryz.ntmps17
   go_wp2_with fail
   refine bodyPost_ret (v := .agg #[.int .i64 43, .int .i64 0]) (by simp [results, Tryz.results17, go_sem]) rfl ?_
   rw [HN.out]
   exact ⟨rfl, by first | (repeat (first | exact Kept.refl _ _ | refine Kept.drew ?_ | refine Kept.alloc ?_ _)) | skip⟩
 ·have f1 : decide (ver < 1) = false := decide_eq_false (by omega)
  have f3 : decide (3 < ver) = false := decide_eq_false (by omega)
  by_cases hn : 4096 < ps.length ∨ 16384 < ls.length ∨ 16384 < es.length
  ·have HN := Lib.hid (show r = (3, 0) by rw [← HR.out]; unfold mdCheck; simp only; rw [if_neg hv, if_pos hn])
   by_cases a1 : 4096 < ps.length
   ·skip
    have k0 : decide (4096 < (ps.length : Int)) = true := by first | (simp; omega) | (simp; done)
    clear hn hv
    go_enter Tryz.func17, Tryz.ntmps17
    go_wp2_with fail
    refine bodyPost_ret (v := .agg #[.int .i64 3, .int .i64 0]) (by simp [results, Tryz.results17, go_sem]) rfl ?_
    rw [HN.out]
    exact ⟨rfl, by first | (repeat (first | exact Kept.refl _ _ | refine Kept.drew ?_ | refine Kept.alloc ?_ _)) | skip⟩
   ·by_cases a2 : 16384 < ls.length
    ·skip
     have k0 : decide (4096 < (ps.length : Int)) = false := by first | (simp; omega) | (simp; done)
     have k1 : decide (16384 < (ls.length : Int)) = true := by first | (simp; omega) | (simp; done)
     clear hn hv
     go_enter Tryz.func17, Tryz.ntmps17
     go_wp2_with fail
     refine bodyPost_ret (v := .agg #[.int .i64 3, .int .i64 0]) (by simp [results, Tryz.results17, go_sem]) rfl ?_
     rw [HN.out]
     exact ⟨rfl, by first | (repeat (first | exact Kept.refl _ _ | refine Kept.drew ?_ | refine Kept.alloc ?_ _)) | skip⟩
    ·have a3 : 16384 < es.length := by omega
     have k0 : decide (4096 < (ps.length : Int)) = false := by first | (simp; omega) | (simp; done)
     have k1 : decide (16384 < (ls.length : Int)) = false := by first | (simp; omega) | (simp; done)
     have k2 : decide (16384 < (es.length : Int)) = true := by first | (simp; omega) | (simp; done)
     clear hn hv
     go_enter Tryz.func17, Tryz.ntmps17
     go_wp2_with fail
     refine bodyPost_ret (v := .agg #[.int .i64 3, .int .i64 0]) (by simp [results, Tryz.results17, go_sem]) rfl ?_
     rw [HN.out]
     exact ⟨rfl, by first | (repeat (first | exact Kept.refl _ _ | refine Kept.drew ?_ | refine Kept.alloc ?_ _)) | skip⟩
  ·have k1 : decide (4096 < (ps.length : Int)) = false := by simp; omega
   have k2 : decide (16384 < (ls.length : Int)) = false := by simp; omega
   have k3 : decide (16384 < (es.length : Int)) = false := by simp; omega
   have HE := Lib.hid (show r = if (firstAt (ps.mapIdx (procC ⟨ver, pa, ps, pc, la, ls, lc, ea, es, ec⟩)) 0).1 ≠ 0 then firstAt (ps.mapIdx (procC ⟨ver, pa, ps, pc, la, ls, lc, ea, es, ec⟩)) 0
     else if (firstAt (ls.mapIdx (linkC ⟨ver, pa, ps, pc, la, ls, lc, ea, es, ec⟩)) ps.length).1 ≠ 0 then firstAt (ls.mapIdx (linkC ⟨ver, pa, ps, pc, la, ls, lc, ea, es, ec⟩)) ps.length
     else firstAt (es.mapIdx (fun _ e => eventC ⟨ver, pa, ps, pc, la, ls, lc, ea, es, ec⟩ e)) (ps.length + ls.length) by
    rw [← HR.out]; unfold mdCheck codesP codesL; rw [codesE_idx]; simp only; rw [if_neg hv, if_neg hn])
   have hnp : ps.length ≤ 4096 := by omega
   have hnl : ls.length ≤ 16384 := by omega
   have hne : es.length ≤ 16384 := by omega
   clear hv hn
   go_enter Tryz.func17, Tryz.ntmps17
   go_upto_region 5 with fail
   rw [HW.out]
   clear f1 f3 k1 k2 k3
   have g0 := (Kept.refl Nil W1).cell G0.out (fun h => h)
   have g1 := (Kept.refl Nil W1).cell G1.out (fun h => h)
   have g2 := (Kept.refl Nil W1).cell G2.out (fun h => h)
   have g3 := (Kept.refl Nil W1).cell G3.out (fun h => h)
   have q0 := (Kept.refl Nil W1).cell Q0.out (fun h => h)
   have q1 := (Kept.refl Nil W1).cell Q1.out (fun h => h)
   go_cut [3] from 34 to 47 (fun x wx => ∃ c bp bl, x = .pointer (some ⟨c, 0, none⟩) ∧ CkAt wx c bp bl ⟨ver, pa, ps, pc, la, ls, lc, ea, es, ec⟩ ∧ Kept Nil W1 wx)
   case first =>
    have HKI := Lib.hid (Kept.refl Nil W1)
    go_region_held3 (fun w' => w'.cell? ⟨w.heap.size, 0, none⟩ = some (.int .i64 ver) ∧ w'.cell? ⟨w.heap.size, 1, none⟩ = some (.slice pa ps.length pc) ∧ w'.cell? ⟨w.heap.size, 2, none⟩ = some (.slice la ls.length lc) ∧ w'.cell? ⟨w.heap.size, 3, none⟩ = some (.slice ea es.length ec)) (go_keep) (first
     | (
       go_at_call 50
       with_reducible refine (bare_is ps pa pc _ ?_ ?_).mono ?_
       ·exact ((HM.out.nil HK.out).nil (by repeat (first | exact kzr _ _ | assumption | refine kzd ?_ | refine kzn ?_ _ | refine kza ?_ _ | refine kzs ?_ (by assumption)))).p
       ·omega
       rintro e w37 ⟨v37, rfl, hO37, hk37⟩
       obtain ⟨A37, c37, rfl, hr37, -⟩ := bare_row hO37
       have HR37 := Lib.hid hr37
       clear hO37 hr37
       have hz : Kept Nil W1 w37 := (by repeat (first | exact kzr _ _ | assumption | refine kzd ?_ | refine kzn ?_ _ | refine kza ?_ _ | refine kzs ?_ (by assumption)))
       have w37_0 := hz.cell G0.out (fun h => h)
       have w37_1 := hz.cell G1.out (fun h => h)
       have w37_2 := hz.cell G2.out (fun h => h)
       have w37_3 := hz.cell G3.out (fun h => h)
       clear hz)
     | (
       go_at_call 49
       with_reducible refine (NamesBox_is 0 A37 none none ps.length 0 0 c37 0 0 _).mono ?_
       rintro e w39 ⟨b39, rfl, h39a, h39b, hk39⟩
       have H39A := Lib.hid h39a
       have H39B := Lib.hid h39b
       clear h39a h39b
       have hz : Kept Nil W1 w39 := (by repeat (first | exact kzr _ _ | assumption | refine kzd ?_ | refine kzn ?_ _ | refine kza ?_ _ | refine kzs ?_ (by assumption)))
       have w39_0 := hz.cell G0.out (fun h => h)
       have w39_1 := hz.cell G1.out (fun h => h)
       have w39_2 := hz.cell G2.out (fun h => h)
       have w39_3 := hz.cell G3.out (fun h => h)
       clear hz)
     | (
       go_at_call 48
       with_reducible refine (IndexB_is ps A37 c37 b39 _ ?_ ?_ ?_ ?_ ?_).mono ?_
       ·exact cell_nil (by repeat (first | exact kzr _ _ | assumption | refine kzd ?_ | refine kzn ?_ _ | refine kza ?_ _ | refine kzs ?_ (by assumption))) H39A.out
       ·exact cell_nil (by repeat (first | exact kzr _ _ | assumption | refine kzd ?_ | refine kzn ?_ _ | refine kza ?_ _ | refine kzs ?_ (by assumption))) H39B.out
       ·exact rprocs_nil (by repeat (first | exact kzr _ _ | assumption | refine kzd ?_ | refine kzn ?_ _ | refine kza ?_ _ | refine kzs ?_ (by assumption))) HR37.out
       ·exact fun p hp => (HZ.out.p p hp).n
       ·exact hnp
       rintro e w40 ⟨b40, rfl, hi40, hk40⟩
       have HI40 := Lib.hid hi40
       clear hi40
       have hz : Kept Nil W1 w40 := (by repeat (first | exact kzr _ _ | assumption | refine kzd ?_ | refine kzn ?_ _ | refine kza ?_ _ | refine kzs ?_ (by assumption)))
       have w40_0 := hz.cell G0.out (fun h => h)
       have w40_1 := hz.cell G1.out (fun h => h)
       have w40_2 := hz.cell G2.out (fun h => h)
       have w40_3 := hz.cell G3.out (fun h => h)
       clear hz)
     | (
       go_at_call 49
       with_reducible refine (NamesBox_is 0 none la none 0 ls.length 0 0 lc 0 _).mono ?_
       rintro e w44 ⟨b44, rfl, h44a, h44b, hk44⟩
       have H44A := Lib.hid h44a
       have H44B := Lib.hid h44b
       clear h44a h44b
       have hz : Kept Nil W1 w44 := (by repeat (first | exact kzr _ _ | assumption | refine kzd ?_ | refine kzn ?_ _ | refine kza ?_ _ | refine kzs ?_ (by assumption)))
       have w44_0 := hz.cell G0.out (fun h => h)
       have w44_1 := hz.cell G1.out (fun h => h)
       have w44_2 := hz.cell G2.out (fun h => h)
       have w44_3 := hz.cell G3.out (fun h => h)
       clear hz)
     | (
       go_at_call 48
       with_reducible refine (IndexL_is ls la lc b44 _ ?_ ?_ ?_ ?_ ?_).mono ?_
       ·exact cell_nil (by repeat (first | exact kzr _ _ | assumption | refine kzd ?_ | refine kzn ?_ _ | refine kza ?_ _ | refine kzs ?_ (by assumption))) H44A.out
       ·exact cell_nil (by repeat (first | exact kzr _ _ | assumption | refine kzd ?_ | refine kzn ?_ _ | refine kza ?_ _ | refine kzs ?_ (by assumption))) H44B.out
       ·exact ((HM.out.nil HK.out).nil (by repeat (first | exact kzr _ _ | assumption | refine kzd ?_ | refine kzn ?_ _ | refine kza ?_ _ | refine kzs ?_ (by assumption)))).l
       ·exact fun l hl => HZ.out.ln l hl
       ·exact hnl
       rintro e w45 ⟨b45, rfl, hi45, hk45⟩
       have HI45 := Lib.hid hi45
       clear hi45
       have hz : Kept Nil W1 w45 := (by repeat (first | exact kzr _ _ | assumption | refine kzd ?_ | refine kzn ?_ _ | refine kza ?_ _ | refine kzs ?_ (by assumption)))
       have w45_0 := hz.cell G0.out (fun h => h)
       have w45_1 := hz.cell G1.out (fun h => h)
       have w45_2 := hz.cell G2.out (fun h => h)
       have w45_3 := hz.cell G3.out (fun h => h)
       clear hz)
     )
    all_goals (try go_wp2_with fail)
    all_goals go_meet
    have hz : Kept Nil W1 w45 := (by repeat (first | exact kzr _ _ | assumption | refine kzd ?_ | refine kzn ?_ _ | refine kza ?_ _ | refine kzs ?_ (by assumption)))
    exact ⟨_, _, _, rfl, ⟨heap_new _ _, (let ⟨k, h9⟩ := HI40.out; ⟨k, (h9.nil (hk44.step hk45)).nil ((Kept.refl Nil w45).alloc _)⟩), (let ⟨k, h9⟩ := HI45.out; ⟨k, h9.nil ((Kept.refl Nil w45).alloc _)⟩)⟩, hz.alloc _⟩
   case rest =>
    obtain ⟨c, bp, bl, rfl, hck, hkc⟩ := hcut
    obtain ⟨WA, hWA⟩ : ∃ x, x = wc := ⟨_, rfl⟩
    subst hWA
    have HCK := Lib.hid hck
    have HKA := Lib.hid hkc
    have hzA := hkc.size
    clear hck hkc
    clear g0 g1 g2 g3 q0 q1
    have g0 := (HKA.out).cell G0.out (fun h => h)
    have g1 := (HKA.out).cell G1.out (fun h => h)
    have g2 := (HKA.out).cell G2.out (fun h => h)
    have g3 := (HKA.out).cell G3.out (fun h => h)
    have q0 := (HKA.out).cell Q0.out (fun h => h)
    have q1 := (HKA.out).cell Q1.out (fun h => h)
    have hgA : w.heap.size < WA.heap.size := by omega
    have hqA : w.heap.size + 1 < WA.heap.size := by omega
    have fq0 := HKA.out.frozen (p := ⟨w.heap.size + 1, 0, none⟩) hzq (frozen_of QB.out 0) (fun h => h)
    have fq1 := HKA.out.frozen (p := ⟨w.heap.size + 1, 1, none⟩) hzq (frozen_of QB.out 1) (fun h => h)
    obtain ⟨F, hF⟩ : ∃ F, firstAt (ps.mapIdx (procC ⟨ver, pa, ps, pc, la, ls, lc, ea, es, ec⟩)) 0 = F := ⟨_, rfl⟩
    have HF := Lib.hid hF
    have hcall := EachProc_is (m := ⟨ver, pa, ps, pc, la, ls, lc, ea, es, ec⟩) ps rfl pa pc 0 WA HCK.out (HM.out.nil (HK.out.step HKA.out)) HZ.out (HM.out.nil (HK.out.step HKA.out)).p (by omega) (by omega)
    rw [hF] at hcall
    clear hF
    go_wp2_with fail
    refine hcall.mono ?_
    clear hcall
    rintro e w3 ⟨rfl, hk3⟩
    have hk3' := hk3
    have HK3 := Lib.hid (HKA.out.step hk3)
    have hz3 := hk3.size
    clear hk3 fq0 fq1
    clear g0 g1 g2 g3 q0 q1
    have g0 := (HK3.out).cell G0.out (fun h => h)
    have g1 := (HK3.out).cell G1.out (fun h => h)
    have g2 := (HK3.out).cell G2.out (fun h => h)
    have g3 := (HK3.out).cell G3.out (fun h => h)
    have q0 := (HK3.out).cell Q0.out (fun h => h)
    have q1 := (HK3.out).cell Q1.out (fun h => h)
    have hg3 : w.heap.size < w3.heap.size := by omega
    have hq3 : w.heap.size + 1 < w3.heap.size := by omega
    have fq0 := (HK3.out).frozen (p := ⟨w.heap.size + 1, 0, none⟩) hzq (frozen_of QB.out 0) (fun h => h)
    have fq1 := (HK3.out).frozen (p := ⟨w.heap.size + 1, 1, none⟩) hzq (frozen_of QB.out 1) (fun h => h)
    by_cases hF0 : F.1 = 0
    ·have fF : (F.1 != 0) = false := by simp [hF0]
     have HE2 := Lib.hid (show r = _ from HE.out.trans (if_neg (by rw [HF.out]; simp [hF0])))
     clear hF0
     obtain ⟨G, hG⟩ : ∃ G, firstAt (ls.mapIdx (linkC ⟨ver, pa, ps, pc, la, ls, lc, ea, es, ec⟩)) ps.length = G := ⟨_, rfl⟩
     have HG := Lib.hid hG
     have hkx : Kept Nil W1 (w3.alloc (.cells #[.int .i64 F.1, .int .i64 F.2] 45)) := HK3.out.alloc _
     have hcall := EachLink_is (m := ⟨ver, pa, ps, pc, la, ls, lc, ea, es, ec⟩) ls rfl la lc ps.length _ (HCK.out.nil (((Kept.refl Nil WA).step hk3').alloc _)) (HM.out.nil (HK.out.step hkx)) HZ.out (HM.out.nil (HK.out.step hkx)).l (by omega) (by omega)
     rw [hG] at hcall
     have HKX := Lib.hid hkx
     clear hG hkx
     go_wp2_with fail
     refine hcall.mono ?_
     clear hcall
     rintro e w4 ⟨rfl, hk4⟩
     have hk4' := hk4
     have HK4 := Lib.hid (HKX.out.step hk4)
     have hz4 := hk4.size
     rw [World.size_alloc] at hz4
     clear hk4 fq0 fq1 fF
     clear g0 g1 g2 g3 q0 q1
     have g0 := (HK4.out).cell G0.out (fun h => h)
     have g1 := (HK4.out).cell G1.out (fun h => h)
     have g2 := (HK4.out).cell G2.out (fun h => h)
     have g3 := (HK4.out).cell G3.out (fun h => h)
     have q0 := (HK4.out).cell Q0.out (fun h => h)
     have q1 := (HK4.out).cell Q1.out (fun h => h)
     have hg4 : w.heap.size < w4.heap.size := by omega
     have hq4 : w.heap.size + 1 < w4.heap.size := by omega
     have fq0 := (HK4.out).frozen (p := ⟨w.heap.size + 1, 0, none⟩) hzq (frozen_of QB.out 0) (fun h => h)
     have fq1 := (HK4.out).frozen (p := ⟨w.heap.size + 1, 1, none⟩) hzq (frozen_of QB.out 1) (fun h => h)
     by_cases hG0 : G.1 = 0
     ·have fG : (G.1 != 0) = false := by simp [hG0]
      have HE3 := Lib.hid (show r = _ from HE2.out.trans (if_neg (by rw [HG.out]; simp [hG0])))
      clear hG0
      obtain ⟨H, hH⟩ : ∃ H, firstAt (es.mapIdx (fun _ e => eventC ⟨ver, pa, ps, pc, la, ls, lc, ea, es, ec⟩ e)) (ps.length + ls.length) = H := ⟨_, rfl⟩
      have HH := Lib.hid hH
      have hkx : Kept Nil W1 (w4.alloc (.cells #[.int .i64 G.1, .int .i64 G.2] 45)) := HK4.out.alloc _
      have hcall := EachEvent_is (m := ⟨ver, pa, ps, pc, la, ls, lc, ea, es, ec⟩) es rfl ea ec (ps.length + ls.length) _ (HCK.out.nil (((((Kept.refl Nil WA).step hk3').alloc _).step hk4').alloc _)) (HM.out.nil (HK.out.step hkx)) HZ.out (HM.out.nil (HK.out.step hkx)).e (by omega) (by omega)
      rw [hH, Int.natCast_add] at hcall
      have HKY := Lib.hid hkx
      clear hH hkx
      go_wp2_with fail
      refine hcall.mono ?_
      clear hcall
      rintro e w5 ⟨rfl, hk5⟩
      have HK5 := Lib.hid (HKY.out.step hk5)
      have hz5 := hk5.size
      rw [World.size_alloc] at hz5
      clear hk5 fq0 fq1 fG
      clear g0 g1 g2 g3 q0 q1
      have g0 := (HK5.out).cell G0.out (fun h => h)
      have g1 := (HK5.out).cell G1.out (fun h => h)
      have g2 := (HK5.out).cell G2.out (fun h => h)
      have g3 := (HK5.out).cell G3.out (fun h => h)
      have q0 := (HK5.out).cell Q0.out (fun h => h)
      have q1 := (HK5.out).cell Q1.out (fun h => h)
      have hg5 : w.heap.size < w5.heap.size := by omega
      have hq5 : w.heap.size + 1 < w5.heap.size := by omega
      have fq0 := (HK5.out).frozen (p := ⟨w.heap.size + 1, 0, none⟩) hzq (frozen_of QB.out 0) (fun h => h)
      have fq1 := (HK5.out).frozen (p := ⟨w.heap.size + 1, 1, none⟩) hzq (frozen_of QB.out 1) (fun h => h)
      have HN := Lib.hid (show r = H from HE3.out.trans HH.out)
      go_wp2_with fail
      have hzz : ((w5.setCell ⟨w.heap.size + 1, 0, none⟩ (.int .i64 H.1)).setCell ⟨w.heap.size + 1, 1, none⟩ (.int .i64 H.2)).heap[w.heap.size + 1]? = some (.cells ((#[.int .i64 0, .int .i64 0].setIfInBounds 0 (.int .i64 H.1)).setIfInBounds 1 (.int .i64 H.2)) 45 (0, 0)) := heap_set (heap_set (HK5.out.heap QB.out (fun h => h)) 0 _) 1 _
      have s0 : ((w5.setCell ⟨w.heap.size + 1, 0, none⟩ (.int .i64 H.1)).setCell ⟨w.heap.size + 1, 1, none⟩ (.int .i64 H.2)).cell? ⟨w.heap.size + 1, 0, none⟩ = some (.int .i64 H.1) := by rw [cell_of hzz]; rfl
      have s1 : ((w5.setCell ⟨w.heap.size + 1, 0, none⟩ (.int .i64 H.1)).setCell ⟨w.heap.size + 1, 1, none⟩ (.int .i64 H.2)).cell? ⟨w.heap.size + 1, 1, none⟩ = some (.int .i64 H.2) := by rw [cell_of hzz]; rfl
      refine bodyPost_ret (v := .agg #[.int .i64 H.1, .int .i64 H.2]) (by simp [results, Tryz.results17, go_sem, s0, s1]) rfl ?_
      rw [HN.out]
      exact ⟨rfl, ((HK.out.step HK5.out).setCell (.inr (by simp only; omega)) _).setCell (.inr (by simp only; omega)) _⟩
     ·have fG : (G.1 != 0) = true := by simp [hG0]
      have HN := Lib.hid (show r = G from HE2.out.trans ((if_pos (by rw [HG.out]; exact hG0)).trans HG.out))
      clear hG0
      go_wp2_with fail
      have hzz : (((w4.setCell ⟨w.heap.size + 1, 0, none⟩ (.int .i64 G.1)).setCell ⟨w.heap.size + 1, 1, none⟩ (.int .i64 G.2)).alloc (.cells #[.int .i64 G.1, .int .i64 G.2] 45)).heap[w.heap.size + 1]? = some (.cells ((#[.int .i64 0, .int .i64 0].setIfInBounds 0 (.int .i64 G.1)).setIfInBounds 1 (.int .i64 G.2)) 45 (0, 0)) :=
       (heap_old _ _ (by simp [World.setCell]; omega)).trans (heap_set (heap_set (HK4.out.heap QB.out (fun h => h)) 0 _) 1 _)
      have s0 : (((w4.setCell ⟨w.heap.size + 1, 0, none⟩ (.int .i64 G.1)).setCell ⟨w.heap.size + 1, 1, none⟩ (.int .i64 G.2)).alloc (.cells #[.int .i64 G.1, .int .i64 G.2] 45)).cell? ⟨w.heap.size + 1, 0, none⟩ = some (.int .i64 G.1) := by rw [cell_of hzz]; rfl
      have s1 : (((w4.setCell ⟨w.heap.size + 1, 0, none⟩ (.int .i64 G.1)).setCell ⟨w.heap.size + 1, 1, none⟩ (.int .i64 G.2)).alloc (.cells #[.int .i64 G.1, .int .i64 G.2] 45)).cell? ⟨w.heap.size + 1, 1, none⟩ = some (.int .i64 G.2) := by rw [cell_of hzz]; rfl
      refine bodyPost_ret (v := .agg #[.int .i64 G.1, .int .i64 G.2]) (by simp [results, Tryz.results17, go_sem, s0, s1]) rfl ?_
      rw [HN.out]
      exact ⟨rfl, (((HK.out.step HK4.out).setCell (.inr (by simp only; omega)) _).setCell (.inr (by simp only; omega)) _).alloc _⟩
    ·have fF : (F.1 != 0) = true := by simp [hF0]
     have HN := Lib.hid (show r = F from HE.out.trans ((if_pos (by rw [HF.out]; exact hF0)).trans HF.out))
     clear hF0
     go_wp2_with fail
     have hzz : (((w3.setCell ⟨w.heap.size + 1, 0, none⟩ (.int .i64 F.1)).setCell ⟨w.heap.size + 1, 1, none⟩ (.int .i64 F.2)).alloc (.cells #[.int .i64 F.1, .int .i64 F.2] 45)).heap[w.heap.size + 1]? = some (.cells ((#[.int .i64 0, .int .i64 0].setIfInBounds 0 (.int .i64 F.1)).setIfInBounds 1 (.int .i64 F.2)) 45 (0, 0)) :=
      (heap_old _ _ (by simp [World.setCell]; omega)).trans (heap_set (heap_set (HK3.out.heap QB.out (fun h => h)) 0 _) 1 _)
     have s0 : (((w3.setCell ⟨w.heap.size + 1, 0, none⟩ (.int .i64 F.1)).setCell ⟨w.heap.size + 1, 1, none⟩ (.int .i64 F.2)).alloc (.cells #[.int .i64 F.1, .int .i64 F.2] 45)).cell? ⟨w.heap.size + 1, 0, none⟩ = some (.int .i64 F.1) := by rw [cell_of hzz]; rfl
     have s1 : (((w3.setCell ⟨w.heap.size + 1, 0, none⟩ (.int .i64 F.1)).setCell ⟨w.heap.size + 1, 1, none⟩ (.int .i64 F.2)).alloc (.cells #[.int .i64 F.1, .int .i64 F.2] 45)).cell? ⟨w.heap.size + 1, 1, none⟩ = some (.int .i64 F.2) := by rw [cell_of hzz]; rfl
     refine bodyPost_ret (v := .agg #[.int .i64 F.1, .int .i64 F.2]) (by simp [results, Tryz.results17, go_sem, s0, s1]) rfl ?_
     rw [HN.out]
     exact ⟨rfl, (((HK.out.step HK3.out).setCell (.inr (by simp only; omega)) _).setCell (.inr (by simp only; omega)) _).alloc _⟩
end Go.Proofs.YtniocgnfgpaioaaGreat.Mo
