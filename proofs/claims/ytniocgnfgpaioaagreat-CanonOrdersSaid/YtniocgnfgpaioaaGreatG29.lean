/- The walks of the reference's weight and proc (layer 15). -/
import Derived.Test.YtniocgnfgpaioaaGreatG24
import Derived.Deep.Cut
import Derived.Deep.CutRange
set_option linter.unusedVariables false
set_option linter.unusedSimpArgs false
namespace Go.Proofs.YtniocgnfgpaioaaGreat.Mo
open Go Go.RowKit Go.Proofs.YtniocgnfgpaioaaGreat.Lb

theorem RefWeight_is (m : Md) (n : Int) (w : World) : Calls Tryz.prog 95 #[m.val, .int .i64 n] w fun e w' => e = .returned (.bool (wtB m.version n)) ∧ Kept Nil w w' := by
 obtain ⟨ver, pa, ps, pc, la, ls, lc, ea, es, ec⟩ := m
 unfold Md.val
 simp only
 by_cases hq1 : 1 ≤ n
 ·skip
  have fq1_0y : decide (1 ≤ n) = true := by first | (simp [hq1]; done) | (simp; omega) | (simp at hq1 ⊢; exact hq1) | exact hq1
  have fq1_1y : (n == 0) = false := by first | (simp [hq1]; done) | (simp; omega) | (simp at hq1 ⊢; exact hq1) | exact hq1
  by_cases hq2 : n ≤ 1048576
  ·skip
   have fq2_0y : decide (n ≤ 1048576) = true := by first | (simp [hq2]; done) | (simp; omega) | (simp at hq2 ⊢; exact hq2) | exact hq2
   have HN := Lib.hid (show wtB ver n = true by unfold wtB; simp [*])
   clear hq1 hq2
   go_enter Tryz.func95, Tryz.ntmps95
   go_wp2_with fail
   go_ret
   exact ⟨by rw [HN.out]; rfl, (by repeat (first | exact kzr _ _ | assumption | refine kzd ?_ | refine kzn ?_ _ | refine kza ?_ _ | refine kzs ?_ (by assumption)))⟩
  ·skip
   have fq2_0n : decide (n ≤ 1048576) = false := by first | (simp [hq2]; done) | (simp; omega) | (simp at hq2 ⊢; exact hq2) | exact hq2
   have HN := Lib.hid (show wtB ver n = false by unfold wtB; simp [*])
   clear hq1 hq2
   go_enter Tryz.func95, Tryz.ntmps95
   go_wp2_with fail
   go_ret
   exact ⟨by rw [HN.out]; rfl, (by repeat (first | exact kzr _ _ | assumption | refine kzd ?_ | refine kzn ?_ _ | refine kza ?_ _ | refine kzs ?_ (by assumption)))⟩
 ·skip
  have fq1_0n : decide (1 ≤ n) = false := by first | (simp [hq1]; done) | (simp; omega) | (simp at hq1 ⊢; exact hq1) | exact hq1
  by_cases hq3 : n = 0
  ·skip
   have fq3_0y : (n == 0) = true := by first | (simp [hq3]; done) | (simp; omega) | (simp at hq3 ⊢; exact hq3) | exact hq3
   by_cases hq4 : ver < 3
   ·skip
    have fq4_0y : decide (ver < 3) = true := by first | (simp [hq4]; done) | (simp; omega) | (simp at hq4 ⊢; exact hq4) | exact hq4
    have HN := Lib.hid (show wtB ver n = true by unfold wtB; simp [*])
    clear hq1 hq3 hq4
    go_enter Tryz.func95, Tryz.ntmps95
    go_wp2_with fail
    go_ret
    exact ⟨by rw [HN.out]; rfl, (by repeat (first | exact kzr _ _ | assumption | refine kzd ?_ | refine kzn ?_ _ | refine kza ?_ _ | refine kzs ?_ (by assumption)))⟩
   ·skip
    have fq4_0n : decide (ver < 3) = false := by first | (simp [hq4]; done) | (simp; omega) | (simp at hq4 ⊢; exact hq4) | exact hq4
    have HN := Lib.hid (show wtB ver n = false by unfold wtB; simp [*])
    clear hq1 hq3 hq4
    go_enter Tryz.func95, Tryz.ntmps95
    go_wp2_with fail
    go_ret
    exact ⟨by rw [HN.out]; rfl, (by repeat (first | exact kzr _ _ | assumption | refine kzd ?_ | refine kzn ?_ _ | refine kza ?_ _ | refine kzs ?_ (by assumption)))⟩
  ·skip
   have fq3_0n : (n == 0) = false := by first | (simp [hq3]; done) | (simp; omega) | (simp at hq3 ⊢; exact hq3) | exact hq3
   have HN := Lib.hid (show wtB ver n = false by unfold wtB; simp [*])
   clear hq1 hq3
   go_enter Tryz.func95, Tryz.ntmps95
   go_wp2_with fail
   go_ret
   exact ⟨by rw [HN.out]; rfl, (by repeat (first | exact kzr _ _ | assumption | refine kzd ?_ | refine kzn ?_ _ | refine kza ?_ _ | refine kzs ?_ (by assumption)))⟩
theorem val_list : (ByteArray.mk #[118, 97, 108, 117, 101]).toList = reservedL := by rw [ByteArray.toList_eq]; rfl
set_option maxRecDepth 4000 in
set_option maxHeartbeats 8000000 in
theorem RefProcC_is (m : Md) (i : Nat) (p : Pr) (w : World) (hm : RModel w m) (hs : SzM m) (hi : m.ps[i]? = some p) : Calls Tryz.prog 59 #[m.val, .int .i64 (i : Int)] w fun e w' => e = .returned (.int .i64 (procC m i p)) ∧ Kept Nil w w' := by
 obtain ⟨r, hr⟩ : ∃ r, procC m i p = r := ⟨_, rfl⟩
 rw [hr]
 have HR := Lib.hid hr
 have HM := Lib.hid hm
 have HP := Lib.hid (hm.pp p (List.mem_of_getElem? hi))
 have HZ := Lib.hid (hs.p p (List.mem_of_getElem? hi))
 have hpl := hm.pl
 have hvl := (hm.pp p (List.mem_of_getElem? hi)).vl
 have hsl := (hm.pp p (List.mem_of_getElem? hi)).sl
 unfold maxLen at hpl hvl hsl
 have hil : i < m.ps.length := (List.getElem?_eq_some_iff.1 hi).1
 obtain ⟨b, off, e1, c0, c1, c2, c3⟩ := hm.p.at hi
 have hbl : b < w.heap.size := World.block_lt_of_cell? _ _ c0
 have HI := Lib.hid hi
 have HE1 := Lib.hid e1
 clear hr hm hs hi e1
 obtain ⟨ver, pa, ps, pc, la, ls, lc, ea, es, ec⟩ := m
 have e2 := HE1.out
 simp only at e2
 subst e2
 obtain ⟨pn, pw, va, vs, vc, sa, ss, pc_⟩ := p
 unfold Md.val
 simp only at *
 obtain ⟨W1, hW⟩ : ∃ W, ((w.alloc (.cells #[.int .i64 ver, .slice (some ⟨b, off, none⟩) ps.length pc, .slice la ls.length lc, .slice ea es.length ec] 26)).alloc (.cells #[.string pn, .int .i64 pw, .slice va vs.length vc, .slice sa ss.length pc_] 34)) = W := ⟨_, rfl⟩
 have hk : Kept Nil w W1 := by rw [← hW]; exact (((Kept.refl Nil w).alloc _).alloc _)
 have hsz : W1.heap.size = w.heap.size + 2 := by rw [← hW]; simp
 have hb : W1.heap[w.heap.size]? = some (.cells #[.int .i64 ver, .slice (some ⟨b, off, none⟩) ps.length pc, .slice la ls.length lc, .slice ea es.length ec] 26 (0, 0)) := by
  rw [← hW]
  rw [heap_old _ _ (by simp only [World.size_alloc]; omega)]
  have h9 := heap_new w (.cells #[.int .i64 ver, .slice (some ⟨b, off, none⟩) ps.length pc, .slice la ls.length lc, .slice ea es.length ec] 26)
  exact h9
 have G0 := Lib.hid (show W1.cell? ⟨w.heap.size, 0, none⟩ = some (.int .i64 ver) by rw [cell_of hb]; rfl)
 have G1 := Lib.hid (show W1.cell? ⟨w.heap.size, 1, none⟩ = some (.slice (some ⟨b, off, none⟩) ps.length pc) by rw [cell_of hb]; rfl)
 have G2 := Lib.hid (show W1.cell? ⟨w.heap.size, 2, none⟩ = some (.slice la ls.length lc) by rw [cell_of hb]; rfl)
 have G3 := Lib.hid (show W1.cell? ⟨w.heap.size, 3, none⟩ = some (.slice ea es.length ec) by rw [cell_of hb]; rfl)
 have GB := Lib.hid hb
 have hzg : w.heap.size < W1.heap.size := by omega
 clear hb
 have hb : W1.heap[w.heap.size + 1]? = some (.cells #[.string pn, .int .i64 pw, .slice va vs.length vc, .slice sa ss.length pc_] 34 (0, 0)) := by
  rw [← hW]
  have h9 := heap_new (w.alloc (.cells #[.int .i64 ver, .slice (some ⟨b, off, none⟩) ps.length pc, .slice la ls.length lc, .slice ea es.length ec] 26)) (.cells #[.string pn, .int .i64 pw, .slice va vs.length vc, .slice sa ss.length pc_] 34)
  simp only [World.size_alloc] at h9
  exact h9
 have Q0 := Lib.hid (show W1.cell? ⟨w.heap.size + 1, 0, none⟩ = some (.string pn) by rw [cell_of hb]; rfl)
 have Q1 := Lib.hid (show W1.cell? ⟨w.heap.size + 1, 1, none⟩ = some (.int .i64 pw) by rw [cell_of hb]; rfl)
 have Q2 := Lib.hid (show W1.cell? ⟨w.heap.size + 1, 2, none⟩ = some (.slice va vs.length vc) by rw [cell_of hb]; rfl)
 have Q3 := Lib.hid (show W1.cell? ⟨w.heap.size + 1, 3, none⟩ = some (.slice sa ss.length pc_) by rw [cell_of hb]; rfl)
 have QB := Lib.hid hb
 have hzq : w.heap.size + 1 < W1.heap.size := by omega
 clear hb
 have HW := Lib.hid hW
 have HK := Lib.hid hk
 have HSZ := Lib.hid hsz
 clear hW hk hsz
 obtain ⟨y, hy⟩ : ∃ y, findI (ps.map Pr.name) pn = y := ⟨_, rfl⟩
 have HY := Lib.hid hy
 obtain ⟨t, ht⟩ : ∃ t, wtB ver pw = t := ⟨_, rfl⟩
 have HT := Lib.hid ht
 obtain ⟨cn, hcn⟩ : ∃ cn, nameC pn = cn := ⟨_, rfl⟩
 have HCN := Lib.hid hcn
 clear hy ht hcn
 go_enter Tryz.func59, Tryz.ntmps59
 go_upto_region 2 with fail
 rw [HW.out]
 have g0 := (Kept.refl Nil W1).cell G0.out (fun h => h)
 have g1 := (Kept.refl Nil W1).cell G1.out (fun h => h)
 have g2 := (Kept.refl Nil W1).cell G2.out (fun h => h)
 have g3 := (Kept.refl Nil W1).cell G3.out (fun h => h)
 have q0 := (Kept.refl Nil W1).cell Q0.out (fun h => h)
 have q1 := (Kept.refl Nil W1).cell Q1.out (fun h => h)
 have q2 := (Kept.refl Nil W1).cell Q2.out (fun h => h)
 have q3 := (Kept.refl Nil W1).cell Q3.out (fun h => h)
 by_cases hn : rightName pn = true
 ·obtain rfl : cn = 0 := by rw [← HCN.out]; exact nameC_yes hn
  have HNm := Lib.hid hn
  clear hn
  go_wp2_with fail
  refine (RefCheck_is pn _ HZ.out.n).mono ?_
  rintro e w1 ⟨rfl, rfl⟩
  rw [HCN.out]
  go_wp2_with fail
  refine (RefProc_is ⟨ver, some ⟨b, off, none⟩, ps, pc, la, ls, lc, ea, es, ec⟩ pn _ (HM.out.nil HK.out)).mono ?_
  rintro e w2 ⟨rfl, hk2⟩
  rw [show findI _ _ = _ from HY.out]
  have HK2 := Lib.hid hk2
  have hz2 := hk2.size
  clear hk2 g0 g1 g2 g3 q0 q1 q2 q3
  have g0 := (HK2.out).cell G0.out (fun h => h)
  have g1 := (HK2.out).cell G1.out (fun h => h)
  have g2 := (HK2.out).cell G2.out (fun h => h)
  have g3 := (HK2.out).cell G3.out (fun h => h)
  have q0 := (HK2.out).cell Q0.out (fun h => h)
  have q1 := (HK2.out).cell Q1.out (fun h => h)
  have q2 := (HK2.out).cell Q2.out (fun h => h)
  have q3 := (HK2.out).cell Q3.out (fun h => h)
  have hzg2 : w.heap.size < w2.heap.size := by omega
  have hzq2 : w.heap.size + 1 < w2.heap.size := by omega
  by_cases hyi : y = (i : Int)
  ·have fy : (y != (i : Int)) = false := by simp [hyi]
   have HYI := Lib.hid hyi
   clear hyi
   go_wp2_with fail
   refine (RefWeight_is ⟨ver, some ⟨b, off, none⟩, ps, pc, la, ls, lc, ea, es, ec⟩ pw w2).mono ?_
   rintro e w3 ⟨rfl, hk3⟩
   rw [show wtB _ _ = _ from HT.out]
   have HK3 := Lib.hid (HK2.out.step hk3)
   have hz3 := hk3.size
   clear hk3 g0 g1 g2 g3 q0 q1 q2 q3
   have g0 := (HK3.out).cell G0.out (fun h => h)
   have g1 := (HK3.out).cell G1.out (fun h => h)
   have g2 := (HK3.out).cell G2.out (fun h => h)
   have g3 := (HK3.out).cell G3.out (fun h => h)
   have q0 := (HK3.out).cell Q0.out (fun h => h)
   have q1 := (HK3.out).cell Q1.out (fun h => h)
   have q2 := (HK3.out).cell Q2.out (fun h => h)
   have q3 := (HK3.out).cell Q3.out (fun h => h)
   have hzg3 : w.heap.size < w3.heap.size := by omega
   have hzq3 : w.heap.size + 1 < w3.heap.size := by omega
   cases t with
   | false =>
    have HN := Lib.hid (show r = 41 by
     rw [← HR.out]; unfold procC
     simp only [HNm.out, HY.out, HYI.out, HT.out]
     simp)
    go_wp2_with fail
    go_ret
    exact ⟨by rw [HN.out]; rfl, HK.out.step HK3.out⟩
   | true =>
    by_cases h64 : 64 < vs.length
    ·have f64 : decide (64 < (vs.length : Int)) = true := by simp; omega
     have HN := Lib.hid (show r = 3 by
      rw [← HR.out]; unfold procC
      simp only [HNm.out, HY.out, HYI.out, HT.out]
      simp [h64])
     go_wp2_with fail
     go_ret
     exact ⟨by rw [HN.out]; rfl, HK.out.step HK3.out⟩
    ·have f64 : decide (64 < (vs.length : Int)) = false := by simp; omega
     by_cases h256 : 256 < ss.length
     ·have f256 : decide (256 < (ss.length : Int)) = true := by simp; omega
      have HN := Lib.hid (show r = 3 by
       rw [← HR.out]; unfold procC
       simp only [HNm.out, HY.out, HYI.out, HT.out]
       simp [h256])
      go_wp2_with fail
      go_ret
      exact ⟨by rw [HN.out]; rfl, HK.out.step HK3.out⟩
     ·have f256 : decide (256 < (ss.length : Int)) = false := by simp; omega
      have hv0 : ∀ c : Int, varsC vs = c → c ≠ 0 → r = c := fun c h hc => HR.out.symm.trans (procC_vars (m := ⟨ver, some ⟨b, off, none⟩, ps, pc, la, ls, lc, ea, es, ec⟩) (i := i) (p := ⟨pn, pw, va, vs, vc, sa, ss, pc_⟩) HNm.out (HY.out.trans HYI.out) HT.out h64 h256 h hc)
      have hs0 : varsC vs = 0 → r = firstC (ss.map (stepC ls ⟨pn, pw, va, vs, vc, sa, ss, pc_⟩)) := fun h => HR.out.symm.trans (procC_steps (m := ⟨ver, some ⟨b, off, none⟩, ps, pc, la, ls, lc, ea, es, ec⟩) (i := i) (p := ⟨pn, pw, va, vs, vc, sa, ss, pc_⟩) HNm.out (HY.out.trans HYI.out) HT.out h64 h256 h)
      have HV := Lib.hid hv0
      have HS := Lib.hid hs0
      clear hv0 hs0 hz2 hzg2 hzq2
      go_wp2_with fail
      clear f64 f256 fy
      clear g0 g1 g2 g3 q0 q1 q2 q3
      go_loopw [6] (fun u wr => ∃ k : Nat, k ≤ vs.length ∧ u = .int .i64 k ∧ (∀ (j : Nat) (v : V), j < k → vs[j]? = some v → varC vs j v = 0) ∧ Kept Nil W1 wr) (fun u _ => vs.length - (intOf u).toNat)
      case atStart => exact ⟨0, Nat.zero_le _, rfl, fun j v h => by omega, HK3.out⟩
      case round =>
       obtain ⟨k, hk, rfl, hall, hK⟩ := hrel
       have HALL := Lib.hid hall
       have HKr := Lib.hid hK
       have hzr := hK.size
       clear hall hK hz3 hzg3 hzq3
       have hzgr : w.heap.size < wr.heap.size := by omega
       have hzqr : w.heap.size + 1 < wr.heap.size := by omega
       have g0 := (HKr.out).cell G0.out (fun h => h)
       have g1 := (HKr.out).cell G1.out (fun h => h)
       have g2 := (HKr.out).cell G2.out (fun h => h)
       have g3 := (HKr.out).cell G3.out (fun h => h)
       have q0 := (HKr.out).cell Q0.out (fun h => h)
       have q1 := (HKr.out).cell Q1.out (fun h => h)
       have q2 := (HKr.out).cell Q2.out (fun h => h)
       have q3 := (HKr.out).cell Q3.out (fun h => h)
       by_cases hlt : k < vs.length
       ·obtain ⟨⟨vn, vi⟩, ev⟩ : ∃ v, vs[k]? = some v := ⟨_, List.getElem?_eq_getElem hlt⟩
        obtain ⟨b2, off2, e1, d0, d1⟩ := (HP.out.nil (HK.out.step HKr.out)).v.at ev
        simp only at e1
        subst e1
        have hbv : b2 < wr.heap.size := World.block_lt_of_cell? _ _ d0
        have HEV := Lib.hid ev
        have HVS := Lib.hid (HZ.out.v _ (List.mem_of_getElem? ev))
        obtain ⟨x, hx⟩ : ∃ x, varIx vs vn = x := ⟨_, rfl⟩
        have HX := Lib.hid hx
        obtain ⟨cv, hcv⟩ : ∃ cv, nameC vn = cv := ⟨_, rfl⟩
        have HCV := Lib.hid hcv
        clear ev hx hcv
        have hkr := HKr.out
        by_cases hq5 : rightName vn = true
        ·skip
         obtain rfl : cv = 0 := by rw [← HCV.out]; exact nameC_yes (by assumption)
         by_cases hq6 : vn.toList = [118, 97, 108, 117, 101]
         ·skip
          have fq6_0y : (vn.toList == [118, 97, 108, 117, 101]) = true := by first | (simp [hq6]; done) | (simp; omega) | (simp at hq6 ⊢; exact hq6) | exact hq6
          have fq6_1y : (vn.toList == reservedL) = true := by first | (simp [hq6]; done) | (simp; omega) | (simp at hq6 ⊢; exact hq6) | exact hq6
          have hres : vn.toList = reservedL := by assumption
          have HN := Lib.hid (show r = 40 by exact HV.out _ (varsC_bad HALL.out HEV.out (show varC vs k ⟨vn, vi⟩ = _ by unfold varC; simp only; simp [HX.out, reservedL, *]; done) (by decide)) (by decide))
          clear hq5 hq6 hres
          go_wp2_with (first | (go_at_call 94; refine (RefCheck_is vn _ HVS.out).mono ?_; rintro e w5 ⟨rfl, rfl⟩; rw [HCV.out]) | (go_at_call 96; refine (RefVar_is _ vn _ (HP.out.nil (HK.out.step (by repeat (first | exact kzr _ _ | assumption | refine kzd ?_ | refine kzn ?_ _ | refine kza ?_ _ | refine kzs ?_ (by assumption)))))).mono ?_; rintro e w5 ⟨rfl, hk5⟩; rw [show varIx _ _ = _ from HX.out]; obtain ⟨hc5, hf5⟩ := hk5.rules; have hz5 : wr.heap.size < w5.heap.size := by have := hk5.size; simp at this; omega) | (go_at_call 61; refine (RefNumber_is vi _).mono ?_; rintro e w5 ⟨rfl, rfl⟩))
          go_ret
          exact ⟨by rw [HN.out]; rfl, HK.out.step (by repeat (first | exact kzr _ _ | assumption | refine kzd ?_ | refine kzn ?_ _ | refine kza ?_ _ | refine kzs ?_ (by assumption)))⟩
         ·skip
          have fq6_0n : (vn.toList == [118, 97, 108, 117, 101]) = false := by first | (simp [hq6]; done) | (simp; omega) | (simp at hq6 ⊢; exact hq6) | exact hq6
          have fq6_1n : (vn.toList == reservedL) = false := by first | (simp [hq6]; done) | (simp; omega) | (simp at hq6 ⊢; exact hq6) | exact hq6
          have hres : ¬ vn.toList = reservedL := by assumption
          by_cases hq7 : x = (k : Int)
          ·skip
           have fq7_0y : (x != (k : Int)) = false := by first | (simp [hq7]; done) | (simp; omega) | (simp at hq7 ⊢; exact hq7) | exact hq7
           by_cases hq8 : numB vi = true
           ·skip
            have fq8_0y : numB vi = true := by first | (simp [hq8]; done) | (simp; omega) | (simp at hq8 ⊢; exact hq8) | exact hq8
            have HN2 := Lib.hid (show ∀ (j : Nat) (v : V), j < k + 1 → vs[j]? = some v → varC vs j v = 0 from fun j v hj hv => by
             by_cases e : j = k
             ·subst e; rw [HEV.out] at hv; cases hv; unfold varC; simp only; simp [HX.out, *]
             ·exact HALL.out j v (by omega) hv)
            have HN := Lib.hid (show r = r by rfl)
            clear hq5 hq6 hres hq7 hq8
            go_wp2_with (first | (go_at_call 94; refine (RefCheck_is vn _ HVS.out).mono ?_; rintro e w5 ⟨rfl, rfl⟩; rw [HCV.out]) | (go_at_call 96; refine (RefVar_is _ vn _ (HP.out.nil (HK.out.step (by repeat (first | exact kzr _ _ | assumption | refine kzd ?_ | refine kzn ?_ _ | refine kza ?_ _ | refine kzs ?_ (by assumption)))))).mono ?_; rintro e w5 ⟨rfl, hk5⟩; rw [show varIx _ _ = _ from HX.out]; obtain ⟨hc5, hf5⟩ := hk5.rules; have hz5 : wr.heap.size < w5.heap.size := by have := hk5.size; simp at this; omega) | (go_at_call 61; refine (RefNumber_is vi _).mono ?_; rintro e w5 ⟨rfl, rfl⟩))
            go_round
            case measure => (simp [intOf] <;> omega)
            exact ⟨k + 1, by omega, by go_num, HN2.out, (by repeat (first | exact kzr _ _ | assumption | refine kzd ?_ | refine kzn ?_ _ | refine kza ?_ _ | refine kzs ?_ (by assumption)))⟩
           ·skip
            have fq8_0n : numB vi = false := by first | (simp [hq8]; done) | (simp; omega) | (simp at hq8 ⊢; exact hq8) | exact hq8
            have HN := Lib.hid (show r = 23 by exact HV.out _ (varsC_bad HALL.out HEV.out (show varC vs k ⟨vn, vi⟩ = _ by unfold varC; simp only; simp [HX.out, reservedL, *]; done) (by decide)) (by decide))
            clear hq5 hq6 hres hq7 hq8
            go_wp2_with (first | (go_at_call 94; refine (RefCheck_is vn _ HVS.out).mono ?_; rintro e w5 ⟨rfl, rfl⟩; rw [HCV.out]) | (go_at_call 96; refine (RefVar_is _ vn _ (HP.out.nil (HK.out.step (by repeat (first | exact kzr _ _ | assumption | refine kzd ?_ | refine kzn ?_ _ | refine kza ?_ _ | refine kzs ?_ (by assumption)))))).mono ?_; rintro e w5 ⟨rfl, hk5⟩; rw [show varIx _ _ = _ from HX.out]; obtain ⟨hc5, hf5⟩ := hk5.rules; have hz5 : wr.heap.size < w5.heap.size := by have := hk5.size; simp at this; omega) | (go_at_call 61; refine (RefNumber_is vi _).mono ?_; rintro e w5 ⟨rfl, rfl⟩))
            go_ret
            exact ⟨by rw [HN.out]; rfl, HK.out.step (by repeat (first | exact kzr _ _ | assumption | refine kzd ?_ | refine kzn ?_ _ | refine kza ?_ _ | refine kzs ?_ (by assumption)))⟩
          ·skip
           have fq7_0n : (x != (k : Int)) = true := by first | (simp [hq7]; done) | (simp; omega) | (simp at hq7 ⊢; exact hq7) | exact hq7
           have HN := Lib.hid (show r = 5 by exact HV.out _ (varsC_bad HALL.out HEV.out (show varC vs k ⟨vn, vi⟩ = _ by unfold varC; simp only; simp [HX.out, reservedL, *]; done) (by decide)) (by decide))
           clear hq5 hq6 hres hq7
           go_wp2_with (first | (go_at_call 94; refine (RefCheck_is vn _ HVS.out).mono ?_; rintro e w5 ⟨rfl, rfl⟩; rw [HCV.out]) | (go_at_call 96; refine (RefVar_is _ vn _ (HP.out.nil (HK.out.step (by repeat (first | exact kzr _ _ | assumption | refine kzd ?_ | refine kzn ?_ _ | refine kza ?_ _ | refine kzs ?_ (by assumption)))))).mono ?_; rintro e w5 ⟨rfl, hk5⟩; rw [show varIx _ _ = _ from HX.out]; obtain ⟨hc5, hf5⟩ := hk5.rules; have hz5 : wr.heap.size < w5.heap.size := by have := hk5.size; simp at this; omega) | (go_at_call 61; refine (RefNumber_is vi _).mono ?_; rintro e w5 ⟨rfl, rfl⟩))
           go_ret
           exact ⟨by rw [HN.out]; rfl, HK.out.step (by repeat (first | exact kzr _ _ | assumption | refine kzd ?_ | refine kzn ?_ _ | refine kza ?_ _ | refine kzs ?_ (by assumption)))⟩
        ·skip
         have hnf : rightName vn = false := by first | assumption | (simp_all; done)
         obtain rfl : cv = 40 := by rw [← HCV.out]; exact nameC_no hnf
         have HN := Lib.hid (show r = 40 by exact HV.out _ (varsC_bad HALL.out HEV.out (show varC vs k ⟨vn, vi⟩ = _ by unfold varC; simp only; simp [HX.out, reservedL, *]; done) (by decide)) (by decide))
         clear hq5 hnf
         go_wp2_with (first | (go_at_call 94; refine (RefCheck_is vn _ HVS.out).mono ?_; rintro e w5 ⟨rfl, rfl⟩; rw [HCV.out]) | (go_at_call 96; refine (RefVar_is _ vn _ (HP.out.nil (HK.out.step (by repeat (first | exact kzr _ _ | assumption | refine kzd ?_ | refine kzn ?_ _ | refine kza ?_ _ | refine kzs ?_ (by assumption)))))).mono ?_; rintro e w5 ⟨rfl, hk5⟩; rw [show varIx _ _ = _ from HX.out]; obtain ⟨hc5, hf5⟩ := hk5.rules; have hz5 : wr.heap.size < w5.heap.size := by have := hk5.size; simp at this; omega) | (go_at_call 61; refine (RefNumber_is vi _).mono ?_; rintro e w5 ⟨rfl, rfl⟩))
         go_ret
         exact ⟨by rw [HN.out]; rfl, HK.out.step (by repeat (first | exact kzr _ _ | assumption | refine kzd ?_ | refine kzn ?_ _ | refine kza ?_ _ | refine kzs ?_ (by assumption)))⟩
       ·obtain rfl : k = vs.length := by omega
        have HV0 := Lib.hid (HS.out (varsC_ok HALL.out))
        obtain ⟨wa, hwa⟩ : ∃ x, x = wr := ⟨_, rfl⟩
        subst hwa
        go_wp2_with fail
        clear g0 g1 g2 g3 q0 q1 q2 q3
        clear hlt hk
        go_loopw [8] (fun u wr => ∃ k : Nat, k ≤ ss.length ∧ u = .int .i64 k ∧ (∀ (j : Nat) (s : S), j < k → ss[j]? = some s → stepC ls ⟨pn, pw, va, vs, vc, sa, ss, pc_⟩ s = 0) ∧ Kept Nil W1 wr) (fun u _ => ss.length - (intOf u).toNat)
        case atStart => exact ⟨0, Nat.zero_le _, rfl, fun j v h => by omega, HKr.out⟩
        case round =>
         obtain ⟨k, hk, rfl, hall, hK⟩ := hrel
         have HALS := Lib.hid hall
         have HKs := Lib.hid hK
         have hzs := hK.size
         clear hall hK
         have hzgs : w.heap.size < wr.heap.size := by omega
         have hzqs : w.heap.size + 1 < wr.heap.size := by omega
         have g0 := (HKs.out).cell G0.out (fun h => h)
         have g1 := (HKs.out).cell G1.out (fun h => h)
         have g2 := (HKs.out).cell G2.out (fun h => h)
         have g3 := (HKs.out).cell G3.out (fun h => h)
         have q0 := (HKs.out).cell Q0.out (fun h => h)
         have q1 := (HKs.out).cell Q1.out (fun h => h)
         have q2 := (HKs.out).cell Q2.out (fun h => h)
         have q3 := (HKs.out).cell Q3.out (fun h => h)
         by_cases hlt : k < ss.length
         ·obtain ⟨s, es'⟩ : ∃ v, ss[k]? = some v := ⟨_, List.getElem?_eq_getElem hlt⟩
          obtain ⟨b2, off2, e1, d0, d1, d2, d3, d4⟩ := (HP.out.nil (HK.out.step HKs.out)).s.at es'
          simp only at e1
          subst e1
          have hbv : b2 < wr.heap.size := World.block_lt_of_cell? _ _ d0
          obtain ⟨z, hz⟩ : ∃ z, stepC ls ⟨pn, pw, va, vs, vc, some ⟨b2, off2, none⟩, ss, pc_⟩ s = z := ⟨_, rfl⟩
          have HES := Lib.hid es'
          have HZz := Lib.hid hz
          clear es' hz
          go_wp2_with fail
          refine region_tail 7 (by kernel_rfl) (by kernel_rfl) ?_
          simp only [List.take_succ_cons, List.take_zero, List.drop_succ_cons, List.drop_zero]
          repeat still_step
          refine wpStill_nil ?_
          go_wp2_with fail
          refine (RefStep_is ⟨ver, some ⟨b, off, none⟩, ps, pc, la, ls, lc, ea, es, ec⟩ _ s _ (HM.out.nil (HK.out.step HKs.out.drew)) (HP.out.nil (HK.out.step HKs.out.drew))).mono ?_
          rintro e w5 ⟨rfl, hk5⟩
          rw [show stepC _ _ _ = _ from HZz.out]
          have HK5 := Lib.hid (HKs.out.drew.step hk5)
          clear hk5
          by_cases hz0 : z = 0
          ·have fz : (z != 0) = false := by simp [hz0]
           have HN2 := Lib.hid (show ∀ (j : Nat) (u : S), j < k + 1 → ss[j]? = some u → stepC ls ⟨pn, pw, va, vs, vc, some ⟨b2, off2, none⟩, ss, pc_⟩ u = 0 from fun j u hj hu => by
            by_cases e : j = k
            ·subst e; rw [HES.out] at hu; cases hu; rw [HZz.out]; exact hz0
            ·exact HALS.out j u (by omega) hu)
           clear hz0
           go_wp2_with fail
           go_round
           case measure => (simp [intOf] <;> omega)
           exact ⟨k + 1, by omega, by go_num, HN2.out, HK5.out⟩
          ·have fz : (z != 0) = true := by simp [hz0]
           have HN := Lib.hid (show r = z from HV0.out.trans (stepsC_bad HALS.out HES.out HZz.out hz0))
           clear hz0
           go_wp2_with fail
           go_ret
           exact ⟨by rw [HN.out]; rfl, HK.out.step HK5.out⟩
         ·obtain rfl : k = ss.length := by omega
          have HN := Lib.hid (show r = 0 from HV0.out.trans (stepsC_ok HALS.out))
          go_wp2_with fail
          go_ret
          exact ⟨by rw [HN.out]; rfl, HK.out.step HKs.out⟩
  ·have fy : (y != (i : Int)) = true := by simp [hyi]
   have HN := Lib.hid (show r = 5 by
    rw [← HR.out]; unfold procC
    simp only [HNm.out, HY.out]
    simp [hyi])
   clear hyi
   go_wp2_with fail
   go_ret
   exact ⟨by rw [HN.out]; rfl, HK.out.step HK2.out⟩
 ·have hnf : rightName pn = false := by simpa using hn
  obtain rfl : cn = 40 := by rw [← HCN.out]; exact nameC_no hnf
  have HN := Lib.hid (show r = 40 by
   rw [← HR.out]; unfold procC
   simp only [hnf]
   simp)
  clear hn hnf
  go_wp2_with fail
  refine (RefCheck_is pn _ HZ.out.n).mono ?_
  rintro e w1 ⟨rfl, rfl⟩
  rw [HCN.out]
  go_wp2_with fail
  go_ret
  exact ⟨by rw [HN.out]; rfl, HK.out⟩
end Go.Proofs.YtniocgnfgpaioaaGreat.Mo
