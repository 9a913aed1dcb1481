/- The walk of the reference's Check (layer 15); What model.Check calls ahead of its checks: names and their places. -/
import Derived.Test.YtniocgnfgpaioaaGreatG30
import Derived.Test.YtniocgnfgpaioaaGreatG27
import Derived.Test.YtniocgnfgpaioaaGreatG28
set_option linter.unusedVariables false
set_option linter.unusedSimpArgs false
section
namespace Go.Proofs.YtniocgnfgpaioaaGreat.Mo
open Go Go.RowKit Go.Proofs.YtniocgnfgpaioaaGreat.Lb

set_option maxRecDepth 4000 in
set_option maxHeartbeats 16000000 in
theorem RefCheckM_is (m : Md) (w : World) (hm : RModel w m) (hs : SzM m) : Calls Tryz.prog 19 #[m.val] w fun e w' => e = .returned (.tuple #[.int .i64 (mdCheck m).1, .int .i64 (mdCheck m).2]) ∧ Kept Nil w w' := by
 obtain ⟨r, hr⟩ : ∃ r, mdCheck m = r := ⟨_, rfl⟩
 rw [hr]
 have HR := Lib.hid hr
 have HM := Lib.hid hm
 have HZ := Lib.hid hs
 have hpl := hm.pl
 have hll := hm.ll
 have hel := hm.el
 unfold maxLen at hpl hll hel
 clear hr hm hs
 obtain ⟨ver, pa, ps, pc, la, ls, lc, ea, es, ec⟩ := m
 unfold Md.val
 simp only at *
 obtain ⟨W1, hW⟩ : ∃ W, (w.alloc (.cells #[.int .i64 ver, .slice pa ps.length pc, .slice la ls.length lc, .slice ea es.length ec] 26)) = W := ⟨_, rfl⟩
 have hk : Kept Nil w W1 := by rw [← hW]; exact ((Kept.refl Nil w).alloc _)
 have hsz : W1.heap.size = w.heap.size + 1 := by rw [← hW]; simp
 have hb : W1.heap[w.heap.size]? = some (.cells #[.int .i64 ver, .slice pa ps.length pc, .slice la ls.length lc, .slice ea es.length ec] 26 (0, 0)) := by
  rw [← hW]
  have h9 := heap_new w (.cells #[.int .i64 ver, .slice pa ps.length pc, .slice la ls.length lc, .slice ea es.length ec] 26)
  exact h9
 have G0 := Lib.hid (show W1.cell? ⟨w.heap.size, 0, none⟩ = some (.int .i64 ver) by rw [cell_of hb]; rfl)
 have G1 := Lib.hid (show W1.cell? ⟨w.heap.size, 1, none⟩ = some (.slice pa ps.length pc) by rw [cell_of hb]; rfl)
 have G2 := Lib.hid (show W1.cell? ⟨w.heap.size, 2, none⟩ = some (.slice la ls.length lc) by rw [cell_of hb]; rfl)
 have G3 := Lib.hid (show W1.cell? ⟨w.heap.size, 3, none⟩ = some (.slice ea es.length ec) by rw [cell_of hb]; rfl)
 have GB := Lib.hid hb
 have hzg : w.heap.size < W1.heap.size := by omega
 clear hb
 have HW := Lib.hid hW
 have HK := Lib.hid hk
 have HSZ := Lib.hid hsz
 clear hW hk hsz
 by_cases hv : ver < 1 ∨ 3 < ver
 ·have HN := Lib.hid (show r = (43, 0) by rw [← HR.out]; unfold mdCheck; simp only; rw [if_pos hv])
  by_cases h1 : ver < 1
  ·have f1 : decide (ver < 1) = true := decide_eq_true h1
   clear hv
   go_enter Tryz.func19, Tryz.ntmps19
   go_wp2_with fail
   go_ret2
   rw [HN.out]
   exact ⟨rfl, ((Kept.refl Nil w).alloc _)⟩
  ·have f1 : decide (ver < 1) = false := decide_eq_false h1
   have h3 : 3 < ver := by omega
   have f3 : decide (3 < ver) = true := decide_eq_true h3
   clear hv
   go_enter Tryz.func19, Tryz.ntmps19
   go_wp2_with fail
   go_ret2
   rw [HN.out]
   exact ⟨rfl, ((Kept.refl Nil w).alloc _)⟩
 ·have f1 : decide (ver < 1) = false := decide_eq_false (by omega)
  have f3 : decide (3 < ver) = false := decide_eq_false (by omega)
  by_cases hn : 4096 < ps.length ∨ 16384 < ls.length ∨ 16384 < es.length
  ·have HN := Lib.hid (show r = (3, 0) by rw [← HR.out]; unfold mdCheck; simp only; rw [if_neg hv, if_pos hn])
   by_cases a1 : 4096 < ps.length
   ·skip
    have k0 : decide (4096 < (ps.length : Int)) = true := by simp; omega
    clear hn hv
    go_enter Tryz.func19, Tryz.ntmps19
    go_wp2_with fail
    go_ret2
    rw [HN.out]
    exact ⟨rfl, ((Kept.refl Nil w).alloc _)⟩
   ·by_cases a2 : 16384 < ls.length
    ·skip
     have k0 : decide (4096 < (ps.length : Int)) = false := by simp; omega
     have k1 : decide (16384 < (ls.length : Int)) = true := by simp; omega
     clear hn hv
     go_enter Tryz.func19, Tryz.ntmps19
     go_wp2_with fail
     go_ret2
     rw [HN.out]
     exact ⟨rfl, ((Kept.refl Nil w).alloc _)⟩
    ·have a3 : 16384 < es.length := by omega
     have k0 : decide (4096 < (ps.length : Int)) = false := by simp; omega
     have k1 : decide (16384 < (ls.length : Int)) = false := by simp; omega
     have k2 : decide (16384 < (es.length : Int)) = true := by simp; omega
     clear hn hv
     go_enter Tryz.func19, Tryz.ntmps19
     go_wp2_with fail
     go_ret2
     rw [HN.out]
     exact ⟨rfl, ((Kept.refl Nil w).alloc _)⟩
  ·have k1 : decide (4096 < (ps.length : Int)) = false := by simp; omega
   have k2 : decide (16384 < (ls.length : Int)) = false := by simp; omega
   have k3 : decide (16384 < (es.length : Int)) = false := by simp; omega
   have LP := Lib.hid (fun (k : Nat) (p : Pr) (c : Int) hall hk he hc => HR.out.symm.trans (md_procs (m := ⟨ver, pa, ps, pc, la, ls, lc, ea, es, ec⟩) hv hn (k := k) (p := p) (c := c) hall hk he hc))
   have LL := Lib.hid (fun hp (k : Nat) (l : Lk) (c : Int) hall hk he hc => HR.out.symm.trans (md_links (m := ⟨ver, pa, ps, pc, la, ls, lc, ea, es, ec⟩) hv hn hp (k := k) (l := l) (c := c) hall hk he hc))
   have LE := Lib.hid (fun hp hl (k : Nat) (e : Ev) (c : Int) hall hk he hc => HR.out.symm.trans (md_events (m := ⟨ver, pa, ps, pc, la, ls, lc, ea, es, ec⟩) hv hn hp hl (k := k) (e := e) (c := c) hall hk he hc))
   have LO := Lib.hid (fun hp hl he => HR.out.symm.trans (md_ok (m := ⟨ver, pa, ps, pc, la, ls, lc, ea, es, ec⟩) hv hn hp hl he))
   simp only at LP LL LE LO
   have hnp : ps.length ≤ 4096 := by omega
   have hnl : ls.length ≤ 16384 := by omega
   have hne : es.length ≤ 16384 := by omega
   clear hv hn
   go_enter Tryz.func19, Tryz.ntmps19
   go_wp2_with fail
   rw [HW.out]
   clear f1 f3 k1 k2 k3
   go_loopw [4, 5] (fun n u wr => ∃ k : Nat, k ≤ ps.length ∧ n = .int .i64 k ∧ u = .int .i64 k ∧ (∀ (j : Nat) (q : Pr), j < k → ps[j]? = some q → procC ⟨ver, pa, ps, pc, la, ls, lc, ea, es, ec⟩ j q = 0) ∧ Kept Nil W1 wr) (fun _ u _ => ps.length - (intOf u).toNat)
   case atStart => exact ⟨0, Nat.zero_le _, rfl, rfl, fun j v h => by omega, Kept.refl _ _⟩
   case round =>
    obtain ⟨k, hk, rfl, rfl, hall, hK⟩ := hrel
    have HALL := Lib.hid hall
    have HKr := Lib.hid hK
    have hzr : w.heap.size < wr.heap.size := by have := hK.size; omega
    clear hall hK
    have g0 := (HKr.out).cell G0.out (fun h => h)
    have g1 := (HKr.out).cell G1.out (fun h => h)
    have g2 := (HKr.out).cell G2.out (fun h => h)
    have g3 := (HKr.out).cell G3.out (fun h => h)
    by_cases hlt : k < ps.length
    ·obtain ⟨p, ep⟩ : ∃ v, ps[k]? = some v := ⟨_, List.getElem?_eq_getElem hlt⟩
     obtain ⟨c, hc⟩ : ∃ c, procC ⟨ver, pa, ps, pc, la, ls, lc, ea, es, ec⟩ k p = c := ⟨_, rfl⟩
     have HEP := Lib.hid ep
     have HC := Lib.hid hc
     clear ep hc
     go_wp2_with fail
     refine (RefProcC_is ⟨ver, pa, ps, pc, la, ls, lc, ea, es, ec⟩ k p wr (HM.out.nil (HK.out.step HKr.out)) HZ.out HEP.out).mono ?_
     rintro e w2 ⟨rfl, hk2⟩
     rw [show procC _ _ _ = _ from HC.out]
     have HK2 := Lib.hid (HKr.out.step hk2)
     clear hk2
     clear g0 g1 g2 g3
     by_cases hc0 : c = 0
     ·have fc : (c != 0) = false := by simp [hc0]
      have HN2 := Lib.hid (show ∀ (j : Nat) (q : Pr), j < k + 1 → ps[j]? = some q → procC ⟨ver, pa, ps, pc, la, ls, lc, ea, es, ec⟩ j q = 0 from fun j q hj hq => by
       by_cases e : j = k
       ·subst e; rw [HEP.out] at hq; cases hq; rw [HC.out]; exact hc0
       ·exact HALL.out j q (by omega) hq)
      clear hc0
      go_wp2_with fail
      go_round
      case measure => (simp [intOf] <;> omega)
      exact ⟨k + 1, by omega, by go_num, by go_num, HN2.out, HK2.out⟩
     ·have fc : (c != 0) = true := by simp [hc0]
      have HN := Lib.hid (LP.out k p c HALL.out HEP.out HC.out hc0)
      clear hc0
      go_wp2_with fail
      go_ret2
      rw [HN.out]
      exact ⟨rfl, HK.out.step HK2.out⟩
    ·obtain rfl : k = ps.length := by omega
     have HPS := Lib.hid HALL.out
     obtain ⟨wa, hwa⟩ : ∃ x, x = wr := ⟨_, rfl⟩
     subst hwa
     clear hlt hk
     go_wp2_with fail
     clear g0 g1 g2 g3
     go_loopw [4, 7] (fun n u wr => ∃ k : Nat, k ≤ ls.length ∧ n = .int .i64 ((ps.length : Int) + k) ∧ u = .int .i64 k ∧ (∀ (j : Nat) (q : Lk), j < k → ls[j]? = some q → linkC ⟨ver, pa, ps, pc, la, ls, lc, ea, es, ec⟩ j q = 0) ∧ Kept Nil W1 wr) (fun _ u _ => ls.length - (intOf u).toNat)
     case atStart => exact ⟨0, Nat.zero_le _, by simp, rfl, fun j v h => by omega, HKr.out⟩
     case round =>
      obtain ⟨k, hk, rfl, rfl, hall, hK⟩ := hrel
      have HALS := Lib.hid hall
      have HKs := Lib.hid hK
      have hzs : w.heap.size < wr.heap.size := by have := hK.size; omega
      clear hall hK
      have g0 := (HKs.out).cell G0.out (fun h => h)
      have g1 := (HKs.out).cell G1.out (fun h => h)
      have g2 := (HKs.out).cell G2.out (fun h => h)
      have g3 := (HKs.out).cell G3.out (fun h => h)
      by_cases hlt : k < ls.length
      ·obtain ⟨p, ep⟩ : ∃ v, ls[k]? = some v := ⟨_, List.getElem?_eq_getElem hlt⟩
       obtain ⟨c, hc⟩ : ∃ c, linkC ⟨ver, pa, ps, pc, la, ls, lc, ea, es, ec⟩ k p = c := ⟨_, rfl⟩
       have HEP := Lib.hid ep
       have HC := Lib.hid hc
       clear ep hc
       go_wp2_with fail
       refine (RefLinkC_is ⟨ver, pa, ps, pc, la, ls, lc, ea, es, ec⟩ k p wr (HM.out.nil (HK.out.step HKs.out)) HZ.out HEP.out).mono ?_
       rintro e w2 ⟨rfl, hk2⟩
       rw [show linkC _ _ _ = _ from HC.out]
       have HK2 := Lib.hid (HKs.out.step hk2)
       clear hk2
       clear g0 g1 g2 g3
       by_cases hc0 : c = 0
       ·have fc : (c != 0) = false := by simp [hc0]
        have HN2 := Lib.hid (show ∀ (j : Nat) (q : Lk), j < k + 1 → ls[j]? = some q → linkC ⟨ver, pa, ps, pc, la, ls, lc, ea, es, ec⟩ j q = 0 from fun j q hj hq => by
         by_cases e : j = k
         ·subst e; rw [HEP.out] at hq; cases hq; rw [HC.out]; exact hc0
         ·exact HALS.out j q (by omega) hq)
        clear hc0
        go_wp2_with fail
        go_round
        case measure => (simp [intOf] <;> omega)
        exact ⟨k + 1, by omega, by go_num, by go_num, HN2.out, HK2.out⟩
       ·have fc : (c != 0) = true := by simp [hc0]
        have HN := Lib.hid (LL.out HPS.out k p c HALS.out HEP.out HC.out hc0)
        clear hc0
        go_wp2_with fail
        go_ret2
        rw [HN.out]
        exact ⟨rfl, HK.out.step HK2.out⟩
      ·obtain rfl : k = ls.length := by omega
       have HLS := Lib.hid HALS.out
       obtain ⟨wb, hwb⟩ : ∃ x, x = wr := ⟨_, rfl⟩
       subst hwb
       clear hlt hk
       go_wp2_with fail
       clear g0 g1 g2 g3
       go_loopw [4, 9] (fun n u wr => ∃ k : Nat, k ≤ es.length ∧ n = .int .i64 ((ps.length : Int) + ls.length + k) ∧ u = .int .i64 k ∧ (∀ (j : Nat) (q : Ev), j < k → es[j]? = some q → eventC ⟨ver, pa, ps, pc, la, ls, lc, ea, es, ec⟩ q = 0) ∧ Kept Nil W1 wr) (fun _ u _ => es.length - (intOf u).toNat)
       case atStart => exact ⟨0, Nat.zero_le _, by simp, rfl, fun j v h => by omega, HKs.out⟩
       case round =>
        obtain ⟨k, hk, rfl, rfl, hall, hK⟩ := hrel
        have HALE := Lib.hid hall
        have HKt := Lib.hid hK
        have hzt : w.heap.size < wr.heap.size := by have := hK.size; omega
        clear hall hK
        have g0 := (HKt.out).cell G0.out (fun h => h)
        have g1 := (HKt.out).cell G1.out (fun h => h)
        have g2 := (HKt.out).cell G2.out (fun h => h)
        have g3 := (HKt.out).cell G3.out (fun h => h)
        by_cases hlt : k < es.length
        ·obtain ⟨⟨tn, at_, val⟩, ep⟩ : ∃ v, es[k]? = some v := ⟨_, List.getElem?_eq_getElem hlt⟩
         obtain ⟨b2, off2, e1, d0, d1, d2⟩ := ((HM.out.nil (HK.out.step HKt.out)).e).at ep
         simp only at e1
         subst e1
         have hbe : b2 < wr.heap.size := World.block_lt_of_cell? _ _ d0
         have HEP := Lib.hid ep
         obtain ⟨ye, hye⟩ : ∃ y, findI (ps.map Pr.name) tn = y := ⟨_, rfl⟩
         have HYE := Lib.hid hye
         clear ep hye
         have hkt := HKt.out
         by_cases hq1 : ye < 0
         ·skip
          have fq1_0y : decide (ye < 0) = true := by first | (simp [hq1]; done) | (simp; omega) | (simp at hq1 ⊢; exact hq1) | exact hq1
          have HN := Lib.hid (show r = (4, (ps.length : Int) + ls.length + k + 1) by exact LE.out HPS.out HLS.out k _ _ HALE.out HEP.out (show eventC ⟨ver, pa, ps, pc, la, ls, lc, some ⟨b2, off2, none⟩, es, ec⟩ ⟨tn, at_, val⟩ = 4 by unfold eventC; simp only [HYE.out]; simp [*]) (by decide))
          clear hq1
          go_wp2_with (first | (go_at_call 22; (with_reducible refine (RefProc_at tn _ ?_).mono ?_); exact HM.out.nil (HK.out.step (by repeat (first | exact kzr _ _ | assumption | refine kzd ?_ | refine kzn ?_ _ | refine kza ?_ _ | refine kzs ?_ (by assumption)))); rintro e w5 ⟨rfl, hk5⟩; rw [show findI _ _ = _ from HYE.out]; obtain ⟨hc5, hf5⟩ := hk5.rules; have hz5 : wr.heap.size < w5.heap.size := (by have := hk5.size; first | omega | (simp at this; omega)); have hz6 : w.heap.size < w5.heap.size := (by omega)) | (go_at_call 61; refine (RefNumber_is val _).mono ?_; rintro e w6 ⟨rfl, rfl⟩))
          go_ret2
          rw [HN.out]
          exact ⟨rfl, HK.out.step (by repeat (first | exact kzr _ _ | assumption | refine kzd ?_ | refine kzn ?_ _ | refine kza ?_ _ | refine kzs ?_ (by assumption)))⟩
         ·skip
          have fq1_0n : decide (ye < 0) = false := by first | (simp [hq1]; done) | (simp; omega) | (simp at hq1 ⊢; exact hq1) | exact hq1
          by_cases hq2 : at_ < 0
          ·skip
           have fq2_0y : decide (at_ < 0) = true := by first | (simp [hq2]; done) | (simp; omega) | (simp at hq2 ⊢; exact hq2) | exact hq2
           have HN := Lib.hid (show r = (23, (ps.length : Int) + ls.length + k + 1) by exact LE.out HPS.out HLS.out k _ _ HALE.out HEP.out (show eventC ⟨ver, pa, ps, pc, la, ls, lc, some ⟨b2, off2, none⟩, es, ec⟩ ⟨tn, at_, val⟩ = 23 by unfold eventC; simp only [HYE.out]; simp [*]) (by decide))
           clear hq1 hq2
           go_wp2_with (first | (go_at_call 22; (with_reducible refine (RefProc_at tn _ ?_).mono ?_); exact HM.out.nil (HK.out.step (by repeat (first | exact kzr _ _ | assumption | refine kzd ?_ | refine kzn ?_ _ | refine kza ?_ _ | refine kzs ?_ (by assumption)))); rintro e w5 ⟨rfl, hk5⟩; rw [show findI _ _ = _ from HYE.out]; obtain ⟨hc5, hf5⟩ := hk5.rules; have hz5 : wr.heap.size < w5.heap.size := (by have := hk5.size; first | omega | (simp at this; omega)); have hz6 : w.heap.size < w5.heap.size := (by omega)) | (go_at_call 61; refine (RefNumber_is val _).mono ?_; rintro e w6 ⟨rfl, rfl⟩))
           go_ret2
           rw [HN.out]
           exact ⟨rfl, HK.out.step (by repeat (first | exact kzr _ _ | assumption | refine kzd ?_ | refine kzn ?_ _ | refine kza ?_ _ | refine kzs ?_ (by assumption)))⟩
          ·skip
           have fq2_0n : decide (at_ < 0) = false := by first | (simp [hq2]; done) | (simp; omega) | (simp at hq2 ⊢; exact hq2) | exact hq2
           by_cases hq3 : 1099511627776 < at_
           ·skip
            have fq3_0y : decide (1099511627776 < at_) = true := by first | (simp [hq3]; done) | (simp; omega) | (simp at hq3 ⊢; exact hq3) | exact hq3
            have HN := Lib.hid (show r = (23, (ps.length : Int) + ls.length + k + 1) by exact LE.out HPS.out HLS.out k _ _ HALE.out HEP.out (show eventC ⟨ver, pa, ps, pc, la, ls, lc, some ⟨b2, off2, none⟩, es, ec⟩ ⟨tn, at_, val⟩ = 23 by unfold eventC; simp only [HYE.out]; simp [*]) (by decide))
            clear hq1 hq2 hq3
            go_wp2_with (first | (go_at_call 22; (with_reducible refine (RefProc_at tn _ ?_).mono ?_); exact HM.out.nil (HK.out.step (by repeat (first | exact kzr _ _ | assumption | refine kzd ?_ | refine kzn ?_ _ | refine kza ?_ _ | refine kzs ?_ (by assumption)))); rintro e w5 ⟨rfl, hk5⟩; rw [show findI _ _ = _ from HYE.out]; obtain ⟨hc5, hf5⟩ := hk5.rules; have hz5 : wr.heap.size < w5.heap.size := (by have := hk5.size; first | omega | (simp at this; omega)); have hz6 : w.heap.size < w5.heap.size := (by omega)) | (go_at_call 61; refine (RefNumber_is val _).mono ?_; rintro e w6 ⟨rfl, rfl⟩))
            go_ret2
            rw [HN.out]
            exact ⟨rfl, HK.out.step (by repeat (first | exact kzr _ _ | assumption | refine kzd ?_ | refine kzn ?_ _ | refine kza ?_ _ | refine kzs ?_ (by assumption)))⟩
           ·skip
            have fq3_0n : decide (1099511627776 < at_) = false := by first | (simp [hq3]; done) | (simp; omega) | (simp at hq3 ⊢; exact hq3) | exact hq3
            by_cases hq4 : numB val = true
            ·skip
             have fq4_0y : numB val = true := by first | (simp [hq4]; done) | (simp; omega) | (simp at hq4 ⊢; exact hq4) | exact hq4
             have HN2 := Lib.hid (show ∀ (j : Nat) (q : Ev), j < k + 1 → es[j]? = some q → eventC ⟨ver, pa, ps, pc, la, ls, lc, some ⟨b2, off2, none⟩, es, ec⟩ q = 0 from fun j q hj hq => by
              by_cases e : j = k
              ·subst e; rw [HEP.out] at hq; cases hq; unfold eventC; simp only [HYE.out]; simp [*]
              ·exact HALE.out j q (by omega) hq)
             have HN := Lib.hid (show r = r by rfl)
             clear hq1 hq2 hq3 hq4
             go_wp2_with (first | (go_at_call 22; (with_reducible refine (RefProc_at tn _ ?_).mono ?_); exact HM.out.nil (HK.out.step (by repeat (first | exact kzr _ _ | assumption | refine kzd ?_ | refine kzn ?_ _ | refine kza ?_ _ | refine kzs ?_ (by assumption)))); rintro e w5 ⟨rfl, hk5⟩; rw [show findI _ _ = _ from HYE.out]; obtain ⟨hc5, hf5⟩ := hk5.rules; have hz5 : wr.heap.size < w5.heap.size := (by have := hk5.size; first | omega | (simp at this; omega)); have hz6 : w.heap.size < w5.heap.size := (by omega)) | (go_at_call 61; refine (RefNumber_is val _).mono ?_; rintro e w6 ⟨rfl, rfl⟩))
             go_round
             case measure => (simp [intOf] <;> omega)
             exact ⟨k + 1, by omega, by go_num, by go_num, HN2.out, (by repeat (first | exact kzr _ _ | assumption | refine kzd ?_ | refine kzn ?_ _ | refine kza ?_ _ | refine kzs ?_ (by assumption)))⟩
            ·skip
             have fq4_0n : numB val = false := by first | (simp [hq4]; done) | (simp; omega) | (simp at hq4 ⊢; exact hq4) | exact hq4
             have HN := Lib.hid (show r = (23, (ps.length : Int) + ls.length + k + 1) by exact LE.out HPS.out HLS.out k _ _ HALE.out HEP.out (show eventC ⟨ver, pa, ps, pc, la, ls, lc, some ⟨b2, off2, none⟩, es, ec⟩ ⟨tn, at_, val⟩ = 23 by unfold eventC; simp only [HYE.out]; simp [*]) (by decide))
             clear hq1 hq2 hq3 hq4
             go_wp2_with (first | (go_at_call 22; (with_reducible refine (RefProc_at tn _ ?_).mono ?_); exact HM.out.nil (HK.out.step (by repeat (first | exact kzr _ _ | assumption | refine kzd ?_ | refine kzn ?_ _ | refine kza ?_ _ | refine kzs ?_ (by assumption)))); rintro e w5 ⟨rfl, hk5⟩; rw [show findI _ _ = _ from HYE.out]; obtain ⟨hc5, hf5⟩ := hk5.rules; have hz5 : wr.heap.size < w5.heap.size := (by have := hk5.size; first | omega | (simp at this; omega)); have hz6 : w.heap.size < w5.heap.size := (by omega)) | (go_at_call 61; refine (RefNumber_is val _).mono ?_; rintro e w6 ⟨rfl, rfl⟩))
             go_ret2
             rw [HN.out]
             exact ⟨rfl, HK.out.step (by repeat (first | exact kzr _ _ | assumption | refine kzd ?_ | refine kzn ?_ _ | refine kza ?_ _ | refine kzs ?_ (by assumption)))⟩
        ·obtain rfl : k = es.length := by omega
         have HN := Lib.hid (LO.out HPS.out HLS.out HALE.out)
         clear hlt hk
         go_wp2_with fail
         go_ret2
         rw [HN.out]
         exact ⟨rfl, HK.out.step HKt.out⟩
end Go.Proofs.YtniocgnfgpaioaaGreat.Mo
end
section
namespace Go.Proofs.YtniocgnfgpaioaaGreat.Mo
open Go Go.RowKit Go.Proofs.YtniocgnfgpaioaaGreat.Lb

theorem cell_nil {w w' : World} {p : Addr} {v : Value} (hk : Kept Nil w w') (h : w.cell? p = some v) : w'.cell? p = some v := hk.cell h (fun h => h)
theorem rprocs_nil {w w' : World} {A : Option Addr} {ps : List Pr} (hk : Kept Nil w w') (h : RProcs w A ps) : RProcs w' A ps := by
 rcases h with e | ⟨b, off, e, hc⟩
 ·exact .inl e
 ·exact .inr ⟨b, off, e, fun j p hj => by obtain ⟨h1, h2, h3, h4⟩ := hc j p hj; exact ⟨hk.cell h1 (fun h => h), hk.cell h2 (fun h => h), hk.cell h3 (fun h => h), hk.cell h4 (fun h => h)⟩⟩
theorem NamesV_is (a b c d : Value) (ha : a.oneCell' = true) (hb : b.oneCell' = true) (hc : c.oneCell' = true) (hd : d.oneCell' = true) (A1 A2 A3 : Option Addr) (n1 n2 n3 c1 c2 c3 : Nat) (v : Int) (ea : a = .int .i64 v) (eb : b = .slice A1 n1 c1) (ec : c = .slice A2 n2 c2) (ed : d = .slice A3 n3 c3) (w : World) :
  Calls Tryz.prog 49 #[.agg #[a, b, c, d]] w fun e w' => e = .returned (.func (.func 83) #[] #[.pointer (some ⟨w.heap.size, 0, none⟩)]) ∧ w' = w.alloc (.cells #[a, b, c, d] 26) := by
 subst ea eb ec ed
 clear ha hb hc hd
 go_enter Tryz.func49, Tryz.ntmps49
 go_wp2
 go_ret
 exact ⟨rfl, rfl⟩
theorem names_bare (ps : List Pr) (A : Option Addr) (cap : Nat) (ver : Int) : mdNames ⟨ver, A, ps.map bareP, cap, none, [], 0, none, [], 0⟩ = ps.map Pr.name := by
 unfold mdNames
 simp only [List.map_nil, List.append_nil]
 induction ps with
 | nil => rfl
 | cons p ps ih => simp [List.flatMap_cons, prNames, bareP] at ih ⊢; exact ih
theorem names_links (ls : List Lk) (A : Option Addr) (cap : Nat) (ver : Int) : mdNames ⟨ver, none, [], 0, A, ls, cap, none, [], 0⟩ = ls.map Lk.name := by
 unfold mdNames; simp
theorem NamesBox_is (v : Int) (A1 A2 A3 : Option Addr) (n1 n2 n3 c1 c2 c3 : Nat) (w : World) :
  Calls Tryz.prog 49 #[.agg #[.int .i64 v, .slice A1 n1 c1, .slice A2 n2 c2, .slice A3 n3 c3]] w fun e w' => ∃ b, e = .returned (.func (.func 83) #[] #[.pointer (some ⟨b, 0, none⟩)]) ∧ w'.cell? ⟨b, 1, none⟩ = some (.slice A1 n1 c1) ∧ w'.cell? ⟨b, 2, none⟩ = some (.slice A2 n2 c2) ∧ Kept Nil w w' := by
 refine (NamesV_is _ _ _ _ rfl rfl rfl rfl A1 A2 A3 n1 n2 n3 c1 c2 c3 v rfl rfl rfl rfl w).mono ?_
 rintro e w' ⟨rfl, rfl⟩
 exact ⟨_, rfl, by simp, by simp, (Kept.refl Nil w).alloc _⟩
theorem IndexB_is (ps : List Pr) (A : Option Addr) (cap Bx : Nat) (w : World) (h1 : w.cell? ⟨Bx, 1, none⟩ = some (.slice A ps.length cap)) (h2 : w.cell? ⟨Bx, 2, none⟩ = some (.slice none 0 0)) (hr : RProcs w A (ps.map bareP)) (hsz : ∀ p ∈ ps, p.name.size ≤ maxLen) (hl : ps.length ≤ 4096) :
  Calls Tryz.prog 48 #[.func (.func 83) #[] #[.pointer (some ⟨Bx, 0, none⟩)]] w fun e w' => ∃ b, e = .returned (.map (some b)) ∧ (∃ k, IxS Tryz.prog 9 3 b k (ixF (ps.map Pr.name)) w') ∧ Kept Nil w w' := by
 have hn := names_bare ps A cap 0
 have hml : ps.length ≤ maxLen := by unfold maxLen; omega
 refine (index_is ⟨0, A, ps.map bareP, cap, none, [], 0, none, [], 0⟩ Bx w (by simpa using h1) (by simpa using h2) ⟨hr, ?_, .inl rfl, .inl rfl, by simp; omega, by simp, by simp⟩ ?_ (by simp; omega) (by simp) ?_ (by rw [hn]; simp; omega)).mono ?_
 ·intro q hq
  obtain ⟨p, -, rfl⟩ := List.mem_map.1 hq
  exact ⟨.inl rfl, .inl rfl, by simp [bareP], by simp [bareP], by simp [bareP]⟩
 ·rw [hn]
  intro s hs
  obtain ⟨p, hp, rfl⟩ := List.mem_map.1 hs
  exact hsz p hp
 ·intro q hq
  obtain ⟨p, -, rfl⟩ := List.mem_map.1 hq
  simp [bareP]
 ·rintro e w' ⟨rfl, hix, hk⟩
  rw [hn] at hix
  exact ⟨_, rfl, ⟨_, hix⟩, hk⟩
theorem IndexL_is (ls : List Lk) (A : Option Addr) (cap Bx : Nat) (w : World) (h1 : w.cell? ⟨Bx, 1, none⟩ = some (.slice none 0 0)) (h2 : w.cell? ⟨Bx, 2, none⟩ = some (.slice A ls.length cap)) (hr : RLinks w A ls) (hsz : ∀ l ∈ ls, l.name.size ≤ maxLen) (hl : ls.length ≤ 16384) :
  Calls Tryz.prog 48 #[.func (.func 83) #[] #[.pointer (some ⟨Bx, 0, none⟩)]] w fun e w' => ∃ b, e = .returned (.map (some b)) ∧ (∃ k, IxS Tryz.prog 9 3 b k (ixF (ls.map Lk.name)) w') ∧ Kept Nil w w' := by
 have hn := names_links ls A cap 0
 have hml : ls.length ≤ maxLen := by unfold maxLen; omega
 refine (index_is ⟨0, none, [], 0, A, ls, cap, none, [], 0⟩ Bx w (by simpa using h1) (by simpa using h2) ⟨.inl rfl, by simp, hr, .inl rfl, by simp, by simp; omega, by simp⟩ ?_ (by simp) (by simp; omega) (by simp) (by rw [hn]; simp; omega)).mono ?_
 ·rw [hn]
  intro s hs
  obtain ⟨p, hp, rfl⟩ := List.mem_map.1 hs
  exact hsz p hp
 ·rintro e w' ⟨rfl, hix, hk⟩
  rw [hn] at hix
  exact ⟨_, rfl, ⟨_, hix⟩, hk⟩
end Go.Proofs.YtniocgnfgpaioaaGreat.Mo
end
