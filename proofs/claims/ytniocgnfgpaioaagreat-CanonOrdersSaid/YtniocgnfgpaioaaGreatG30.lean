/- The walks of the reference's link and Check (layer 15). -/
import Derived.Test.YtniocgnfgpaioaaGreatG29
set_option linter.unusedVariables false
set_option linter.unusedSimpArgs false
namespace Go.Proofs.YtniocgnfgpaioaaGreat.Mo
open Go Go.RowKit Go.Proofs.YtniocgnfgpaioaaGreat.Lb

theorem RefProc_at {ver : Int} {pa : Option Addr} {ps : List Pr} {pc : Nat} {la : Option Addr} {ls : List Lk} {lc : Nat} {ea : Option Addr} {es : List Ev} {ec : Nat} (s : ByteArray) (w : World) (hr : RModel w ⟨ver, pa, ps, pc, la, ls, lc, ea, es, ec⟩) :
  Calls Tryz.prog 22 #[.agg #[.int .i64 ver, .slice pa ps.length pc, .slice la ls.length lc, .slice ea es.length ec], .string s] w fun e w' => e = .returned (.int .i64 (findI (ps.map Pr.name) s)) ∧ Kept Nil w w' := RefProc_is ⟨ver, pa, ps, pc, la, ls, lc, ea, es, ec⟩ s w hr
set_option maxRecDepth 4000 in
set_option maxHeartbeats 8000000 in
theorem RefLinkC_is (m : Md) (i : Nat) (l : Lk) (w : World) (hm : RModel w m) (hs : SzM m) (hi : m.ls[i]? = some l) : Calls Tryz.prog 60 #[m.val, .int .i64 (i : Int)] w fun e w' => e = .returned (.int .i64 (linkC m i l)) ∧ Kept Nil w w' := by
 obtain ⟨r, hr⟩ : ∃ r, linkC m i l = r := ⟨_, rfl⟩
 rw [hr]
 have HR := Lib.hid hr
 have HM := Lib.hid hm
 have HZ := Lib.hid (hs.ln l (List.mem_of_getElem? hi))
 have hpl := hm.ll
 unfold maxLen at hpl
 have hil : i < m.ls.length := (List.getElem?_eq_some_iff.1 hi).1
 obtain ⟨b, off, e1, c0, c1, c2, c3, c4⟩ := hm.l.at hi
 have hbl : b < w.heap.size := World.block_lt_of_cell? _ _ c0
 have HE1 := Lib.hid e1
 clear hr hm hs hi e1
 obtain ⟨ver, pa, ps, pc, la, ls, lc, ea, es, ec⟩ := m
 have e2 := HE1.out
 simp only at e2
 subst e2
 obtain ⟨name, src, dst, delay, weight⟩ := l
 unfold Md.val
 simp only at *
 obtain ⟨y, hy⟩ : ∃ y, findI (ls.map Lk.name) name = y := ⟨_, rfl⟩
 have HY := Lib.hid hy
 obtain ⟨ys, hys⟩ : ∃ y, findI (ps.map Pr.name) src = y := ⟨_, rfl⟩
 have HYS := Lib.hid hys
 obtain ⟨yd, hyd⟩ : ∃ y, findI (ps.map Pr.name) dst = y := ⟨_, rfl⟩
 have HYD := Lib.hid hyd
 obtain ⟨t, ht⟩ : ∃ t, wtB ver weight = t := ⟨_, rfl⟩
 have HT := Lib.hid ht
 obtain ⟨cn, hcn⟩ : ∃ cn, nameC name = cn := ⟨_, rfl⟩
 have HCN := Lib.hid hcn
 clear hy hys hyd ht hcn
 have hk0 : Kept Nil w ((w.alloc (.cells #[.int .i64 ver, .slice pa ps.length pc, .slice (some ⟨b, off, none⟩) ls.length lc, .slice ea es.length ec] 26)).alloc (.cells #[.string name, .string src, .string dst, .int .i64 delay, .int .i64 weight] 42)) := ((Kept.refl Nil w).alloc _).alloc _
 by_cases hq1 : rightName name = true
 ·skip
  obtain rfl : cn = 0 := by rw [← HCN.out]; exact nameC_yes (by assumption)
  by_cases hq2 : y = (i : Int)
  ·skip
   have fq2_0y : (y != (i : Int)) = false := by first | (simp [hq2]; done) | (simp; omega) | (simp at hq2 ⊢; exact hq2) | exact hq2
   by_cases hq3 : ys < 0
   ·skip
    have fq3_0y : decide (ys < 0) = true := by first | (simp [hq3]; done) | (simp; omega) | (simp at hq3 ⊢; exact hq3) | exact hq3
    have HN := Lib.hid (show r = 4 by rw [← HR.out]; unfold linkC; simp only [HY.out, HYS.out, HYD.out, HT.out]; simp [*])
    clear hq1 hq2 hq3
    go_enter Tryz.func60, Tryz.ntmps60
    go_wp2_with (first | (go_at_call 94; refine (RefCheck_is name _ HZ.out).mono ?_; rintro e w1 ⟨rfl, rfl⟩; rw [HCN.out]) | (go_at_call 98; refine (RefLink_is ⟨ver, pa, ps, pc, some ⟨b, off, none⟩, ls, lc, ea, es, ec⟩ name _ (HM.out.nil (by repeat (first | exact kzr _ _ | assumption | refine kzd ?_ | refine kzn ?_ _ | refine kza ?_ _ | refine kzs ?_ (by assumption))))).mono ?_; rintro e w1 ⟨rfl, hk1⟩; rw [show findI _ _ = _ from HY.out]; obtain ⟨hc1, hf1⟩ := hk1.rules; have hz1_0 : w.heap.size < w1.heap.size := (by have := hk1.size; first | omega | (simp at this; omega)); have hz1_1 : w.heap.size + 1 < w1.heap.size := (by have := hk1.size; first | omega | (simp at this; omega))) | (go_at_call 22; (with_reducible refine (RefProc_at src _ ?_).mono ?_); exact HM.out.nil (by repeat (first | exact kzr _ _ | assumption | refine kzd ?_ | refine kzn ?_ _ | refine kza ?_ _ | refine kzs ?_ (by assumption))); rintro e w2 ⟨rfl, hk2⟩; rw [show findI _ _ = _ from HYS.out]; obtain ⟨hc2, hf2⟩ := hk2.rules; have hz2_0 : w.heap.size < w2.heap.size := (by have := hk2.size; first | omega | (simp at this; omega)); have hz2_1 : w.heap.size + 1 < w2.heap.size := (by have := hk2.size; first | omega | (simp at this; omega))) | (go_at_call 22; (with_reducible refine (RefProc_at dst _ ?_).mono ?_); exact HM.out.nil (by repeat (first | exact kzr _ _ | assumption | refine kzd ?_ | refine kzn ?_ _ | refine kza ?_ _ | refine kzs ?_ (by assumption))); rintro e w3 ⟨rfl, hk3⟩; rw [show findI _ _ = _ from HYD.out]; obtain ⟨hc3, hf3⟩ := hk3.rules; have hz3_0 : w.heap.size < w3.heap.size := (by have := hk3.size; first | omega | (simp at this; omega)); have hz3_1 : w.heap.size + 1 < w3.heap.size := (by have := hk3.size; first | omega | (simp at this; omega))) | (go_at_call 95; refine (RefWeight_is ⟨ver, pa, ps, pc, some ⟨b, off, none⟩, ls, lc, ea, es, ec⟩ weight _).mono ?_; rintro e w4 ⟨rfl, hk4⟩; rw [show wtB _ _ = _ from HT.out]; obtain ⟨hc4, hf4⟩ := hk4.rules; have hz4_0 : w.heap.size < w4.heap.size := (by have := hk4.size; first | omega | (simp at this; omega)); have hz4_1 : w.heap.size + 1 < w4.heap.size := (by have := hk4.size; first | omega | (simp at this; omega))))
    go_ret
    exact ⟨by rw [HN.out]; rfl, (by repeat (first | exact kzr _ _ | assumption | refine kzd ?_ | refine kzn ?_ _ | refine kza ?_ _ | refine kzs ?_ (by assumption)))⟩
   ·skip
    have fq3_0n : decide (ys < 0) = false := by first | (simp [hq3]; done) | (simp; omega) | (simp at hq3 ⊢; exact hq3) | exact hq3
    by_cases hq4 : yd < 0
    ·skip
     have fq4_0y : decide (yd < 0) = true := by first | (simp [hq4]; done) | (simp; omega) | (simp at hq4 ⊢; exact hq4) | exact hq4
     have HN := Lib.hid (show r = 4 by rw [← HR.out]; unfold linkC; simp only [HY.out, HYS.out, HYD.out, HT.out]; simp [*])
     clear hq1 hq2 hq3 hq4
     go_enter Tryz.func60, Tryz.ntmps60
     go_wp2_with (first | (go_at_call 94; refine (RefCheck_is name _ HZ.out).mono ?_; rintro e w1 ⟨rfl, rfl⟩; rw [HCN.out]) | (go_at_call 98; refine (RefLink_is ⟨ver, pa, ps, pc, some ⟨b, off, none⟩, ls, lc, ea, es, ec⟩ name _ (HM.out.nil (by repeat (first | exact kzr _ _ | assumption | refine kzd ?_ | refine kzn ?_ _ | refine kza ?_ _ | refine kzs ?_ (by assumption))))).mono ?_; rintro e w1 ⟨rfl, hk1⟩; rw [show findI _ _ = _ from HY.out]; obtain ⟨hc1, hf1⟩ := hk1.rules; have hz1_0 : w.heap.size < w1.heap.size := (by have := hk1.size; first | omega | (simp at this; omega)); have hz1_1 : w.heap.size + 1 < w1.heap.size := (by have := hk1.size; first | omega | (simp at this; omega))) | (go_at_call 22; (with_reducible refine (RefProc_at src _ ?_).mono ?_); exact HM.out.nil (by repeat (first | exact kzr _ _ | assumption | refine kzd ?_ | refine kzn ?_ _ | refine kza ?_ _ | refine kzs ?_ (by assumption))); rintro e w2 ⟨rfl, hk2⟩; rw [show findI _ _ = _ from HYS.out]; obtain ⟨hc2, hf2⟩ := hk2.rules; have hz2_0 : w.heap.size < w2.heap.size := (by have := hk2.size; first | omega | (simp at this; omega)); have hz2_1 : w.heap.size + 1 < w2.heap.size := (by have := hk2.size; first | omega | (simp at this; omega))) | (go_at_call 22; (with_reducible refine (RefProc_at dst _ ?_).mono ?_); exact HM.out.nil (by repeat (first | exact kzr _ _ | assumption | refine kzd ?_ | refine kzn ?_ _ | refine kza ?_ _ | refine kzs ?_ (by assumption))); rintro e w3 ⟨rfl, hk3⟩; rw [show findI _ _ = _ from HYD.out]; obtain ⟨hc3, hf3⟩ := hk3.rules; have hz3_0 : w.heap.size < w3.heap.size := (by have := hk3.size; first | omega | (simp at this; omega)); have hz3_1 : w.heap.size + 1 < w3.heap.size := (by have := hk3.size; first | omega | (simp at this; omega))) | (go_at_call 95; refine (RefWeight_is ⟨ver, pa, ps, pc, some ⟨b, off, none⟩, ls, lc, ea, es, ec⟩ weight _).mono ?_; rintro e w4 ⟨rfl, hk4⟩; rw [show wtB _ _ = _ from HT.out]; obtain ⟨hc4, hf4⟩ := hk4.rules; have hz4_0 : w.heap.size < w4.heap.size := (by have := hk4.size; first | omega | (simp at this; omega)); have hz4_1 : w.heap.size + 1 < w4.heap.size := (by have := hk4.size; first | omega | (simp at this; omega))))
     go_ret
     exact ⟨by rw [HN.out]; rfl, (by repeat (first | exact kzr _ _ | assumption | refine kzd ?_ | refine kzn ?_ _ | refine kza ?_ _ | refine kzs ?_ (by assumption)))⟩
    ·skip
     have fq4_0n : decide (yd < 0) = false := by first | (simp [hq4]; done) | (simp; omega) | (simp at hq4 ⊢; exact hq4) | exact hq4
     by_cases hq5 : delay < 1
     ·skip
      have fq5_0y : decide (delay < 1) = true := by first | (simp [hq5]; done) | (simp; omega) | (simp at hq5 ⊢; exact hq5) | exact hq5
      have HN := Lib.hid (show r = 42 by rw [← HR.out]; unfold linkC; simp only [HY.out, HYS.out, HYD.out, HT.out]; simp [*])
      clear hq1 hq2 hq3 hq4 hq5
      go_enter Tryz.func60, Tryz.ntmps60
      go_wp2_with (first | (go_at_call 94; refine (RefCheck_is name _ HZ.out).mono ?_; rintro e w1 ⟨rfl, rfl⟩; rw [HCN.out]) | (go_at_call 98; refine (RefLink_is ⟨ver, pa, ps, pc, some ⟨b, off, none⟩, ls, lc, ea, es, ec⟩ name _ (HM.out.nil (by repeat (first | exact kzr _ _ | assumption | refine kzd ?_ | refine kzn ?_ _ | refine kza ?_ _ | refine kzs ?_ (by assumption))))).mono ?_; rintro e w1 ⟨rfl, hk1⟩; rw [show findI _ _ = _ from HY.out]; obtain ⟨hc1, hf1⟩ := hk1.rules; have hz1_0 : w.heap.size < w1.heap.size := (by have := hk1.size; first | omega | (simp at this; omega)); have hz1_1 : w.heap.size + 1 < w1.heap.size := (by have := hk1.size; first | omega | (simp at this; omega))) | (go_at_call 22; (with_reducible refine (RefProc_at src _ ?_).mono ?_); exact HM.out.nil (by repeat (first | exact kzr _ _ | assumption | refine kzd ?_ | refine kzn ?_ _ | refine kza ?_ _ | refine kzs ?_ (by assumption))); rintro e w2 ⟨rfl, hk2⟩; rw [show findI _ _ = _ from HYS.out]; obtain ⟨hc2, hf2⟩ := hk2.rules; have hz2_0 : w.heap.size < w2.heap.size := (by have := hk2.size; first | omega | (simp at this; omega)); have hz2_1 : w.heap.size + 1 < w2.heap.size := (by have := hk2.size; first | omega | (simp at this; omega))) | (go_at_call 22; (with_reducible refine (RefProc_at dst _ ?_).mono ?_); exact HM.out.nil (by repeat (first | exact kzr _ _ | assumption | refine kzd ?_ | refine kzn ?_ _ | refine kza ?_ _ | refine kzs ?_ (by assumption))); rintro e w3 ⟨rfl, hk3⟩; rw [show findI _ _ = _ from HYD.out]; obtain ⟨hc3, hf3⟩ := hk3.rules; have hz3_0 : w.heap.size < w3.heap.size := (by have := hk3.size; first | omega | (simp at this; omega)); have hz3_1 : w.heap.size + 1 < w3.heap.size := (by have := hk3.size; first | omega | (simp at this; omega))) | (go_at_call 95; refine (RefWeight_is ⟨ver, pa, ps, pc, some ⟨b, off, none⟩, ls, lc, ea, es, ec⟩ weight _).mono ?_; rintro e w4 ⟨rfl, hk4⟩; rw [show wtB _ _ = _ from HT.out]; obtain ⟨hc4, hf4⟩ := hk4.rules; have hz4_0 : w.heap.size < w4.heap.size := (by have := hk4.size; first | omega | (simp at this; omega)); have hz4_1 : w.heap.size + 1 < w4.heap.size := (by have := hk4.size; first | omega | (simp at this; omega))))
      go_ret
      exact ⟨by rw [HN.out]; rfl, (by repeat (first | exact kzr _ _ | assumption | refine kzd ?_ | refine kzn ?_ _ | refine kza ?_ _ | refine kzs ?_ (by assumption)))⟩
     ·skip
      have fq5_0n : decide (delay < 1) = false := by first | (simp [hq5]; done) | (simp; omega) | (simp at hq5 ⊢; exact hq5) | exact hq5
      by_cases hq6 : 1099511627776 < delay
      ·skip
       have fq6_0y : decide (1099511627776 < delay) = true := by first | (simp [hq6]; done) | (simp; omega) | (simp at hq6 ⊢; exact hq6) | exact hq6
       have HN := Lib.hid (show r = 42 by rw [← HR.out]; unfold linkC; simp only [HY.out, HYS.out, HYD.out, HT.out]; simp [*])
       clear hq1 hq2 hq3 hq4 hq5 hq6
       go_enter Tryz.func60, Tryz.ntmps60
       go_wp2_with (first | (go_at_call 94; refine (RefCheck_is name _ HZ.out).mono ?_; rintro e w1 ⟨rfl, rfl⟩; rw [HCN.out]) | (go_at_call 98; refine (RefLink_is ⟨ver, pa, ps, pc, some ⟨b, off, none⟩, ls, lc, ea, es, ec⟩ name _ (HM.out.nil (by repeat (first | exact kzr _ _ | assumption | refine kzd ?_ | refine kzn ?_ _ | refine kza ?_ _ | refine kzs ?_ (by assumption))))).mono ?_; rintro e w1 ⟨rfl, hk1⟩; rw [show findI _ _ = _ from HY.out]; obtain ⟨hc1, hf1⟩ := hk1.rules; have hz1_0 : w.heap.size < w1.heap.size := (by have := hk1.size; first | omega | (simp at this; omega)); have hz1_1 : w.heap.size + 1 < w1.heap.size := (by have := hk1.size; first | omega | (simp at this; omega))) | (go_at_call 22; (with_reducible refine (RefProc_at src _ ?_).mono ?_); exact HM.out.nil (by repeat (first | exact kzr _ _ | assumption | refine kzd ?_ | refine kzn ?_ _ | refine kza ?_ _ | refine kzs ?_ (by assumption))); rintro e w2 ⟨rfl, hk2⟩; rw [show findI _ _ = _ from HYS.out]; obtain ⟨hc2, hf2⟩ := hk2.rules; have hz2_0 : w.heap.size < w2.heap.size := (by have := hk2.size; first | omega | (simp at this; omega)); have hz2_1 : w.heap.size + 1 < w2.heap.size := (by have := hk2.size; first | omega | (simp at this; omega))) | (go_at_call 22; (with_reducible refine (RefProc_at dst _ ?_).mono ?_); exact HM.out.nil (by repeat (first | exact kzr _ _ | assumption | refine kzd ?_ | refine kzn ?_ _ | refine kza ?_ _ | refine kzs ?_ (by assumption))); rintro e w3 ⟨rfl, hk3⟩; rw [show findI _ _ = _ from HYD.out]; obtain ⟨hc3, hf3⟩ := hk3.rules; have hz3_0 : w.heap.size < w3.heap.size := (by have := hk3.size; first | omega | (simp at this; omega)); have hz3_1 : w.heap.size + 1 < w3.heap.size := (by have := hk3.size; first | omega | (simp at this; omega))) | (go_at_call 95; refine (RefWeight_is ⟨ver, pa, ps, pc, some ⟨b, off, none⟩, ls, lc, ea, es, ec⟩ weight _).mono ?_; rintro e w4 ⟨rfl, hk4⟩; rw [show wtB _ _ = _ from HT.out]; obtain ⟨hc4, hf4⟩ := hk4.rules; have hz4_0 : w.heap.size < w4.heap.size := (by have := hk4.size; first | omega | (simp at this; omega)); have hz4_1 : w.heap.size + 1 < w4.heap.size := (by have := hk4.size; first | omega | (simp at this; omega))))
       go_ret
       exact ⟨by rw [HN.out]; rfl, (by repeat (first | exact kzr _ _ | assumption | refine kzd ?_ | refine kzn ?_ _ | refine kza ?_ _ | refine kzs ?_ (by assumption)))⟩
      ·skip
       have fq6_0n : decide (1099511627776 < delay) = false := by first | (simp [hq6]; done) | (simp; omega) | (simp at hq6 ⊢; exact hq6) | exact hq6
       by_cases hq7 : t = true
       ·skip
        have fq7_0y : t = true := by first | (simp [hq7]; done) | (simp; omega) | (simp at hq7 ⊢; exact hq7) | exact hq7
        have HN := Lib.hid (show r = 0 by rw [← HR.out]; unfold linkC; simp only [HY.out, HYS.out, HYD.out, HT.out]; simp [*])
        clear hq1 hq2 hq3 hq4 hq5 hq6 hq7
        go_enter Tryz.func60, Tryz.ntmps60
        go_wp2_with (first | (go_at_call 94; refine (RefCheck_is name _ HZ.out).mono ?_; rintro e w1 ⟨rfl, rfl⟩; rw [HCN.out]) | (go_at_call 98; refine (RefLink_is ⟨ver, pa, ps, pc, some ⟨b, off, none⟩, ls, lc, ea, es, ec⟩ name _ (HM.out.nil (by repeat (first | exact kzr _ _ | assumption | refine kzd ?_ | refine kzn ?_ _ | refine kza ?_ _ | refine kzs ?_ (by assumption))))).mono ?_; rintro e w1 ⟨rfl, hk1⟩; rw [show findI _ _ = _ from HY.out]; obtain ⟨hc1, hf1⟩ := hk1.rules; have hz1_0 : w.heap.size < w1.heap.size := (by have := hk1.size; first | omega | (simp at this; omega)); have hz1_1 : w.heap.size + 1 < w1.heap.size := (by have := hk1.size; first | omega | (simp at this; omega))) | (go_at_call 22; (with_reducible refine (RefProc_at src _ ?_).mono ?_); exact HM.out.nil (by repeat (first | exact kzr _ _ | assumption | refine kzd ?_ | refine kzn ?_ _ | refine kza ?_ _ | refine kzs ?_ (by assumption))); rintro e w2 ⟨rfl, hk2⟩; rw [show findI _ _ = _ from HYS.out]; obtain ⟨hc2, hf2⟩ := hk2.rules; have hz2_0 : w.heap.size < w2.heap.size := (by have := hk2.size; first | omega | (simp at this; omega)); have hz2_1 : w.heap.size + 1 < w2.heap.size := (by have := hk2.size; first | omega | (simp at this; omega))) | (go_at_call 22; (with_reducible refine (RefProc_at dst _ ?_).mono ?_); exact HM.out.nil (by repeat (first | exact kzr _ _ | assumption | refine kzd ?_ | refine kzn ?_ _ | refine kza ?_ _ | refine kzs ?_ (by assumption))); rintro e w3 ⟨rfl, hk3⟩; rw [show findI _ _ = _ from HYD.out]; obtain ⟨hc3, hf3⟩ := hk3.rules; have hz3_0 : w.heap.size < w3.heap.size := (by have := hk3.size; first | omega | (simp at this; omega)); have hz3_1 : w.heap.size + 1 < w3.heap.size := (by have := hk3.size; first | omega | (simp at this; omega))) | (go_at_call 95; refine (RefWeight_is ⟨ver, pa, ps, pc, some ⟨b, off, none⟩, ls, lc, ea, es, ec⟩ weight _).mono ?_; rintro e w4 ⟨rfl, hk4⟩; rw [show wtB _ _ = _ from HT.out]; obtain ⟨hc4, hf4⟩ := hk4.rules; have hz4_0 : w.heap.size < w4.heap.size := (by have := hk4.size; first | omega | (simp at this; omega)); have hz4_1 : w.heap.size + 1 < w4.heap.size := (by have := hk4.size; first | omega | (simp at this; omega))))
        go_ret
        exact ⟨by rw [HN.out]; rfl, (by repeat (first | exact kzr _ _ | assumption | refine kzd ?_ | refine kzn ?_ _ | refine kza ?_ _ | refine kzs ?_ (by assumption)))⟩
       ·skip
        have fq7_0n : t = false := by first | (simp [hq7]; done) | (simp; omega) | (simp at hq7 ⊢; exact hq7) | exact hq7
        have HN := Lib.hid (show r = 41 by rw [← HR.out]; unfold linkC; simp only [HY.out, HYS.out, HYD.out, HT.out]; simp [*])
        clear hq1 hq2 hq3 hq4 hq5 hq6 hq7
        go_enter Tryz.func60, Tryz.ntmps60
        go_wp2_with (first | (go_at_call 94; refine (RefCheck_is name _ HZ.out).mono ?_; rintro e w1 ⟨rfl, rfl⟩; rw [HCN.out]) | (go_at_call 98; refine (RefLink_is ⟨ver, pa, ps, pc, some ⟨b, off, none⟩, ls, lc, ea, es, ec⟩ name _ (HM.out.nil (by repeat (first | exact kzr _ _ | assumption | refine kzd ?_ | refine kzn ?_ _ | refine kza ?_ _ | refine kzs ?_ (by assumption))))).mono ?_; rintro e w1 ⟨rfl, hk1⟩; rw [show findI _ _ = _ from HY.out]; obtain ⟨hc1, hf1⟩ := hk1.rules; have hz1_0 : w.heap.size < w1.heap.size := (by have := hk1.size; first | omega | (simp at this; omega)); have hz1_1 : w.heap.size + 1 < w1.heap.size := (by have := hk1.size; first | omega | (simp at this; omega))) | (go_at_call 22; (with_reducible refine (RefProc_at src _ ?_).mono ?_); exact HM.out.nil (by repeat (first | exact kzr _ _ | assumption | refine kzd ?_ | refine kzn ?_ _ | refine kza ?_ _ | refine kzs ?_ (by assumption))); rintro e w2 ⟨rfl, hk2⟩; rw [show findI _ _ = _ from HYS.out]; obtain ⟨hc2, hf2⟩ := hk2.rules; have hz2_0 : w.heap.size < w2.heap.size := (by have := hk2.size; first | omega | (simp at this; omega)); have hz2_1 : w.heap.size + 1 < w2.heap.size := (by have := hk2.size; first | omega | (simp at this; omega))) | (go_at_call 22; (with_reducible refine (RefProc_at dst _ ?_).mono ?_); exact HM.out.nil (by repeat (first | exact kzr _ _ | assumption | refine kzd ?_ | refine kzn ?_ _ | refine kza ?_ _ | refine kzs ?_ (by assumption))); rintro e w3 ⟨rfl, hk3⟩; rw [show findI _ _ = _ from HYD.out]; obtain ⟨hc3, hf3⟩ := hk3.rules; have hz3_0 : w.heap.size < w3.heap.size := (by have := hk3.size; first | omega | (simp at this; omega)); have hz3_1 : w.heap.size + 1 < w3.heap.size := (by have := hk3.size; first | omega | (simp at this; omega))) | (go_at_call 95; refine (RefWeight_is ⟨ver, pa, ps, pc, some ⟨b, off, none⟩, ls, lc, ea, es, ec⟩ weight _).mono ?_; rintro e w4 ⟨rfl, hk4⟩; rw [show wtB _ _ = _ from HT.out]; obtain ⟨hc4, hf4⟩ := hk4.rules; have hz4_0 : w.heap.size < w4.heap.size := (by have := hk4.size; first | omega | (simp at this; omega)); have hz4_1 : w.heap.size + 1 < w4.heap.size := (by have := hk4.size; first | omega | (simp at this; omega))))
        go_ret
        exact ⟨by rw [HN.out]; rfl, (by repeat (first | exact kzr _ _ | assumption | refine kzd ?_ | refine kzn ?_ _ | refine kza ?_ _ | refine kzs ?_ (by assumption)))⟩
  ·skip
   have fq2_0n : (y != (i : Int)) = true := by first | (simp [hq2]; done) | (simp; omega) | (simp at hq2 ⊢; exact hq2) | exact hq2
   have HN := Lib.hid (show r = 5 by rw [← HR.out]; unfold linkC; simp only [HY.out, HYS.out, HYD.out, HT.out]; simp [*])
   clear hq1 hq2
   go_enter Tryz.func60, Tryz.ntmps60
   go_wp2_with (first | (go_at_call 94; refine (RefCheck_is name _ HZ.out).mono ?_; rintro e w1 ⟨rfl, rfl⟩; rw [HCN.out]) | (go_at_call 98; refine (RefLink_is ⟨ver, pa, ps, pc, some ⟨b, off, none⟩, ls, lc, ea, es, ec⟩ name _ (HM.out.nil (by repeat (first | exact kzr _ _ | assumption | refine kzd ?_ | refine kzn ?_ _ | refine kza ?_ _ | refine kzs ?_ (by assumption))))).mono ?_; rintro e w1 ⟨rfl, hk1⟩; rw [show findI _ _ = _ from HY.out]; obtain ⟨hc1, hf1⟩ := hk1.rules; have hz1_0 : w.heap.size < w1.heap.size := (by have := hk1.size; first | omega | (simp at this; omega)); have hz1_1 : w.heap.size + 1 < w1.heap.size := (by have := hk1.size; first | omega | (simp at this; omega))) | (go_at_call 22; (with_reducible refine (RefProc_at src _ ?_).mono ?_); exact HM.out.nil (by repeat (first | exact kzr _ _ | assumption | refine kzd ?_ | refine kzn ?_ _ | refine kza ?_ _ | refine kzs ?_ (by assumption))); rintro e w2 ⟨rfl, hk2⟩; rw [show findI _ _ = _ from HYS.out]; obtain ⟨hc2, hf2⟩ := hk2.rules; have hz2_0 : w.heap.size < w2.heap.size := (by have := hk2.size; first | omega | (simp at this; omega)); have hz2_1 : w.heap.size + 1 < w2.heap.size := (by have := hk2.size; first | omega | (simp at this; omega))) | (go_at_call 22; (with_reducible refine (RefProc_at dst _ ?_).mono ?_); exact HM.out.nil (by repeat (first | exact kzr _ _ | assumption | refine kzd ?_ | refine kzn ?_ _ | refine kza ?_ _ | refine kzs ?_ (by assumption))); rintro e w3 ⟨rfl, hk3⟩; rw [show findI _ _ = _ from HYD.out]; obtain ⟨hc3, hf3⟩ := hk3.rules; have hz3_0 : w.heap.size < w3.heap.size := (by have := hk3.size; first | omega | (simp at this; omega)); have hz3_1 : w.heap.size + 1 < w3.heap.size := (by have := hk3.size; first | omega | (simp at this; omega))) | (go_at_call 95; refine (RefWeight_is ⟨ver, pa, ps, pc, some ⟨b, off, none⟩, ls, lc, ea, es, ec⟩ weight _).mono ?_; rintro e w4 ⟨rfl, hk4⟩; rw [show wtB _ _ = _ from HT.out]; obtain ⟨hc4, hf4⟩ := hk4.rules; have hz4_0 : w.heap.size < w4.heap.size := (by have := hk4.size; first | omega | (simp at this; omega)); have hz4_1 : w.heap.size + 1 < w4.heap.size := (by have := hk4.size; first | omega | (simp at this; omega))))
   go_ret
   exact ⟨by rw [HN.out]; rfl, (by repeat (first | exact kzr _ _ | assumption | refine kzd ?_ | refine kzn ?_ _ | refine kza ?_ _ | refine kzs ?_ (by assumption)))⟩
 ·skip
  have hnf : rightName name = false := by first | assumption | (simp_all; done)
  obtain rfl : cn = 40 := by rw [← HCN.out]; exact nameC_no hnf
  have HN := Lib.hid (show r = 40 by rw [← HR.out]; unfold linkC; simp only [HY.out, HYS.out, HYD.out, HT.out]; simp [*])
  clear hq1 hnf
  go_enter Tryz.func60, Tryz.ntmps60
  go_wp2_with (first | (go_at_call 94; refine (RefCheck_is name _ HZ.out).mono ?_; rintro e w1 ⟨rfl, rfl⟩; rw [HCN.out]) | (go_at_call 98; refine (RefLink_is ⟨ver, pa, ps, pc, some ⟨b, off, none⟩, ls, lc, ea, es, ec⟩ name _ (HM.out.nil (by repeat (first | exact kzr _ _ | assumption | refine kzd ?_ | refine kzn ?_ _ | refine kza ?_ _ | refine kzs ?_ (by assumption))))).mono ?_; rintro e w1 ⟨rfl, hk1⟩; rw [show findI _ _ = _ from HY.out]; obtain ⟨hc1, hf1⟩ := hk1.rules; have hz1_0 : w.heap.size < w1.heap.size := (by have := hk1.size; first | omega | (simp at this; omega)); have hz1_1 : w.heap.size + 1 < w1.heap.size := (by have := hk1.size; first | omega | (simp at this; omega))) | (go_at_call 22; (with_reducible refine (RefProc_at src _ ?_).mono ?_); exact HM.out.nil (by repeat (first | exact kzr _ _ | assumption | refine kzd ?_ | refine kzn ?_ _ | refine kza ?_ _ | refine kzs ?_ (by assumption))); rintro e w2 ⟨rfl, hk2⟩; rw [show findI _ _ = _ from HYS.out]; obtain ⟨hc2, hf2⟩ := hk2.rules; have hz2_0 : w.heap.size < w2.heap.size := (by have := hk2.size; first | omega | (simp at this; omega)); have hz2_1 : w.heap.size + 1 < w2.heap.size := (by have := hk2.size; first | omega | (simp at this; omega))) | (go_at_call 22; (with_reducible refine (RefProc_at dst _ ?_).mono ?_); exact HM.out.nil (by repeat (first | exact kzr _ _ | assumption | refine kzd ?_ | refine kzn ?_ _ | refine kza ?_ _ | refine kzs ?_ (by assumption))); rintro e w3 ⟨rfl, hk3⟩; rw [show findI _ _ = _ from HYD.out]; obtain ⟨hc3, hf3⟩ := hk3.rules; have hz3_0 : w.heap.size < w3.heap.size := (by have := hk3.size; first | omega | (simp at this; omega)); have hz3_1 : w.heap.size + 1 < w3.heap.size := (by have := hk3.size; first | omega | (simp at this; omega))) | (go_at_call 95; refine (RefWeight_is ⟨ver, pa, ps, pc, some ⟨b, off, none⟩, ls, lc, ea, es, ec⟩ weight _).mono ?_; rintro e w4 ⟨rfl, hk4⟩; rw [show wtB _ _ = _ from HT.out]; obtain ⟨hc4, hf4⟩ := hk4.rules; have hz4_0 : w.heap.size < w4.heap.size := (by have := hk4.size; first | omega | (simp at this; omega)); have hz4_1 : w.heap.size + 1 < w4.heap.size := (by have := hk4.size; first | omega | (simp at this; omega))))
  go_ret
  exact ⟨by rw [HN.out]; rfl, (by repeat (first | exact kzr _ _ | assumption | refine kzd ?_ | refine kzn ?_ _ | refine kza ?_ _ | refine kzs ?_ (by assumption)))⟩
end Go.Proofs.YtniocgnfgpaioaaGreat.Mo
