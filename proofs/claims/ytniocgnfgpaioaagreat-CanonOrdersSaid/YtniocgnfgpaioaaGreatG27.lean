/- The walks of the checker's link and event; The walks of model.each at its three types. -/
import Derived.Test.YtniocgnfgpaioaaGreatG26
set_option linter.unusedVariables false
set_option linter.unusedSimpArgs false
section
namespace Go.Proofs.YtniocgnfgpaioaaGreat.Mo
open Go Go.RowKit Go.Proofs.YtniocgnfgpaioaaGreat.Lb

set_option maxRecDepth 4000 in
set_option maxHeartbeats 8000000 in
theorem CkLink_is {c bp bl : Nat} {m : Md} (i : Nat) (l : Lk) (w : World) (hc : CkAt w c bp bl m) (hs : SzM m) (hi : m.ls[i]? = some l) : Calls Tryz.prog 54 #[.pointer (some ⟨c, 0, none⟩), .int .i64 (i : Int), l.cs] w fun e w' => e = .returned (.int .i64 (linkC m i l)) ∧ Kept Nil w w' := by
 obtain ⟨r, hr⟩ : ∃ r, linkC m i l = r := ⟨_, rfl⟩
 rw [hr]
 have HR := Lib.hid hr
 have HC := Lib.hid hc
 have HZ1 := Lib.hid (hs.ln l (List.mem_of_getElem? hi))
 have HZ2 := Lib.hid (hs.lsrc l (List.mem_of_getElem? hi))
 have HZ3 := Lib.hid (hs.ldst l (List.mem_of_getElem? hi))
 obtain ⟨j, hj⟩ := find_own (f := Lk.name) hi
 have HY := Lib.hid hj
 clear hr hc hs hi hj
 obtain ⟨ver, pa, ps, pc, la, ls, lc, ea, es, ec⟩ := m
 obtain ⟨name, src, dst, delay, weight⟩ := l
 unfold Lk.cs
 simp only at *
 obtain ⟨W1, hW⟩ : ∃ W, (w.alloc (.cells #[.string name, .string src, .string dst, .int .i64 delay, .int .i64 weight] 42)) = W := ⟨_, rfl⟩
 have hk : Kept Nil w W1 := by rw [← hW]; exact ((Kept.refl Nil w).alloc _)
 have hsz : W1.heap.size = w.heap.size + 1 := by rw [← hW]; simp
 have hb : W1.heap[w.heap.size]? = some (.cells #[.string name, .string src, .string dst, .int .i64 delay, .int .i64 weight] 42 (0, 0)) := by
  rw [← hW]
  have h9 := heap_new w (.cells #[.string name, .string src, .string dst, .int .i64 delay, .int .i64 weight] 42)
  exact h9
 have G0 := Lib.hid (show W1.cell? ⟨w.heap.size, 0, none⟩ = some (.string name) by rw [cell_of hb]; rfl)
 have G1 := Lib.hid (show W1.cell? ⟨w.heap.size, 1, none⟩ = some (.string src) by rw [cell_of hb]; rfl)
 have G2 := Lib.hid (show W1.cell? ⟨w.heap.size, 2, none⟩ = some (.string dst) by rw [cell_of hb]; rfl)
 have G3 := Lib.hid (show W1.cell? ⟨w.heap.size, 3, none⟩ = some (.int .i64 delay) by rw [cell_of hb]; rfl)
 have G4 := Lib.hid (show W1.cell? ⟨w.heap.size, 4, none⟩ = some (.int .i64 weight) by rw [cell_of hb]; rfl)
 have GB := Lib.hid hb
 have hzg : w.heap.size < W1.heap.size := by omega
 clear hb
 have HW := Lib.hid hW
 have HK := Lib.hid hk
 have HSZ := Lib.hid hsz
 clear hW hk hsz
 obtain ⟨t, ht⟩ : ∃ t, wtB ver weight = t := ⟨_, rfl⟩
 have HT := Lib.hid ht
 obtain ⟨cn, hcn⟩ : ∃ cn, nameC name = cn := ⟨_, rfl⟩
 have HCN := Lib.hid hcn
 obtain ⟨ys, hys⟩ : ∃ y, findI (ps.map Pr.name) src = y := ⟨_, rfl⟩
 have HYS := Lib.hid hys
 obtain ⟨yd, hyd⟩ : ∃ y, findI (ps.map Pr.name) dst = y := ⟨_, rfl⟩
 have HYD := Lib.hid hyd
 obtain ⟨bs, hbs⟩ : ∃ b, (!decide (ys < 0)) = b := ⟨_, rfl⟩
 have HBS := Lib.hid hbs
 obtain ⟨bd, hbd⟩ : ∃ b, (!decide (yd < 0)) = b := ⟨_, rfl⟩
 have HBD := Lib.hid hbd
 clear ht hcn hys hyd hbs hbd
 go_enter Tryz.func54, Tryz.ntmps54
 go_wp2_with fail
 rw [HW.out]
 refine (Check_is name _ HZ1.out).mono ?_
 rintro e w1 ⟨rfl, rfl⟩
 rw [HCN.out]
 by_cases hn : rightName name = true
 ·obtain rfl : cn = 0 := by rw [← HCN.out]; exact nameC_yes hn
  have HNm := Lib.hid hn
  clear hn
  go_wp2_with fail
  have g0 := (Kept.refl Nil W1).cell G0.out (fun h => h)
  have g1 := (Kept.refl Nil W1).cell G1.out (fun h => h)
  have g2 := (Kept.refl Nil W1).cell G2.out (fun h => h)
  have g3 := (Kept.refl Nil W1).cell G3.out (fun h => h)
  have g4 := (Kept.refl Nil W1).cell G4.out (fun h => h)
  obtain ⟨m0, m1, m2, m3, m4, m5, hcb⟩ := (HC.out.nil HK.out).cells
  simp only at m0 m1 m2 m3
  obtain ⟨kk, hlm⟩ := (HC.out.nil HK.out).lm
  have hlook := ix_val hlm name HZ1.out HY.out
  clear hlm
  by_cases hyi : (j : Int) = (i : Int)
  ·have fy : ((j : Int) != (i : Int)) = false := by simp [hyi]
   have HYI := Lib.hid (HY.out.trans hyi)
   clear hyi
   go_big_quiet (fail)
   clear hlook m0 m1 m2 m3 m4 m5
   obtain ⟨W2, hW2⟩ : ∃ W2, W1.drewN nq = W2 := ⟨_, rfl⟩
   have hk2 : Kept Nil W1 W2 := by rw [← hW2]; exact (Kept.refl Nil W1).drewN nq
   rw [hW2]
   have HK2 := Lib.hid hk2
   have HC2 := Lib.hid (HC.out.nil (HK.out.step hk2))
   have hz2 := hk2.size
   clear hW2 hk2
   clear g0 g1 g2 g3 g4
   have g0 := (HK2.out).cell G0.out (fun h => h)
   have g1 := (HK2.out).cell G1.out (fun h => h)
   have g2 := (HK2.out).cell G2.out (fun h => h)
   have g3 := (HK2.out).cell G3.out (fun h => h)
   have g4 := (HK2.out).cell G4.out (fun h => h)
   by_cases hq1 : ys < 0
   ·skip
    obtain rfl : bs = false := by rw [← HBS.out]; simp; omega
    have HN := Lib.hid (show r = 4 by rw [← HR.out]; unfold linkC; simp only [HNm.out, HYI.out, HYS.out, HYD.out, HT.out]; simp [*])
    clear hq1
    go_wp2_with (first | (go_at_call 88; (with_reducible refine (There_is src W2 HC2.out HZ2.out).mono ?_); rintro e w1 ⟨rfl, rfl⟩; rw [show findI _ src = _ from HYS.out, HBS.out]) | (go_at_call 88; (with_reducible refine (There_is dst W2 HC2.out HZ3.out).mono ?_); rintro e w1 ⟨rfl, rfl⟩; rw [show findI _ dst = _ from HYD.out, HBD.out]) | (go_at_call 89; refine (Within_is delay 1 1099511627776 _).mono ?_; rintro e w1 ⟨rfl, rfl⟩) | (go_at_call 85; refine (CkWeight_is weight W2 HC2.out).mono ?_; rintro e w1 ⟨rfl, rfl⟩; rw [show wtB _ _ = _ from HT.out]))
    go_ret
    exact ⟨by rw [HN.out]; rfl, HK.out.step HK2.out⟩
   ·skip
    obtain rfl : bs = true := by rw [← HBS.out]; simp; omega
    by_cases hq2 : yd < 0
    ·skip
     obtain rfl : bd = false := by rw [← HBD.out]; simp; omega
     have HN := Lib.hid (show r = 4 by rw [← HR.out]; unfold linkC; simp only [HNm.out, HYI.out, HYS.out, HYD.out, HT.out]; simp [*])
     clear hq1 hq2
     go_wp2_with (first | (go_at_call 88; (with_reducible refine (There_is src W2 HC2.out HZ2.out).mono ?_); rintro e w1 ⟨rfl, rfl⟩; rw [show findI _ src = _ from HYS.out, HBS.out]) | (go_at_call 88; (with_reducible refine (There_is dst W2 HC2.out HZ3.out).mono ?_); rintro e w1 ⟨rfl, rfl⟩; rw [show findI _ dst = _ from HYD.out, HBD.out]) | (go_at_call 89; refine (Within_is delay 1 1099511627776 _).mono ?_; rintro e w1 ⟨rfl, rfl⟩) | (go_at_call 85; refine (CkWeight_is weight W2 HC2.out).mono ?_; rintro e w1 ⟨rfl, rfl⟩; rw [show wtB _ _ = _ from HT.out]))
     go_ret
     exact ⟨by rw [HN.out]; rfl, HK.out.step HK2.out⟩
    ·skip
     obtain rfl : bd = true := by rw [← HBD.out]; simp; omega
     by_cases hq3 : 1 ≤ delay
     ·skip
      have fq3_0y : decide (1 ≤ delay) = true := by first | (simp [hq3]; done) | (simp; omega) | (simp at hq3 ⊢; exact hq3) | exact hq3
      by_cases hq4 : delay ≤ 1099511627776
      ·skip
       have fq4_0y : decide (delay ≤ 1099511627776) = true := by first | (simp [hq4]; done) | (simp; omega) | (simp at hq4 ⊢; exact hq4) | exact hq4
       by_cases hq5 : t = true
       ·skip
        have fq5_0y : t = true := by first | (simp [hq5]; done) | (simp; omega) | (simp at hq5 ⊢; exact hq5) | exact hq5
        have q1 : ¬ delay < 1 := by omega
        have q2 : ¬ 1099511627776 < delay := by omega
        have HN := Lib.hid (show r = 0 by rw [← HR.out]; unfold linkC; simp only [HNm.out, HYI.out, HYS.out, HYD.out, HT.out]; simp [*])
        clear hq1 hq2 hq3 hq4 hq5 q1 q2
        go_wp2_with (first | (go_at_call 88; (with_reducible refine (There_is src W2 HC2.out HZ2.out).mono ?_); rintro e w1 ⟨rfl, rfl⟩; rw [show findI _ src = _ from HYS.out, HBS.out]) | (go_at_call 88; (with_reducible refine (There_is dst W2 HC2.out HZ3.out).mono ?_); rintro e w1 ⟨rfl, rfl⟩; rw [show findI _ dst = _ from HYD.out, HBD.out]) | (go_at_call 89; refine (Within_is delay 1 1099511627776 _).mono ?_; rintro e w1 ⟨rfl, rfl⟩) | (go_at_call 85; refine (CkWeight_is weight W2 HC2.out).mono ?_; rintro e w1 ⟨rfl, rfl⟩; rw [show wtB _ _ = _ from HT.out]))
        go_ret
        exact ⟨by rw [HN.out]; rfl, HK.out.step HK2.out⟩
       ·skip
        have fq5_0n : t = false := by first | (simp [hq5]; done) | (simp; omega) | (simp at hq5 ⊢; exact hq5) | exact hq5
        have q1 : ¬ delay < 1 := by omega
        have q2 : ¬ 1099511627776 < delay := by omega
        have HN := Lib.hid (show r = 41 by rw [← HR.out]; unfold linkC; simp only [HNm.out, HYI.out, HYS.out, HYD.out, HT.out]; simp [*])
        clear hq1 hq2 hq3 hq4 hq5 q1 q2
        go_wp2_with (first | (go_at_call 88; (with_reducible refine (There_is src W2 HC2.out HZ2.out).mono ?_); rintro e w1 ⟨rfl, rfl⟩; rw [show findI _ src = _ from HYS.out, HBS.out]) | (go_at_call 88; (with_reducible refine (There_is dst W2 HC2.out HZ3.out).mono ?_); rintro e w1 ⟨rfl, rfl⟩; rw [show findI _ dst = _ from HYD.out, HBD.out]) | (go_at_call 89; refine (Within_is delay 1 1099511627776 _).mono ?_; rintro e w1 ⟨rfl, rfl⟩) | (go_at_call 85; refine (CkWeight_is weight W2 HC2.out).mono ?_; rintro e w1 ⟨rfl, rfl⟩; rw [show wtB _ _ = _ from HT.out]))
        go_ret
        exact ⟨by rw [HN.out]; rfl, HK.out.step HK2.out⟩
      ·skip
       have fq4_0n : decide (delay ≤ 1099511627776) = false := by first | (simp [hq4]; done) | (simp; omega) | (simp at hq4 ⊢; exact hq4) | exact hq4
       have q2 : 1099511627776 < delay := by omega
       have HN := Lib.hid (show r = 42 by rw [← HR.out]; unfold linkC; simp only [HNm.out, HYI.out, HYS.out, HYD.out, HT.out]; simp [*])
       clear hq1 hq2 hq3 hq4 q2
       go_wp2_with (first | (go_at_call 88; (with_reducible refine (There_is src W2 HC2.out HZ2.out).mono ?_); rintro e w1 ⟨rfl, rfl⟩; rw [show findI _ src = _ from HYS.out, HBS.out]) | (go_at_call 88; (with_reducible refine (There_is dst W2 HC2.out HZ3.out).mono ?_); rintro e w1 ⟨rfl, rfl⟩; rw [show findI _ dst = _ from HYD.out, HBD.out]) | (go_at_call 89; refine (Within_is delay 1 1099511627776 _).mono ?_; rintro e w1 ⟨rfl, rfl⟩) | (go_at_call 85; refine (CkWeight_is weight W2 HC2.out).mono ?_; rintro e w1 ⟨rfl, rfl⟩; rw [show wtB _ _ = _ from HT.out]))
       go_ret
       exact ⟨by rw [HN.out]; rfl, HK.out.step HK2.out⟩
     ·skip
      have fq3_0n : decide (1 ≤ delay) = false := by first | (simp [hq3]; done) | (simp; omega) | (simp at hq3 ⊢; exact hq3) | exact hq3
      have q1 : delay < 1 := by omega
      have HN := Lib.hid (show r = 42 by rw [← HR.out]; unfold linkC; simp only [HNm.out, HYI.out, HYS.out, HYD.out, HT.out]; simp [*])
      clear hq1 hq2 hq3 q1
      go_wp2_with (first | (go_at_call 88; (with_reducible refine (There_is src W2 HC2.out HZ2.out).mono ?_); rintro e w1 ⟨rfl, rfl⟩; rw [show findI _ src = _ from HYS.out, HBS.out]) | (go_at_call 88; (with_reducible refine (There_is dst W2 HC2.out HZ3.out).mono ?_); rintro e w1 ⟨rfl, rfl⟩; rw [show findI _ dst = _ from HYD.out, HBD.out]) | (go_at_call 89; refine (Within_is delay 1 1099511627776 _).mono ?_; rintro e w1 ⟨rfl, rfl⟩) | (go_at_call 85; refine (CkWeight_is weight W2 HC2.out).mono ?_; rintro e w1 ⟨rfl, rfl⟩; rw [show wtB _ _ = _ from HT.out]))
      go_ret
      exact ⟨by rw [HN.out]; rfl, HK.out.step HK2.out⟩
  ·have fy : ((j : Int) != (i : Int)) = true := by simp [hyi]
   have HN := Lib.hid (show r = 5 by
    rw [← HR.out]; unfold linkC
    simp only [HNm.out, HY.out]
    simp [hyi])
   clear hyi
   go_big_quiet (fail)
   go_wp2_with fail
   go_ret
   exact ⟨by rw [HN.out]; rfl, HK.out.drewN _⟩
 ·have hnf : rightName name = false := by simpa using hn
  obtain rfl : cn = 40 := by rw [← HCN.out]; exact nameC_no hnf
  have HN := Lib.hid (show r = 40 by
   rw [← HR.out]; unfold linkC
   simp only [hnf]
   simp)
  clear hn hnf
  go_wp2_with fail
  go_ret
  exact ⟨by rw [HN.out]; rfl, HK.out⟩
set_option maxHeartbeats 4000000 in
theorem CkEvent_is {c bp bl : Nat} {m : Md} (i : Int) (x : Ev) (w : World) (hc : CkAt w c bp bl m) (hs : x.to.size ≤ maxLen) : Calls Tryz.prog 56 #[.pointer (some ⟨c, 0, none⟩), .int .i64 i, x.cs] w fun e w' => e = .returned (.int .i64 (eventC m x)) ∧ Kept Nil w w' := by
 have HC := Lib.hid hc
 have HS := Lib.hid hs
 clear hc hs
 obtain ⟨ver, pa, ps, pc, la, ls, lc, ea, es, ec⟩ := m
 obtain ⟨tn, at_, val⟩ := x
 unfold Ev.cs
 simp only at *
 obtain ⟨ye, hye⟩ : ∃ y, findI (ps.map Pr.name) tn = y := ⟨_, rfl⟩
 have HYE := Lib.hid hye
 obtain ⟨be, hbe⟩ : ∃ b, (!decide (ye < 0)) = b := ⟨_, rfl⟩
 have HBE := Lib.hid hbe
 clear hye hbe
 have hk0 : Kept Nil w (w.alloc (.cells #[.string tn, .int .i64 at_, .int .i64 val] 48)) := (Kept.refl Nil w).alloc _
 have HC0 := Lib.hid (HC.out.nil hk0)
 by_cases hq6 : ye < 0
 ·skip
  obtain rfl : be = false := by rw [← HBE.out]; simp; omega
  have HN := Lib.hid (show eventC ⟨ver, pa, ps, pc, la, ls, lc, ea, es, ec⟩ ⟨tn, at_, val⟩ = 4 by unfold eventC; simp only [HYE.out]; simp [*])
  clear hq6
  go_enter Tryz.func56, Tryz.ntmps56
  go_wp2_with (first | (go_at_call 88; refine (There_is tn _ HC0.out HS.out).mono ?_; rintro e w1 ⟨rfl, rfl⟩; rw [show findI _ tn = _ from HYE.out, HBE.out]) | (go_at_call 89; refine (Within_is at_ 0 1099511627776 _).mono ?_; rintro e w1 ⟨rfl, rfl⟩) | (go_at_call 90; refine (number_is val _).mono ?_; rintro e w1 ⟨rfl, rfl⟩))
  go_ret
  exact ⟨by rw [HN.out]; rfl, (by repeat (first | exact kzr _ _ | assumption | refine kzd ?_ | refine kzn ?_ _ | refine kza ?_ _ | refine kzs ?_ (by assumption)))⟩
 ·skip
  obtain rfl : be = true := by rw [← HBE.out]; simp; omega
  by_cases hq7 : 0 ≤ at_
  ·skip
   have fq7_0y : decide (0 ≤ at_) = true := by first | (simp [hq7]; done) | (simp; omega) | (simp at hq7 ⊢; exact hq7) | exact hq7
   by_cases hq8 : at_ ≤ 1099511627776
   ·skip
    have fq8_0y : decide (at_ ≤ 1099511627776) = true := by first | (simp [hq8]; done) | (simp; omega) | (simp at hq8 ⊢; exact hq8) | exact hq8
    have q1 : ¬ at_ < 0 := by omega
    have q2 : ¬ 1099511627776 < at_ := by omega
    by_cases hq9 : numB val = true
    ·skip
     have fq9_0y : numB val = true := by first | (simp [hq9]; done) | (simp; omega) | (simp at hq9 ⊢; exact hq9) | exact hq9
     have HN := Lib.hid (show eventC ⟨ver, pa, ps, pc, la, ls, lc, ea, es, ec⟩ ⟨tn, at_, val⟩ = 0 by unfold eventC; simp only [HYE.out]; simp [*])
     clear hq6 hq7 hq8 q1 q2 hq9
     go_enter Tryz.func56, Tryz.ntmps56
     go_wp2_with (first | (go_at_call 88; refine (There_is tn _ HC0.out HS.out).mono ?_; rintro e w1 ⟨rfl, rfl⟩; rw [show findI _ tn = _ from HYE.out, HBE.out]) | (go_at_call 89; refine (Within_is at_ 0 1099511627776 _).mono ?_; rintro e w1 ⟨rfl, rfl⟩) | (go_at_call 90; refine (number_is val _).mono ?_; rintro e w1 ⟨rfl, rfl⟩))
     go_ret
     exact ⟨by rw [HN.out]; rfl, (by repeat (first | exact kzr _ _ | assumption | refine kzd ?_ | refine kzn ?_ _ | refine kza ?_ _ | refine kzs ?_ (by assumption)))⟩
    ·skip
     have fq9_0n : numB val = false := by first | (simp [hq9]; done) | (simp; omega) | (simp at hq9 ⊢; exact hq9) | exact hq9
     have HN := Lib.hid (show eventC ⟨ver, pa, ps, pc, la, ls, lc, ea, es, ec⟩ ⟨tn, at_, val⟩ = 23 by unfold eventC; simp only [HYE.out]; simp [*])
     clear hq6 hq7 hq8 q1 q2 hq9
     go_enter Tryz.func56, Tryz.ntmps56
     go_wp2_with (first | (go_at_call 88; refine (There_is tn _ HC0.out HS.out).mono ?_; rintro e w1 ⟨rfl, rfl⟩; rw [show findI _ tn = _ from HYE.out, HBE.out]) | (go_at_call 89; refine (Within_is at_ 0 1099511627776 _).mono ?_; rintro e w1 ⟨rfl, rfl⟩) | (go_at_call 90; refine (number_is val _).mono ?_; rintro e w1 ⟨rfl, rfl⟩))
     go_ret
     exact ⟨by rw [HN.out]; rfl, (by repeat (first | exact kzr _ _ | assumption | refine kzd ?_ | refine kzn ?_ _ | refine kza ?_ _ | refine kzs ?_ (by assumption)))⟩
   ·skip
    have fq8_0n : decide (at_ ≤ 1099511627776) = false := by first | (simp [hq8]; done) | (simp; omega) | (simp at hq8 ⊢; exact hq8) | exact hq8
    have q2 : 1099511627776 < at_ := by omega
    have HN := Lib.hid (show eventC ⟨ver, pa, ps, pc, la, ls, lc, ea, es, ec⟩ ⟨tn, at_, val⟩ = 23 by unfold eventC; simp only [HYE.out]; simp [*])
    clear hq6 hq7 hq8 q2
    go_enter Tryz.func56, Tryz.ntmps56
    go_wp2_with (first | (go_at_call 88; refine (There_is tn _ HC0.out HS.out).mono ?_; rintro e w1 ⟨rfl, rfl⟩; rw [show findI _ tn = _ from HYE.out, HBE.out]) | (go_at_call 89; refine (Within_is at_ 0 1099511627776 _).mono ?_; rintro e w1 ⟨rfl, rfl⟩) | (go_at_call 90; refine (number_is val _).mono ?_; rintro e w1 ⟨rfl, rfl⟩))
    go_ret
    exact ⟨by rw [HN.out]; rfl, (by repeat (first | exact kzr _ _ | assumption | refine kzd ?_ | refine kzn ?_ _ | refine kza ?_ _ | refine kzs ?_ (by assumption)))⟩
  ·skip
   have fq7_0n : decide (0 ≤ at_) = false := by first | (simp [hq7]; done) | (simp; omega) | (simp at hq7 ⊢; exact hq7) | exact hq7
   have q1 : at_ < 0 := by omega
   have HN := Lib.hid (show eventC ⟨ver, pa, ps, pc, la, ls, lc, ea, es, ec⟩ ⟨tn, at_, val⟩ = 23 by unfold eventC; simp only [HYE.out]; simp [*])
   clear hq6 hq7 q1
   go_enter Tryz.func56, Tryz.ntmps56
   go_wp2_with (first | (go_at_call 88; refine (There_is tn _ HC0.out HS.out).mono ?_; rintro e w1 ⟨rfl, rfl⟩; rw [show findI _ tn = _ from HYE.out, HBE.out]) | (go_at_call 89; refine (Within_is at_ 0 1099511627776 _).mono ?_; rintro e w1 ⟨rfl, rfl⟩) | (go_at_call 90; refine (number_is val _).mono ?_; rintro e w1 ⟨rfl, rfl⟩))
   go_ret
   exact ⟨by rw [HN.out]; rfl, (by repeat (first | exact kzr _ _ | assumption | refine kzd ?_ | refine kzn ?_ _ | refine kza ?_ _ | refine kzs ?_ (by assumption)))⟩
end Go.Proofs.YtniocgnfgpaioaaGreat.Mo
end
section
namespace Go.Proofs.YtniocgnfgpaioaaGreat.Mo
open Go Go.RowKit Go.Proofs.YtniocgnfgpaioaaGreat.Lb

set_option maxRecDepth 4000 in
set_option maxHeartbeats 8000000 in
theorem EachProc_is {c bp bl : Nat} {m : Md} (xs : List Pr) (hxs : xs = m.ps) (A : Option Addr) (cap a : Nat) (w : World) (hc : CkAt w c bp bl m) (hm : RModel w m) (hs : SzM m) (hr : RProcs w A xs) (hl : xs.length ≤ 100000) (ha : a ≤ 100000) :
  Calls Tryz.prog 51 #[.slice A xs.length cap, .int .i64 (a : Int), .func (.func 52) #[.pointer (some ⟨c, 0, none⟩)] #[]] w fun e w' => e = .returned (.agg #[.int .i64 (firstAt (xs.mapIdx (procC m)) a).1, .int .i64 (firstAt (xs.mapIdx (procC m)) a).2]) ∧ Kept Nil w w' := by
 obtain ⟨r, hrr⟩ : ∃ r, firstAt (xs.mapIdx (procC m)) a = r := ⟨_, rfl⟩
 rw [hrr]
 have HRR := Lib.hid hrr
 have HC := Lib.hid hc
 have HM := Lib.hid hm
 have HS := Lib.hid hs
 have HX := Lib.hid hxs
 have HA := Lib.hid hr
 clear hrr hc hm hs hxs hr
 obtain ⟨W1, hW⟩ : ∃ W, (w.alloc (.cells #[.int .i64 0, .int .i64 0] 45)) = W := ⟨_, rfl⟩
 have hk : Kept Nil w W1 := by rw [← hW]; exact ((Kept.refl Nil w).alloc _)
 have hsz : W1.heap.size = w.heap.size + 1 := by rw [← hW]; simp
 have hb : W1.heap[w.heap.size]? = some (.cells #[.int .i64 0, .int .i64 0] 45 (0, 0)) := by
  rw [← hW]
  have h9 := heap_new w (.cells #[.int .i64 0, .int .i64 0] 45)
  exact h9
 have G0 := Lib.hid (show W1.cell? ⟨w.heap.size, 0, none⟩ = some (.int .i64 0) by rw [cell_of hb]; rfl)
 have G1 := Lib.hid (show W1.cell? ⟨w.heap.size, 1, none⟩ = some (.int .i64 0) by rw [cell_of hb]; rfl)
 have GB := Lib.hid hb
 have hzg : w.heap.size < W1.heap.size := by omega
 clear hb
 have HW := Lib.hid hW
 have HK := Lib.hid hk
 have HSZ := Lib.hid hsz
 clear hW hk hsz
 go_enter Tryz.func51, Tryz.ntmps51
 go_wp2_with fail
 rw [HW.out]
 go_loopw [12] (fun i wr => ∃ k : Nat, k ≤ xs.length ∧ i = .int .i64 k ∧ (∀ (j : Nat) (x : Pr), j < k → xs[j]? = some x → (procC m) j x = 0) ∧ Kept Nil W1 wr) (fun i _ => xs.length - (intOf i).toNat)
 case atStart => exact ⟨0, Nat.zero_le _, rfl, fun j v h => by omega, Kept.refl _ _⟩
 case round =>
  obtain ⟨k, hk, rfl, hall, hK⟩ := hrel
  have HALL := Lib.hid hall
  have HKr := Lib.hid hK
  have hzr := hK.size
  clear hall hK
  have hzgr : w.heap.size < wr.heap.size := by omega
  by_cases hlt : k < xs.length
  ·obtain ⟨x, ex⟩ : ∃ v, xs[k]? = some v := ⟨_, List.getElem?_eq_getElem hlt⟩
   obtain ⟨b2, off2, e1, d0, d1, d2, d3⟩ := (HA.out.nil (HK.out.step HKr.out)).at ex
   subst e1
   have hbv : b2 < wr.heap.size := World.block_lt_of_cell? _ _ d0
   have HEX := Lib.hid ex
   have HMX := Lib.hid (show m.ps[k]? = some x by rw [← HX.out]; exact ex)
   clear ex
   obtain ⟨z, hz⟩ : ∃ z, (procC m) k x = z := ⟨_, rfl⟩
   have HZ := Lib.hid hz
   clear hz
   have hkw : Kept Nil W1 (wr.alloc (.cells #[.string x.name, .int .i64 x.weight, .slice x.va x.vs.length x.vc, .slice x.sa x.ss.length x.sc] 34)) := HKr.out.alloc _
   have HKw := Lib.hid hkw
   clear hkw
   go_wp2_with fail
   refine (CkProc_is k x _ (HC.out.nil (HK.out.step HKw.out)) (HM.out.nil (HK.out.step HKw.out)) HS.out HMX.out (HM.out.pp x (List.mem_of_getElem? HMX.out)).vl).mono ?_
   rintro e w5 ⟨rfl, hk5⟩
   rw [show procC _ _ _ = _ from HZ.out]
   have HK5 := Lib.hid (HKw.out.step hk5)
   have hz5 := hk5.size
   rw [World.size_alloc] at hz5
   have hzg5 : w.heap.size < w5.heap.size := by omega
   clear hk5
   have r0 := HK5.out.cell G0.out (fun h => h)
   have r1 := HK5.out.cell G1.out (fun h => h)
   have f0 := HK5.out.frozen (p := ⟨w.heap.size, 0, none⟩) hzg (frozen_of GB.out 0) (fun h => h)
   have f1 := HK5.out.frozen (p := ⟨w.heap.size, 1, none⟩) hzg (frozen_of GB.out 1) (fun h => h)
   by_cases hz0 : z = 0
   ·have fz : (z != 0) = false := by simp [hz0]
    have HN2 := Lib.hid (show ∀ (j : Nat) (y : Pr), j < k + 1 → xs[j]? = some y → (procC m) j y = 0 from fun j y hj hy => by
     by_cases e : j = k
     ·subst e; rw [HEX.out] at hy; cases hy; exact HZ.out.trans hz0
     ·exact HALL.out j y (by omega) hy)
    clear hz0 r0 r1 f0 f1
    go_wp2_with fail
    go_round
    case measure => (simp [intOf] <;> omega)
    exact ⟨k + 1, by omega, by go_num, HN2.out, HK5.out⟩
   ·have fz : (z != 0) = true := by simp [hz0]
    have HN := Lib.hid (show r = (z, (a : Int) + k + 1) from HRR.out.symm.trans (first_mapIdx HALL.out HEX.out HZ.out hz0))
    clear hz0
    go_wp2_with fail
    refine bodyPost_ret (v := .agg #[.int .i64 z, .int .i64 ((a : Int) + k + 1)]) (by simp [results, Tryz.results51, go_sem, r0, r1]) rfl ?_
    rw [HN.out]
    exact ⟨rfl, ((HK.out.step HK5.out).setCell (.inr (Nat.le_refl _)) _).setCell (.inr (Nat.le_refl _)) _⟩
  ·obtain rfl : k = xs.length := by omega
   have HN := Lib.hid (show r = (0, 0) from HRR.out.symm.trans (first_mapIdx_ok HALL.out))
   have r0 := HKr.out.cell G0.out (fun h => h)
   have r1 := HKr.out.cell G1.out (fun h => h)
   have f0 := HKr.out.frozen (p := ⟨w.heap.size, 0, none⟩) hzg (frozen_of GB.out 0) (fun h => h)
   have f1 := HKr.out.frozen (p := ⟨w.heap.size, 1, none⟩) hzg (frozen_of GB.out 1) (fun h => h)
   go_wp2_with fail
   refine bodyPost_ret (v := .agg #[.int .i64 0, .int .i64 0]) (by simp [results, Tryz.results51, go_sem, r0, r1]) rfl ?_
   rw [HN.out]
   exact ⟨rfl, ((HK.out.step HKr.out).setCell (.inr (Nat.le_refl _)) _).setCell (.inr (Nat.le_refl _)) _⟩
set_option maxRecDepth 4000 in
set_option maxHeartbeats 8000000 in
theorem EachLink_is {c bp bl : Nat} {m : Md} (xs : List Lk) (hxs : xs = m.ls) (A : Option Addr) (cap a : Nat) (w : World) (hc : CkAt w c bp bl m) (hm : RModel w m) (hs : SzM m) (hr : RLinks w A xs) (hl : xs.length ≤ 100000) (ha : a ≤ 100000) :
  Calls Tryz.prog 53 #[.slice A xs.length cap, .int .i64 (a : Int), .func (.func 54) #[.pointer (some ⟨c, 0, none⟩)] #[]] w fun e w' => e = .returned (.agg #[.int .i64 (firstAt (xs.mapIdx (linkC m)) a).1, .int .i64 (firstAt (xs.mapIdx (linkC m)) a).2]) ∧ Kept Nil w w' := by
 obtain ⟨r, hrr⟩ : ∃ r, firstAt (xs.mapIdx (linkC m)) a = r := ⟨_, rfl⟩
 rw [hrr]
 have HRR := Lib.hid hrr
 have HC := Lib.hid hc
 have HM := Lib.hid hm
 have HS := Lib.hid hs
 have HX := Lib.hid hxs
 have HA := Lib.hid hr
 clear hrr hc hm hs hxs hr
 obtain ⟨W1, hW⟩ : ∃ W, (w.alloc (.cells #[.int .i64 0, .int .i64 0] 45)) = W := ⟨_, rfl⟩
 have hk : Kept Nil w W1 := by rw [← hW]; exact ((Kept.refl Nil w).alloc _)
 have hsz : W1.heap.size = w.heap.size + 1 := by rw [← hW]; simp
 have hb : W1.heap[w.heap.size]? = some (.cells #[.int .i64 0, .int .i64 0] 45 (0, 0)) := by
  rw [← hW]
  have h9 := heap_new w (.cells #[.int .i64 0, .int .i64 0] 45)
  exact h9
 have G0 := Lib.hid (show W1.cell? ⟨w.heap.size, 0, none⟩ = some (.int .i64 0) by rw [cell_of hb]; rfl)
 have G1 := Lib.hid (show W1.cell? ⟨w.heap.size, 1, none⟩ = some (.int .i64 0) by rw [cell_of hb]; rfl)
 have GB := Lib.hid hb
 have hzg : w.heap.size < W1.heap.size := by omega
 clear hb
 have HW := Lib.hid hW
 have HK := Lib.hid hk
 have HSZ := Lib.hid hsz
 clear hW hk hsz
 go_enter Tryz.func53, Tryz.ntmps53
 go_wp2_with fail
 rw [HW.out]
 go_loopw [12] (fun i wr => ∃ k : Nat, k ≤ xs.length ∧ i = .int .i64 k ∧ (∀ (j : Nat) (x : Lk), j < k → xs[j]? = some x → (linkC m) j x = 0) ∧ Kept Nil W1 wr) (fun i _ => xs.length - (intOf i).toNat)
 case atStart => exact ⟨0, Nat.zero_le _, rfl, fun j v h => by omega, Kept.refl _ _⟩
 case round =>
  obtain ⟨k, hk, rfl, hall, hK⟩ := hrel
  have HALL := Lib.hid hall
  have HKr := Lib.hid hK
  have hzr := hK.size
  clear hall hK
  have hzgr : w.heap.size < wr.heap.size := by omega
  by_cases hlt : k < xs.length
  ·obtain ⟨x, ex⟩ : ∃ v, xs[k]? = some v := ⟨_, List.getElem?_eq_getElem hlt⟩
   obtain ⟨b2, off2, e1, d0, d1, d2, d3, d4⟩ := (HA.out.nil (HK.out.step HKr.out)).at ex
   subst e1
   have hbv : b2 < wr.heap.size := World.block_lt_of_cell? _ _ d0
   have HEX := Lib.hid ex
   have HMX := Lib.hid (show m.ls[k]? = some x by rw [← HX.out]; exact ex)
   clear ex
   obtain ⟨z, hz⟩ : ∃ z, (linkC m) k x = z := ⟨_, rfl⟩
   have HZ := Lib.hid hz
   clear hz
   have hkw : Kept Nil W1 (wr.alloc (.cells #[.string x.name, .string x.src, .string x.dst, .int .i64 x.delay, .int .i64 x.weight] 42)) := HKr.out.alloc _
   have HKw := Lib.hid hkw
   clear hkw
   go_wp2_with fail
   refine (CkLink_is k x _ (HC.out.nil (HK.out.step HKw.out)) HS.out HMX.out).mono ?_
   rintro e w5 ⟨rfl, hk5⟩
   rw [show linkC _ _ _ = _ from HZ.out]
   have HK5 := Lib.hid (HKw.out.step hk5)
   have hz5 := hk5.size
   rw [World.size_alloc] at hz5
   have hzg5 : w.heap.size < w5.heap.size := by omega
   clear hk5
   have r0 := HK5.out.cell G0.out (fun h => h)
   have r1 := HK5.out.cell G1.out (fun h => h)
   have f0 := HK5.out.frozen (p := ⟨w.heap.size, 0, none⟩) hzg (frozen_of GB.out 0) (fun h => h)
   have f1 := HK5.out.frozen (p := ⟨w.heap.size, 1, none⟩) hzg (frozen_of GB.out 1) (fun h => h)
   by_cases hz0 : z = 0
   ·have fz : (z != 0) = false := by simp [hz0]
    have HN2 := Lib.hid (show ∀ (j : Nat) (y : Lk), j < k + 1 → xs[j]? = some y → (linkC m) j y = 0 from fun j y hj hy => by
     by_cases e : j = k
     ·subst e; rw [HEX.out] at hy; cases hy; exact HZ.out.trans hz0
     ·exact HALL.out j y (by omega) hy)
    clear hz0 r0 r1 f0 f1
    go_wp2_with fail
    go_round
    case measure => (simp [intOf] <;> omega)
    exact ⟨k + 1, by omega, by go_num, HN2.out, HK5.out⟩
   ·have fz : (z != 0) = true := by simp [hz0]
    have HN := Lib.hid (show r = (z, (a : Int) + k + 1) from HRR.out.symm.trans (first_mapIdx HALL.out HEX.out HZ.out hz0))
    clear hz0
    go_wp2_with fail
    refine bodyPost_ret (v := .agg #[.int .i64 z, .int .i64 ((a : Int) + k + 1)]) (by simp [results, Tryz.results53, go_sem, r0, r1]) rfl ?_
    rw [HN.out]
    exact ⟨rfl, ((HK.out.step HK5.out).setCell (.inr (Nat.le_refl _)) _).setCell (.inr (Nat.le_refl _)) _⟩
  ·obtain rfl : k = xs.length := by omega
   have HN := Lib.hid (show r = (0, 0) from HRR.out.symm.trans (first_mapIdx_ok HALL.out))
   have r0 := HKr.out.cell G0.out (fun h => h)
   have r1 := HKr.out.cell G1.out (fun h => h)
   have f0 := HKr.out.frozen (p := ⟨w.heap.size, 0, none⟩) hzg (frozen_of GB.out 0) (fun h => h)
   have f1 := HKr.out.frozen (p := ⟨w.heap.size, 1, none⟩) hzg (frozen_of GB.out 1) (fun h => h)
   go_wp2_with fail
   refine bodyPost_ret (v := .agg #[.int .i64 0, .int .i64 0]) (by simp [results, Tryz.results53, go_sem, r0, r1]) rfl ?_
   rw [HN.out]
   exact ⟨rfl, ((HK.out.step HKr.out).setCell (.inr (Nat.le_refl _)) _).setCell (.inr (Nat.le_refl _)) _⟩
set_option maxRecDepth 4000 in
set_option maxHeartbeats 8000000 in
theorem EachEvent_is {c bp bl : Nat} {m : Md} (xs : List Ev) (hxs : xs = m.es) (A : Option Addr) (cap a : Nat) (w : World) (hc : CkAt w c bp bl m) (hm : RModel w m) (hs : SzM m) (hr : REvents w A xs) (hl : xs.length ≤ 100000) (ha : a ≤ 100000) :
  Calls Tryz.prog 55 #[.slice A xs.length cap, .int .i64 (a : Int), .func (.func 56) #[.pointer (some ⟨c, 0, none⟩)] #[]] w fun e w' => e = .returned (.agg #[.int .i64 (firstAt (xs.mapIdx (fun _ e => eventC m e)) a).1, .int .i64 (firstAt (xs.mapIdx (fun _ e => eventC m e)) a).2]) ∧ Kept Nil w w' := by
 obtain ⟨r, hrr⟩ : ∃ r, firstAt (xs.mapIdx (fun _ e => eventC m e)) a = r := ⟨_, rfl⟩
 rw [hrr]
 have HRR := Lib.hid hrr
 have HC := Lib.hid hc
 have HM := Lib.hid hm
 have HS := Lib.hid hs
 have HX := Lib.hid hxs
 have HA := Lib.hid hr
 clear hrr hc hm hs hxs hr
 obtain ⟨W1, hW⟩ : ∃ W, (w.alloc (.cells #[.int .i64 0, .int .i64 0] 45)) = W := ⟨_, rfl⟩
 have hk : Kept Nil w W1 := by rw [← hW]; exact ((Kept.refl Nil w).alloc _)
 have hsz : W1.heap.size = w.heap.size + 1 := by rw [← hW]; simp
 have hb : W1.heap[w.heap.size]? = some (.cells #[.int .i64 0, .int .i64 0] 45 (0, 0)) := by
  rw [← hW]
  have h9 := heap_new w (.cells #[.int .i64 0, .int .i64 0] 45)
  exact h9
 have G0 := Lib.hid (show W1.cell? ⟨w.heap.size, 0, none⟩ = some (.int .i64 0) by rw [cell_of hb]; rfl)
 have G1 := Lib.hid (show W1.cell? ⟨w.heap.size, 1, none⟩ = some (.int .i64 0) by rw [cell_of hb]; rfl)
 have GB := Lib.hid hb
 have hzg : w.heap.size < W1.heap.size := by omega
 clear hb
 have HW := Lib.hid hW
 have HK := Lib.hid hk
 have HSZ := Lib.hid hsz
 clear hW hk hsz
 go_enter Tryz.func55, Tryz.ntmps55
 go_wp2_with fail
 rw [HW.out]
 go_loopw [12] (fun i wr => ∃ k : Nat, k ≤ xs.length ∧ i = .int .i64 k ∧ (∀ (j : Nat) (x : Ev), j < k → xs[j]? = some x → (fun _ e => eventC m e) j x = 0) ∧ Kept Nil W1 wr) (fun i _ => xs.length - (intOf i).toNat)
 case atStart => exact ⟨0, Nat.zero_le _, rfl, fun j v h => by omega, Kept.refl _ _⟩
 case round =>
  obtain ⟨k, hk, rfl, hall, hK⟩ := hrel
  have HALL := Lib.hid hall
  have HKr := Lib.hid hK
  have hzr := hK.size
  clear hall hK
  have hzgr : w.heap.size < wr.heap.size := by omega
  by_cases hlt : k < xs.length
  ·obtain ⟨x, ex⟩ : ∃ v, xs[k]? = some v := ⟨_, List.getElem?_eq_getElem hlt⟩
   obtain ⟨b2, off2, e1, d0, d1, d2⟩ := (HA.out.nil (HK.out.step HKr.out)).at ex
   subst e1
   have hbv : b2 < wr.heap.size := World.block_lt_of_cell? _ _ d0
   have HEX := Lib.hid ex
   have HMX := Lib.hid (show m.es[k]? = some x by rw [← HX.out]; exact ex)
   clear ex
   obtain ⟨z, hz⟩ : ∃ z, (fun _ e => eventC m e) k x = z := ⟨_, rfl⟩
   have HZ := Lib.hid hz
   clear hz
   have hkw : Kept Nil W1 (wr.alloc (.cells #[.string x.to, .int .i64 x.at_, .int .i64 x.value] 48)) := HKr.out.alloc _
   have HKw := Lib.hid hkw
   clear hkw
   go_wp2_with fail
   refine (CkEvent_is (k : Int) x _ (HC.out.nil (HK.out.step HKw.out)) (HS.out.e x (List.mem_of_getElem? HMX.out))).mono ?_
   rintro e w5 ⟨rfl, hk5⟩
   rw [show eventC _ _ = _ from HZ.out]
   have HK5 := Lib.hid (HKw.out.step hk5)
   have hz5 := hk5.size
   rw [World.size_alloc] at hz5
   have hzg5 : w.heap.size < w5.heap.size := by omega
   clear hk5
   have r0 := HK5.out.cell G0.out (fun h => h)
   have r1 := HK5.out.cell G1.out (fun h => h)
   have f0 := HK5.out.frozen (p := ⟨w.heap.size, 0, none⟩) hzg (frozen_of GB.out 0) (fun h => h)
   have f1 := HK5.out.frozen (p := ⟨w.heap.size, 1, none⟩) hzg (frozen_of GB.out 1) (fun h => h)
   by_cases hz0 : z = 0
   ·have fz : (z != 0) = false := by simp [hz0]
    have HN2 := Lib.hid (show ∀ (j : Nat) (y : Ev), j < k + 1 → xs[j]? = some y → (fun _ e => eventC m e) j y = 0 from fun j y hj hy => by
     by_cases e : j = k
     ·subst e; rw [HEX.out] at hy; cases hy; exact HZ.out.trans hz0
     ·exact HALL.out j y (by omega) hy)
    clear hz0 r0 r1 f0 f1
    go_wp2_with fail
    go_round
    case measure => (simp [intOf] <;> omega)
    exact ⟨k + 1, by omega, by go_num, HN2.out, HK5.out⟩
   ·have fz : (z != 0) = true := by simp [hz0]
    have HN := Lib.hid (show r = (z, (a : Int) + k + 1) from HRR.out.symm.trans (first_mapIdx HALL.out HEX.out HZ.out hz0))
    clear hz0
    go_wp2_with fail
    refine bodyPost_ret (v := .agg #[.int .i64 z, .int .i64 ((a : Int) + k + 1)]) (by simp [results, Tryz.results55, go_sem, r0, r1]) rfl ?_
    rw [HN.out]
    exact ⟨rfl, ((HK.out.step HK5.out).setCell (.inr (Nat.le_refl _)) _).setCell (.inr (Nat.le_refl _)) _⟩
  ·obtain rfl : k = xs.length := by omega
   have HN := Lib.hid (show r = (0, 0) from HRR.out.symm.trans (first_mapIdx_ok HALL.out))
   have r0 := HKr.out.cell G0.out (fun h => h)
   have r1 := HKr.out.cell G1.out (fun h => h)
   have f0 := HKr.out.frozen (p := ⟨w.heap.size, 0, none⟩) hzg (frozen_of GB.out 0) (fun h => h)
   have f1 := HKr.out.frozen (p := ⟨w.heap.size, 1, none⟩) hzg (frozen_of GB.out 1) (fun h => h)
   go_wp2_with fail
   refine bodyPost_ret (v := .agg #[.int .i64 0, .int .i64 0]) (by simp [results, Tryz.results55, go_sem, r0, r1]) rfl ?_
   rw [HN.out]
   exact ⟨rfl, ((HK.out.step HKr.out).setCell (.inr (Nat.le_refl _)) _).setCell (.inr (Nat.le_refl _)) _⟩
end Go.Proofs.YtniocgnfgpaioaaGreat.Mo
end
