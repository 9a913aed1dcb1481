/- The walks of the checker's link and event. -/
import Derived.Test.YthgbahlkflmgiaaCkObj
namespace Go.Proofs.Ythgbahlkflmgiaa.Mo
open Go Go.RowKit Go.Proofs.Ythgbahlkflmgiaa.Lb
set_option linter.unusedVariables false
set_option linter.unusedSimpArgs false

set_option maxRecDepth 4000 in
set_option maxHeartbeats 8000000 in
theorem CkLink_is {c bp bl : Nat} {m : Md} (i : Nat) (l : Lk) (w : World) (hc : CkAt w c bp bl m) (hs : SzM m) (hi : m.ls[i]? = some l) : Calls Try.prog 37 #[.pointer (some ⟨c, 0, none⟩), .int .i64 (i : Int), l.cs] w fun e w' => e = .returned (.int .i64 (linkC m i l)) ∧ Kept Nil w w' := by
  obtain ⟨r, hr⟩ : ∃ r, linkC m i l = r := ⟨_, rfl⟩
  rw [hr]
  have HR := Lib.hid hr
  have HC := Lib.hid hc
  have HZ1 := Lib.hid (hs.ln l (List.mem_of_getElem? hi))
  have HZ2 := Lib.hid (hs.lsrc l (List.mem_of_getElem? hi))
  have HZ3 := Lib.hid (hs.ldst l (List.mem_of_getElem? hi))
  obtain ⟨j, hj⟩ := find_own (f := Lk.name) hi
  have HY := Lib.hid hj
  clear hr hc hs hi hj
  obtain ⟨ver, pa, ps, pc, la, ls, lc, ea, es, ec⟩ := m
  obtain ⟨name, src, dst, delay, weight⟩ := l
  unfold Lk.cs
  simp only at *
  obtain ⟨W1, hW⟩ : ∃ W, (w.alloc (.cells #[.string name, .string src, .string dst, .int .i64 delay, .int .i64 weight] 48)) = W := ⟨_, rfl⟩
  have hk : Kept Nil w W1 := by rw [← hW]; exact ((Kept.refl Nil w).alloc _)
  have hsz : W1.heap.size = w.heap.size + 1 := by rw [← hW]; simp
  have hb : W1.heap[w.heap.size]? = some (.cells #[.string name, .string src, .string dst, .int .i64 delay, .int .i64 weight] 48 (0, 0)) := by
    rw [← hW]
    have h9 := heap_new w (.cells #[.string name, .string src, .string dst, .int .i64 delay, .int .i64 weight] 48)
    exact h9
  have G0 := Lib.hid (show W1.cell? ⟨w.heap.size, 0, none⟩ = some (.string name) by rw [cell_of hb]; rfl)
  have G1 := Lib.hid (show W1.cell? ⟨w.heap.size, 1, none⟩ = some (.string src) by rw [cell_of hb]; rfl)
  have G2 := Lib.hid (show W1.cell? ⟨w.heap.size, 2, none⟩ = some (.string dst) by rw [cell_of hb]; rfl)
  have G3 := Lib.hid (show W1.cell? ⟨w.heap.size, 3, none⟩ = some (.int .i64 delay) by rw [cell_of hb]; rfl)
  have G4 := Lib.hid (show W1.cell? ⟨w.heap.size, 4, none⟩ = some (.int .i64 weight) by rw [cell_of hb]; rfl)
  have GB := Lib.hid hb
  have hzg : w.heap.size < W1.heap.size := by omega
  clear hb
  have HW := Lib.hid hW
  have HK := Lib.hid hk
  have HSZ := Lib.hid hsz
  clear hW hk hsz
  obtain ⟨t, ht⟩ : ∃ t, wtB ver weight = t := ⟨_, rfl⟩
  have HT := Lib.hid ht
  obtain ⟨cn, hcn⟩ : ∃ cn, nameC name = cn := ⟨_, rfl⟩
  have HCN := Lib.hid hcn
  obtain ⟨ys, hys⟩ : ∃ y, findI (ps.map Pr.name) src = y := ⟨_, rfl⟩
  have HYS := Lib.hid hys
  obtain ⟨yd, hyd⟩ : ∃ y, findI (ps.map Pr.name) dst = y := ⟨_, rfl⟩
  have HYD := Lib.hid hyd
  obtain ⟨bs, hbs⟩ : ∃ b, (!decide (ys < 0)) = b := ⟨_, rfl⟩
  have HBS := Lib.hid hbs
  obtain ⟨bd, hbd⟩ : ∃ b, (!decide (yd < 0)) = b := ⟨_, rfl⟩
  have HBD := Lib.hid hbd
  clear ht hcn hys hyd hbs hbd
  go_enter Try.func37, Try.ntmps37
  go_wp2_with fail
  rw [HW.out]
  refine (Check_is name _ HZ1.out).mono ?_
  rintro e w1 ⟨rfl, rfl⟩
  rw [HCN.out]
  by_cases hn : rightName name = true
  · obtain rfl : cn = 0 := by rw [← HCN.out]; exact nameC_yes hn
    have HNm := Lib.hid hn
    clear hn
    go_wp2_with fail
    have g0 := (Kept.refl Nil W1).cell G0.out (fun h => h)
    have g1 := (Kept.refl Nil W1).cell G1.out (fun h => h)
    have g2 := (Kept.refl Nil W1).cell G2.out (fun h => h)
    have g3 := (Kept.refl Nil W1).cell G3.out (fun h => h)
    have g4 := (Kept.refl Nil W1).cell G4.out (fun h => h)
    obtain ⟨m0, m1, m2, m3, m4, m5, hcb⟩ := (HC.out.nil HK.out).cells
    simp only at m0 m1 m2 m3
    obtain ⟨kk, hlm⟩ := (HC.out.nil HK.out).lm
    have hlook := ix_val hlm name HZ1.out HY.out
    clear hlm
    by_cases hyi : (j : Int) = (i : Int)
    · have fy : ((j : Int) != (i : Int)) = false := by simp [hyi]
      have HYI := Lib.hid (HY.out.trans hyi)
      clear hyi
      go_big_quiet (fail)
      clear hlook m0 m1 m2 m3 m4 m5
      obtain ⟨W2, hW2⟩ : ∃ W2, W1.drewN nq = W2 := ⟨_, rfl⟩
      have hk2 : Kept Nil W1 W2 := by rw [← hW2]; exact (Kept.refl Nil W1).drewN nq
      rw [hW2]
      have HK2 := Lib.hid hk2
      have HC2 := Lib.hid (HC.out.nil (HK.out.step hk2))
      have hz2 := hk2.size
      clear hW2 hk2
      clear g0 g1 g2 g3 g4
      have g0 := (HK2.out).cell G0.out (fun h => h)
      have g1 := (HK2.out).cell G1.out (fun h => h)
      have g2 := (HK2.out).cell G2.out (fun h => h)
      have g3 := (HK2.out).cell G3.out (fun h => h)
      have g4 := (HK2.out).cell G4.out (fun h => h)
      by_cases hq1 : ys < 0
      · skip
        obtain rfl : bs = false := by rw [← HBS.out]; simp; omega
        have HN := Lib.hid (show r = 4 by rw [← HR.out]; unfold linkC; simp only [HNm.out, HYI.out, HYS.out, HYD.out, HT.out]; simp [*])
        clear hq1
        go_wp2_with (first | (go_at_call 57; (with_reducible refine (There_is src W2 HC2.out HZ2.out).mono ?_); rintro e w1 ⟨rfl, rfl⟩; rw [show findI _ src = _ from HYS.out, HBS.out]) | (go_at_call 57; (with_reducible refine (There_is dst W2 HC2.out HZ3.out).mono ?_); rintro e w1 ⟨rfl, rfl⟩; rw [show findI _ dst = _ from HYD.out, HBD.out]) | (go_at_call 58; refine (Within_is delay 1 1099511627776 _).mono ?_; rintro e w1 ⟨rfl, rfl⟩) | (go_at_call 54; refine (CkWeight_is weight W2 HC2.out).mono ?_; rintro e w1 ⟨rfl, rfl⟩; rw [show wtB _ _ = _ from HT.out]))
        go_ret
        exact ⟨by rw [HN.out]; rfl, HK.out.step HK2.out⟩
      · skip
        obtain rfl : bs = true := by rw [← HBS.out]; simp; omega
        by_cases hq2 : yd < 0
        · skip
          obtain rfl : bd = false := by rw [← HBD.out]; simp; omega
          have HN := Lib.hid (show r = 4 by rw [← HR.out]; unfold linkC; simp only [HNm.out, HYI.out, HYS.out, HYD.out, HT.out]; simp [*])
          clear hq1 hq2
          go_wp2_with (first | (go_at_call 57; (with_reducible refine (There_is src W2 HC2.out HZ2.out).mono ?_); rintro e w1 ⟨rfl, rfl⟩; rw [show findI _ src = _ from HYS.out, HBS.out]) | (go_at_call 57; (with_reducible refine (There_is dst W2 HC2.out HZ3.out).mono ?_); rintro e w1 ⟨rfl, rfl⟩; rw [show findI _ dst = _ from HYD.out, HBD.out]) | (go_at_call 58; refine (Within_is delay 1 1099511627776 _).mono ?_; rintro e w1 ⟨rfl, rfl⟩) | (go_at_call 54; refine (CkWeight_is weight W2 HC2.out).mono ?_; rintro e w1 ⟨rfl, rfl⟩; rw [show wtB _ _ = _ from HT.out]))
          go_ret
          exact ⟨by rw [HN.out]; rfl, HK.out.step HK2.out⟩
        · skip
          obtain rfl : bd = true := by rw [← HBD.out]; simp; omega
          by_cases hq3 : 1 ≤ delay
          · skip
            have fq3_0y : decide (1 ≤ delay) = true := by first | (simp [hq3]; done) | (simp; omega) | (simp at hq3 ⊢; exact hq3) | exact hq3
            by_cases hq4 : delay ≤ 1099511627776
            · skip
              have fq4_0y : decide (delay ≤ 1099511627776) = true := by first | (simp [hq4]; done) | (simp; omega) | (simp at hq4 ⊢; exact hq4) | exact hq4
              by_cases hq5 : t = true
              · skip
                have fq5_0y : t = true := by first | (simp [hq5]; done) | (simp; omega) | (simp at hq5 ⊢; exact hq5) | exact hq5
                have q1 : ¬ delay < 1 := by omega
                have q2 : ¬ 1099511627776 < delay := by omega
                have HN := Lib.hid (show r = 0 by rw [← HR.out]; unfold linkC; simp only [HNm.out, HYI.out, HYS.out, HYD.out, HT.out]; simp [*])
                clear hq1 hq2 hq3 hq4 hq5 q1 q2
                go_wp2_with (first | (go_at_call 57; (with_reducible refine (There_is src W2 HC2.out HZ2.out).mono ?_); rintro e w1 ⟨rfl, rfl⟩; rw [show findI _ src = _ from HYS.out, HBS.out]) | (go_at_call 57; (with_reducible refine (There_is dst W2 HC2.out HZ3.out).mono ?_); rintro e w1 ⟨rfl, rfl⟩; rw [show findI _ dst = _ from HYD.out, HBD.out]) | (go_at_call 58; refine (Within_is delay 1 1099511627776 _).mono ?_; rintro e w1 ⟨rfl, rfl⟩) | (go_at_call 54; refine (CkWeight_is weight W2 HC2.out).mono ?_; rintro e w1 ⟨rfl, rfl⟩; rw [show wtB _ _ = _ from HT.out]))
                go_ret
                exact ⟨by rw [HN.out]; rfl, HK.out.step HK2.out⟩
              · skip
                have fq5_0n : t = false := by first | (simp [hq5]; done) | (simp; omega) | (simp at hq5 ⊢; exact hq5) | exact hq5
                have q1 : ¬ delay < 1 := by omega
                have q2 : ¬ 1099511627776 < delay := by omega
                have HN := Lib.hid (show r = 41 by rw [← HR.out]; unfold linkC; simp only [HNm.out, HYI.out, HYS.out, HYD.out, HT.out]; simp [*])
                clear hq1 hq2 hq3 hq4 hq5 q1 q2
                go_wp2_with (first | (go_at_call 57; (with_reducible refine (There_is src W2 HC2.out HZ2.out).mono ?_); rintro e w1 ⟨rfl, rfl⟩; rw [show findI _ src = _ from HYS.out, HBS.out]) | (go_at_call 57; (with_reducible refine (There_is dst W2 HC2.out HZ3.out).mono ?_); rintro e w1 ⟨rfl, rfl⟩; rw [show findI _ dst = _ from HYD.out, HBD.out]) | (go_at_call 58; refine (Within_is delay 1 1099511627776 _).mono ?_; rintro e w1 ⟨rfl, rfl⟩) | (go_at_call 54; refine (CkWeight_is weight W2 HC2.out).mono ?_; rintro e w1 ⟨rfl, rfl⟩; rw [show wtB _ _ = _ from HT.out]))
                go_ret
                exact ⟨by rw [HN.out]; rfl, HK.out.step HK2.out⟩
            · skip
              have fq4_0n : decide (delay ≤ 1099511627776) = false := by first | (simp [hq4]; done) | (simp; omega) | (simp at hq4 ⊢; exact hq4) | exact hq4
              have q2 : 1099511627776 < delay := by omega
              have HN := Lib.hid (show r = 42 by rw [← HR.out]; unfold linkC; simp only [HNm.out, HYI.out, HYS.out, HYD.out, HT.out]; simp [*])
              clear hq1 hq2 hq3 hq4 q2
              go_wp2_with (first | (go_at_call 57; (with_reducible refine (There_is src W2 HC2.out HZ2.out).mono ?_); rintro e w1 ⟨rfl, rfl⟩; rw [show findI _ src = _ from HYS.out, HBS.out]) | (go_at_call 57; (with_reducible refine (There_is dst W2 HC2.out HZ3.out).mono ?_); rintro e w1 ⟨rfl, rfl⟩; rw [show findI _ dst = _ from HYD.out, HBD.out]) | (go_at_call 58; refine (Within_is delay 1 1099511627776 _).mono ?_; rintro e w1 ⟨rfl, rfl⟩) | (go_at_call 54; refine (CkWeight_is weight W2 HC2.out).mono ?_; rintro e w1 ⟨rfl, rfl⟩; rw [show wtB _ _ = _ from HT.out]))
              go_ret
              exact ⟨by rw [HN.out]; rfl, HK.out.step HK2.out⟩
          · skip
            have fq3_0n : decide (1 ≤ delay) = false := by first | (simp [hq3]; done) | (simp; omega) | (simp at hq3 ⊢; exact hq3) | exact hq3
            have q1 : delay < 1 := by omega
            have HN := Lib.hid (show r = 42 by rw [← HR.out]; unfold linkC; simp only [HNm.out, HYI.out, HYS.out, HYD.out, HT.out]; simp [*])
            clear hq1 hq2 hq3 q1
            go_wp2_with (first | (go_at_call 57; (with_reducible refine (There_is src W2 HC2.out HZ2.out).mono ?_); rintro e w1 ⟨rfl, rfl⟩; rw [show findI _ src = _ from HYS.out, HBS.out]) | (go_at_call 57; (with_reducible refine (There_is dst W2 HC2.out HZ3.out).mono ?_); rintro e w1 ⟨rfl, rfl⟩; rw [show findI _ dst = _ from HYD.out, HBD.out]) | (go_at_call 58; refine (Within_is delay 1 1099511627776 _).mono ?_; rintro e w1 ⟨rfl, rfl⟩) | (go_at_call 54; refine (CkWeight_is weight W2 HC2.out).mono ?_; rintro e w1 ⟨rfl, rfl⟩; rw [show wtB _ _ = _ from HT.out]))
            go_ret
            exact ⟨by rw [HN.out]; rfl, HK.out.step HK2.out⟩
    · have fy : ((j : Int) != (i : Int)) = true := by simp [hyi]
      have HN := Lib.hid (show r = 5 by
        rw [← HR.out]; unfold linkC
        simp only [HNm.out, HY.out]
        simp [hyi])
      clear hyi
      go_big_quiet (fail)
      go_wp2_with fail
      go_ret
      exact ⟨by rw [HN.out]; rfl, HK.out.drewN _⟩
  · have hnf : rightName name = false := by simpa using hn
    obtain rfl : cn = 40 := by rw [← HCN.out]; exact nameC_no hnf
    have HN := Lib.hid (show r = 40 by
      rw [← HR.out]; unfold linkC
      simp only [hnf]
      simp)
    clear hn hnf
    go_wp2_with fail
    go_ret
    exact ⟨by rw [HN.out]; rfl, HK.out⟩
set_option maxHeartbeats 4000000 in
theorem CkEvent_is {c bp bl : Nat} {m : Md} (i : Int) (x : Ev) (w : World) (hc : CkAt w c bp bl m) (hs : x.to.size ≤ maxLen) : Calls Try.prog 39 #[.pointer (some ⟨c, 0, none⟩), .int .i64 i, x.cs] w fun e w' => e = .returned (.int .i64 (eventC m x)) ∧ Kept Nil w w' := by
  have HC := Lib.hid hc
  have HS := Lib.hid hs
  clear hc hs
  obtain ⟨ver, pa, ps, pc, la, ls, lc, ea, es, ec⟩ := m
  obtain ⟨tn, at_, val⟩ := x
  unfold Ev.cs
  simp only at *
  obtain ⟨ye, hye⟩ : ∃ y, findI (ps.map Pr.name) tn = y := ⟨_, rfl⟩
  have HYE := Lib.hid hye
  obtain ⟨be, hbe⟩ : ∃ b, (!decide (ye < 0)) = b := ⟨_, rfl⟩
  have HBE := Lib.hid hbe
  clear hye hbe
  have hk0 : Kept Nil w (w.alloc (.cells #[.string tn, .int .i64 at_, .int .i64 val] 57)) := (Kept.refl Nil w).alloc _
  have HC0 := Lib.hid (HC.out.nil hk0)
  by_cases hq6 : ye < 0
  · skip
    obtain rfl : be = false := by rw [← HBE.out]; simp; omega
    have HN := Lib.hid (show eventC ⟨ver, pa, ps, pc, la, ls, lc, ea, es, ec⟩ ⟨tn, at_, val⟩ = 4 by unfold eventC; simp only [HYE.out]; simp [*])
    clear hq6
    go_enter Try.func39, Try.ntmps39
    go_wp2_with (first | (go_at_call 57; refine (There_is tn _ HC0.out HS.out).mono ?_; rintro e w1 ⟨rfl, rfl⟩; rw [show findI _ tn = _ from HYE.out, HBE.out]) | (go_at_call 58; refine (Within_is at_ 0 1099511627776 _).mono ?_; rintro e w1 ⟨rfl, rfl⟩) | (go_at_call 59; refine (number_is val _).mono ?_; rintro e w1 ⟨rfl, rfl⟩))
    go_ret
    exact ⟨by rw [HN.out]; rfl, (by repeat (first | exact Kept.refl _ _ | assumption | refine Kept.drew ?_ | refine Kept.drewN ?_ _ | refine Kept.alloc ?_ _ | refine Kept.step ?_ (by assumption)))⟩
  · skip
    obtain rfl : be = true := by rw [← HBE.out]; simp; omega
    by_cases hq7 : 0 ≤ at_
    · skip
      have fq7_0y : decide (0 ≤ at_) = true := by first | (simp [hq7]; done) | (simp; omega) | (simp at hq7 ⊢; exact hq7) | exact hq7
      by_cases hq8 : at_ ≤ 1099511627776
      · skip
        have fq8_0y : decide (at_ ≤ 1099511627776) = true := by first | (simp [hq8]; done) | (simp; omega) | (simp at hq8 ⊢; exact hq8) | exact hq8
        have q1 : ¬ at_ < 0 := by omega
        have q2 : ¬ 1099511627776 < at_ := by omega
        by_cases hq9 : numB val = true
        · skip
          have fq9_0y : numB val = true := by first | (simp [hq9]; done) | (simp; omega) | (simp at hq9 ⊢; exact hq9) | exact hq9
          have HN := Lib.hid (show eventC ⟨ver, pa, ps, pc, la, ls, lc, ea, es, ec⟩ ⟨tn, at_, val⟩ = 0 by unfold eventC; simp only [HYE.out]; simp [*])
          clear hq6 hq7 hq8 q1 q2 hq9
          go_enter Try.func39, Try.ntmps39
          go_wp2_with (first | (go_at_call 57; refine (There_is tn _ HC0.out HS.out).mono ?_; rintro e w1 ⟨rfl, rfl⟩; rw [show findI _ tn = _ from HYE.out, HBE.out]) | (go_at_call 58; refine (Within_is at_ 0 1099511627776 _).mono ?_; rintro e w1 ⟨rfl, rfl⟩) | (go_at_call 59; refine (number_is val _).mono ?_; rintro e w1 ⟨rfl, rfl⟩))
          go_ret
          exact ⟨by rw [HN.out]; rfl, (by repeat (first | exact Kept.refl _ _ | assumption | refine Kept.drew ?_ | refine Kept.drewN ?_ _ | refine Kept.alloc ?_ _ | refine Kept.step ?_ (by assumption)))⟩
        · skip
          have fq9_0n : numB val = false := by first | (simp [hq9]; done) | (simp; omega) | (simp at hq9 ⊢; exact hq9) | exact hq9
          have HN := Lib.hid (show eventC ⟨ver, pa, ps, pc, la, ls, lc, ea, es, ec⟩ ⟨tn, at_, val⟩ = 23 by unfold eventC; simp only [HYE.out]; simp [*])
          clear hq6 hq7 hq8 q1 q2 hq9
          go_enter Try.func39, Try.ntmps39
          go_wp2_with (first | (go_at_call 57; refine (There_is tn _ HC0.out HS.out).mono ?_; rintro e w1 ⟨rfl, rfl⟩; rw [show findI _ tn = _ from HYE.out, HBE.out]) | (go_at_call 58; refine (Within_is at_ 0 1099511627776 _).mono ?_; rintro e w1 ⟨rfl, rfl⟩) | (go_at_call 59; refine (number_is val _).mono ?_; rintro e w1 ⟨rfl, rfl⟩))
          go_ret
          exact ⟨by rw [HN.out]; rfl, (by repeat (first | exact Kept.refl _ _ | assumption | refine Kept.drew ?_ | refine Kept.drewN ?_ _ | refine Kept.alloc ?_ _ | refine Kept.step ?_ (by assumption)))⟩
      · skip
        have fq8_0n : decide (at_ ≤ 1099511627776) = false := by first | (simp [hq8]; done) | (simp; omega) | (simp at hq8 ⊢; exact hq8) | exact hq8
        have q2 : 1099511627776 < at_ := by omega
        have HN := Lib.hid (show eventC ⟨ver, pa, ps, pc, la, ls, lc, ea, es, ec⟩ ⟨tn, at_, val⟩ = 23 by unfold eventC; simp only [HYE.out]; simp [*])
        clear hq6 hq7 hq8 q2
        go_enter Try.func39, Try.ntmps39
        go_wp2_with (first | (go_at_call 57; refine (There_is tn _ HC0.out HS.out).mono ?_; rintro e w1 ⟨rfl, rfl⟩; rw [show findI _ tn = _ from HYE.out, HBE.out]) | (go_at_call 58; refine (Within_is at_ 0 1099511627776 _).mono ?_; rintro e w1 ⟨rfl, rfl⟩) | (go_at_call 59; refine (number_is val _).mono ?_; rintro e w1 ⟨rfl, rfl⟩))
        go_ret
        exact ⟨by rw [HN.out]; rfl, (by repeat (first | exact Kept.refl _ _ | assumption | refine Kept.drew ?_ | refine Kept.drewN ?_ _ | refine Kept.alloc ?_ _ | refine Kept.step ?_ (by assumption)))⟩
    · skip
      have fq7_0n : decide (0 ≤ at_) = false := by first | (simp [hq7]; done) | (simp; omega) | (simp at hq7 ⊢; exact hq7) | exact hq7
      have q1 : at_ < 0 := by omega
      have HN := Lib.hid (show eventC ⟨ver, pa, ps, pc, la, ls, lc, ea, es, ec⟩ ⟨tn, at_, val⟩ = 23 by unfold eventC; simp only [HYE.out]; simp [*])
      clear hq6 hq7 q1
      go_enter Try.func39, Try.ntmps39
      go_wp2_with (first | (go_at_call 57; refine (There_is tn _ HC0.out HS.out).mono ?_; rintro e w1 ⟨rfl, rfl⟩; rw [show findI _ tn = _ from HYE.out, HBE.out]) | (go_at_call 58; refine (Within_is at_ 0 1099511627776 _).mono ?_; rintro e w1 ⟨rfl, rfl⟩) | (go_at_call 59; refine (number_is val _).mono ?_; rintro e w1 ⟨rfl, rfl⟩))
      go_ret
      exact ⟨by rw [HN.out]; rfl, (by repeat (first | exact Kept.refl _ _ | assumption | refine Kept.drew ?_ | refine Kept.drewN ?_ _ | refine Kept.alloc ?_ _ | refine Kept.step ?_ (by assumption)))⟩
end Go.Proofs.Ythgbahlkflmgiaa.Mo
