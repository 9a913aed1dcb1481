/- The walk of the checker's proc. -/
import Derived.Test.YthgbahlkflmgiaaCkMapS
import Derived.Test.YthgbahlkflmgiaaCkVars
namespace Go.Proofs.Ythgbahlkflmgiaa.Mo
open Go Go.RowKit Go.Proofs.Ythgbahlkflmgiaa.Lb
set_option linter.unusedVariables false
set_option linter.unusedSimpArgs false

theorem find_own {α : Type} {f : α → ByteArray} {xs : List α} {i : Nat} {x : α} (h : xs[i]? = some x) : ∃ j : Nat, findI (xs.map f) (f x) = (j : Int) := by
  rcases findI_cases (xs.map f) (f x) with ⟨_, h2⟩ | ⟨k, _, h1, _⟩
  · exact absurd rfl (h2 (f x) (List.mem_map.2 ⟨x, List.mem_of_getElem? h, rfl⟩))
  · exact ⟨k, h1⟩
set_option maxRecDepth 4000 in
set_option maxHeartbeats 8000000 in
theorem CkProc_is {c bp bl : Nat} {m : Md} (i : Nat) (p : Pr) (w : World) (hc : CkAt w c bp bl m) (hm : RModel w m) (hs : SzM m) (hi : m.ps[i]? = some p) (hv64 : p.vs.length ≤ maxLen) : Calls Try.prog 35 #[.pointer (some ⟨c, 0, none⟩), .int .i64 (i : Int), p.val] w fun e w' => e = .returned (.int .i64 (procC m i p)) ∧ Kept Nil w w' := by
  obtain ⟨r, hr⟩ : ∃ r, procC m i p = r := ⟨_, rfl⟩
  rw [hr]
  have HR := Lib.hid hr
  have HM := Lib.hid hm
  have HC := Lib.hid hc
  have HP := Lib.hid (hm.pp p (List.mem_of_getElem? hi))
  have HZ := Lib.hid (hs.p p (List.mem_of_getElem? hi))
  obtain ⟨j, hj⟩ := find_own (f := Pr.name) hi
  have hvl := (hm.pp p (List.mem_of_getElem? hi)).vl
  have hsl := (hm.pp p (List.mem_of_getElem? hi)).sl
  unfold maxLen at hvl hsl
  have HY := Lib.hid hj
  clear hr hm hc hs hi hj hv64
  obtain ⟨ver, pa, ps, pc, la, ls, lc, ea, es, ec⟩ := m
  obtain ⟨pn, pw, va, vs, vc, sa, ss, pc_⟩ := p
  unfold Pr.val
  simp only at *
  obtain ⟨W1, hW⟩ : ∃ W, (w.alloc (.cells #[.string pn, .int .i64 pw, .slice va vs.length vc, .slice sa ss.length pc_] 52)) = W := ⟨_, rfl⟩
  have hk : Kept Nil w W1 := by rw [← hW]; exact ((Kept.refl Nil w).alloc _)
  have hsz : W1.heap.size = w.heap.size + 1 := by rw [← hW]; simp
  have hb : W1.heap[w.heap.size]? = some (.cells #[.string pn, .int .i64 pw, .slice va vs.length vc, .slice sa ss.length pc_] 52 (0, 0)) := by
    rw [← hW]
    have h9 := heap_new w (.cells #[.string pn, .int .i64 pw, .slice va vs.length vc, .slice sa ss.length pc_] 52)
    exact h9
  have G0 := Lib.hid (show W1.cell? ⟨w.heap.size, 0, none⟩ = some (.string pn) by rw [cell_of hb]; rfl)
  have G1 := Lib.hid (show W1.cell? ⟨w.heap.size, 1, none⟩ = some (.int .i64 pw) by rw [cell_of hb]; rfl)
  have G2 := Lib.hid (show W1.cell? ⟨w.heap.size, 2, none⟩ = some (.slice va vs.length vc) by rw [cell_of hb]; rfl)
  have G3 := Lib.hid (show W1.cell? ⟨w.heap.size, 3, none⟩ = some (.slice sa ss.length pc_) by rw [cell_of hb]; rfl)
  have GB := Lib.hid hb
  have hzg : w.heap.size < W1.heap.size := by omega
  clear hb
  have HW := Lib.hid hW
  have HK := Lib.hid hk
  have HSZ := Lib.hid hsz
  clear hW hk hsz
  obtain ⟨t, ht⟩ : ∃ t, wtB ver pw = t := ⟨_, rfl⟩
  have HT := Lib.hid ht
  obtain ⟨cn, hcn⟩ : ∃ cn, nameC pn = cn := ⟨_, rfl⟩
  have HCN := Lib.hid hcn
  obtain ⟨vv, hvv⟩ : ∃ vv, varsC vs = vv := ⟨_, rfl⟩
  have HVV := Lib.hid hvv
  clear ht hcn hvv
  go_enter Try.func35, Try.ntmps35
  go_wp2_with fail
  rw [HW.out]
  refine (Check_is pn _ HZ.out.n).mono ?_
  rintro e w1 ⟨rfl, rfl⟩
  rw [HCN.out]
  by_cases hn : rightName pn = true
  · obtain rfl : cn = 0 := by rw [← HCN.out]; exact nameC_yes hn
    have HNm := Lib.hid hn
    clear hn
    go_wp2_with fail
    have g0 := (Kept.refl Nil W1).cell G0.out (fun h => h)
    have g1 := (Kept.refl Nil W1).cell G1.out (fun h => h)
    have g2 := (Kept.refl Nil W1).cell G2.out (fun h => h)
    have g3 := (Kept.refl Nil W1).cell G3.out (fun h => h)
    obtain ⟨m0, m1, m2, m3, m4, m5, hcb⟩ := (HC.out.nil HK.out).cells
    simp only at m0 m1 m2 m3
    obtain ⟨kk, hpm⟩ := (HC.out.nil HK.out).pm
    have hlook := ix_val hpm pn HZ.out.n HY.out
    clear hpm
    by_cases hyi : (j : Int) = (i : Int)
    · have fy : ((j : Int) != (i : Int)) = false := by simp [hyi]
      have HYI := Lib.hid (HY.out.trans hyi)
      clear hyi
      go_big_quiet (fail)
      clear hlook m0 m1 m2 m3 m4 m5
      obtain ⟨W2, hW2⟩ : ∃ W2, W1.drewN nq = W2 := ⟨_, rfl⟩
      have hk2 : Kept Nil W1 W2 := by rw [← hW2]; exact (Kept.refl Nil W1).drewN nq
      rw [hW2]
      have HK2 := Lib.hid hk2
      have hz2 := hk2.size
      clear hW2 hk2
      clear g0 g1 g2 g3
      have g0 := (HK2.out).cell G0.out (fun h => h)
      have g1 := (HK2.out).cell G1.out (fun h => h)
      have g2 := (HK2.out).cell G2.out (fun h => h)
      have g3 := (HK2.out).cell G3.out (fun h => h)
      have hzg2 : w.heap.size < W2.heap.size := by omega
      go_wp2_with fail
      refine (CkWeight_is pw W2 (HC.out.nil (HK.out.step HK2.out))).mono ?_
      rintro e w1 ⟨rfl, rfl⟩
      rw [show wtB _ _ = _ from HT.out]
      cases t with
      | false =>
        have HN := Lib.hid (show r = 41 by
          rw [← HR.out]; unfold procC
          simp only [HNm.out, HYI.out, HT.out]
          simp)
        go_wp2_with fail
        go_ret
        exact ⟨by rw [HN.out]; rfl, HK.out.step HK2.out⟩
      | true =>
        by_cases h64 : 64 < vs.length
        · have f64 : decide (64 < (vs.length : Int)) = true := by simp; omega
          have HN := Lib.hid (show r = 3 by
            rw [← HR.out]; unfold procC
            simp only [HNm.out, HYI.out, HT.out]
            simp [h64])
          go_wp2_with fail
          go_ret
          exact ⟨by rw [HN.out]; rfl, HK.out.step HK2.out⟩
        · have f64 : decide (64 < (vs.length : Int)) = false := by simp; omega
          by_cases h256 : 256 < ss.length
          · have f256 : decide (256 < (ss.length : Int)) = true := by simp; omega
            have HN := Lib.hid (show r = 3 by
              rw [← HR.out]; unfold procC
              simp only [HNm.out, HYI.out, HT.out]
              simp [h256])
            go_wp2_with fail
            go_ret
            exact ⟨by rw [HN.out]; rfl, HK.out.step HK2.out⟩
          · have f256 : decide (256 < (ss.length : Int)) = false := by simp; omega
            have hv0 : ∀ c : Int, varsC vs = c → c ≠ 0 → r = c := fun c h hc => HR.out.symm.trans (procC_vars (m := ⟨ver, pa, ps, pc, la, ls, lc, ea, es, ec⟩) (i := i) (p := ⟨pn, pw, va, vs, vc, sa, ss, pc_⟩) HNm.out HYI.out HT.out h64 h256 h hc)
            have hs0 : varsC vs = 0 → r = firstC (ss.map (stepC ls ⟨pn, pw, va, vs, vc, sa, ss, pc_⟩)) := fun h => HR.out.symm.trans (procC_steps (m := ⟨ver, pa, ps, pc, la, ls, lc, ea, es, ec⟩) (i := i) (p := ⟨pn, pw, va, vs, vc, sa, ss, pc_⟩) HNm.out HYI.out HT.out h64 h256 h)
            have HV := Lib.hid hv0
            have HS := Lib.hid hs0
            clear hv0 hs0
            go_wp2_with fail
            refine (Vars_is ⟨pn, pw, va, vs, vc, sa, ss, pc_⟩ W2 (HP.out.nil (HK.out.step HK2.out)) HZ.out (by simp only; omega)).mono ?_
            rintro e w3 ⟨rfl, hk3⟩
            rw [show varsC _ = _ from HVV.out]
            have HK3 := Lib.hid (HK2.out.step hk3)
            have hz3 := hk3.size
            clear hk3 f64 f256 fy
            clear g0 g1 g2 g3
            have g0 := (HK3.out).cell G0.out (fun h => h)
            have g1 := (HK3.out).cell G1.out (fun h => h)
            have g2 := (HK3.out).cell G2.out (fun h => h)
            have g3 := (HK3.out).cell G3.out (fun h => h)
            have hzg3 : w.heap.size < w3.heap.size := by omega
            by_cases hv0 : vv = 0
            · have fv : (vv != 0) = false := by simp [hv0]
              have HV0 := Lib.hid (HS.out (HVV.out.trans hv0))
              clear hv0
              go_wp2_with fail
              clear fv
              clear g0 g1 g2 g3
              go_loopw [51] (fun u wr => ∃ k : Nat, k ≤ ss.length ∧ u = .int .i64 k ∧ (∀ (j : Nat) (s : S), j < k → ss[j]? = some s → stepC ls ⟨pn, pw, va, vs, vc, sa, ss, pc_⟩ s = 0) ∧ Kept Nil W1 wr) (fun u _ => ss.length - (intOf u).toNat)
              case atStart => exact ⟨0, Nat.zero_le _, rfl, fun j v h => by omega, HK3.out⟩
              case round =>
                obtain ⟨k, hk, rfl, hall, hK⟩ := hrel
                have HALS := Lib.hid hall
                have HKs := Lib.hid hK
                have hzs := hK.size
                clear hall hK hz3 hzg3 hz2 hzg2
                have hzgs : w.heap.size < wr.heap.size := by omega
                have g0 := (HKs.out).cell G0.out (fun h => h)
                have g1 := (HKs.out).cell G1.out (fun h => h)
                have g2 := (HKs.out).cell G2.out (fun h => h)
                have g3 := (HKs.out).cell G3.out (fun h => h)
                by_cases hlt : k < ss.length
                · obtain ⟨⟨k0, nm, ak, an, as_⟩, es'⟩ : ∃ v, ss[k]? = some v := ⟨_, List.getElem?_eq_getElem hlt⟩
                  obtain ⟨b2, off2, e1, d0, d1, d2, d3, d4⟩ := (HP.out.nil (HK.out.step HKs.out)).s.at es'
                  simp only at e1
                  subst e1
                  have hbv : b2 < wr.heap.size := World.block_lt_of_cell? _ _ d0
                  obtain ⟨z, hz⟩ : ∃ z, stepC ls ⟨pn, pw, va, vs, vc, some ⟨b2, off2, none⟩, ss, pc_⟩ ⟨k0, nm, ak, an, as_⟩ = z := ⟨_, rfl⟩
                  have HES := Lib.hid es'
                  have HSN := Lib.hid (HZ.out.s _ (List.mem_of_getElem? es'))
                  have HZz := Lib.hid hz
                  clear es' hz
                  have hkw : Kept Nil W1 (wr.alloc (.cells #[.int .i64 k0, .string nm, .int .i64 ak, .int .i64 an, .string as_] 90)) := HKs.out.alloc _
                  have HKw := Lib.hid hkw
                  clear hkw
                  go_wp2_with fail
                  refine (CkStep_is (m := ⟨ver, pa, ps, pc, la, ls, lc, ea, es, ec⟩) ⟨pn, pw, va, vs, vc, some ⟨b2, off2, none⟩, ss, pc_⟩ ⟨k0, nm, ak, an, as_⟩ _ (HC.out.nil (HK.out.step HKw.out)) (HM.out.nil (HK.out.step HKw.out)) (HP.out.nil (HK.out.step HKw.out)) HSN.out).mono ?_
                  rintro e w5 ⟨rfl, hk5⟩
                  rw [show stepC _ _ _ = _ from HZz.out]
                  have HK5 := Lib.hid (HKw.out.step hk5)
                  clear hk5
                  by_cases hz0 : z = 0
                  · have fz : (z != 0) = false := by simp [hz0]
                    have HN2 := Lib.hid (show ∀ (j : Nat) (u : S), j < k + 1 → ss[j]? = some u → stepC ls ⟨pn, pw, va, vs, vc, some ⟨b2, off2, none⟩, ss, pc_⟩ u = 0 from fun j u hj hu => by
                      by_cases e : j = k
                      · subst e; rw [HES.out] at hu; cases hu; rw [HZz.out]; exact hz0
                      · exact HALS.out j u (by omega) hu)
                    clear hz0
                    go_wp2_with fail
                    go_round
                    case measure => (simp [intOf] <;> omega)
                    exact ⟨k + 1, by omega, by go_num, HN2.out, HK5.out⟩
                  · have fz : (z != 0) = true := by simp [hz0]
                    have HN := Lib.hid (show r = z from HV0.out.trans (stepsC_bad HALS.out HES.out HZz.out hz0))
                    clear hz0
                    go_wp2_with fail
                    go_ret
                    exact ⟨by rw [HN.out]; rfl, HK.out.step HK5.out⟩
                · obtain rfl : k = ss.length := by omega
                  have HN := Lib.hid (show r = 0 from HV0.out.trans (stepsC_ok HALS.out))
                  go_wp2_with fail
                  go_ret
                  exact ⟨by rw [HN.out]; rfl, HK.out.step HKs.out⟩
            · have fv : (vv != 0) = true := by simp [hv0]
              have HN := Lib.hid (show r = vv from HV.out _ HVV.out hv0)
              clear hv0
              go_wp2_with fail
              go_ret
              exact ⟨by rw [HN.out]; rfl, HK.out.step HK3.out⟩
    · have fy : ((j : Int) != (i : Int)) = true := by simp [hyi]
      have HN := Lib.hid (show r = 5 by
        rw [← HR.out]; unfold procC
        simp only [HNm.out, HY.out]
        simp [hyi])
      clear hyi
      go_big_quiet (fail)
      go_wp2_with fail
      go_ret
      exact ⟨by rw [HN.out]; rfl, HK.out.drewN _⟩
  · have hnf : rightName pn = false := by simpa using hn
    obtain rfl : cn = 40 := by rw [← HCN.out]; exact nameC_no hnf
    have HN := Lib.hid (show r = 40 by
      rw [← HR.out]; unfold procC
      simp only [hnf]
      simp)
    clear hn hnf
    go_wp2_with fail
    go_ret
    exact ⟨by rw [HN.out]; rfl, HK.out⟩
end Go.Proofs.Ythgbahlkflmgiaa.Mo
