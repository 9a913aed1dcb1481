/- The walks of sandtableref16.sameProc and Same: whether two are the same. -/
import Derived.Test.YtniocgnfgpaioaaGreatG17
import Derived.Deep.CutRange
import Derived.Deep.RegionHeld3
set_option linter.unusedVariables false
set_option linter.unusedSimpArgs false
namespace Go.Proofs.YtniocgnfgpaioaaGreat.Mo
open Go Go.RowKit Go.Proofs.YtniocgnfgpaioaaGreat.Lb Go.Proofs.YtniocgnfgpaioaaGreat.HpPure
set_option maxRecDepth 8000
theorem rows_eq {α : Type} {a b : List α} (hl : a.length = b.length) (h : ∀ j, j < a.length → a[j]? = b[j]?) : a = b :=
 List.ext_getElem? fun j => by
  by_cases hj : j < a.length
  ·exact h j hj
  ·rw [List.getElem?_eq_none (by omega), List.getElem?_eq_none (by omega)]
set_option maxHeartbeats 8000000 in
theorem rSameProc_is (pn qn : ByteArray) (pw qw : Int) (vs us : List V) (ss ts : List S) (va vb sa sb : Option Addr) (vc vd sc sd : Nat) (w : World) (h1 : RProc w ⟨pn, pw, va, vs, vc, sa, ss, sc⟩) (h2 : RProc w ⟨qn, qw, vb, us, vd, sb, ts, sd⟩) (hv : vs.length ≤ 100000 ∧ us.length ≤ 100000) (hs : ss.length ≤ 100000 ∧ ts.length ≤ 100000) :
  Calls Tryz.prog 43 #[.agg #[.string pn, .int .i64 pw, .slice va vs.length vc, .slice sa ss.length sc], .agg #[.string qn, .int .i64 qw, .slice vb us.length vd, .slice sb ts.length sd]] w fun e w' => e = .returned (.bool (eqP ⟨pn, pw, va, vs, vc, sa, ss, sc⟩ ⟨qn, qw, vb, us, vd, sb, ts, sd⟩)) ∧ Kept Nil w w' := by
 have H1 := Lib.hid h1
 have H2 := Lib.hid h2
 have hv1 := hv.1
 have hs1 := hs.1
 clear h1 h2
 obtain ⟨r, hr⟩ : ∃ r, eqP ⟨pn, pw, va, vs, vc, sa, ss, sc⟩ ⟨qn, qw, vb, us, vd, sb, ts, sd⟩ = r := ⟨_, rfl⟩
 rw [hr]
 have HRR := Lib.hid hr
 clear hr
 by_cases h1 : pn = qn
 ·skip
  have b1 : (pn.toList != qn.toList) = false := by simp [h1]
  have b1e : (pn.toList == qn.toList) = true := by simp [h1]
  have b1d : decide (pn.toList = qn.toList) = true := by simp [h1]
  by_cases h2 : pw = qw
  ·skip
   have b2 : (pw != qw) = false := by simp [h2]
   have b2e : (pw == qw) = true := by simp [h2]
   have b2d : decide (pw = qw) = true := by simp [h2]
   by_cases h3 : vs.length = us.length
   ·rw [← h3]
    by_cases h4 : ss.length = ts.length
    ·rw [← h4]
     have HL3 := Lib.hid h3
     have HL4 := Lib.hid h4
     have HN1 := Lib.hid h1
     have HN2 := Lib.hid h2
     clear h1 h2 h3 h4
     obtain ⟨W1, hW⟩ : ∃ W, ((w.alloc (.cells #[.string pn, .int .i64 pw, .slice va vs.length vc, .slice sa ss.length sc] 34)).alloc (.cells #[.string qn, .int .i64 qw, .slice vb vs.length vd, .slice sb ss.length sd] 34)) = W := ⟨_, rfl⟩
     have hk : Kept Nil w W1 := by rw [← hW]; exact (((Kept.refl Nil w).alloc _).alloc _)
     have hsz : W1.heap.size = w.heap.size + 2 := by rw [← hW]; simp
     have hb : W1.heap[w.heap.size]? = some (.cells #[.string pn, .int .i64 pw, .slice va vs.length vc, .slice sa ss.length sc] 34 (0, 0)) := by
      rw [← hW]
      rw [heap_old _ _ (by simp only [World.size_alloc]; omega)]
      have h9 := heap_new w (.cells #[.string pn, .int .i64 pw, .slice va vs.length vc, .slice sa ss.length sc] 34)
      exact h9
     have G0 := Lib.hid (show W1.cell? ⟨w.heap.size, 0, none⟩ = some (.string pn) by rw [cell_of hb]; rfl)
     have G1 := Lib.hid (show W1.cell? ⟨w.heap.size, 1, none⟩ = some (.int .i64 pw) by rw [cell_of hb]; rfl)
     have G2 := Lib.hid (show W1.cell? ⟨w.heap.size, 2, none⟩ = some (.slice va vs.length vc) by rw [cell_of hb]; rfl)
     have G3 := Lib.hid (show W1.cell? ⟨w.heap.size, 3, none⟩ = some (.slice sa ss.length sc) by rw [cell_of hb]; rfl)
     have GB := Lib.hid hb
     have hzg : w.heap.size < W1.heap.size := by omega
     clear hb
     have hb : W1.heap[w.heap.size + 1]? = some (.cells #[.string qn, .int .i64 qw, .slice vb vs.length vd, .slice sb ss.length sd] 34 (0, 0)) := by
      rw [← hW]
      have h9 := heap_new (w.alloc (.cells #[.string pn, .int .i64 pw, .slice va vs.length vc, .slice sa ss.length sc] 34)) (.cells #[.string qn, .int .i64 qw, .slice vb vs.length vd, .slice sb ss.length sd] 34)
      simp only [World.size_alloc] at h9
      exact h9
     have Q0 := Lib.hid (show W1.cell? ⟨w.heap.size + 1, 0, none⟩ = some (.string qn) by rw [cell_of hb]; rfl)
     have Q1 := Lib.hid (show W1.cell? ⟨w.heap.size + 1, 1, none⟩ = some (.int .i64 qw) by rw [cell_of hb]; rfl)
     have Q2 := Lib.hid (show W1.cell? ⟨w.heap.size + 1, 2, none⟩ = some (.slice vb vs.length vd) by rw [cell_of hb]; rfl)
     have Q3 := Lib.hid (show W1.cell? ⟨w.heap.size + 1, 3, none⟩ = some (.slice sb ss.length sd) by rw [cell_of hb]; rfl)
     have QB := Lib.hid hb
     have hzq : w.heap.size + 1 < W1.heap.size := by omega
     clear hb
     have HW := Lib.hid hW
     have HK := Lib.hid hk
     have HSZ := Lib.hid hsz
     clear hW hk hsz
     go_enter Tryz.func43, Tryz.ntmps43
     go_upto_region 1 with fail
     rw [HW.out]
     have g0 := ((Kept.refl Nil W1)).cell G0.out (fun h => h)
     have g1 := ((Kept.refl Nil W1)).cell G1.out (fun h => h)
     have g2 := ((Kept.refl Nil W1)).cell G2.out (fun h => h)
     have g3 := ((Kept.refl Nil W1)).cell G3.out (fun h => h)
     have q0 := ((Kept.refl Nil W1)).cell Q0.out (fun h => h)
     have q1 := ((Kept.refl Nil W1)).cell Q1.out (fun h => h)
     have q2 := ((Kept.refl Nil W1)).cell Q2.out (fun h => h)
     have q3 := ((Kept.refl Nil W1)).cell Q3.out (fun h => h)
     go_wp2_with fail
     go_loopw [5] (fun i wr => ∃ k : Nat, k ≤ vs.length ∧ i = .int .i64 k ∧ (∀ j, j < k → vs[j]? = us[j]?) ∧ Kept Nil W1 wr) (fun i _ => vs.length - (intOf i).toNat)
     case atStart => exact ⟨0, Nat.zero_le _, rfl, fun j hj => by omega, Kept.refl _ _⟩
     case round =>
      obtain ⟨k, hk, rfl, hall, hK⟩ := hrel
      have HALL := Lib.hid hall
      have HKR := Lib.hid hK
      have hzr := hK.size
      clear hall hK g0 g1 g2 g3 q0 q1 q2 q3
      have g0 := (HKR.out).cell G0.out (fun h => h)
      have g1 := (HKR.out).cell G1.out (fun h => h)
      have g2 := (HKR.out).cell G2.out (fun h => h)
      have g3 := (HKR.out).cell G3.out (fun h => h)
      have q0 := (HKR.out).cell Q0.out (fun h => h)
      have q1 := (HKR.out).cell Q1.out (fun h => h)
      have q2 := (HKR.out).cell Q2.out (fun h => h)
      have q3 := (HKR.out).cell Q3.out (fun h => h)
      by_cases hlt : k < vs.length
      ·obtain ⟨o, eo⟩ : ∃ o, vs[k]? = some o := ⟨_, List.getElem?_eq_getElem hlt⟩
       obtain ⟨u, eu⟩ : ∃ o, us[k]? = some o := ⟨_, List.getElem?_eq_getElem (by rw [← HL3.out]; exact hlt)⟩
       obtain ⟨x, off, e1, c0, c1⟩ := ((H1.out.nil (HK.out.step HKR.out)).v).at eo
       obtain ⟨y, off2, e2, d0, d1⟩ := ((H2.out.nil (HK.out.step HKR.out)).v).at eu
       have hbs : x < wr.heap.size := World.block_lt_of_cell? _ _ c0
       have hbs2 : y < wr.heap.size := World.block_lt_of_cell? _ _ d0
       have hlt2 : (k : Int) < (vs.length : Int) := by omega
       have hw : IntKind.i64.wrap ((k : Int) + 1) = (k : Int) + 1 := by rw [IntKind.wrap_i64]; omega
       have hne := neqV o u
       have EO := Lib.hid eo
       have EU := Lib.hid eu
       clear eo eu
       simp only at e1 e2
       subst e1
       subst e2
       cases he : eqV o u with
       | true =>
        have hou : o = u := eqV_iff.1 he
        have HOU := Lib.hid hou
        rw [he] at hne
        clear he hou
        go_upto_region 6 with fail
        go_big_quiet (fail)
        go_wp2_with fail
        go_round
        exact ⟨k + 1, by omega, by go_num, fun j hj => by (by_cases e : j = k; (rw [e, EO.out, EU.out, HOU.out]); exact HALL.out j (by omega)), HKR.out.drewN _⟩
        case measure => (simp [intOf] <;> omega)
       | false =>
        have hou : o ≠ u := fun h => by rw [h, eqV_refl] at he; cases he
        have HOU := Lib.hid hou
        rw [he] at hne
        clear he hou
        go_upto_region 6 with fail
        go_big_quiet (fail)
        go_wp2_with fail
        go_ret
        have hno : r = false := by
         rw [← HRR.out]
         refine eqP_no (fun h => HOU.out ?_)
         have h9 := EO.out
         rw [show vs = us from h.v, EU.out] at h9
         exact (Option.some.inj h9).symm
        exact ⟨by rw [hno]; rfl, HK.out.step (HKR.out.drewN _)⟩
      ·obtain rfl : k = vs.length := by omega
       have hrows := rows_eq HL3.out HALL.out
       have HROWSV := Lib.hid hrows
       clear hrows
       go_wp2_with fail
       obtain ⟨W2, hW2⟩ : ∃ x, x = wr := ⟨_, rfl⟩
       subst hW2
       have HK2 := Lib.hid HKR.out
       go_loopw [6] (fun i wr => ∃ k : Nat, k ≤ ss.length ∧ i = .int .i64 k ∧ (∀ j, j < k → ss[j]? = ts[j]?) ∧ Kept Nil W2 wr) (fun i _ => ss.length - (intOf i).toNat)
       case atStart => exact ⟨0, Nat.zero_le _, rfl, fun j hj => by omega, Kept.refl _ _⟩
       case round =>
        obtain ⟨k, hk, rfl, hall, hK⟩ := hrel
        have HALL := Lib.hid hall
        have HKR := Lib.hid hK
        have hzr := hK.size
        clear hall hK g0 g1 g2 g3 q0 q1 q2 q3
        have g0 := ((HK2.out.step HKR.out)).cell G0.out (fun h => h)
        have g1 := ((HK2.out.step HKR.out)).cell G1.out (fun h => h)
        have g2 := ((HK2.out.step HKR.out)).cell G2.out (fun h => h)
        have g3 := ((HK2.out.step HKR.out)).cell G3.out (fun h => h)
        have q0 := ((HK2.out.step HKR.out)).cell Q0.out (fun h => h)
        have q1 := ((HK2.out.step HKR.out)).cell Q1.out (fun h => h)
        have q2 := ((HK2.out.step HKR.out)).cell Q2.out (fun h => h)
        have q3 := ((HK2.out.step HKR.out)).cell Q3.out (fun h => h)
        by_cases hlt : k < ss.length
        ·obtain ⟨o, eo⟩ : ∃ o, ss[k]? = some o := ⟨_, List.getElem?_eq_getElem hlt⟩
         obtain ⟨u, eu⟩ : ∃ o, ts[k]? = some o := ⟨_, List.getElem?_eq_getElem (by rw [← HL4.out]; exact hlt)⟩
         obtain ⟨x, off, e1, c0, c1, c2, c3, c4⟩ := ((H1.out.nil (HK.out.step (HK2.out.step HKR.out))).s).at eo
         obtain ⟨y, off2, e2, d0, d1, d2, d3, d4⟩ := ((H2.out.nil (HK.out.step (HK2.out.step HKR.out))).s).at eu
         have hbs : x < wr.heap.size := World.block_lt_of_cell? _ _ c0
         have hbs2 : y < wr.heap.size := World.block_lt_of_cell? _ _ d0
         have hlt2 : (k : Int) < (ss.length : Int) := by omega
         have hw : IntKind.i64.wrap ((k : Int) + 1) = (k : Int) + 1 := by rw [IntKind.wrap_i64]; omega
         have hne := neqS o u
         have EO := Lib.hid eo
         have EU := Lib.hid eu
         clear eo eu
         simp only at e1 e2
         subst e1
         subst e2
         cases he : eqS o u with
         | true =>
          have hou : o = u := eqS_iff.1 he
          have HOU := Lib.hid hou
          rw [he] at hne
          clear he hou
          go_upto_region 11 with fail
          go_big_quiet (fail)
          go_wp2_with fail
          go_round
          exact ⟨k + 1, by omega, by go_num, fun j hj => by (by_cases e : j = k; (rw [e, EO.out, EU.out, HOU.out]); exact HALL.out j (by omega)), HKR.out.drewN _⟩
          case measure => (simp [intOf] <;> omega)
         | false =>
          have hou : o ≠ u := fun h => by rw [h, eqS_refl] at he; cases he
          have HOU := Lib.hid hou
          rw [he] at hne
          clear he hou
          go_upto_region 11 with fail
          go_big_quiet (fail)
          go_wp2_with fail
          go_ret
          have hno : r = false := by
           rw [← HRR.out]
           refine eqP_no (fun h => HOU.out ?_)
           have h9 := EO.out
           rw [show ss = ts from h.s, EU.out] at h9
           exact (Option.some.inj h9).symm
          exact ⟨by rw [hno]; rfl, HK.out.step (HK2.out.step (HKR.out.drewN _))⟩
        ·obtain rfl : k = ss.length := by omega
         have hrows := rows_eq HL4.out HALL.out
         have HROWSS := Lib.hid hrows
         clear hrows
         go_wp2_with fail
         go_ret
         have hyes : r = true := by rw [← HRR.out]; exact eqP_iff.2 ⟨HN1.out, HN2.out, HROWSV.out, HROWSS.out⟩
         exact ⟨by rw [hyes]; rfl, HK.out.step (HK2.out.step HKR.out)⟩
    ·skip
     have b4 : ((ss.length : Int) != (ts.length : Int)) = true := by simp; omega
     have b4e : ((ss.length : Int) == (ts.length : Int)) = false := by simp; omega
     have b4d : decide ((ss.length : Int) = (ts.length : Int)) = false := by simp; omega
     obtain rfl : r = false := by rw [← HRR.out]; exact eqP_no (fun h => h4 (by rw [show ss = ts from h.s]))
     clear h1 h2 h3 h4
     obtain ⟨W1, hW⟩ : ∃ W, ((w.alloc (.cells #[.string pn, .int .i64 pw, .slice va vs.length vc, .slice sa ss.length sc] 34)).alloc (.cells #[.string qn, .int .i64 qw, .slice vb vs.length vd, .slice sb ts.length sd] 34)) = W := ⟨_, rfl⟩
     have hk : Kept Nil w W1 := by rw [← hW]; exact (((Kept.refl Nil w).alloc _).alloc _)
     have hsz : W1.heap.size = w.heap.size + 2 := by rw [← hW]; simp
     have hb : W1.heap[w.heap.size]? = some (.cells #[.string pn, .int .i64 pw, .slice va vs.length vc, .slice sa ss.length sc] 34 (0, 0)) := by
      rw [← hW]
      rw [heap_old _ _ (by simp only [World.size_alloc]; omega)]
      have h9 := heap_new w (.cells #[.string pn, .int .i64 pw, .slice va vs.length vc, .slice sa ss.length sc] 34)
      exact h9
     have G0 := Lib.hid (show W1.cell? ⟨w.heap.size, 0, none⟩ = some (.string pn) by rw [cell_of hb]; rfl)
     have G1 := Lib.hid (show W1.cell? ⟨w.heap.size, 1, none⟩ = some (.int .i64 pw) by rw [cell_of hb]; rfl)
     have G2 := Lib.hid (show W1.cell? ⟨w.heap.size, 2, none⟩ = some (.slice va vs.length vc) by rw [cell_of hb]; rfl)
     have G3 := Lib.hid (show W1.cell? ⟨w.heap.size, 3, none⟩ = some (.slice sa ss.length sc) by rw [cell_of hb]; rfl)
     have GB := Lib.hid hb
     have hzg : w.heap.size < W1.heap.size := by omega
     clear hb
     have hb : W1.heap[w.heap.size + 1]? = some (.cells #[.string qn, .int .i64 qw, .slice vb vs.length vd, .slice sb ts.length sd] 34 (0, 0)) := by
      rw [← hW]
      have h9 := heap_new (w.alloc (.cells #[.string pn, .int .i64 pw, .slice va vs.length vc, .slice sa ss.length sc] 34)) (.cells #[.string qn, .int .i64 qw, .slice vb vs.length vd, .slice sb ts.length sd] 34)
      simp only [World.size_alloc] at h9
      exact h9
     have Q0 := Lib.hid (show W1.cell? ⟨w.heap.size + 1, 0, none⟩ = some (.string qn) by rw [cell_of hb]; rfl)
     have Q1 := Lib.hid (show W1.cell? ⟨w.heap.size + 1, 1, none⟩ = some (.int .i64 qw) by rw [cell_of hb]; rfl)
     have Q2 := Lib.hid (show W1.cell? ⟨w.heap.size + 1, 2, none⟩ = some (.slice vb vs.length vd) by rw [cell_of hb]; rfl)
     have Q3 := Lib.hid (show W1.cell? ⟨w.heap.size + 1, 3, none⟩ = some (.slice sb ts.length sd) by rw [cell_of hb]; rfl)
     have QB := Lib.hid hb
     have hzq : w.heap.size + 1 < W1.heap.size := by omega
     clear hb
     have HW := Lib.hid hW
     have HK := Lib.hid hk
     have HSZ := Lib.hid hsz
     clear hW hk hsz
     go_enter Tryz.func43, Tryz.ntmps43
     go_upto_region 1 with fail
     rw [HW.out]
     have g0 := ((Kept.refl Nil W1)).cell G0.out (fun h => h)
     have g1 := ((Kept.refl Nil W1)).cell G1.out (fun h => h)
     have g2 := ((Kept.refl Nil W1)).cell G2.out (fun h => h)
     have g3 := ((Kept.refl Nil W1)).cell G3.out (fun h => h)
     have q0 := ((Kept.refl Nil W1)).cell Q0.out (fun h => h)
     have q1 := ((Kept.refl Nil W1)).cell Q1.out (fun h => h)
     have q2 := ((Kept.refl Nil W1)).cell Q2.out (fun h => h)
     have q3 := ((Kept.refl Nil W1)).cell Q3.out (fun h => h)
     go_wp2_with fail
     go_ret
     exact ⟨rfl, HK.out⟩
   ·skip
    have b3 : ((vs.length : Int) != (us.length : Int)) = true := by simp; omega
    have b3e : ((vs.length : Int) == (us.length : Int)) = false := by simp; omega
    have b3d : decide ((vs.length : Int) = (us.length : Int)) = false := by simp; omega
    obtain rfl : r = false := by rw [← HRR.out]; exact eqP_no (fun h => h3 (by rw [show vs = us from h.v]))
    clear h1 h2 h3
    obtain ⟨W1, hW⟩ : ∃ W, ((w.alloc (.cells #[.string pn, .int .i64 pw, .slice va vs.length vc, .slice sa ss.length sc] 34)).alloc (.cells #[.string qn, .int .i64 qw, .slice vb us.length vd, .slice sb ts.length sd] 34)) = W := ⟨_, rfl⟩
    have hk : Kept Nil w W1 := by rw [← hW]; exact (((Kept.refl Nil w).alloc _).alloc _)
    have hsz : W1.heap.size = w.heap.size + 2 := by rw [← hW]; simp
    have hb : W1.heap[w.heap.size]? = some (.cells #[.string pn, .int .i64 pw, .slice va vs.length vc, .slice sa ss.length sc] 34 (0, 0)) := by
     rw [← hW]
     rw [heap_old _ _ (by simp only [World.size_alloc]; omega)]
     have h9 := heap_new w (.cells #[.string pn, .int .i64 pw, .slice va vs.length vc, .slice sa ss.length sc] 34)
     exact h9
    have G0 := Lib.hid (show W1.cell? ⟨w.heap.size, 0, none⟩ = some (.string pn) by rw [cell_of hb]; rfl)
    have G1 := Lib.hid (show W1.cell? ⟨w.heap.size, 1, none⟩ = some (.int .i64 pw) by rw [cell_of hb]; rfl)
    have G2 := Lib.hid (show W1.cell? ⟨w.heap.size, 2, none⟩ = some (.slice va vs.length vc) by rw [cell_of hb]; rfl)
    have G3 := Lib.hid (show W1.cell? ⟨w.heap.size, 3, none⟩ = some (.slice sa ss.length sc) by rw [cell_of hb]; rfl)
    have GB := Lib.hid hb
    have hzg : w.heap.size < W1.heap.size := by omega
    clear hb
    have hb : W1.heap[w.heap.size + 1]? = some (.cells #[.string qn, .int .i64 qw, .slice vb us.length vd, .slice sb ts.length sd] 34 (0, 0)) := by
     rw [← hW]
     have h9 := heap_new (w.alloc (.cells #[.string pn, .int .i64 pw, .slice va vs.length vc, .slice sa ss.length sc] 34)) (.cells #[.string qn, .int .i64 qw, .slice vb us.length vd, .slice sb ts.length sd] 34)
     simp only [World.size_alloc] at h9
     exact h9
    have Q0 := Lib.hid (show W1.cell? ⟨w.heap.size + 1, 0, none⟩ = some (.string qn) by rw [cell_of hb]; rfl)
    have Q1 := Lib.hid (show W1.cell? ⟨w.heap.size + 1, 1, none⟩ = some (.int .i64 qw) by rw [cell_of hb]; rfl)
    have Q2 := Lib.hid (show W1.cell? ⟨w.heap.size + 1, 2, none⟩ = some (.slice vb us.length vd) by rw [cell_of hb]; rfl)
    have Q3 := Lib.hid (show W1.cell? ⟨w.heap.size + 1, 3, none⟩ = some (.slice sb ts.length sd) by rw [cell_of hb]; rfl)
    have QB := Lib.hid hb
    have hzq : w.heap.size + 1 < W1.heap.size := by omega
    clear hb
    have HW := Lib.hid hW
    have HK := Lib.hid hk
    have HSZ := Lib.hid hsz
    clear hW hk hsz
    go_enter Tryz.func43, Tryz.ntmps43
    go_upto_region 1 with fail
    rw [HW.out]
    have g0 := ((Kept.refl Nil W1)).cell G0.out (fun h => h)
    have g1 := ((Kept.refl Nil W1)).cell G1.out (fun h => h)
    have g2 := ((Kept.refl Nil W1)).cell G2.out (fun h => h)
    have g3 := ((Kept.refl Nil W1)).cell G3.out (fun h => h)
    have q0 := ((Kept.refl Nil W1)).cell Q0.out (fun h => h)
    have q1 := ((Kept.refl Nil W1)).cell Q1.out (fun h => h)
    have q2 := ((Kept.refl Nil W1)).cell Q2.out (fun h => h)
    have q3 := ((Kept.refl Nil W1)).cell Q3.out (fun h => h)
    go_wp2_with fail
    go_ret
    exact ⟨rfl, HK.out⟩
  ·skip
   have b2 : (pw != qw) = true := by simp [h2]
   have b2e : (pw == qw) = false := by simp [h2]
   have b2d : decide (pw = qw) = false := by simp [h2]
   obtain rfl : r = false := by rw [← HRR.out]; exact eqP_no (fun h => h2 h.w)
   clear h1 h2
   obtain ⟨W1, hW⟩ : ∃ W, ((w.alloc (.cells #[.string pn, .int .i64 pw, .slice va vs.length vc, .slice sa ss.length sc] 34)).alloc (.cells #[.string qn, .int .i64 qw, .slice vb us.length vd, .slice sb ts.length sd] 34)) = W := ⟨_, rfl⟩
   have hk : Kept Nil w W1 := by rw [← hW]; exact (((Kept.refl Nil w).alloc _).alloc _)
   have hsz : W1.heap.size = w.heap.size + 2 := by rw [← hW]; simp
   have hb : W1.heap[w.heap.size]? = some (.cells #[.string pn, .int .i64 pw, .slice va vs.length vc, .slice sa ss.length sc] 34 (0, 0)) := by
    rw [← hW]
    rw [heap_old _ _ (by simp only [World.size_alloc]; omega)]
    have h9 := heap_new w (.cells #[.string pn, .int .i64 pw, .slice va vs.length vc, .slice sa ss.length sc] 34)
    exact h9
   have G0 := Lib.hid (show W1.cell? ⟨w.heap.size, 0, none⟩ = some (.string pn) by rw [cell_of hb]; rfl)
   have G1 := Lib.hid (show W1.cell? ⟨w.heap.size, 1, none⟩ = some (.int .i64 pw) by rw [cell_of hb]; rfl)
   have G2 := Lib.hid (show W1.cell? ⟨w.heap.size, 2, none⟩ = some (.slice va vs.length vc) by rw [cell_of hb]; rfl)
   have G3 := Lib.hid (show W1.cell? ⟨w.heap.size, 3, none⟩ = some (.slice sa ss.length sc) by rw [cell_of hb]; rfl)
   have GB := Lib.hid hb
   have hzg : w.heap.size < W1.heap.size := by omega
   clear hb
   have hb : W1.heap[w.heap.size + 1]? = some (.cells #[.string qn, .int .i64 qw, .slice vb us.length vd, .slice sb ts.length sd] 34 (0, 0)) := by
    rw [← hW]
    have h9 := heap_new (w.alloc (.cells #[.string pn, .int .i64 pw, .slice va vs.length vc, .slice sa ss.length sc] 34)) (.cells #[.string qn, .int .i64 qw, .slice vb us.length vd, .slice sb ts.length sd] 34)
    simp only [World.size_alloc] at h9
    exact h9
   have Q0 := Lib.hid (show W1.cell? ⟨w.heap.size + 1, 0, none⟩ = some (.string qn) by rw [cell_of hb]; rfl)
   have Q1 := Lib.hid (show W1.cell? ⟨w.heap.size + 1, 1, none⟩ = some (.int .i64 qw) by rw [cell_of hb]; rfl)
   have Q2 := Lib.hid (show W1.cell? ⟨w.heap.size + 1, 2, none⟩ = some (.slice vb us.length vd) by rw [cell_of hb]; rfl)
   have Q3 := Lib.hid (show W1.cell? ⟨w.heap.size + 1, 3, none⟩ = some (.slice sb ts.length sd) by rw [cell_of hb]; rfl)
   have QB := Lib.hid hb
   have hzq : w.heap.size + 1 < W1.heap.size := by omega
   clear hb
   have HW := Lib.hid hW
   have HK := Lib.hid hk
   have HSZ := Lib.hid hsz
   clear hW hk hsz
   go_enter Tryz.func43, Tryz.ntmps43
   go_upto_region 1 with fail
   rw [HW.out]
   have g0 := ((Kept.refl Nil W1)).cell G0.out (fun h => h)
   have g1 := ((Kept.refl Nil W1)).cell G1.out (fun h => h)
   have g2 := ((Kept.refl Nil W1)).cell G2.out (fun h => h)
   have g3 := ((Kept.refl Nil W1)).cell G3.out (fun h => h)
   have q0 := ((Kept.refl Nil W1)).cell Q0.out (fun h => h)
   have q1 := ((Kept.refl Nil W1)).cell Q1.out (fun h => h)
   have q2 := ((Kept.refl Nil W1)).cell Q2.out (fun h => h)
   have q3 := ((Kept.refl Nil W1)).cell Q3.out (fun h => h)
   go_wp2_with fail
   go_ret
   exact ⟨rfl, HK.out⟩
 ·skip
  have b1 : (pn.toList != qn.toList) = true := by simp [ByteArray.toList_eq, ByteArray.ext_iff] at h1 ⊢; exact h1
  have b1e : (pn.toList == qn.toList) = false := by simp [ByteArray.toList_eq, ByteArray.ext_iff] at h1 ⊢; exact h1
  have b1d : decide (pn.toList = qn.toList) = false := by simp [ByteArray.toList_eq, ByteArray.ext_iff] at h1 ⊢; exact h1
  obtain rfl : r = false := by rw [← HRR.out]; exact eqP_no (fun h => h1 h.n)
  clear h1
  obtain ⟨W1, hW⟩ : ∃ W, ((w.alloc (.cells #[.string pn, .int .i64 pw, .slice va vs.length vc, .slice sa ss.length sc] 34)).alloc (.cells #[.string qn, .int .i64 qw, .slice vb us.length vd, .slice sb ts.length sd] 34)) = W := ⟨_, rfl⟩
  have hk : Kept Nil w W1 := by rw [← hW]; exact (((Kept.refl Nil w).alloc _).alloc _)
  have hsz : W1.heap.size = w.heap.size + 2 := by rw [← hW]; simp
  have hb : W1.heap[w.heap.size]? = some (.cells #[.string pn, .int .i64 pw, .slice va vs.length vc, .slice sa ss.length sc] 34 (0, 0)) := by
   rw [← hW]
   rw [heap_old _ _ (by simp only [World.size_alloc]; omega)]
   have h9 := heap_new w (.cells #[.string pn, .int .i64 pw, .slice va vs.length vc, .slice sa ss.length sc] 34)
   exact h9
  have G0 := Lib.hid (show W1.cell? ⟨w.heap.size, 0, none⟩ = some (.string pn) by rw [cell_of hb]; rfl)
  have G1 := Lib.hid (show W1.cell? ⟨w.heap.size, 1, none⟩ = some (.int .i64 pw) by rw [cell_of hb]; rfl)
  have G2 := Lib.hid (show W1.cell? ⟨w.heap.size, 2, none⟩ = some (.slice va vs.length vc) by rw [cell_of hb]; rfl)
  have G3 := Lib.hid (show W1.cell? ⟨w.heap.size, 3, none⟩ = some (.slice sa ss.length sc) by rw [cell_of hb]; rfl)
  have GB := Lib.hid hb
  have hzg : w.heap.size < W1.heap.size := by omega
  clear hb
  have hb : W1.heap[w.heap.size + 1]? = some (.cells #[.string qn, .int .i64 qw, .slice vb us.length vd, .slice sb ts.length sd] 34 (0, 0)) := by
   rw [← hW]
   have h9 := heap_new (w.alloc (.cells #[.string pn, .int .i64 pw, .slice va vs.length vc, .slice sa ss.length sc] 34)) (.cells #[.string qn, .int .i64 qw, .slice vb us.length vd, .slice sb ts.length sd] 34)
   simp only [World.size_alloc] at h9
   exact h9
  have Q0 := Lib.hid (show W1.cell? ⟨w.heap.size + 1, 0, none⟩ = some (.string qn) by rw [cell_of hb]; rfl)
  have Q1 := Lib.hid (show W1.cell? ⟨w.heap.size + 1, 1, none⟩ = some (.int .i64 qw) by rw [cell_of hb]; rfl)
  have Q2 := Lib.hid (show W1.cell? ⟨w.heap.size + 1, 2, none⟩ = some (.slice vb us.length vd) by rw [cell_of hb]; rfl)
  have Q3 := Lib.hid (show W1.cell? ⟨w.heap.size + 1, 3, none⟩ = some (.slice sb ts.length sd) by rw [cell_of hb]; rfl)
  have QB := Lib.hid hb
  have hzq : w.heap.size + 1 < W1.heap.size := by omega
  clear hb
  have HW := Lib.hid hW
  have HK := Lib.hid hk
  have HSZ := Lib.hid hsz
  clear hW hk hsz
  go_enter Tryz.func43, Tryz.ntmps43
  go_upto_region 1 with fail
  rw [HW.out]
  have g0 := ((Kept.refl Nil W1)).cell G0.out (fun h => h)
  have g1 := ((Kept.refl Nil W1)).cell G1.out (fun h => h)
  have g2 := ((Kept.refl Nil W1)).cell G2.out (fun h => h)
  have g3 := ((Kept.refl Nil W1)).cell G3.out (fun h => h)
  have q0 := ((Kept.refl Nil W1)).cell Q0.out (fun h => h)
  have q1 := ((Kept.refl Nil W1)).cell Q1.out (fun h => h)
  have q2 := ((Kept.refl Nil W1)).cell Q2.out (fun h => h)
  have q3 := ((Kept.refl Nil W1)).cell Q3.out (fun h => h)
  go_wp2_with fail
  go_ret
  exact ⟨rfl, HK.out⟩
set_option maxHeartbeats 16000000 in
theorem rSame_is (ver wer : Int) (ps qs : List Pr) (ls ms : List Lk) (es fs : List Ev) (pa pb la lb ea eb : Option Addr) (pc pd lc ld ec ed : Nat) (w : World) (h1 : HeldM w ⟨ver, pa, ps, pc, la, ls, lc, ea, es, ec⟩) (h2 : HeldM w ⟨wer, pb, qs, pd, lb, ms, ld, eb, fs, ed⟩) :
  Calls Tryz.prog 14 #[.agg #[.int .i64 ver, .slice pa ps.length pc, .slice la ls.length lc, .slice ea es.length ec], .agg #[.int .i64 wer, .slice pb qs.length pd, .slice lb ms.length ld, .slice eb fs.length ed]] w fun e w' => e = .returned (.bool (eqM ⟨ver, pa, ps, pc, la, ls, lc, ea, es, ec⟩ ⟨wer, pb, qs, pd, lb, ms, ld, eb, fs, ed⟩)) ∧ Kept Nil w w' := by
 have H1 := Lib.hid h1
 have H2 := Lib.hid h2
 have hsp : ps.length ≤ 100000 := h1.s.p
 have hsl : ls.length ≤ 100000 := h1.s.l
 have hse : es.length ≤ 100000 := h1.s.e
 clear h1 h2
 obtain ⟨r, hr⟩ : ∃ r, eqM ⟨ver, pa, ps, pc, la, ls, lc, ea, es, ec⟩ ⟨wer, pb, qs, pd, lb, ms, ld, eb, fs, ed⟩ = r := ⟨_, rfl⟩
 rw [hr]
 have HRR := Lib.hid hr
 clear hr
 by_cases h1 : ver = wer
 ·skip
  have b1 : (ver != wer) = false := by simp [h1]
  have b1e : (ver == wer) = true := by simp [h1]
  have b1d : decide (ver = wer) = true := by simp [h1]
  by_cases h2 : ps.length = qs.length
  ·rw [← h2]
   by_cases h3 : ls.length = ms.length
   ·rw [← h3]
    by_cases h4 : es.length = fs.length
    ·rw [← h4]
     have HL2 := Lib.hid h2
     have HL3 := Lib.hid h3
     have HL4 := Lib.hid h4
     have HN1 := Lib.hid h1
     clear h1 h2 h3 h4
     obtain ⟨W1, hW⟩ : ∃ W, ((w.alloc (.cells #[.int .i64 ver, .slice pa ps.length pc, .slice la ls.length lc, .slice ea es.length ec] 26)).alloc (.cells #[.int .i64 wer, .slice pb ps.length pd, .slice lb ls.length ld, .slice eb es.length ed] 26)) = W := ⟨_, rfl⟩
     have hk : Kept Nil w W1 := by rw [← hW]; exact (((Kept.refl Nil w).alloc _).alloc _)
     have hsz : W1.heap.size = w.heap.size + 2 := by rw [← hW]; simp
     have hb : W1.heap[w.heap.size]? = some (.cells #[.int .i64 ver, .slice pa ps.length pc, .slice la ls.length lc, .slice ea es.length ec] 26 (0, 0)) := by
      rw [← hW]
      rw [heap_old _ _ (by simp only [World.size_alloc]; omega)]
      have h9 := heap_new w (.cells #[.int .i64 ver, .slice pa ps.length pc, .slice la ls.length lc, .slice ea es.length ec] 26)
      exact h9
     have G0 := Lib.hid (show W1.cell? ⟨w.heap.size, 0, none⟩ = some (.int .i64 ver) by rw [cell_of hb]; rfl)
     have G1 := Lib.hid (show W1.cell? ⟨w.heap.size, 1, none⟩ = some (.slice pa ps.length pc) by rw [cell_of hb]; rfl)
     have G2 := Lib.hid (show W1.cell? ⟨w.heap.size, 2, none⟩ = some (.slice la ls.length lc) by rw [cell_of hb]; rfl)
     have G3 := Lib.hid (show W1.cell? ⟨w.heap.size, 3, none⟩ = some (.slice ea es.length ec) by rw [cell_of hb]; rfl)
     have GB := Lib.hid hb
     have hzg : w.heap.size < W1.heap.size := by omega
     clear hb
     have hb : W1.heap[w.heap.size + 1]? = some (.cells #[.int .i64 wer, .slice pb ps.length pd, .slice lb ls.length ld, .slice eb es.length ed] 26 (0, 0)) := by
      rw [← hW]
      have h9 := heap_new (w.alloc (.cells #[.int .i64 ver, .slice pa ps.length pc, .slice la ls.length lc, .slice ea es.length ec] 26)) (.cells #[.int .i64 wer, .slice pb ps.length pd, .slice lb ls.length ld, .slice eb es.length ed] 26)
      simp only [World.size_alloc] at h9
      exact h9
     have Q0 := Lib.hid (show W1.cell? ⟨w.heap.size + 1, 0, none⟩ = some (.int .i64 wer) by rw [cell_of hb]; rfl)
     have Q1 := Lib.hid (show W1.cell? ⟨w.heap.size + 1, 1, none⟩ = some (.slice pb ps.length pd) by rw [cell_of hb]; rfl)
     have Q2 := Lib.hid (show W1.cell? ⟨w.heap.size + 1, 2, none⟩ = some (.slice lb ls.length ld) by rw [cell_of hb]; rfl)
     have Q3 := Lib.hid (show W1.cell? ⟨w.heap.size + 1, 3, none⟩ = some (.slice eb es.length ed) by rw [cell_of hb]; rfl)
     have QB := Lib.hid hb
     have hzq : w.heap.size + 1 < W1.heap.size := by omega
     clear hb
     have HW := Lib.hid hW
     have HK := Lib.hid hk
     have HSZ := Lib.hid hsz
     clear hW hk hsz
     go_enter Tryz.func14, Tryz.ntmps14
     go_upto_region 1 with fail
     rw [HW.out]
     have g0 := ((Kept.refl Nil W1)).cell G0.out (fun h => h)
     have g1 := ((Kept.refl Nil W1)).cell G1.out (fun h => h)
     have g2 := ((Kept.refl Nil W1)).cell G2.out (fun h => h)
     have g3 := ((Kept.refl Nil W1)).cell G3.out (fun h => h)
     have q0 := ((Kept.refl Nil W1)).cell Q0.out (fun h => h)
     have q1 := ((Kept.refl Nil W1)).cell Q1.out (fun h => h)
     have q2 := ((Kept.refl Nil W1)).cell Q2.out (fun h => h)
     have q3 := ((Kept.refl Nil W1)).cell Q3.out (fun h => h)
     go_wp2_with fail
     go_loopw [5] (fun i wr => ∃ k : Nat, k ≤ ps.length ∧ i = .int .i64 k ∧ (∀ j p q, j < k → ps[j]? = some p → qs[j]? = some q → SameP p q) ∧ Kept Nil W1 wr) (fun i _ => ps.length - (intOf i).toNat)
     case atStart => exact ⟨0, Nat.zero_le _, rfl, fun j p q hj => by omega, Kept.refl _ _⟩
     case round =>
      obtain ⟨k, hk, rfl, hall, hK⟩ := hrel
      have HALL := Lib.hid hall
      have HKR := Lib.hid hK
      have hzr := hK.size
      clear hall hK g0 g1 g2 g3 q0 q1 q2 q3
      have g0 := (HKR.out).cell G0.out (fun h => h)
      have g1 := (HKR.out).cell G1.out (fun h => h)
      have g2 := (HKR.out).cell G2.out (fun h => h)
      have g3 := (HKR.out).cell G3.out (fun h => h)
      have q0 := (HKR.out).cell Q0.out (fun h => h)
      have q1 := (HKR.out).cell Q1.out (fun h => h)
      have q2 := (HKR.out).cell Q2.out (fun h => h)
      have q3 := (HKR.out).cell Q3.out (fun h => h)
      by_cases hlt : k < ps.length
      ·obtain ⟨p, eo⟩ : ∃ o, ps[k]? = some o := ⟨_, List.getElem?_eq_getElem hlt⟩
       obtain ⟨q, eu⟩ : ∃ o, qs[k]? = some o := ⟨_, List.getElem?_eq_getElem (by rw [← HL2.out]; exact hlt)⟩
       have hr1 := (H1.out.nil (HK.out.step HKR.out)).r.pp p (List.mem_of_getElem? eo)
       have hr2 := (H2.out.nil (HK.out.step HKR.out)).r.pp q (List.mem_of_getElem? eu)
       have hv1 := H1.out.s.v p (List.mem_of_getElem? eo)
       have hv2 := H2.out.s.v q (List.mem_of_getElem? eu)
       obtain ⟨x, off, e1, c0, c1, c2, c3⟩ := (H1.out.nil (HK.out.step HKR.out)).r.p.at eo
       obtain ⟨y, off2, e2, d0, d1, d2, d3⟩ := (H2.out.nil (HK.out.step HKR.out)).r.p.at eu
       obtain ⟨pn, pw, va, vs, vc, sa, ss, sc⟩ := p
       obtain ⟨qn, qw, vb, us, vd, sb, ts, sd⟩ := q
       simp only at hv1 hv2 c0 c1 c2 c3 d0 d1 d2 d3 e1 e2
       have hbs : x < wr.heap.size := World.block_lt_of_cell? _ _ c0
       have hbs2 : y < wr.heap.size := World.block_lt_of_cell? _ _ d0
       have hlt2 : (k : Int) < (ps.length : Int) := by omega
       have hw : IntKind.i64.wrap ((k : Int) + 1) = (k : Int) + 1 := by rw [IntKind.wrap_i64]; omega
       have EO := Lib.hid eo
       have EU := Lib.hid eu
       have HR1 := Lib.hid hr1
       have HR2 := Lib.hid hr2
       subst e1
       subst e2
       have C0 := Lib.hid c0
       have C1 := Lib.hid c1
       have C2 := Lib.hid c2
       have C3 := Lib.hid c3
       have D0 := Lib.hid d0
       have D1 := Lib.hid d1
       have D2 := Lib.hid d2
       have D3 := Lib.hid d3
       clear eo eu hr1 hr2 c0 c1 c2 c3 d0 d1 d2 d3
       have hcon := fun W h1 h2 => rSameProc_is pn qn pw qw vs us ss ts va vb sa sb vc vd sc sd W h1 h2 ⟨hv1.1, hv2.1⟩ ⟨hv1.2, hv2.2⟩
       cases he : eqP ⟨pn, pw, va, vs, vc, sa, ss, sc⟩ ⟨qn, qw, vb, us, vd, sb, ts, sd⟩ with
       | true =>
        rw [he] at hcon
        have hsm := eqP_iff.1 he
        have HSM := Lib.hid hsm
        have HCON := Lib.hid hcon
        clear he hsm hcon
        go_upto_region 6 with fail
        have C9_0 := Lib.hid (show wr.cell? ⟨w.heap.size, 1, none⟩ = some (.slice (some ⟨x, off, none⟩) ps.length pc) from HKR.out.cell G1.out (fun h => h))
        have C9_1 := Lib.hid (show wr.cell? ⟨w.heap.size + 1, 1, none⟩ = some (.slice (some ⟨y, off2, none⟩) ps.length pd) from HKR.out.cell Q1.out (fun h => h))
        have C9_2 := Lib.hid (show wr.cell? ⟨x, off + k * 4, none⟩ = some (.string pn) from C0.out)
        have C9_3 := Lib.hid (show wr.cell? ⟨x, off + k * 4 + 1, none⟩ = some (.int .i64 pw) from C1.out)
        have C9_4 := Lib.hid (show wr.cell? ⟨x, off + k * 4 + 2, none⟩ = some (.slice va vs.length vc) from C2.out)
        have C9_5 := Lib.hid (show wr.cell? ⟨x, off + k * 4 + 3, none⟩ = some (.slice sa ss.length sc) from C3.out)
        have C9_6 := Lib.hid (show wr.cell? ⟨y, off2 + k * 4, none⟩ = some (.string qn) from D0.out)
        have C9_7 := Lib.hid (show wr.cell? ⟨y, off2 + k * 4 + 1, none⟩ = some (.int .i64 qw) from D1.out)
        have C9_8 := Lib.hid (show wr.cell? ⟨y, off2 + k * 4 + 2, none⟩ = some (.slice vb us.length vd) from D2.out)
        have C9_9 := Lib.hid (show wr.cell? ⟨y, off2 + k * 4 + 3, none⟩ = some (.slice sb ts.length sd) from D3.out)
        refine wp_region_held_drew (S := fun w' => w'.cell? ⟨w.heap.size, 1, none⟩ = some (.slice (some ⟨x, off, none⟩) ps.length pc) ∧ w'.cell? ⟨w.heap.size + 1, 1, none⟩ = some (.slice (some ⟨y, off2, none⟩) ps.length pd) ∧ w'.cell? ⟨x, off + k * 4, none⟩ = some (.string pn) ∧ w'.cell? ⟨x, off + k * 4 + 1, none⟩ = some (.int .i64 pw) ∧ w'.cell? ⟨x, off + k * 4 + 2, none⟩ = some (.slice va vs.length vc) ∧ w'.cell? ⟨x, off + k * 4 + 3, none⟩ = some (.slice sa ss.length sc) ∧ w'.cell? ⟨y, off2 + k * 4, none⟩ = some (.string qn) ∧ w'.cell? ⟨y, off2 + k * 4 + 1, none⟩ = some (.int .i64 qw) ∧ w'.cell? ⟨y, off2 + k * 4 + 2, none⟩ = some (.slice vb us.length vd) ∧ w'.cell? ⟨y, off2 + k * 4 + 3, none⟩ = some (.slice sb ts.length sd)) (by kernel_rfl) ⟨C9_0.out, C9_1.out, C9_2.out, C9_3.out, C9_4.out, C9_5.out, C9_6.out, C9_7.out, C9_8.out, C9_9.out⟩ (fun hHeld => ?_)
        refine wpAnyH_take (i := 0) (oi := _) (v := ?_) (List.getElem?_toArray.trans rfl) (by kernel_rfl) (by kernel_rfl) (by kernel_rfl) (fun _ _ _ h => h) (Or.inl ⟨by rfl, ?_⟩) (by assumption) ?_
        rotate_left
        ·(intro w9 hSw; (try dsimp only at hSw); go_simp; try with_reducible rfl)
        try simp only [Act.put, List.setIfInBounds_toArray, List.set_cons_zero, List.set_cons_succ]
        refine wpAnyH_take (i := 1) (oi := _) (v := ?_) (List.getElem?_toArray.trans rfl) (by kernel_rfl) (by kernel_rfl) (by kernel_rfl) (fun _ _ _ h => h) (Or.inl ⟨by rfl, ?_⟩) (by assumption) ?_
        rotate_left
        ·(intro w9 hSw; (try dsimp only at hSw); go_simp; try with_reducible rfl)
        try simp only [Act.put, List.setIfInBounds_toArray, List.set_cons_zero, List.set_cons_succ]
        refine wpAnyH_take (i := 2) (oi := _) (v := ?_) (List.getElem?_toArray.trans rfl) (by kernel_rfl) (by kernel_rfl) (by kernel_rfl) (fun _ _ _ h => h) (Or.inl ⟨by rfl, ?_⟩) (by assumption) ?_
        rotate_left
        ·(intro w9 hSw; (try dsimp only at hSw); go_simp; try with_reducible rfl)
        try simp only [Act.put, List.setIfInBounds_toArray, List.set_cons_zero, List.set_cons_succ]
        refine wpAnyH_take (i := 3) (oi := _) (v := ?_) (List.getElem?_toArray.trans rfl) (by kernel_rfl) (by kernel_rfl) (by kernel_rfl) (fun _ _ _ h => h) (Or.inl ⟨by rfl, ?_⟩) (by assumption) ?_
        rotate_left
        ·(intro w9 hSw; (try dsimp only at hSw); go_simp; try with_reducible rfl)
        try simp only [Act.put, List.setIfInBounds_toArray, List.set_cons_zero, List.set_cons_succ]
        refine wpAnyH_take (i := 4) (oi := _) (v := ?_) (List.getElem?_toArray.trans rfl) (by kernel_rfl) (by kernel_rfl) (by kernel_rfl) (fun _ _ _ h => h) (Or.inl ⟨by rfl, ?_⟩) (by assumption) ?_
        rotate_left
        ·(intro w9 hSw; (try dsimp only at hSw); go_simp; try with_reducible rfl)
        try simp only [Act.put, List.setIfInBounds_toArray, List.set_cons_zero, List.set_cons_succ]
        refine wpAnyH_take (i := 5) (oi := _) (v := ?_) (List.getElem?_toArray.trans rfl) (by kernel_rfl) (by kernel_rfl) (by kernel_rfl) (fun _ _ _ h => h) (Or.inl ⟨by rfl, ?_⟩) (by assumption) ?_
        rotate_left
        ·(intro w9 hSw; (try dsimp only at hSw); go_simp; try with_reducible rfl)
        try simp only [Act.put, List.setIfInBounds_toArray, List.set_cons_zero, List.set_cons_succ]
        refine wpAnyH_take (i := 6) (oi := _) (v := ?_) (List.getElem?_toArray.trans rfl) (by kernel_rfl) (by kernel_rfl) (by kernel_rfl) (fun _ _ _ h => h) (Or.inl ⟨by rfl, ?_⟩) (by assumption) ?_
        rotate_left
        ·(intro w9 hSw; (try dsimp only at hSw); go_simp; try with_reducible rfl)
        try simp only [Act.put, List.setIfInBounds_toArray, List.set_cons_zero, List.set_cons_succ]
        refine wpAnyH_take (i := 7) (oi := _) (v := ?_) (List.getElem?_toArray.trans rfl) (by kernel_rfl) (by kernel_rfl) (by kernel_rfl) (fun _ _ _ h => h) (Or.inl ⟨by rfl, ?_⟩) (by assumption) ?_
        rotate_left
        ·(intro w9 hSw; (try dsimp only at hSw); go_simp; try with_reducible rfl)
        try simp only [Act.put, List.setIfInBounds_toArray, List.set_cons_zero, List.set_cons_succ]
        refine wpAnyH_take (i := 8) (oi := _) (v := ?_) (List.getElem?_toArray.trans rfl) (by kernel_rfl) (by kernel_rfl) (by kernel_rfl) (fun _ _ _ h => h) (Or.inl ⟨by rfl, ?_⟩) (by assumption) ?_
        rotate_left
        ·(intro w9 hSw; (try dsimp only at hSw); go_simp; try with_reducible rfl)
        try simp only [Act.put, List.setIfInBounds_toArray, List.set_cons_zero, List.set_cons_succ]
        refine wpAnyH_take (i := 9) (oi := _) (v := ?_) (List.getElem?_toArray.trans rfl) (by kernel_rfl) (by kernel_rfl) (by kernel_rfl) (fun _ _ _ h => h) (Or.inl ⟨by rfl, ?_⟩) (by assumption) ?_
        rotate_left
        ·(intro w9 hSw; (try dsimp only at hSw); go_simp; try with_reducible rfl)
        try simp only [Act.put, List.setIfInBounds_toArray, List.set_cons_zero, List.set_cons_succ]
        refine wpAnyH_ready (rs := [10]) (by kernel_rfl) (by simp) ?_
        refine AllReadyH.cons (o := _) (List.getElem?_toArray.trans rfl) (fun K hK => ?_) (AllReadyH.nil)
        go_simp
        refine (HCON.out _ (HR1.out.nil (by repeat (first | exact kzr _ _ | assumption | refine kzd ?_ | refine kzn ?_ _ | refine kza ?_ _ | refine kzs ?_ (by assumption)))) (HR2.out.nil (by repeat (first | exact kzr _ _ | assumption | refine kzd ?_ | refine kzn ?_ _ | refine kza ?_ _ | refine kzs ?_ (by assumption))))).mono ?_
        rintro e w5 ⟨rfl, hk5⟩
        have HK5 := Lib.hid (show Kept Nil wr w5 from (by repeat (first | exact kzr _ _ | assumption | refine kzd ?_ | refine kzn ?_ _ | refine kza ?_ _ | refine kzs ?_ (by assumption))))
        clear hk5
        try go_wp2_with fail
        refine hK.out _ _ ⟨((HK5.out).cell C9_0.out (fun h => h)), ((HK5.out).cell C9_1.out (fun h => h)), ((HK5.out).cell C9_2.out (fun h => h)), ((HK5.out).cell C9_3.out (fun h => h)), ((HK5.out).cell C9_4.out (fun h => h)), ((HK5.out).cell C9_5.out (fun h => h)), ((HK5.out).cell C9_6.out (fun h => h)), ((HK5.out).cell C9_7.out (fun h => h)), ((HK5.out).cell C9_8.out (fun h => h)), ((HK5.out).cell C9_9.out (fun h => h))⟩ (fun hHeld => ?_)
        clear hK K
        try simp only [Act.put, List.setIfInBounds_toArray, List.set_cons_zero, List.set_cons_succ]
        refine wpAnyH_take (i := 11) (oi := _) (v := ?_) (List.getElem?_toArray.trans rfl) (by kernel_rfl) (by kernel_rfl) (by kernel_rfl) (fun _ _ _ h => h) (Or.inl ⟨by rfl, ?_⟩) (by assumption) ?_
        rotate_left
        ·(intro w9 hSw; (try dsimp only at hSw); go_simp; try with_reducible rfl)
        try simp only [Act.put, List.setIfInBounds_toArray, List.set_cons_zero, List.set_cons_succ]
        refine wpAnyH_done (by kernel_rfl) ?_ _
        skip
        go_wp2_with fail
        go_round
        exact ⟨k + 1, by omega, by go_num, fun j p q hj h1 h2 => by (by_cases e : j = k; (rw [e, EO.out] at h1; rw [e, EU.out] at h2; cases h1; cases h2; exact HSM.out); exact HALL.out j p q (by omega) h1 h2), HKR.out.step HK5.out⟩
        case measure => (simp [intOf] <;> omega)
       | false =>
        rw [he] at hcon
        have hsm : ¬ SameP ⟨pn, pw, va, vs, vc, sa, ss, sc⟩ ⟨qn, qw, vb, us, vd, sb, ts, sd⟩ := fun h => by rw [eqP_iff.2 h] at he; cases he
        have HSM := Lib.hid hsm
        have HCON := Lib.hid hcon
        clear he hsm hcon
        go_upto_region 6 with fail
        have C9_0 := Lib.hid (show wr.cell? ⟨w.heap.size, 1, none⟩ = some (.slice (some ⟨x, off, none⟩) ps.length pc) from HKR.out.cell G1.out (fun h => h))
        have C9_1 := Lib.hid (show wr.cell? ⟨w.heap.size + 1, 1, none⟩ = some (.slice (some ⟨y, off2, none⟩) ps.length pd) from HKR.out.cell Q1.out (fun h => h))
        have C9_2 := Lib.hid (show wr.cell? ⟨x, off + k * 4, none⟩ = some (.string pn) from C0.out)
        have C9_3 := Lib.hid (show wr.cell? ⟨x, off + k * 4 + 1, none⟩ = some (.int .i64 pw) from C1.out)
        have C9_4 := Lib.hid (show wr.cell? ⟨x, off + k * 4 + 2, none⟩ = some (.slice va vs.length vc) from C2.out)
        have C9_5 := Lib.hid (show wr.cell? ⟨x, off + k * 4 + 3, none⟩ = some (.slice sa ss.length sc) from C3.out)
        have C9_6 := Lib.hid (show wr.cell? ⟨y, off2 + k * 4, none⟩ = some (.string qn) from D0.out)
        have C9_7 := Lib.hid (show wr.cell? ⟨y, off2 + k * 4 + 1, none⟩ = some (.int .i64 qw) from D1.out)
        have C9_8 := Lib.hid (show wr.cell? ⟨y, off2 + k * 4 + 2, none⟩ = some (.slice vb us.length vd) from D2.out)
        have C9_9 := Lib.hid (show wr.cell? ⟨y, off2 + k * 4 + 3, none⟩ = some (.slice sb ts.length sd) from D3.out)
        refine wp_region_held_drew (S := fun w' => w'.cell? ⟨w.heap.size, 1, none⟩ = some (.slice (some ⟨x, off, none⟩) ps.length pc) ∧ w'.cell? ⟨w.heap.size + 1, 1, none⟩ = some (.slice (some ⟨y, off2, none⟩) ps.length pd) ∧ w'.cell? ⟨x, off + k * 4, none⟩ = some (.string pn) ∧ w'.cell? ⟨x, off + k * 4 + 1, none⟩ = some (.int .i64 pw) ∧ w'.cell? ⟨x, off + k * 4 + 2, none⟩ = some (.slice va vs.length vc) ∧ w'.cell? ⟨x, off + k * 4 + 3, none⟩ = some (.slice sa ss.length sc) ∧ w'.cell? ⟨y, off2 + k * 4, none⟩ = some (.string qn) ∧ w'.cell? ⟨y, off2 + k * 4 + 1, none⟩ = some (.int .i64 qw) ∧ w'.cell? ⟨y, off2 + k * 4 + 2, none⟩ = some (.slice vb us.length vd) ∧ w'.cell? ⟨y, off2 + k * 4 + 3, none⟩ = some (.slice sb ts.length sd)) (by kernel_rfl) ⟨C9_0.out, C9_1.out, C9_2.out, C9_3.out, C9_4.out, C9_5.out, C9_6.out, C9_7.out, C9_8.out, C9_9.out⟩ (fun hHeld => ?_)
        refine wpAnyH_take (i := 0) (oi := _) (v := ?_) (List.getElem?_toArray.trans rfl) (by kernel_rfl) (by kernel_rfl) (by kernel_rfl) (fun _ _ _ h => h) (Or.inl ⟨by rfl, ?_⟩) (by assumption) ?_
        rotate_left
        ·(intro w9 hSw; (try dsimp only at hSw); go_simp; try with_reducible rfl)
        try simp only [Act.put, List.setIfInBounds_toArray, List.set_cons_zero, List.set_cons_succ]
        refine wpAnyH_take (i := 1) (oi := _) (v := ?_) (List.getElem?_toArray.trans rfl) (by kernel_rfl) (by kernel_rfl) (by kernel_rfl) (fun _ _ _ h => h) (Or.inl ⟨by rfl, ?_⟩) (by assumption) ?_
        rotate_left
        ·(intro w9 hSw; (try dsimp only at hSw); go_simp; try with_reducible rfl)
        try simp only [Act.put, List.setIfInBounds_toArray, List.set_cons_zero, List.set_cons_succ]
        refine wpAnyH_take (i := 2) (oi := _) (v := ?_) (List.getElem?_toArray.trans rfl) (by kernel_rfl) (by kernel_rfl) (by kernel_rfl) (fun _ _ _ h => h) (Or.inl ⟨by rfl, ?_⟩) (by assumption) ?_
        rotate_left
        ·(intro w9 hSw; (try dsimp only at hSw); go_simp; try with_reducible rfl)
        try simp only [Act.put, List.setIfInBounds_toArray, List.set_cons_zero, List.set_cons_succ]
        refine wpAnyH_take (i := 3) (oi := _) (v := ?_) (List.getElem?_toArray.trans rfl) (by kernel_rfl) (by kernel_rfl) (by kernel_rfl) (fun _ _ _ h => h) (Or.inl ⟨by rfl, ?_⟩) (by assumption) ?_
        rotate_left
        ·(intro w9 hSw; (try dsimp only at hSw); go_simp; try with_reducible rfl)
        try simp only [Act.put, List.setIfInBounds_toArray, List.set_cons_zero, List.set_cons_succ]
        refine wpAnyH_take (i := 4) (oi := _) (v := ?_) (List.getElem?_toArray.trans rfl) (by kernel_rfl) (by kernel_rfl) (by kernel_rfl) (fun _ _ _ h => h) (Or.inl ⟨by rfl, ?_⟩) (by assumption) ?_
        rotate_left
        ·(intro w9 hSw; (try dsimp only at hSw); go_simp; try with_reducible rfl)
        try simp only [Act.put, List.setIfInBounds_toArray, List.set_cons_zero, List.set_cons_succ]
        refine wpAnyH_take (i := 5) (oi := _) (v := ?_) (List.getElem?_toArray.trans rfl) (by kernel_rfl) (by kernel_rfl) (by kernel_rfl) (fun _ _ _ h => h) (Or.inl ⟨by rfl, ?_⟩) (by assumption) ?_
        rotate_left
        ·(intro w9 hSw; (try dsimp only at hSw); go_simp; try with_reducible rfl)
        try simp only [Act.put, List.setIfInBounds_toArray, List.set_cons_zero, List.set_cons_succ]
        refine wpAnyH_take (i := 6) (oi := _) (v := ?_) (List.getElem?_toArray.trans rfl) (by kernel_rfl) (by kernel_rfl) (by kernel_rfl) (fun _ _ _ h => h) (Or.inl ⟨by rfl, ?_⟩) (by assumption) ?_
        rotate_left
        ·(intro w9 hSw; (try dsimp only at hSw); go_simp; try with_reducible rfl)
        try simp only [Act.put, List.setIfInBounds_toArray, List.set_cons_zero, List.set_cons_succ]
        refine wpAnyH_take (i := 7) (oi := _) (v := ?_) (List.getElem?_toArray.trans rfl) (by kernel_rfl) (by kernel_rfl) (by kernel_rfl) (fun _ _ _ h => h) (Or.inl ⟨by rfl, ?_⟩) (by assumption) ?_
        rotate_left
        ·(intro w9 hSw; (try dsimp only at hSw); go_simp; try with_reducible rfl)
        try simp only [Act.put, List.setIfInBounds_toArray, List.set_cons_zero, List.set_cons_succ]
        refine wpAnyH_take (i := 8) (oi := _) (v := ?_) (List.getElem?_toArray.trans rfl) (by kernel_rfl) (by kernel_rfl) (by kernel_rfl) (fun _ _ _ h => h) (Or.inl ⟨by rfl, ?_⟩) (by assumption) ?_
        rotate_left
        ·(intro w9 hSw; (try dsimp only at hSw); go_simp; try with_reducible rfl)
        try simp only [Act.put, List.setIfInBounds_toArray, List.set_cons_zero, List.set_cons_succ]
        refine wpAnyH_take (i := 9) (oi := _) (v := ?_) (List.getElem?_toArray.trans rfl) (by kernel_rfl) (by kernel_rfl) (by kernel_rfl) (fun _ _ _ h => h) (Or.inl ⟨by rfl, ?_⟩) (by assumption) ?_
        rotate_left
        ·(intro w9 hSw; (try dsimp only at hSw); go_simp; try with_reducible rfl)
        try simp only [Act.put, List.setIfInBounds_toArray, List.set_cons_zero, List.set_cons_succ]
        refine wpAnyH_ready (rs := [10]) (by kernel_rfl) (by simp) ?_
        refine AllReadyH.cons (o := _) (List.getElem?_toArray.trans rfl) (fun K hK => ?_) (AllReadyH.nil)
        go_simp
        refine (HCON.out _ (HR1.out.nil (by repeat (first | exact kzr _ _ | assumption | refine kzd ?_ | refine kzn ?_ _ | refine kza ?_ _ | refine kzs ?_ (by assumption)))) (HR2.out.nil (by repeat (first | exact kzr _ _ | assumption | refine kzd ?_ | refine kzn ?_ _ | refine kza ?_ _ | refine kzs ?_ (by assumption))))).mono ?_
        rintro e w5 ⟨rfl, hk5⟩
        have HK5 := Lib.hid (show Kept Nil wr w5 from (by repeat (first | exact kzr _ _ | assumption | refine kzd ?_ | refine kzn ?_ _ | refine kza ?_ _ | refine kzs ?_ (by assumption))))
        clear hk5
        try go_wp2_with fail
        refine hK.out _ _ ⟨((HK5.out).cell C9_0.out (fun h => h)), ((HK5.out).cell C9_1.out (fun h => h)), ((HK5.out).cell C9_2.out (fun h => h)), ((HK5.out).cell C9_3.out (fun h => h)), ((HK5.out).cell C9_4.out (fun h => h)), ((HK5.out).cell C9_5.out (fun h => h)), ((HK5.out).cell C9_6.out (fun h => h)), ((HK5.out).cell C9_7.out (fun h => h)), ((HK5.out).cell C9_8.out (fun h => h)), ((HK5.out).cell C9_9.out (fun h => h))⟩ (fun hHeld => ?_)
        clear hK K
        try simp only [Act.put, List.setIfInBounds_toArray, List.set_cons_zero, List.set_cons_succ]
        refine wpAnyH_take (i := 11) (oi := _) (v := ?_) (List.getElem?_toArray.trans rfl) (by kernel_rfl) (by kernel_rfl) (by kernel_rfl) (fun _ _ _ h => h) (Or.inl ⟨by rfl, ?_⟩) (by assumption) ?_
        rotate_left
        ·(intro w9 hSw; (try dsimp only at hSw); go_simp; try with_reducible rfl)
        try simp only [Act.put, List.setIfInBounds_toArray, List.set_cons_zero, List.set_cons_succ]
        refine wpAnyH_done (by kernel_rfl) ?_ _
        skip
        go_wp2_with fail
        go_ret
        have hno : r = false := by rw [← HRR.out]; exact eqM_no (fun h => HSM.out (h.p.p k _ _ EO.out EU.out))
        exact ⟨by rw [hno]; rfl, HK.out.step (HKR.out.step HK5.out)⟩
      ·obtain rfl : k = ps.length := by omega
       have hsps : SamePs ps qs := ⟨HL2.out, fun j p q h1 h2 => HALL.out j p q (List.getElem?_eq_some_iff.1 h1).1 h1 h2⟩
       have HSPS := Lib.hid hsps
       clear hsps
       go_wp2_with fail
       obtain ⟨W2, hW2⟩ : ∃ x, x = wr := ⟨_, rfl⟩
       subst hW2
       have HK2 := Lib.hid HKR.out
       go_loopw [6] (fun i wr => ∃ k : Nat, k ≤ ls.length ∧ i = .int .i64 k ∧ (∀ j, j < k → ls[j]? = ms[j]?) ∧ Kept Nil W2 wr) (fun i _ => ls.length - (intOf i).toNat)
       case atStart => exact ⟨0, Nat.zero_le _, rfl, fun j hj => by omega, Kept.refl _ _⟩
       case round =>
        obtain ⟨k, hk, rfl, hall, hK⟩ := hrel
        have HALL := Lib.hid hall
        have HKR := Lib.hid hK
        have hzr := hK.size
        clear hall hK g0 g1 g2 g3 q0 q1 q2 q3
        have g0 := ((HK2.out.step HKR.out)).cell G0.out (fun h => h)
        have g1 := ((HK2.out.step HKR.out)).cell G1.out (fun h => h)
        have g2 := ((HK2.out.step HKR.out)).cell G2.out (fun h => h)
        have g3 := ((HK2.out.step HKR.out)).cell G3.out (fun h => h)
        have q0 := ((HK2.out.step HKR.out)).cell Q0.out (fun h => h)
        have q1 := ((HK2.out.step HKR.out)).cell Q1.out (fun h => h)
        have q2 := ((HK2.out.step HKR.out)).cell Q2.out (fun h => h)
        have q3 := ((HK2.out.step HKR.out)).cell Q3.out (fun h => h)
        by_cases hlt : k < ls.length
        ·obtain ⟨o, eo⟩ : ∃ o, ls[k]? = some o := ⟨_, List.getElem?_eq_getElem hlt⟩
         obtain ⟨u, eu⟩ : ∃ o, ms[k]? = some o := ⟨_, List.getElem?_eq_getElem (by rw [← HL3.out]; exact hlt)⟩
         obtain ⟨x, off, e1, c0, c1, c2, c3, c4⟩ := ((H1.out.nil (HK.out.step (HK2.out.step HKR.out))).r.l).at eo
         obtain ⟨y, off2, e2, d0, d1, d2, d3, d4⟩ := ((H2.out.nil (HK.out.step (HK2.out.step HKR.out))).r.l).at eu
         have hbs : x < wr.heap.size := World.block_lt_of_cell? _ _ c0
         have hbs2 : y < wr.heap.size := World.block_lt_of_cell? _ _ d0
         have hlt2 : (k : Int) < (ls.length : Int) := by omega
         have hw : IntKind.i64.wrap ((k : Int) + 1) = (k : Int) + 1 := by rw [IntKind.wrap_i64]; omega
         have hne := neqL o u
         have EO := Lib.hid eo
         have EU := Lib.hid eu
         clear eo eu
         simp only at e1 e2
         subst e1
         subst e2
         cases he : eqL o u with
         | true =>
          have hou : o = u := eqL_iff.1 he
          have HOU := Lib.hid hou
          rw [he] at hne
          clear he hou
          go_upto_region 11 with fail
          go_big_quiet (fail)
          go_wp2_with fail
          go_round
          exact ⟨k + 1, by omega, by go_num, fun j hj => by (by_cases e : j = k; (rw [e, EO.out, EU.out, HOU.out]); exact HALL.out j (by omega)), HKR.out.drewN _⟩
          case measure => (simp [intOf] <;> omega)
         | false =>
          have hou : o ≠ u := fun h => by rw [h, eqL_refl] at he; cases he
          have HOU := Lib.hid hou
          rw [he] at hne
          clear he hou
          go_upto_region 11 with fail
          go_big_quiet (fail)
          go_wp2_with fail
          go_ret
          have hno : r = false := by
           rw [← HRR.out]
           refine eqM_no (fun h => HOU.out ?_)
           have h9 := EO.out
           rw [show ls = ms from h.l, EU.out] at h9
           exact (Option.some.inj h9).symm
          exact ⟨by rw [hno]; rfl, HK.out.step (HK2.out.step (HKR.out.drewN _))⟩
        ·obtain rfl : k = ls.length := by omega
         have hrows := rows_eq HL3.out HALL.out
         have HROWSL := Lib.hid hrows
         clear hrows
         go_wp2_with fail
         obtain ⟨W3, hW3⟩ : ∃ x, x = wr := ⟨_, rfl⟩
         subst hW3
         have HK3 := Lib.hid (HK2.out.step HKR.out)
         go_loopw [7] (fun i wr => ∃ k : Nat, k ≤ es.length ∧ i = .int .i64 k ∧ (∀ j, j < k → es[j]? = fs[j]?) ∧ Kept Nil W3 wr) (fun i _ => es.length - (intOf i).toNat)
         case atStart => exact ⟨0, Nat.zero_le _, rfl, fun j hj => by omega, Kept.refl _ _⟩
         case round =>
          obtain ⟨k, hk, rfl, hall, hK⟩ := hrel
          have HALL := Lib.hid hall
          have HKR := Lib.hid hK
          have hzr := hK.size
          clear hall hK g0 g1 g2 g3 q0 q1 q2 q3
          have g0 := ((HK3.out.step HKR.out)).cell G0.out (fun h => h)
          have g1 := ((HK3.out.step HKR.out)).cell G1.out (fun h => h)
          have g2 := ((HK3.out.step HKR.out)).cell G2.out (fun h => h)
          have g3 := ((HK3.out.step HKR.out)).cell G3.out (fun h => h)
          have q0 := ((HK3.out.step HKR.out)).cell Q0.out (fun h => h)
          have q1 := ((HK3.out.step HKR.out)).cell Q1.out (fun h => h)
          have q2 := ((HK3.out.step HKR.out)).cell Q2.out (fun h => h)
          have q3 := ((HK3.out.step HKR.out)).cell Q3.out (fun h => h)
          by_cases hlt : k < es.length
          ·obtain ⟨o, eo⟩ : ∃ o, es[k]? = some o := ⟨_, List.getElem?_eq_getElem hlt⟩
           obtain ⟨u, eu⟩ : ∃ o, fs[k]? = some o := ⟨_, List.getElem?_eq_getElem (by rw [← HL4.out]; exact hlt)⟩
           obtain ⟨x, off, e1, c0, c1, c2⟩ := ((H1.out.nil (HK.out.step (HK3.out.step HKR.out))).r.e).at9 eo
           obtain ⟨y, off2, e2, d0, d1, d2⟩ := ((H2.out.nil (HK.out.step (HK3.out.step HKR.out))).r.e).at9 eu
           have hbs : x < wr.heap.size := World.block_lt_of_cell? _ _ c0
           have hbs2 : y < wr.heap.size := World.block_lt_of_cell? _ _ d0
           have hlt2 : (k : Int) < (es.length : Int) := by omega
           have hw : IntKind.i64.wrap ((k : Int) + 1) = (k : Int) + 1 := by rw [IntKind.wrap_i64]; omega
           have hne := neqE o u
           have EO := Lib.hid eo
           have EU := Lib.hid eu
           clear eo eu
           simp only at e1 e2
           subst e1
           subst e2
           cases he : eqE o u with
           | true =>
            have hou : o = u := eqE_iff.1 he
            have HOU := Lib.hid hou
            rw [he] at hne
            clear he hou
            go_upto_region 16 with fail
            go_big_quiet (fail)
            go_wp2_with fail
            go_round
            exact ⟨k + 1, by omega, by go_num, fun j hj => by (by_cases e : j = k; (rw [e, EO.out, EU.out, HOU.out]); exact HALL.out j (by omega)), HKR.out.drewN _⟩
            case measure => (simp [intOf] <;> omega)
           | false =>
            have hou : o ≠ u := fun h => by rw [h, eqE_refl] at he; cases he
            have HOU := Lib.hid hou
            rw [he] at hne
            clear he hou
            go_upto_region 16 with fail
            go_big_quiet (fail)
            go_wp2_with fail
            go_ret
            have hno : r = false := by
             rw [← HRR.out]
             refine eqM_no (fun h => HOU.out ?_)
             have h9 := EO.out
             rw [show es = fs from h.e, EU.out] at h9
             exact (Option.some.inj h9).symm
            exact ⟨by rw [hno]; rfl, HK.out.step (HK3.out.step (HKR.out.drewN _))⟩
          ·obtain rfl : k = es.length := by omega
           have hrows := rows_eq HL4.out HALL.out
           have HROWSE := Lib.hid hrows
           clear hrows
           go_wp2_with fail
           go_ret
           have hyes : r = true := by rw [← HRR.out]; exact eqM_iff.2 ⟨HN1.out, HSPS.out, HROWSL.out, HROWSE.out⟩
           exact ⟨by rw [hyes]; rfl, HK.out.step (HK3.out.step HKR.out)⟩
    ·skip
     have b4 : ((es.length : Int) != (fs.length : Int)) = true := by simp; omega
     have b4e : ((es.length : Int) == (fs.length : Int)) = false := by simp; omega
     have b4d : decide ((es.length : Int) = (fs.length : Int)) = false := by simp; omega
     obtain rfl : r = false := by rw [← HRR.out]; exact eqM_no (fun h => h4 (by rw [show es = fs from h.e]))
     clear h1 h2 h3 h4
     obtain ⟨W1, hW⟩ : ∃ W, ((w.alloc (.cells #[.int .i64 ver, .slice pa ps.length pc, .slice la ls.length lc, .slice ea es.length ec] 26)).alloc (.cells #[.int .i64 wer, .slice pb ps.length pd, .slice lb ls.length ld, .slice eb fs.length ed] 26)) = W := ⟨_, rfl⟩
     have hk : Kept Nil w W1 := by rw [← hW]; exact (((Kept.refl Nil w).alloc _).alloc _)
     have hsz : W1.heap.size = w.heap.size + 2 := by rw [← hW]; simp
     have hb : W1.heap[w.heap.size]? = some (.cells #[.int .i64 ver, .slice pa ps.length pc, .slice la ls.length lc, .slice ea es.length ec] 26 (0, 0)) := by
      rw [← hW]
      rw [heap_old _ _ (by simp only [World.size_alloc]; omega)]
      have h9 := heap_new w (.cells #[.int .i64 ver, .slice pa ps.length pc, .slice la ls.length lc, .slice ea es.length ec] 26)
      exact h9
     have G0 := Lib.hid (show W1.cell? ⟨w.heap.size, 0, none⟩ = some (.int .i64 ver) by rw [cell_of hb]; rfl)
     have G1 := Lib.hid (show W1.cell? ⟨w.heap.size, 1, none⟩ = some (.slice pa ps.length pc) by rw [cell_of hb]; rfl)
     have G2 := Lib.hid (show W1.cell? ⟨w.heap.size, 2, none⟩ = some (.slice la ls.length lc) by rw [cell_of hb]; rfl)
     have G3 := Lib.hid (show W1.cell? ⟨w.heap.size, 3, none⟩ = some (.slice ea es.length ec) by rw [cell_of hb]; rfl)
     have GB := Lib.hid hb
     have hzg : w.heap.size < W1.heap.size := by omega
     clear hb
     have hb : W1.heap[w.heap.size + 1]? = some (.cells #[.int .i64 wer, .slice pb ps.length pd, .slice lb ls.length ld, .slice eb fs.length ed] 26 (0, 0)) := by
      rw [← hW]
      have h9 := heap_new (w.alloc (.cells #[.int .i64 ver, .slice pa ps.length pc, .slice la ls.length lc, .slice ea es.length ec] 26)) (.cells #[.int .i64 wer, .slice pb ps.length pd, .slice lb ls.length ld, .slice eb fs.length ed] 26)
      simp only [World.size_alloc] at h9
      exact h9
     have Q0 := Lib.hid (show W1.cell? ⟨w.heap.size + 1, 0, none⟩ = some (.int .i64 wer) by rw [cell_of hb]; rfl)
     have Q1 := Lib.hid (show W1.cell? ⟨w.heap.size + 1, 1, none⟩ = some (.slice pb ps.length pd) by rw [cell_of hb]; rfl)
     have Q2 := Lib.hid (show W1.cell? ⟨w.heap.size + 1, 2, none⟩ = some (.slice lb ls.length ld) by rw [cell_of hb]; rfl)
     have Q3 := Lib.hid (show W1.cell? ⟨w.heap.size + 1, 3, none⟩ = some (.slice eb fs.length ed) by rw [cell_of hb]; rfl)
     have QB := Lib.hid hb
     have hzq : w.heap.size + 1 < W1.heap.size := by omega
     clear hb
     have HW := Lib.hid hW
     have HK := Lib.hid hk
     have HSZ := Lib.hid hsz
     clear hW hk hsz
     go_enter Tryz.func14, Tryz.ntmps14
     go_upto_region 1 with fail
     rw [HW.out]
     have g0 := ((Kept.refl Nil W1)).cell G0.out (fun h => h)
     have g1 := ((Kept.refl Nil W1)).cell G1.out (fun h => h)
     have g2 := ((Kept.refl Nil W1)).cell G2.out (fun h => h)
     have g3 := ((Kept.refl Nil W1)).cell G3.out (fun h => h)
     have q0 := ((Kept.refl Nil W1)).cell Q0.out (fun h => h)
     have q1 := ((Kept.refl Nil W1)).cell Q1.out (fun h => h)
     have q2 := ((Kept.refl Nil W1)).cell Q2.out (fun h => h)
     have q3 := ((Kept.refl Nil W1)).cell Q3.out (fun h => h)
     go_wp2_with fail
     go_ret
     exact ⟨rfl, HK.out⟩
   ·skip
    have b3 : ((ls.length : Int) != (ms.length : Int)) = true := by simp; omega
    have b3e : ((ls.length : Int) == (ms.length : Int)) = false := by simp; omega
    have b3d : decide ((ls.length : Int) = (ms.length : Int)) = false := by simp; omega
    obtain rfl : r = false := by rw [← HRR.out]; exact eqM_no (fun h => h3 (by rw [show ls = ms from h.l]))
    clear h1 h2 h3
    obtain ⟨W1, hW⟩ : ∃ W, ((w.alloc (.cells #[.int .i64 ver, .slice pa ps.length pc, .slice la ls.length lc, .slice ea es.length ec] 26)).alloc (.cells #[.int .i64 wer, .slice pb ps.length pd, .slice lb ms.length ld, .slice eb fs.length ed] 26)) = W := ⟨_, rfl⟩
    have hk : Kept Nil w W1 := by rw [← hW]; exact (((Kept.refl Nil w).alloc _).alloc _)
    have hsz : W1.heap.size = w.heap.size + 2 := by rw [← hW]; simp
    have hb : W1.heap[w.heap.size]? = some (.cells #[.int .i64 ver, .slice pa ps.length pc, .slice la ls.length lc, .slice ea es.length ec] 26 (0, 0)) := by
     rw [← hW]
     rw [heap_old _ _ (by simp only [World.size_alloc]; omega)]
     have h9 := heap_new w (.cells #[.int .i64 ver, .slice pa ps.length pc, .slice la ls.length lc, .slice ea es.length ec] 26)
     exact h9
    have G0 := Lib.hid (show W1.cell? ⟨w.heap.size, 0, none⟩ = some (.int .i64 ver) by rw [cell_of hb]; rfl)
    have G1 := Lib.hid (show W1.cell? ⟨w.heap.size, 1, none⟩ = some (.slice pa ps.length pc) by rw [cell_of hb]; rfl)
    have G2 := Lib.hid (show W1.cell? ⟨w.heap.size, 2, none⟩ = some (.slice la ls.length lc) by rw [cell_of hb]; rfl)
    have G3 := Lib.hid (show W1.cell? ⟨w.heap.size, 3, none⟩ = some (.slice ea es.length ec) by rw [cell_of hb]; rfl)
    have GB := Lib.hid hb
    have hzg : w.heap.size < W1.heap.size := by omega
    clear hb
    have hb : W1.heap[w.heap.size + 1]? = some (.cells #[.int .i64 wer, .slice pb ps.length pd, .slice lb ms.length ld, .slice eb fs.length ed] 26 (0, 0)) := by
     rw [← hW]
     have h9 := heap_new (w.alloc (.cells #[.int .i64 ver, .slice pa ps.length pc, .slice la ls.length lc, .slice ea es.length ec] 26)) (.cells #[.int .i64 wer, .slice pb ps.length pd, .slice lb ms.length ld, .slice eb fs.length ed] 26)
     simp only [World.size_alloc] at h9
     exact h9
    have Q0 := Lib.hid (show W1.cell? ⟨w.heap.size + 1, 0, none⟩ = some (.int .i64 wer) by rw [cell_of hb]; rfl)
    have Q1 := Lib.hid (show W1.cell? ⟨w.heap.size + 1, 1, none⟩ = some (.slice pb ps.length pd) by rw [cell_of hb]; rfl)
    have Q2 := Lib.hid (show W1.cell? ⟨w.heap.size + 1, 2, none⟩ = some (.slice lb ms.length ld) by rw [cell_of hb]; rfl)
    have Q3 := Lib.hid (show W1.cell? ⟨w.heap.size + 1, 3, none⟩ = some (.slice eb fs.length ed) by rw [cell_of hb]; rfl)
    have QB := Lib.hid hb
    have hzq : w.heap.size + 1 < W1.heap.size := by omega
    clear hb
    have HW := Lib.hid hW
    have HK := Lib.hid hk
    have HSZ := Lib.hid hsz
    clear hW hk hsz
    go_enter Tryz.func14, Tryz.ntmps14
    go_upto_region 1 with fail
    rw [HW.out]
    have g0 := ((Kept.refl Nil W1)).cell G0.out (fun h => h)
    have g1 := ((Kept.refl Nil W1)).cell G1.out (fun h => h)
    have g2 := ((Kept.refl Nil W1)).cell G2.out (fun h => h)
    have g3 := ((Kept.refl Nil W1)).cell G3.out (fun h => h)
    have q0 := ((Kept.refl Nil W1)).cell Q0.out (fun h => h)
    have q1 := ((Kept.refl Nil W1)).cell Q1.out (fun h => h)
    have q2 := ((Kept.refl Nil W1)).cell Q2.out (fun h => h)
    have q3 := ((Kept.refl Nil W1)).cell Q3.out (fun h => h)
    go_wp2_with fail
    go_ret
    exact ⟨rfl, HK.out⟩
  ·skip
   have b2 : ((ps.length : Int) != (qs.length : Int)) = true := by simp; omega
   have b2e : ((ps.length : Int) == (qs.length : Int)) = false := by simp; omega
   have b2d : decide ((ps.length : Int) = (qs.length : Int)) = false := by simp; omega
   obtain rfl : r = false := by rw [← HRR.out]; exact eqM_no (fun h => h2 h.p.l)
   clear h1 h2
   obtain ⟨W1, hW⟩ : ∃ W, ((w.alloc (.cells #[.int .i64 ver, .slice pa ps.length pc, .slice la ls.length lc, .slice ea es.length ec] 26)).alloc (.cells #[.int .i64 wer, .slice pb qs.length pd, .slice lb ms.length ld, .slice eb fs.length ed] 26)) = W := ⟨_, rfl⟩
   have hk : Kept Nil w W1 := by rw [← hW]; exact (((Kept.refl Nil w).alloc _).alloc _)
   have hsz : W1.heap.size = w.heap.size + 2 := by rw [← hW]; simp
   have hb : W1.heap[w.heap.size]? = some (.cells #[.int .i64 ver, .slice pa ps.length pc, .slice la ls.length lc, .slice ea es.length ec] 26 (0, 0)) := by
    rw [← hW]
    rw [heap_old _ _ (by simp only [World.size_alloc]; omega)]
    have h9 := heap_new w (.cells #[.int .i64 ver, .slice pa ps.length pc, .slice la ls.length lc, .slice ea es.length ec] 26)
    exact h9
   have G0 := Lib.hid (show W1.cell? ⟨w.heap.size, 0, none⟩ = some (.int .i64 ver) by rw [cell_of hb]; rfl)
   have G1 := Lib.hid (show W1.cell? ⟨w.heap.size, 1, none⟩ = some (.slice pa ps.length pc) by rw [cell_of hb]; rfl)
   have G2 := Lib.hid (show W1.cell? ⟨w.heap.size, 2, none⟩ = some (.slice la ls.length lc) by rw [cell_of hb]; rfl)
   have G3 := Lib.hid (show W1.cell? ⟨w.heap.size, 3, none⟩ = some (.slice ea es.length ec) by rw [cell_of hb]; rfl)
   have GB := Lib.hid hb
   have hzg : w.heap.size < W1.heap.size := by omega
   clear hb
   have hb : W1.heap[w.heap.size + 1]? = some (.cells #[.int .i64 wer, .slice pb qs.length pd, .slice lb ms.length ld, .slice eb fs.length ed] 26 (0, 0)) := by
    rw [← hW]
    have h9 := heap_new (w.alloc (.cells #[.int .i64 ver, .slice pa ps.length pc, .slice la ls.length lc, .slice ea es.length ec] 26)) (.cells #[.int .i64 wer, .slice pb qs.length pd, .slice lb ms.length ld, .slice eb fs.length ed] 26)
    simp only [World.size_alloc] at h9
    exact h9
   have Q0 := Lib.hid (show W1.cell? ⟨w.heap.size + 1, 0, none⟩ = some (.int .i64 wer) by rw [cell_of hb]; rfl)
   have Q1 := Lib.hid (show W1.cell? ⟨w.heap.size + 1, 1, none⟩ = some (.slice pb qs.length pd) by rw [cell_of hb]; rfl)
   have Q2 := Lib.hid (show W1.cell? ⟨w.heap.size + 1, 2, none⟩ = some (.slice lb ms.length ld) by rw [cell_of hb]; rfl)
   have Q3 := Lib.hid (show W1.cell? ⟨w.heap.size + 1, 3, none⟩ = some (.slice eb fs.length ed) by rw [cell_of hb]; rfl)
   have QB := Lib.hid hb
   have hzq : w.heap.size + 1 < W1.heap.size := by omega
   clear hb
   have HW := Lib.hid hW
   have HK := Lib.hid hk
   have HSZ := Lib.hid hsz
   clear hW hk hsz
   go_enter Tryz.func14, Tryz.ntmps14
   go_upto_region 1 with fail
   rw [HW.out]
   have g0 := ((Kept.refl Nil W1)).cell G0.out (fun h => h)
   have g1 := ((Kept.refl Nil W1)).cell G1.out (fun h => h)
   have g2 := ((Kept.refl Nil W1)).cell G2.out (fun h => h)
   have g3 := ((Kept.refl Nil W1)).cell G3.out (fun h => h)
   have q0 := ((Kept.refl Nil W1)).cell Q0.out (fun h => h)
   have q1 := ((Kept.refl Nil W1)).cell Q1.out (fun h => h)
   have q2 := ((Kept.refl Nil W1)).cell Q2.out (fun h => h)
   have q3 := ((Kept.refl Nil W1)).cell Q3.out (fun h => h)
   go_wp2_with fail
   go_ret
   exact ⟨rfl, HK.out⟩
 ·skip
  have b1 : (ver != wer) = true := by simp [h1]
  have b1e : (ver == wer) = false := by simp [h1]
  have b1d : decide (ver = wer) = false := by simp [h1]
  obtain rfl : r = false := by rw [← HRR.out]; exact eqM_no (fun h => h1 h.v)
  clear h1
  obtain ⟨W1, hW⟩ : ∃ W, ((w.alloc (.cells #[.int .i64 ver, .slice pa ps.length pc, .slice la ls.length lc, .slice ea es.length ec] 26)).alloc (.cells #[.int .i64 wer, .slice pb qs.length pd, .slice lb ms.length ld, .slice eb fs.length ed] 26)) = W := ⟨_, rfl⟩
  have hk : Kept Nil w W1 := by rw [← hW]; exact (((Kept.refl Nil w).alloc _).alloc _)
  have hsz : W1.heap.size = w.heap.size + 2 := by rw [← hW]; simp
  have hb : W1.heap[w.heap.size]? = some (.cells #[.int .i64 ver, .slice pa ps.length pc, .slice la ls.length lc, .slice ea es.length ec] 26 (0, 0)) := by
   rw [← hW]
   rw [heap_old _ _ (by simp only [World.size_alloc]; omega)]
   have h9 := heap_new w (.cells #[.int .i64 ver, .slice pa ps.length pc, .slice la ls.length lc, .slice ea es.length ec] 26)
   exact h9
  have G0 := Lib.hid (show W1.cell? ⟨w.heap.size, 0, none⟩ = some (.int .i64 ver) by rw [cell_of hb]; rfl)
  have G1 := Lib.hid (show W1.cell? ⟨w.heap.size, 1, none⟩ = some (.slice pa ps.length pc) by rw [cell_of hb]; rfl)
  have G2 := Lib.hid (show W1.cell? ⟨w.heap.size, 2, none⟩ = some (.slice la ls.length lc) by rw [cell_of hb]; rfl)
  have G3 := Lib.hid (show W1.cell? ⟨w.heap.size, 3, none⟩ = some (.slice ea es.length ec) by rw [cell_of hb]; rfl)
  have GB := Lib.hid hb
  have hzg : w.heap.size < W1.heap.size := by omega
  clear hb
  have hb : W1.heap[w.heap.size + 1]? = some (.cells #[.int .i64 wer, .slice pb qs.length pd, .slice lb ms.length ld, .slice eb fs.length ed] 26 (0, 0)) := by
   rw [← hW]
   have h9 := heap_new (w.alloc (.cells #[.int .i64 ver, .slice pa ps.length pc, .slice la ls.length lc, .slice ea es.length ec] 26)) (.cells #[.int .i64 wer, .slice pb qs.length pd, .slice lb ms.length ld, .slice eb fs.length ed] 26)
   simp only [World.size_alloc] at h9
   exact h9
  have Q0 := Lib.hid (show W1.cell? ⟨w.heap.size + 1, 0, none⟩ = some (.int .i64 wer) by rw [cell_of hb]; rfl)
  have Q1 := Lib.hid (show W1.cell? ⟨w.heap.size + 1, 1, none⟩ = some (.slice pb qs.length pd) by rw [cell_of hb]; rfl)
  have Q2 := Lib.hid (show W1.cell? ⟨w.heap.size + 1, 2, none⟩ = some (.slice lb ms.length ld) by rw [cell_of hb]; rfl)
  have Q3 := Lib.hid (show W1.cell? ⟨w.heap.size + 1, 3, none⟩ = some (.slice eb fs.length ed) by rw [cell_of hb]; rfl)
  have QB := Lib.hid hb
  have hzq : w.heap.size + 1 < W1.heap.size := by omega
  clear hb
  have HW := Lib.hid hW
  have HK := Lib.hid hk
  have HSZ := Lib.hid hsz
  clear hW hk hsz
  go_enter Tryz.func14, Tryz.ntmps14
  go_upto_region 1 with fail
  rw [HW.out]
  have g0 := ((Kept.refl Nil W1)).cell G0.out (fun h => h)
  have g1 := ((Kept.refl Nil W1)).cell G1.out (fun h => h)
  have g2 := ((Kept.refl Nil W1)).cell G2.out (fun h => h)
  have g3 := ((Kept.refl Nil W1)).cell G3.out (fun h => h)
  have q0 := ((Kept.refl Nil W1)).cell Q0.out (fun h => h)
  have q1 := ((Kept.refl Nil W1)).cell Q1.out (fun h => h)
  have q2 := ((Kept.refl Nil W1)).cell Q2.out (fun h => h)
  have q3 := ((Kept.refl Nil W1)).cell Q3.out (fun h => h)
  go_wp2_with fail
  go_ret
  exact ⟨rfl, HK.out⟩
end Go.Proofs.YtniocgnfgpaioaaGreat.Mo
