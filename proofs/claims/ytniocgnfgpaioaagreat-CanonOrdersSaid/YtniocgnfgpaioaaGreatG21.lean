/- The walks of slices.EqualFunc at processes, canon.Same and canon.Is. -/
import Derived.Test.YtniocgnfgpaioaaGreatG17
import Derived.Test.YtniocgnfgpaioaaGreatG20
set_option linter.unusedVariables false
set_option linter.unusedSimpArgs false
namespace Go.Proofs.YtniocgnfgpaioaaGreat.Mo
open Go Go.RowKit Go.Proofs.YtniocgnfgpaioaaGreat.Lb Go.Proofs.YtniocgnfgpaioaaGreat.HpPure
set_option maxRecDepth 8000
set_option maxHeartbeats 8000000 in
theorem EqualP_is (a b : List Pr) (A B : Option Addr) (c d : Nat) (w : World) (h1 : RProcs w A a) (h2 : RProcs w B b) (hp : ∀ p ∈ a, RProc w p) (hq : ∀ p ∈ b, RProc w p) (ha : a.length ≤ 100000) (hb : b.length ≤ 100000) (hva : ∀ p ∈ a, p.vs.length ≤ 100000 ∧ p.ss.length ≤ 100000) (hvb : ∀ p ∈ b, p.vs.length ≤ 100000 ∧ p.ss.length ≤ 100000) :
  Calls Tryz.prog 44 #[.slice A a.length c, .slice B b.length d, .func (.func 45) #[] #[]] w fun e w' => e = .returned (.bool (eqPs a b)) ∧ Kept Nil w w' := by
 have H1 := Lib.hid h1
 have H2 := Lib.hid h2
 have HP := Lib.hid hp
 have HQ := Lib.hid hq
 have HVA := Lib.hid hva
 have HVB := Lib.hid hvb
 have hent := enters_of (P := Tryz.prog) Tryz.func45 (by kernel_rfl) rfl
 clear h1 h2 hp hq hva hvb
 by_cases hl : a.length = b.length
 ·rw [← hl]
  have HL := Lib.hid hl
  clear hl
  go_enter Tryz.func44, Tryz.ntmps44
  go_wp2_with fail
  go_loopw [17] (fun i wr => ∃ k : Nat, k ≤ a.length ∧ i = .int .i64 k ∧ (∀ j p q, j < k → a[j]? = some p → b[j]? = some q → SameP p q) ∧ Kept Nil w wr) (fun i _ => a.length - (intOf i).toNat)
  case atStart => exact ⟨0, Nat.zero_le _, rfl, fun j p q hj => by omega, Kept.refl _ _⟩
  case round =>
   obtain ⟨k, hk, rfl, hall, hK⟩ := hrel
   have HALL := Lib.hid hall
   have HKR := Lib.hid hK
   have hzr := hK.size
   clear hall hK
   by_cases hlt : k < a.length
   ·obtain ⟨p, eo⟩ : ∃ o, a[k]? = some o := ⟨_, List.getElem?_eq_getElem hlt⟩
    obtain ⟨q, eu⟩ : ∃ o, b[k]? = some o := ⟨_, List.getElem?_eq_getElem (by rw [← HL.out]; exact hlt)⟩
    have hr1 := (HP.out p (List.mem_of_getElem? eo)).nil HKR.out
    have hr2 := (HQ.out q (List.mem_of_getElem? eu)).nil HKR.out
    have hv1 := HVA.out p (List.mem_of_getElem? eo)
    have hv2 := HVB.out q (List.mem_of_getElem? eu)
    obtain ⟨x, off, e1, c0, c1, c2, c3⟩ := (RProcs.ofRow (rowOf_nil prCells_len HKR.out H1.out.rowOf) : RProcs wr A a).at eo
    obtain ⟨y, off2, e2, d0, d1, d2, d3⟩ := (RProcs.ofRow (rowOf_nil prCells_len HKR.out H2.out.rowOf) : RProcs wr B b).at eu
    have hbs : x < wr.heap.size := World.block_lt_of_cell? _ _ c0
    have hbs2 : y < wr.heap.size := World.block_lt_of_cell? _ _ d0
    have hlt2 : (k : Int) < (a.length : Int) := by omega
    have hw : IntKind.i64.wrap ((k : Int) + 1) = (k : Int) + 1 := by rw [IntKind.wrap_i64]; omega
    have EO := Lib.hid eo
    have EU := Lib.hid eu
    clear eo eu
    subst e1 e2
    obtain ⟨pn, pw, va, vs, vc, sa, ss, sc⟩ := p
    obtain ⟨qn, qw, vb, us, vd, sb, ts, sd⟩ := q
    simp only at hv1 hv2 c0 c1 c2 c3 d0 d1 d2 d3
    have HR1 := Lib.hid hr1
    have HR2 := Lib.hid hr2
    clear hr1 hr2
    go_upto_region 7 with fail
    clear c0 c1 c2 c3 d0 d1 d2 d3
    obtain ⟨WP, hW⟩ : ∃ W, ((wr.alloc (.cells #[.string pn, .int .i64 pw, .slice va vs.length vc, .slice sa ss.length sc] 34)).alloc (.cells #[.string qn, .int .i64 qw, .slice vb us.length vd, .slice sb ts.length sd] 34)) = W := ⟨_, rfl⟩
    have hk : Kept Nil wr WP := by rw [← hW]; exact (((Kept.refl Nil wr).alloc _).alloc _)
    have hsz : WP.heap.size = wr.heap.size + 2 := by rw [← hW]; simp
    have hb : WP.heap[wr.heap.size]? = some (.cells #[.string pn, .int .i64 pw, .slice va vs.length vc, .slice sa ss.length sc] 34 (0, 0)) := by
     rw [← hW]
     rw [heap_old _ _ (by simp only [World.size_alloc]; omega)]
     have h9 := heap_new wr (.cells #[.string pn, .int .i64 pw, .slice va vs.length vc, .slice sa ss.length sc] 34)
     exact h9
    have G0 := Lib.hid (show WP.cell? ⟨wr.heap.size, 0, none⟩ = some (.string pn) by rw [cell_of hb]; rfl)
    have G1 := Lib.hid (show WP.cell? ⟨wr.heap.size, 1, none⟩ = some (.int .i64 pw) by rw [cell_of hb]; rfl)
    have G2 := Lib.hid (show WP.cell? ⟨wr.heap.size, 2, none⟩ = some (.slice va vs.length vc) by rw [cell_of hb]; rfl)
    have G3 := Lib.hid (show WP.cell? ⟨wr.heap.size, 3, none⟩ = some (.slice sa ss.length sc) by rw [cell_of hb]; rfl)
    have GB := Lib.hid hb
    have hzg : wr.heap.size < WP.heap.size := by omega
    clear hb
    have hb : WP.heap[wr.heap.size + 1]? = some (.cells #[.string qn, .int .i64 qw, .slice vb us.length vd, .slice sb ts.length sd] 34 (0, 0)) := by
     rw [← hW]
     have h9 := heap_new (wr.alloc (.cells #[.string pn, .int .i64 pw, .slice va vs.length vc, .slice sa ss.length sc] 34)) (.cells #[.string qn, .int .i64 qw, .slice vb us.length vd, .slice sb ts.length sd] 34)
     simp only [World.size_alloc] at h9
     exact h9
    have Y0 := Lib.hid (show WP.cell? ⟨wr.heap.size + 1, 0, none⟩ = some (.string qn) by rw [cell_of hb]; rfl)
    have Y1 := Lib.hid (show WP.cell? ⟨wr.heap.size + 1, 1, none⟩ = some (.int .i64 qw) by rw [cell_of hb]; rfl)
    have Y2 := Lib.hid (show WP.cell? ⟨wr.heap.size + 1, 2, none⟩ = some (.slice vb us.length vd) by rw [cell_of hb]; rfl)
    have Y3 := Lib.hid (show WP.cell? ⟨wr.heap.size + 1, 3, none⟩ = some (.slice sb ts.length sd) by rw [cell_of hb]; rfl)
    have YB := Lib.hid hb
    have hzy : wr.heap.size + 1 < WP.heap.size := by omega
    clear hb
    have HWP := Lib.hid hW
    have HKP := Lib.hid hk
    have HSZP := Lib.hid hsz
    clear hW hk hsz
    rw [HWP.out]
    have g0 := G0.out
    have g1 := G1.out
    have g2 := G2.out
    have g3 := G3.out
    have y0 := Y0.out
    have y1 := Y1.out
    have y2 := Y2.out
    have y3 := Y3.out
    have hcon := fun W h1 h2 => cSameProc_is pn qn pw qw vs us ss ts va vb sa sb vc vd sc sd W h1 h2 ⟨hv1.1, hv2.1⟩ ⟨hv1.2, hv2.2⟩
    cases he : eqP ⟨pn, pw, va, vs, vc, sa, ss, sc⟩ ⟨qn, qw, vb, us, vd, sb, ts, sd⟩ with
    | true =>
     rw [he] at hcon
     have hsm := eqP_iff.1 he
     have HSM := Lib.hid hsm
     clear he hsm
     go_wp2_with (go_at_call 45; with_reducible refine (hcon _ (HR1.out.nil HKP.out) (HR2.out.nil HKP.out)).mono ?_; rintro e w5 ⟨rfl, hk5⟩; have HK5 := Lib.hid (HKP.out.step hk5); clear hk5)
     go_round
     exact ⟨k + 1, by omega, by go_num, fun j p q hj h1 h2 => by (by_cases e : j = k; (rw [e, EO.out] at h1; rw [e, EU.out] at h2; cases h1; cases h2; exact HSM.out); exact HALL.out j p q (by omega) h1 h2), HKR.out.step HK5.out⟩
     case measure => (simp [intOf] <;> omega)
    | false =>
     rw [he] at hcon
     have hsm : ¬ SameP ⟨pn, pw, va, vs, vc, sa, ss, sc⟩ ⟨qn, qw, vb, us, vd, sb, ts, sd⟩ := fun h => by rw [eqP_iff.2 h] at he; cases he
     have HSM := Lib.hid hsm
     clear he hsm
     go_wp2_with (go_at_call 45; with_reducible refine (hcon _ (HR1.out.nil HKP.out) (HR2.out.nil HKP.out)).mono ?_; rintro e w5 ⟨rfl, hk5⟩; have HK5 := Lib.hid (HKP.out.step hk5); clear hk5)
     go_ret
     have hno : eqPs a b = false := eqPs_no (fun h => HSM.out (h.p k _ _ EO.out EU.out))
     exact ⟨by rw [hno]; rfl, HKR.out.step HK5.out⟩
   ·obtain rfl : k = a.length := by omega
    go_wp2_with fail
    go_ret
    have hyes : eqPs a b = true := eqPs_iff.2 ⟨HL.out, fun j p q h1 h2 => HALL.out j p q (List.getElem?_eq_some_iff.1 h1).1 h1 h2⟩
    exact ⟨by rw [hyes]; rfl, HKR.out⟩
 ·have hn : ((a.length : Int) != (b.length : Int)) = true := by simp; omega
  rw [eqPs_no (fun h => hl h.l)]
  clear hl
  go_enter Tryz.func44, Tryz.ntmps44
  go_wp2_with fail
  go_ret
  exact ⟨rfl, Kept.refl _ _⟩
set_option maxHeartbeats 4000000 in
theorem cSame_is (ver wer : Int) (ps qs : List Pr) (ls ms : List Lk) (es fs : List Ev) (pa pb la lb ea eb : Option Addr) (pc pd lc ld ec ed : Nat) (w : World) (h1 : HeldM w ⟨ver, pa, ps, pc, la, ls, lc, ea, es, ec⟩) (h2 : HeldM w ⟨wer, pb, qs, pd, lb, ms, ld, eb, fs, ed⟩) :
  Calls Tryz.prog 16 #[.agg #[.int .i64 ver, .slice pa ps.length pc, .slice la ls.length lc, .slice ea es.length ec], .agg #[.int .i64 wer, .slice pb qs.length pd, .slice lb ms.length ld, .slice eb fs.length ed]] w fun e w' => e = .returned (.bool (eqM ⟨ver, pa, ps, pc, la, ls, lc, ea, es, ec⟩ ⟨wer, pb, qs, pd, lb, ms, ld, eb, fs, ed⟩)) ∧ Kept Nil w w' := by
 have H1 := Lib.hid h1
 have H2 := Lib.hid h2
 clear h1 h2
 obtain ⟨r, hr⟩ : ∃ r, eqM ⟨ver, pa, ps, pc, la, ls, lc, ea, es, ec⟩ ⟨wer, pb, qs, pd, lb, ms, ld, eb, fs, ed⟩ = r := ⟨_, rfl⟩
 rw [hr]
 obtain ⟨W1, hW⟩ : ∃ W, ((w.alloc (.cells #[.int .i64 ver, .slice pa ps.length pc, .slice la ls.length lc, .slice ea es.length ec] 26)).alloc (.cells #[.int .i64 wer, .slice pb qs.length pd, .slice lb ms.length ld, .slice eb fs.length ed] 26)) = W := ⟨_, rfl⟩
 have hk : Kept Nil w W1 := by rw [← hW]; exact (((Kept.refl Nil w).alloc _).alloc _)
 have hsz : W1.heap.size = w.heap.size + 2 := by rw [← hW]; simp
 have hb : W1.heap[w.heap.size]? = some (.cells #[.int .i64 ver, .slice pa ps.length pc, .slice la ls.length lc, .slice ea es.length ec] 26 (0, 0)) := by
  rw [← hW]
  rw [heap_old _ _ (by simp only [World.size_alloc]; omega)]
  have h9 := heap_new w (.cells #[.int .i64 ver, .slice pa ps.length pc, .slice la ls.length lc, .slice ea es.length ec] 26)
  exact h9
 have G0 := Lib.hid (show W1.cell? ⟨w.heap.size, 0, none⟩ = some (.int .i64 ver) by rw [cell_of hb]; rfl)
 have G1 := Lib.hid (show W1.cell? ⟨w.heap.size, 1, none⟩ = some (.slice pa ps.length pc) by rw [cell_of hb]; rfl)
 have G2 := Lib.hid (show W1.cell? ⟨w.heap.size, 2, none⟩ = some (.slice la ls.length lc) by rw [cell_of hb]; rfl)
 have G3 := Lib.hid (show W1.cell? ⟨w.heap.size, 3, none⟩ = some (.slice ea es.length ec) by rw [cell_of hb]; rfl)
 have GB := Lib.hid hb
 have hzg : w.heap.size < W1.heap.size := by omega
 clear hb
 have hb : W1.heap[w.heap.size + 1]? = some (.cells #[.int .i64 wer, .slice pb qs.length pd, .slice lb ms.length ld, .slice eb fs.length ed] 26 (0, 0)) := by
  rw [← hW]
  have h9 := heap_new (w.alloc (.cells #[.int .i64 ver, .slice pa ps.length pc, .slice la ls.length lc, .slice ea es.length ec] 26)) (.cells #[.int .i64 wer, .slice pb qs.length pd, .slice lb ms.length ld, .slice eb fs.length ed] 26)
  simp only [World.size_alloc] at h9
  exact h9
 have Q0 := Lib.hid (show W1.cell? ⟨w.heap.size + 1, 0, none⟩ = some (.int .i64 wer) by rw [cell_of hb]; rfl)
 have Q1 := Lib.hid (show W1.cell? ⟨w.heap.size + 1, 1, none⟩ = some (.slice pb qs.length pd) by rw [cell_of hb]; rfl)
 have Q2 := Lib.hid (show W1.cell? ⟨w.heap.size + 1, 2, none⟩ = some (.slice lb ms.length ld) by rw [cell_of hb]; rfl)
 have Q3 := Lib.hid (show W1.cell? ⟨w.heap.size + 1, 3, none⟩ = some (.slice eb fs.length ed) by rw [cell_of hb]; rfl)
 have QB := Lib.hid hb
 have hzq : w.heap.size + 1 < W1.heap.size := by omega
 clear hb
 have HW := Lib.hid hW
 have HK := Lib.hid hk
 have HSZ := Lib.hid hsz
 clear hW hk hsz
 by_cases h1 : ver = wer
 ·subst h1
  have b1 : (ver == ver) = true := by simp
  cases h2 : eqPs ps qs with
  | true =>
   have e2 := eqPs_iff.1 h2
   have HB2 := Lib.hid h2
   cases h3 : eqRw ls ms with
   | true =>
    have e3 := eqRw_iff.1 h3
    have HB3 := Lib.hid h3
    cases h4 : eqRw es fs with
    | true =>
     have e4 := eqRw_iff.1 h4
     have HB4 := Lib.hid h4
     obtain rfl : r = true := by rw [← hr]; exact eqM_iff.2 ⟨rfl, e2, e3, e4⟩
     clear hr h2 e2 h3 e3 h4 e4
     go_enter Tryz.func16, Tryz.ntmps16
     go_upto_region 1 with fail
     rw [HW.out]
     have g0 := ((Kept.refl Nil W1)).cell G0.out (fun h => h)
     have g1 := ((Kept.refl Nil W1)).cell G1.out (fun h => h)
     have g2 := ((Kept.refl Nil W1)).cell G2.out (fun h => h)
     have g3 := ((Kept.refl Nil W1)).cell G3.out (fun h => h)
     have q0 := ((Kept.refl Nil W1)).cell Q0.out (fun h => h)
     have q1 := ((Kept.refl Nil W1)).cell Q1.out (fun h => h)
     have q2 := ((Kept.refl Nil W1)).cell Q2.out (fun h => h)
     have q3 := ((Kept.refl Nil W1)).cell Q3.out (fun h => h)
     go_wp2_with (first | (go_at_call 44; with_reducible refine (EqualP_is ps qs pa pb pc pd _ (H1.out.nil (HK.out.step (by repeat (first | exact kzr _ _ | assumption | refine kzd ?_ | refine kzn ?_ _ | refine kza ?_ _ | refine kzs ?_ (by assumption))))).r.p (H2.out.nil (HK.out.step (by repeat (first | exact kzr _ _ | assumption | refine kzd ?_ | refine kzn ?_ _ | refine kza ?_ _ | refine kzs ?_ (by assumption))))).r.p (H1.out.nil (HK.out.step (by repeat (first | exact kzr _ _ | assumption | refine kzd ?_ | refine kzn ?_ _ | refine kza ?_ _ | refine kzs ?_ (by assumption))))).r.pp (H2.out.nil (HK.out.step (by repeat (first | exact kzr _ _ | assumption | refine kzd ?_ | refine kzn ?_ _ | refine kza ?_ _ | refine kzs ?_ (by assumption))))).r.pp H1.out.s.p H2.out.s.p H1.out.s.v H2.out.s.v).mono ?_; rintro e w2 ⟨rfl, hk2⟩; rw [HB2.out]; have hz2 : w.heap.size + 1 < w2.heap.size := (by have := (show Kept Nil W1 w2 from (by repeat (first | exact kzr _ _ | assumption | refine kzd ?_ | refine kzn ?_ _ | refine kza ?_ _ | refine kzs ?_ (by assumption)))).size; omega); have hy2 : w.heap.size < w2.heap.size := (by omega); clear g0 g1 g2 g3 q0 q1 q2 q3; have g0 := (show Kept Nil W1 w2 from (by repeat (first | exact kzr _ _ | assumption | refine kzd ?_ | refine kzn ?_ _ | refine kza ?_ _ | refine kzs ?_ (by assumption)))).cell G0.out (fun h => h); have g1 := (show Kept Nil W1 w2 from (by repeat (first | exact kzr _ _ | assumption | refine kzd ?_ | refine kzn ?_ _ | refine kza ?_ _ | refine kzs ?_ (by assumption)))).cell G1.out (fun h => h); have g2 := (show Kept Nil W1 w2 from (by repeat (first | exact kzr _ _ | assumption | refine kzd ?_ | refine kzn ?_ _ | refine kza ?_ _ | refine kzs ?_ (by assumption)))).cell G2.out (fun h => h); have g3 := (show Kept Nil W1 w2 from (by repeat (first | exact kzr _ _ | assumption | refine kzd ?_ | refine kzn ?_ _ | refine kza ?_ _ | refine kzs ?_ (by assumption)))).cell G3.out (fun h => h); have q0 := (show Kept Nil W1 w2 from (by repeat (first | exact kzr _ _ | assumption | refine kzd ?_ | refine kzn ?_ _ | refine kza ?_ _ | refine kzs ?_ (by assumption)))).cell Q0.out (fun h => h); have q1 := (show Kept Nil W1 w2 from (by repeat (first | exact kzr _ _ | assumption | refine kzd ?_ | refine kzn ?_ _ | refine kza ?_ _ | refine kzs ?_ (by assumption)))).cell Q1.out (fun h => h); have q2 := (show Kept Nil W1 w2 from (by repeat (first | exact kzr _ _ | assumption | refine kzd ?_ | refine kzn ?_ _ | refine kza ?_ _ | refine kzs ?_ (by assumption)))).cell Q2.out (fun h => h); have q3 := (show Kept Nil W1 w2 from (by repeat (first | exact kzr _ _ | assumption | refine kzd ?_ | refine kzn ?_ _ | refine kza ?_ _ | refine kzs ?_ (by assumption)))).cell Q3.out (fun h => h)) | (go_at_call 46; with_reducible refine (EqualL_is ls ms la lb lc ld _ (H1.out.nil (HK.out.step (by repeat (first | exact kzr _ _ | assumption | refine kzd ?_ | refine kzn ?_ _ | refine kza ?_ _ | refine kzs ?_ (by assumption))))).r.l (H2.out.nil (HK.out.step (by repeat (first | exact kzr _ _ | assumption | refine kzd ?_ | refine kzn ?_ _ | refine kza ?_ _ | refine kzs ?_ (by assumption))))).r.l H1.out.s.l H2.out.s.l).mono ?_; rintro e w3 ⟨rfl, hk3⟩; rw [HB3.out]; have hz3 : w.heap.size + 1 < w3.heap.size := (by have := (show Kept Nil W1 w3 from (by repeat (first | exact kzr _ _ | assumption | refine kzd ?_ | refine kzn ?_ _ | refine kza ?_ _ | refine kzs ?_ (by assumption)))).size; omega); have hy3 : w.heap.size < w3.heap.size := (by omega); clear g0 g1 g2 g3 q0 q1 q2 q3; have g0 := (show Kept Nil W1 w3 from (by repeat (first | exact kzr _ _ | assumption | refine kzd ?_ | refine kzn ?_ _ | refine kza ?_ _ | refine kzs ?_ (by assumption)))).cell G0.out (fun h => h); have g1 := (show Kept Nil W1 w3 from (by repeat (first | exact kzr _ _ | assumption | refine kzd ?_ | refine kzn ?_ _ | refine kza ?_ _ | refine kzs ?_ (by assumption)))).cell G1.out (fun h => h); have g2 := (show Kept Nil W1 w3 from (by repeat (first | exact kzr _ _ | assumption | refine kzd ?_ | refine kzn ?_ _ | refine kza ?_ _ | refine kzs ?_ (by assumption)))).cell G2.out (fun h => h); have g3 := (show Kept Nil W1 w3 from (by repeat (first | exact kzr _ _ | assumption | refine kzd ?_ | refine kzn ?_ _ | refine kza ?_ _ | refine kzs ?_ (by assumption)))).cell G3.out (fun h => h); have q0 := (show Kept Nil W1 w3 from (by repeat (first | exact kzr _ _ | assumption | refine kzd ?_ | refine kzn ?_ _ | refine kza ?_ _ | refine kzs ?_ (by assumption)))).cell Q0.out (fun h => h); have q1 := (show Kept Nil W1 w3 from (by repeat (first | exact kzr _ _ | assumption | refine kzd ?_ | refine kzn ?_ _ | refine kza ?_ _ | refine kzs ?_ (by assumption)))).cell Q1.out (fun h => h); have q2 := (show Kept Nil W1 w3 from (by repeat (first | exact kzr _ _ | assumption | refine kzd ?_ | refine kzn ?_ _ | refine kza ?_ _ | refine kzs ?_ (by assumption)))).cell Q2.out (fun h => h); have q3 := (show Kept Nil W1 w3 from (by repeat (first | exact kzr _ _ | assumption | refine kzd ?_ | refine kzn ?_ _ | refine kza ?_ _ | refine kzs ?_ (by assumption)))).cell Q3.out (fun h => h)) | (go_at_call 47; with_reducible refine (EqualE_is es fs ea eb ec ed _ (H1.out.nil (HK.out.step (by repeat (first | exact kzr _ _ | assumption | refine kzd ?_ | refine kzn ?_ _ | refine kza ?_ _ | refine kzs ?_ (by assumption))))).r.e (H2.out.nil (HK.out.step (by repeat (first | exact kzr _ _ | assumption | refine kzd ?_ | refine kzn ?_ _ | refine kza ?_ _ | refine kzs ?_ (by assumption))))).r.e H1.out.s.e H2.out.s.e).mono ?_; rintro e w4 ⟨rfl, hk4⟩; rw [HB4.out]; have hz4 : w.heap.size + 1 < w4.heap.size := (by have := (show Kept Nil W1 w4 from (by repeat (first | exact kzr _ _ | assumption | refine kzd ?_ | refine kzn ?_ _ | refine kza ?_ _ | refine kzs ?_ (by assumption)))).size; omega); have hy4 : w.heap.size < w4.heap.size := (by omega); clear g0 g1 g2 g3 q0 q1 q2 q3; have g0 := (show Kept Nil W1 w4 from (by repeat (first | exact kzr _ _ | assumption | refine kzd ?_ | refine kzn ?_ _ | refine kza ?_ _ | refine kzs ?_ (by assumption)))).cell G0.out (fun h => h); have g1 := (show Kept Nil W1 w4 from (by repeat (first | exact kzr _ _ | assumption | refine kzd ?_ | refine kzn ?_ _ | refine kza ?_ _ | refine kzs ?_ (by assumption)))).cell G1.out (fun h => h); have g2 := (show Kept Nil W1 w4 from (by repeat (first | exact kzr _ _ | assumption | refine kzd ?_ | refine kzn ?_ _ | refine kza ?_ _ | refine kzs ?_ (by assumption)))).cell G2.out (fun h => h); have g3 := (show Kept Nil W1 w4 from (by repeat (first | exact kzr _ _ | assumption | refine kzd ?_ | refine kzn ?_ _ | refine kza ?_ _ | refine kzs ?_ (by assumption)))).cell G3.out (fun h => h); have q0 := (show Kept Nil W1 w4 from (by repeat (first | exact kzr _ _ | assumption | refine kzd ?_ | refine kzn ?_ _ | refine kza ?_ _ | refine kzs ?_ (by assumption)))).cell Q0.out (fun h => h); have q1 := (show Kept Nil W1 w4 from (by repeat (first | exact kzr _ _ | assumption | refine kzd ?_ | refine kzn ?_ _ | refine kza ?_ _ | refine kzs ?_ (by assumption)))).cell Q1.out (fun h => h); have q2 := (show Kept Nil W1 w4 from (by repeat (first | exact kzr _ _ | assumption | refine kzd ?_ | refine kzn ?_ _ | refine kza ?_ _ | refine kzs ?_ (by assumption)))).cell Q2.out (fun h => h); have q3 := (show Kept Nil W1 w4 from (by repeat (first | exact kzr _ _ | assumption | refine kzd ?_ | refine kzn ?_ _ | refine kza ?_ _ | refine kzs ?_ (by assumption)))).cell Q3.out (fun h => h)))
     go_ret
     exact ⟨rfl, HK.out.step (by repeat (first | exact kzr _ _ | assumption | refine kzd ?_ | refine kzn ?_ _ | refine kza ?_ _ | refine kzs ?_ (by assumption)))⟩
    | false =>
     have e4 : es ≠ fs := fun h => by rw [eqRw_iff.2 h] at h4; cases h4
     have HB4 := Lib.hid h4
     obtain rfl : r = false := by rw [← hr]; exact eqM_no (fun h => e4 h.e)
     clear hr h2 e2 h3 e3 h4 e4
     go_enter Tryz.func16, Tryz.ntmps16
     go_upto_region 1 with fail
     rw [HW.out]
     have g0 := ((Kept.refl Nil W1)).cell G0.out (fun h => h)
     have g1 := ((Kept.refl Nil W1)).cell G1.out (fun h => h)
     have g2 := ((Kept.refl Nil W1)).cell G2.out (fun h => h)
     have g3 := ((Kept.refl Nil W1)).cell G3.out (fun h => h)
     have q0 := ((Kept.refl Nil W1)).cell Q0.out (fun h => h)
     have q1 := ((Kept.refl Nil W1)).cell Q1.out (fun h => h)
     have q2 := ((Kept.refl Nil W1)).cell Q2.out (fun h => h)
     have q3 := ((Kept.refl Nil W1)).cell Q3.out (fun h => h)
     go_wp2_with (first | (go_at_call 44; with_reducible refine (EqualP_is ps qs pa pb pc pd _ (H1.out.nil (HK.out.step (by repeat (first | exact kzr _ _ | assumption | refine kzd ?_ | refine kzn ?_ _ | refine kza ?_ _ | refine kzs ?_ (by assumption))))).r.p (H2.out.nil (HK.out.step (by repeat (first | exact kzr _ _ | assumption | refine kzd ?_ | refine kzn ?_ _ | refine kza ?_ _ | refine kzs ?_ (by assumption))))).r.p (H1.out.nil (HK.out.step (by repeat (first | exact kzr _ _ | assumption | refine kzd ?_ | refine kzn ?_ _ | refine kza ?_ _ | refine kzs ?_ (by assumption))))).r.pp (H2.out.nil (HK.out.step (by repeat (first | exact kzr _ _ | assumption | refine kzd ?_ | refine kzn ?_ _ | refine kza ?_ _ | refine kzs ?_ (by assumption))))).r.pp H1.out.s.p H2.out.s.p H1.out.s.v H2.out.s.v).mono ?_; rintro e w2 ⟨rfl, hk2⟩; rw [HB2.out]; have hz2 : w.heap.size + 1 < w2.heap.size := (by have := (show Kept Nil W1 w2 from (by repeat (first | exact kzr _ _ | assumption | refine kzd ?_ | refine kzn ?_ _ | refine kza ?_ _ | refine kzs ?_ (by assumption)))).size; omega); have hy2 : w.heap.size < w2.heap.size := (by omega); clear g0 g1 g2 g3 q0 q1 q2 q3; have g0 := (show Kept Nil W1 w2 from (by repeat (first | exact kzr _ _ | assumption | refine kzd ?_ | refine kzn ?_ _ | refine kza ?_ _ | refine kzs ?_ (by assumption)))).cell G0.out (fun h => h); have g1 := (show Kept Nil W1 w2 from (by repeat (first | exact kzr _ _ | assumption | refine kzd ?_ | refine kzn ?_ _ | refine kza ?_ _ | refine kzs ?_ (by assumption)))).cell G1.out (fun h => h); have g2 := (show Kept Nil W1 w2 from (by repeat (first | exact kzr _ _ | assumption | refine kzd ?_ | refine kzn ?_ _ | refine kza ?_ _ | refine kzs ?_ (by assumption)))).cell G2.out (fun h => h); have g3 := (show Kept Nil W1 w2 from (by repeat (first | exact kzr _ _ | assumption | refine kzd ?_ | refine kzn ?_ _ | refine kza ?_ _ | refine kzs ?_ (by assumption)))).cell G3.out (fun h => h); have q0 := (show Kept Nil W1 w2 from (by repeat (first | exact kzr _ _ | assumption | refine kzd ?_ | refine kzn ?_ _ | refine kza ?_ _ | refine kzs ?_ (by assumption)))).cell Q0.out (fun h => h); have q1 := (show Kept Nil W1 w2 from (by repeat (first | exact kzr _ _ | assumption | refine kzd ?_ | refine kzn ?_ _ | refine kza ?_ _ | refine kzs ?_ (by assumption)))).cell Q1.out (fun h => h); have q2 := (show Kept Nil W1 w2 from (by repeat (first | exact kzr _ _ | assumption | refine kzd ?_ | refine kzn ?_ _ | refine kza ?_ _ | refine kzs ?_ (by assumption)))).cell Q2.out (fun h => h); have q3 := (show Kept Nil W1 w2 from (by repeat (first | exact kzr _ _ | assumption | refine kzd ?_ | refine kzn ?_ _ | refine kza ?_ _ | refine kzs ?_ (by assumption)))).cell Q3.out (fun h => h)) | (go_at_call 46; with_reducible refine (EqualL_is ls ms la lb lc ld _ (H1.out.nil (HK.out.step (by repeat (first | exact kzr _ _ | assumption | refine kzd ?_ | refine kzn ?_ _ | refine kza ?_ _ | refine kzs ?_ (by assumption))))).r.l (H2.out.nil (HK.out.step (by repeat (first | exact kzr _ _ | assumption | refine kzd ?_ | refine kzn ?_ _ | refine kza ?_ _ | refine kzs ?_ (by assumption))))).r.l H1.out.s.l H2.out.s.l).mono ?_; rintro e w3 ⟨rfl, hk3⟩; rw [HB3.out]; have hz3 : w.heap.size + 1 < w3.heap.size := (by have := (show Kept Nil W1 w3 from (by repeat (first | exact kzr _ _ | assumption | refine kzd ?_ | refine kzn ?_ _ | refine kza ?_ _ | refine kzs ?_ (by assumption)))).size; omega); have hy3 : w.heap.size < w3.heap.size := (by omega); clear g0 g1 g2 g3 q0 q1 q2 q3; have g0 := (show Kept Nil W1 w3 from (by repeat (first | exact kzr _ _ | assumption | refine kzd ?_ | refine kzn ?_ _ | refine kza ?_ _ | refine kzs ?_ (by assumption)))).cell G0.out (fun h => h); have g1 := (show Kept Nil W1 w3 from (by repeat (first | exact kzr _ _ | assumption | refine kzd ?_ | refine kzn ?_ _ | refine kza ?_ _ | refine kzs ?_ (by assumption)))).cell G1.out (fun h => h); have g2 := (show Kept Nil W1 w3 from (by repeat (first | exact kzr _ _ | assumption | refine kzd ?_ | refine kzn ?_ _ | refine kza ?_ _ | refine kzs ?_ (by assumption)))).cell G2.out (fun h => h); have g3 := (show Kept Nil W1 w3 from (by repeat (first | exact kzr _ _ | assumption | refine kzd ?_ | refine kzn ?_ _ | refine kza ?_ _ | refine kzs ?_ (by assumption)))).cell G3.out (fun h => h); have q0 := (show Kept Nil W1 w3 from (by repeat (first | exact kzr _ _ | assumption | refine kzd ?_ | refine kzn ?_ _ | refine kza ?_ _ | refine kzs ?_ (by assumption)))).cell Q0.out (fun h => h); have q1 := (show Kept Nil W1 w3 from (by repeat (first | exact kzr _ _ | assumption | refine kzd ?_ | refine kzn ?_ _ | refine kza ?_ _ | refine kzs ?_ (by assumption)))).cell Q1.out (fun h => h); have q2 := (show Kept Nil W1 w3 from (by repeat (first | exact kzr _ _ | assumption | refine kzd ?_ | refine kzn ?_ _ | refine kza ?_ _ | refine kzs ?_ (by assumption)))).cell Q2.out (fun h => h); have q3 := (show Kept Nil W1 w3 from (by repeat (first | exact kzr _ _ | assumption | refine kzd ?_ | refine kzn ?_ _ | refine kza ?_ _ | refine kzs ?_ (by assumption)))).cell Q3.out (fun h => h)) | (go_at_call 47; with_reducible refine (EqualE_is es fs ea eb ec ed _ (H1.out.nil (HK.out.step (by repeat (first | exact kzr _ _ | assumption | refine kzd ?_ | refine kzn ?_ _ | refine kza ?_ _ | refine kzs ?_ (by assumption))))).r.e (H2.out.nil (HK.out.step (by repeat (first | exact kzr _ _ | assumption | refine kzd ?_ | refine kzn ?_ _ | refine kza ?_ _ | refine kzs ?_ (by assumption))))).r.e H1.out.s.e H2.out.s.e).mono ?_; rintro e w4 ⟨rfl, hk4⟩; rw [HB4.out]; have hz4 : w.heap.size + 1 < w4.heap.size := (by have := (show Kept Nil W1 w4 from (by repeat (first | exact kzr _ _ | assumption | refine kzd ?_ | refine kzn ?_ _ | refine kza ?_ _ | refine kzs ?_ (by assumption)))).size; omega); have hy4 : w.heap.size < w4.heap.size := (by omega); clear g0 g1 g2 g3 q0 q1 q2 q3; have g0 := (show Kept Nil W1 w4 from (by repeat (first | exact kzr _ _ | assumption | refine kzd ?_ | refine kzn ?_ _ | refine kza ?_ _ | refine kzs ?_ (by assumption)))).cell G0.out (fun h => h); have g1 := (show Kept Nil W1 w4 from (by repeat (first | exact kzr _ _ | assumption | refine kzd ?_ | refine kzn ?_ _ | refine kza ?_ _ | refine kzs ?_ (by assumption)))).cell G1.out (fun h => h); have g2 := (show Kept Nil W1 w4 from (by repeat (first | exact kzr _ _ | assumption | refine kzd ?_ | refine kzn ?_ _ | refine kza ?_ _ | refine kzs ?_ (by assumption)))).cell G2.out (fun h => h); have g3 := (show Kept Nil W1 w4 from (by repeat (first | exact kzr _ _ | assumption | refine kzd ?_ | refine kzn ?_ _ | refine kza ?_ _ | refine kzs ?_ (by assumption)))).cell G3.out (fun h => h); have q0 := (show Kept Nil W1 w4 from (by repeat (first | exact kzr _ _ | assumption | refine kzd ?_ | refine kzn ?_ _ | refine kza ?_ _ | refine kzs ?_ (by assumption)))).cell Q0.out (fun h => h); have q1 := (show Kept Nil W1 w4 from (by repeat (first | exact kzr _ _ | assumption | refine kzd ?_ | refine kzn ?_ _ | refine kza ?_ _ | refine kzs ?_ (by assumption)))).cell Q1.out (fun h => h); have q2 := (show Kept Nil W1 w4 from (by repeat (first | exact kzr _ _ | assumption | refine kzd ?_ | refine kzn ?_ _ | refine kza ?_ _ | refine kzs ?_ (by assumption)))).cell Q2.out (fun h => h); have q3 := (show Kept Nil W1 w4 from (by repeat (first | exact kzr _ _ | assumption | refine kzd ?_ | refine kzn ?_ _ | refine kza ?_ _ | refine kzs ?_ (by assumption)))).cell Q3.out (fun h => h)))
     go_ret
     exact ⟨rfl, HK.out.step (by repeat (first | exact kzr _ _ | assumption | refine kzd ?_ | refine kzn ?_ _ | refine kza ?_ _ | refine kzs ?_ (by assumption)))⟩
   | false =>
    have e3 : ls ≠ ms := fun h => by rw [eqRw_iff.2 h] at h3; cases h3
    have HB3 := Lib.hid h3
    obtain rfl : r = false := by rw [← hr]; exact eqM_no (fun h => e3 h.l)
    clear hr h2 e2 h3 e3
    go_enter Tryz.func16, Tryz.ntmps16
    go_upto_region 1 with fail
    rw [HW.out]
    have g0 := ((Kept.refl Nil W1)).cell G0.out (fun h => h)
    have g1 := ((Kept.refl Nil W1)).cell G1.out (fun h => h)
    have g2 := ((Kept.refl Nil W1)).cell G2.out (fun h => h)
    have g3 := ((Kept.refl Nil W1)).cell G3.out (fun h => h)
    have q0 := ((Kept.refl Nil W1)).cell Q0.out (fun h => h)
    have q1 := ((Kept.refl Nil W1)).cell Q1.out (fun h => h)
    have q2 := ((Kept.refl Nil W1)).cell Q2.out (fun h => h)
    have q3 := ((Kept.refl Nil W1)).cell Q3.out (fun h => h)
    go_wp2_with (first | (go_at_call 44; with_reducible refine (EqualP_is ps qs pa pb pc pd _ (H1.out.nil (HK.out.step (by repeat (first | exact kzr _ _ | assumption | refine kzd ?_ | refine kzn ?_ _ | refine kza ?_ _ | refine kzs ?_ (by assumption))))).r.p (H2.out.nil (HK.out.step (by repeat (first | exact kzr _ _ | assumption | refine kzd ?_ | refine kzn ?_ _ | refine kza ?_ _ | refine kzs ?_ (by assumption))))).r.p (H1.out.nil (HK.out.step (by repeat (first | exact kzr _ _ | assumption | refine kzd ?_ | refine kzn ?_ _ | refine kza ?_ _ | refine kzs ?_ (by assumption))))).r.pp (H2.out.nil (HK.out.step (by repeat (first | exact kzr _ _ | assumption | refine kzd ?_ | refine kzn ?_ _ | refine kza ?_ _ | refine kzs ?_ (by assumption))))).r.pp H1.out.s.p H2.out.s.p H1.out.s.v H2.out.s.v).mono ?_; rintro e w2 ⟨rfl, hk2⟩; rw [HB2.out]; have hz2 : w.heap.size + 1 < w2.heap.size := (by have := (show Kept Nil W1 w2 from (by repeat (first | exact kzr _ _ | assumption | refine kzd ?_ | refine kzn ?_ _ | refine kza ?_ _ | refine kzs ?_ (by assumption)))).size; omega); have hy2 : w.heap.size < w2.heap.size := (by omega); clear g0 g1 g2 g3 q0 q1 q2 q3; have g0 := (show Kept Nil W1 w2 from (by repeat (first | exact kzr _ _ | assumption | refine kzd ?_ | refine kzn ?_ _ | refine kza ?_ _ | refine kzs ?_ (by assumption)))).cell G0.out (fun h => h); have g1 := (show Kept Nil W1 w2 from (by repeat (first | exact kzr _ _ | assumption | refine kzd ?_ | refine kzn ?_ _ | refine kza ?_ _ | refine kzs ?_ (by assumption)))).cell G1.out (fun h => h); have g2 := (show Kept Nil W1 w2 from (by repeat (first | exact kzr _ _ | assumption | refine kzd ?_ | refine kzn ?_ _ | refine kza ?_ _ | refine kzs ?_ (by assumption)))).cell G2.out (fun h => h); have g3 := (show Kept Nil W1 w2 from (by repeat (first | exact kzr _ _ | assumption | refine kzd ?_ | refine kzn ?_ _ | refine kza ?_ _ | refine kzs ?_ (by assumption)))).cell G3.out (fun h => h); have q0 := (show Kept Nil W1 w2 from (by repeat (first | exact kzr _ _ | assumption | refine kzd ?_ | refine kzn ?_ _ | refine kza ?_ _ | refine kzs ?_ (by assumption)))).cell Q0.out (fun h => h); have q1 := (show Kept Nil W1 w2 from (by repeat (first | exact kzr _ _ | assumption | refine kzd ?_ | refine kzn ?_ _ | refine kza ?_ _ | refine kzs ?_ (by assumption)))).cell Q1.out (fun h => h); have q2 := (show Kept Nil W1 w2 from (by repeat (first | exact kzr _ _ | assumption | refine kzd ?_ | refine kzn ?_ _ | refine kza ?_ _ | refine kzs ?_ (by assumption)))).cell Q2.out (fun h => h); have q3 := (show Kept Nil W1 w2 from (by repeat (first | exact kzr _ _ | assumption | refine kzd ?_ | refine kzn ?_ _ | refine kza ?_ _ | refine kzs ?_ (by assumption)))).cell Q3.out (fun h => h)) | (go_at_call 46; with_reducible refine (EqualL_is ls ms la lb lc ld _ (H1.out.nil (HK.out.step (by repeat (first | exact kzr _ _ | assumption | refine kzd ?_ | refine kzn ?_ _ | refine kza ?_ _ | refine kzs ?_ (by assumption))))).r.l (H2.out.nil (HK.out.step (by repeat (first | exact kzr _ _ | assumption | refine kzd ?_ | refine kzn ?_ _ | refine kza ?_ _ | refine kzs ?_ (by assumption))))).r.l H1.out.s.l H2.out.s.l).mono ?_; rintro e w3 ⟨rfl, hk3⟩; rw [HB3.out]; have hz3 : w.heap.size + 1 < w3.heap.size := (by have := (show Kept Nil W1 w3 from (by repeat (first | exact kzr _ _ | assumption | refine kzd ?_ | refine kzn ?_ _ | refine kza ?_ _ | refine kzs ?_ (by assumption)))).size; omega); have hy3 : w.heap.size < w3.heap.size := (by omega); clear g0 g1 g2 g3 q0 q1 q2 q3; have g0 := (show Kept Nil W1 w3 from (by repeat (first | exact kzr _ _ | assumption | refine kzd ?_ | refine kzn ?_ _ | refine kza ?_ _ | refine kzs ?_ (by assumption)))).cell G0.out (fun h => h); have g1 := (show Kept Nil W1 w3 from (by repeat (first | exact kzr _ _ | assumption | refine kzd ?_ | refine kzn ?_ _ | refine kza ?_ _ | refine kzs ?_ (by assumption)))).cell G1.out (fun h => h); have g2 := (show Kept Nil W1 w3 from (by repeat (first | exact kzr _ _ | assumption | refine kzd ?_ | refine kzn ?_ _ | refine kza ?_ _ | refine kzs ?_ (by assumption)))).cell G2.out (fun h => h); have g3 := (show Kept Nil W1 w3 from (by repeat (first | exact kzr _ _ | assumption | refine kzd ?_ | refine kzn ?_ _ | refine kza ?_ _ | refine kzs ?_ (by assumption)))).cell G3.out (fun h => h); have q0 := (show Kept Nil W1 w3 from (by repeat (first | exact kzr _ _ | assumption | refine kzd ?_ | refine kzn ?_ _ | refine kza ?_ _ | refine kzs ?_ (by assumption)))).cell Q0.out (fun h => h); have q1 := (show Kept Nil W1 w3 from (by repeat (first | exact kzr _ _ | assumption | refine kzd ?_ | refine kzn ?_ _ | refine kza ?_ _ | refine kzs ?_ (by assumption)))).cell Q1.out (fun h => h); have q2 := (show Kept Nil W1 w3 from (by repeat (first | exact kzr _ _ | assumption | refine kzd ?_ | refine kzn ?_ _ | refine kza ?_ _ | refine kzs ?_ (by assumption)))).cell Q2.out (fun h => h); have q3 := (show Kept Nil W1 w3 from (by repeat (first | exact kzr _ _ | assumption | refine kzd ?_ | refine kzn ?_ _ | refine kza ?_ _ | refine kzs ?_ (by assumption)))).cell Q3.out (fun h => h)))
    go_ret
    exact ⟨rfl, HK.out.step (by repeat (first | exact kzr _ _ | assumption | refine kzd ?_ | refine kzn ?_ _ | refine kza ?_ _ | refine kzs ?_ (by assumption)))⟩
  | false =>
   have e2 : ¬ SamePs ps qs := fun h => by rw [eqPs_iff.2 h] at h2; cases h2
   have HB2 := Lib.hid h2
   obtain rfl : r = false := by rw [← hr]; exact eqM_no (fun h => e2 h.p)
   clear hr h2 e2
   go_enter Tryz.func16, Tryz.ntmps16
   go_upto_region 1 with fail
   rw [HW.out]
   have g0 := ((Kept.refl Nil W1)).cell G0.out (fun h => h)
   have g1 := ((Kept.refl Nil W1)).cell G1.out (fun h => h)
   have g2 := ((Kept.refl Nil W1)).cell G2.out (fun h => h)
   have g3 := ((Kept.refl Nil W1)).cell G3.out (fun h => h)
   have q0 := ((Kept.refl Nil W1)).cell Q0.out (fun h => h)
   have q1 := ((Kept.refl Nil W1)).cell Q1.out (fun h => h)
   have q2 := ((Kept.refl Nil W1)).cell Q2.out (fun h => h)
   have q3 := ((Kept.refl Nil W1)).cell Q3.out (fun h => h)
   go_wp2_with (first | (go_at_call 44; with_reducible refine (EqualP_is ps qs pa pb pc pd _ (H1.out.nil (HK.out.step (by repeat (first | exact kzr _ _ | assumption | refine kzd ?_ | refine kzn ?_ _ | refine kza ?_ _ | refine kzs ?_ (by assumption))))).r.p (H2.out.nil (HK.out.step (by repeat (first | exact kzr _ _ | assumption | refine kzd ?_ | refine kzn ?_ _ | refine kza ?_ _ | refine kzs ?_ (by assumption))))).r.p (H1.out.nil (HK.out.step (by repeat (first | exact kzr _ _ | assumption | refine kzd ?_ | refine kzn ?_ _ | refine kza ?_ _ | refine kzs ?_ (by assumption))))).r.pp (H2.out.nil (HK.out.step (by repeat (first | exact kzr _ _ | assumption | refine kzd ?_ | refine kzn ?_ _ | refine kza ?_ _ | refine kzs ?_ (by assumption))))).r.pp H1.out.s.p H2.out.s.p H1.out.s.v H2.out.s.v).mono ?_; rintro e w2 ⟨rfl, hk2⟩; rw [HB2.out]; have hz2 : w.heap.size + 1 < w2.heap.size := (by have := (show Kept Nil W1 w2 from (by repeat (first | exact kzr _ _ | assumption | refine kzd ?_ | refine kzn ?_ _ | refine kza ?_ _ | refine kzs ?_ (by assumption)))).size; omega); have hy2 : w.heap.size < w2.heap.size := (by omega); clear g0 g1 g2 g3 q0 q1 q2 q3; have g0 := (show Kept Nil W1 w2 from (by repeat (first | exact kzr _ _ | assumption | refine kzd ?_ | refine kzn ?_ _ | refine kza ?_ _ | refine kzs ?_ (by assumption)))).cell G0.out (fun h => h); have g1 := (show Kept Nil W1 w2 from (by repeat (first | exact kzr _ _ | assumption | refine kzd ?_ | refine kzn ?_ _ | refine kza ?_ _ | refine kzs ?_ (by assumption)))).cell G1.out (fun h => h); have g2 := (show Kept Nil W1 w2 from (by repeat (first | exact kzr _ _ | assumption | refine kzd ?_ | refine kzn ?_ _ | refine kza ?_ _ | refine kzs ?_ (by assumption)))).cell G2.out (fun h => h); have g3 := (show Kept Nil W1 w2 from (by repeat (first | exact kzr _ _ | assumption | refine kzd ?_ | refine kzn ?_ _ | refine kza ?_ _ | refine kzs ?_ (by assumption)))).cell G3.out (fun h => h); have q0 := (show Kept Nil W1 w2 from (by repeat (first | exact kzr _ _ | assumption | refine kzd ?_ | refine kzn ?_ _ | refine kza ?_ _ | refine kzs ?_ (by assumption)))).cell Q0.out (fun h => h); have q1 := (show Kept Nil W1 w2 from (by repeat (first | exact kzr _ _ | assumption | refine kzd ?_ | refine kzn ?_ _ | refine kza ?_ _ | refine kzs ?_ (by assumption)))).cell Q1.out (fun h => h); have q2 := (show Kept Nil W1 w2 from (by repeat (first | exact kzr _ _ | assumption | refine kzd ?_ | refine kzn ?_ _ | refine kza ?_ _ | refine kzs ?_ (by assumption)))).cell Q2.out (fun h => h); have q3 := (show Kept Nil W1 w2 from (by repeat (first | exact kzr _ _ | assumption | refine kzd ?_ | refine kzn ?_ _ | refine kza ?_ _ | refine kzs ?_ (by assumption)))).cell Q3.out (fun h => h)))
   go_ret
   exact ⟨rfl, HK.out.step (by repeat (first | exact kzr _ _ | assumption | refine kzd ?_ | refine kzn ?_ _ | refine kza ?_ _ | refine kzs ?_ (by assumption)))⟩
 ·have b1 : (ver == wer) = false := by simp [h1]
  obtain rfl : r = false := by rw [← hr]; exact eqM_no (fun h => h1 h.v)
  clear hr h1
  go_enter Tryz.func16, Tryz.ntmps16
  go_upto_region 1 with fail
  rw [HW.out]
  have g0 := ((Kept.refl Nil W1)).cell G0.out (fun h => h)
  have g1 := ((Kept.refl Nil W1)).cell G1.out (fun h => h)
  have g2 := ((Kept.refl Nil W1)).cell G2.out (fun h => h)
  have g3 := ((Kept.refl Nil W1)).cell G3.out (fun h => h)
  have q0 := ((Kept.refl Nil W1)).cell Q0.out (fun h => h)
  have q1 := ((Kept.refl Nil W1)).cell Q1.out (fun h => h)
  have q2 := ((Kept.refl Nil W1)).cell Q2.out (fun h => h)
  have q3 := ((Kept.refl Nil W1)).cell Q3.out (fun h => h)
  go_wp2_with fail
  go_ret
  exact ⟨rfl, HK.out.step (by repeat (first | exact kzr _ _ | assumption | refine kzd ?_ | refine kzn ?_ _ | refine kza ?_ _ | refine kzs ?_ (by assumption)))⟩
theorem cIs_is (ver : Int) (ps : List Pr) (ls : List Lk) (es : List Ev) (pa la ea : Option Addr) (pc lc ec : Nat) (w : World) (hm : HeldM w ⟨ver, pa, ps, pc, la, ls, lc, ea, es, ec⟩) :
  Calls Tryz.prog 15 #[.agg #[.int .i64 ver, .slice pa ps.length pc, .slice la ls.length lc, .slice ea es.length ec]] w fun e w' => e = .returned (.bool (eqM ⟨ver, pa, ps, pc, la, ls, lc, ea, es, ec⟩ (canM ⟨ver, pa, ps, pc, la, ls, lc, ea, es, ec⟩))) ∧ Kept Nil w w' := by
 have HM := Lib.hid hm
 clear hm
 obtain ⟨r, hr⟩ : ∃ r, eqM ⟨ver, pa, ps, pc, la, ls, lc, ea, es, ec⟩ (canM ⟨ver, pa, ps, pc, la, ls, lc, ea, es, ec⟩) = r := ⟨_, rfl⟩
 rw [hr]
 have HRR := Lib.hid hr
 clear hr
 obtain ⟨W1, hW⟩ : ∃ W, (w.alloc (.cells #[.int .i64 ver, .slice pa ps.length pc, .slice la ls.length lc, .slice ea es.length ec] 26)) = W := ⟨_, rfl⟩
 have hk : Kept Nil w W1 := by rw [← hW]; exact ((Kept.refl Nil w).alloc _)
 have hsz : W1.heap.size = w.heap.size + 1 := by rw [← hW]; simp
 have hb : W1.heap[w.heap.size]? = some (.cells #[.int .i64 ver, .slice pa ps.length pc, .slice la ls.length lc, .slice ea es.length ec] 26 (0, 0)) := by
  rw [← hW]
  have h9 := heap_new w (.cells #[.int .i64 ver, .slice pa ps.length pc, .slice la ls.length lc, .slice ea es.length ec] 26)
  exact h9
 have G0 := Lib.hid (show W1.cell? ⟨w.heap.size, 0, none⟩ = some (.int .i64 ver) by rw [cell_of hb]; rfl)
 have G1 := Lib.hid (show W1.cell? ⟨w.heap.size, 1, none⟩ = some (.slice pa ps.length pc) by rw [cell_of hb]; rfl)
 have G2 := Lib.hid (show W1.cell? ⟨w.heap.size, 2, none⟩ = some (.slice la ls.length lc) by rw [cell_of hb]; rfl)
 have G3 := Lib.hid (show W1.cell? ⟨w.heap.size, 3, none⟩ = some (.slice ea es.length ec) by rw [cell_of hb]; rfl)
 have GB := Lib.hid hb
 have hzg : w.heap.size < W1.heap.size := by omega
 clear hb
 have HW := Lib.hid hW
 have HK := Lib.hid hk
 have HSZ := Lib.hid hsz
 clear hW hk hsz
 go_enter Tryz.func15, Tryz.ntmps15
 go_upto_region 1 with fail
 rw [HW.out]
 have C9_0 := Lib.hid (show W1.cell? ⟨w.heap.size, 0, none⟩ = some (.int .i64 ver) from G0.out)
 have C9_1 := Lib.hid (show W1.cell? ⟨w.heap.size, 1, none⟩ = some (.slice pa ps.length pc) from G1.out)
 have C9_2 := Lib.hid (show W1.cell? ⟨w.heap.size, 2, none⟩ = some (.slice la ls.length lc) from G2.out)
 have C9_3 := Lib.hid (show W1.cell? ⟨w.heap.size, 3, none⟩ = some (.slice ea es.length ec) from G3.out)
 refine wp_region_held_drew (S := fun w' => w'.cell? ⟨w.heap.size, 0, none⟩ = some (.int .i64 ver) ∧ w'.cell? ⟨w.heap.size, 1, none⟩ = some (.slice pa ps.length pc) ∧ w'.cell? ⟨w.heap.size, 2, none⟩ = some (.slice la ls.length lc) ∧ w'.cell? ⟨w.heap.size, 3, none⟩ = some (.slice ea es.length ec)) (by kernel_rfl) ⟨C9_0.out, C9_1.out, C9_2.out, C9_3.out⟩ (fun hHeld => ?_)
 refine wpAnyH_take (i := 0) (oi := _) (v := ?_) (List.getElem?_toArray.trans rfl) (by kernel_rfl) (by kernel_rfl) (by kernel_rfl) (fun _ _ _ h => h) (Or.inl ⟨by rfl, ?_⟩) (by assumption) ?_
 rotate_left
 ·(intro w9 hSw; (try dsimp only at hSw); go_simp; try with_reducible rfl)
 try simp only [Act.put, List.setIfInBounds_toArray, List.set_cons_zero, List.set_cons_succ]
 refine wpAnyH_take (i := 1) (oi := _) (v := ?_) (List.getElem?_toArray.trans rfl) (by kernel_rfl) (by kernel_rfl) (by kernel_rfl) (fun _ _ _ h => h) (Or.inl ⟨by rfl, ?_⟩) (by assumption) ?_
 rotate_left
 ·(intro w9 hSw; (try dsimp only at hSw); go_simp; try with_reducible rfl)
 try simp only [Act.put, List.setIfInBounds_toArray, List.set_cons_zero, List.set_cons_succ]
 refine wpAnyH_ready (rs := [2]) (by kernel_rfl) (by simp) ?_
 refine AllReadyH.cons (o := _) (List.getElem?_toArray.trans rfl) (fun K hK => ?_) (AllReadyH.nil)
 go_simp
 refine (Canon_is ver ps ls es pa la ea pc lc ec _ ?_).mono ?_
 ·exact HM.out.nil (HK.out.step (by repeat (first | exact kzr _ _ | assumption | refine kzd ?_ | refine kzn ?_ _ | refine kza ?_ _ | refine kzs ?_ (by assumption))))
 rintro e w2 ⟨hk2, m2, rfl, hh2, hs2, hf2, hn2⟩
 have HH2 := Lib.hid hh2
 have HS2 := Lib.hid hs2
 obtain ⟨v2, pa2, ps2, pc2, la2, ls2, lc2, ea2, es2, ec2⟩ := m2
 clear hh2 hs2 hf2 hn2
 try go_wp2_with fail
 refine hK.out _ _ ⟨(((show Kept Nil W1 _ from (by repeat (first | exact kzr _ _ | assumption | refine kzd ?_ | refine kzn ?_ _ | refine kza ?_ _ | refine kzs ?_ (by assumption))))).cell C9_0.out (fun h => h)), (((show Kept Nil W1 _ from (by repeat (first | exact kzr _ _ | assumption | refine kzd ?_ | refine kzn ?_ _ | refine kza ?_ _ | refine kzs ?_ (by assumption))))).cell C9_1.out (fun h => h)), (((show Kept Nil W1 _ from (by repeat (first | exact kzr _ _ | assumption | refine kzd ?_ | refine kzn ?_ _ | refine kza ?_ _ | refine kzs ?_ (by assumption))))).cell C9_2.out (fun h => h)), (((show Kept Nil W1 _ from (by repeat (first | exact kzr _ _ | assumption | refine kzd ?_ | refine kzn ?_ _ | refine kza ?_ _ | refine kzs ?_ (by assumption))))).cell C9_3.out (fun h => h))⟩ (fun hHeld => ?_)
 clear hK K
 try simp only [Act.put, List.setIfInBounds_toArray, List.set_cons_zero, List.set_cons_succ]
 refine wpAnyH_ready (rs := [3]) (by kernel_rfl) (by simp) ?_
 refine AllReadyH.cons (o := _) (List.getElem?_toArray.trans rfl) (fun K hK => ?_) (AllReadyH.nil)
 go_simp
 refine (cSame_is ver v2 ps ps2 ls ls2 es es2 pa pa2 la la2 ea ea2 pc pc2 lc lc2 ec ec2 _ ?_ HH2.out).mono ?_
 ·exact HM.out.nil (HK.out.step (by repeat (first | exact kzr _ _ | assumption | refine kzd ?_ | refine kzn ?_ _ | refine kza ?_ _ | refine kzs ?_ (by assumption))))
 rintro e w3 ⟨rfl, hk3⟩
 have he : eqM ⟨ver, pa, ps, pc, la, ls, lc, ea, es, ec⟩ ⟨v2, pa2, ps2, pc2, la2, ls2, lc2, ea2, es2, ec2⟩ = eqM ⟨ver, pa, ps, pc, la, ls, lc, ea, es, ec⟩ (canM ⟨ver, pa, ps, pc, la, ls, lc, ea, es, ec⟩) := by
  rw [Bool.eq_iff_iff, eqM_iff, eqM_iff]
  exact ⟨fun h => h.trans HS2.out.symm, fun h => h.trans HS2.out⟩
 rw [he, HRR.out]
 clear he
 try go_wp2_with fail
 refine hK.out _ _ ⟨(((show Kept Nil W1 _ from (by repeat (first | exact kzr _ _ | assumption | refine kzd ?_ | refine kzn ?_ _ | refine kza ?_ _ | refine kzs ?_ (by assumption))))).cell C9_0.out (fun h => h)), (((show Kept Nil W1 _ from (by repeat (first | exact kzr _ _ | assumption | refine kzd ?_ | refine kzn ?_ _ | refine kza ?_ _ | refine kzs ?_ (by assumption))))).cell C9_1.out (fun h => h)), (((show Kept Nil W1 _ from (by repeat (first | exact kzr _ _ | assumption | refine kzd ?_ | refine kzn ?_ _ | refine kza ?_ _ | refine kzs ?_ (by assumption))))).cell C9_2.out (fun h => h)), (((show Kept Nil W1 _ from (by repeat (first | exact kzr _ _ | assumption | refine kzd ?_ | refine kzn ?_ _ | refine kza ?_ _ | refine kzs ?_ (by assumption))))).cell C9_3.out (fun h => h))⟩ (fun hHeld => ?_)
 clear hK K
 try simp only [Act.put, List.setIfInBounds_toArray, List.set_cons_zero, List.set_cons_succ]
 refine wpAnyH_take (i := 4) (oi := _) (v := ?_) (List.getElem?_toArray.trans rfl) (by kernel_rfl) (by kernel_rfl) (by kernel_rfl) (fun _ _ _ h => h) (Or.inl ⟨by rfl, ?_⟩) (by assumption) ?_
 rotate_left
 ·(intro w9 hSw; (try dsimp only at hSw); go_simp; try with_reducible rfl)
 try simp only [Act.put, List.setIfInBounds_toArray, List.set_cons_zero, List.set_cons_succ]
 refine wpAnyH_done (by kernel_rfl) ?_ _
 go_wp2_with fail
 go_ret
 exact ⟨rfl, HK.out.step (by repeat (first | exact kzr _ _ | assumption | refine kzd ?_ | refine kzn ?_ _ | refine kza ?_ _ | refine kzs ?_ (by assumption)))⟩
end Go.Proofs.YtniocgnfgpaioaaGreat.Mo
