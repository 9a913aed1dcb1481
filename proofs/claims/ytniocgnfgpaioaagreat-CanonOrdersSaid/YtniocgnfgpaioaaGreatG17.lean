/- The walks of slices.Equal, slices.EqualFunc, canon.sameProc, canon.Same: whether two are the same. -/
import Derived.Test.YtniocgnfgpaioaaGreatG16
import Derived.Test.YtniocgnfgpaioaaGreatG15
import Derived.BigQuiet
import Derived.Deep.Cut
set_option linter.unusedVariables false
set_option linter.unusedSimpArgs false
namespace Go.Proofs.YtniocgnfgpaioaaGreat.Mo
open Go Go.RowKit Go.Proofs.YtniocgnfgpaioaaGreat.Lb Go.Proofs.YtniocgnfgpaioaaGreat.HpPure
set_option maxRecDepth 8000
theorem REvents.at9 {w : World} {A : Option Addr} {es : List Ev} (h : REvents w A es) {k : Nat} {e : Ev} (hv : es[k]? = some e) :
  ∃ b off, A = some ⟨b, off, none⟩ ∧ w.cell? ⟨b, off + k * 3, none⟩ = some (.string e.to) ∧ w.cell? ⟨b, off + k * 3 + 1, none⟩ = some (.int .i64 e.at_) ∧ w.cell? ⟨b, off + k * 3 + 2, none⟩ = some (.int .i64 e.value) := by
 rcases h with rfl | ⟨b, off, h, hc⟩
 ·simp at hv
 ·exact ⟨b, off, h, hc k e hv⟩
noncomputable def eqRw {α : Type} (a b : List α) : Bool := @decide (a = b) (Classical.propDecidable _)
theorem eqRw_iff {α : Type} {a b : List α} : eqRw a b = true ↔ a = b := by unfold eqRw; exact @decide_eq_true_iff _ (Classical.propDecidable _)
theorem eqRw_no {α : Type} {a b : List α} (h : a ≠ b) : eqRw a b = false := Bool.eq_false_iff.2 (fun e => h (eqRw_iff.1 e))
noncomputable def eqP (p q : Pr) : Bool := @decide (SameP p q) (Classical.propDecidable _)
theorem eqP_iff {p q : Pr} : eqP p q = true ↔ SameP p q := by unfold eqP; exact @decide_eq_true_iff _ (Classical.propDecidable _)
theorem eqP_no {p q : Pr} (h : ¬ SameP p q) : eqP p q = false := Bool.eq_false_iff.2 (fun e => h (eqP_iff.1 e))
noncomputable def eqPs (a b : List Pr) : Bool := @decide (SamePs a b) (Classical.propDecidable _)
theorem eqPs_iff {a b : List Pr} : eqPs a b = true ↔ SamePs a b := by unfold eqPs; exact @decide_eq_true_iff _ (Classical.propDecidable _)
theorem eqPs_no {a b : List Pr} (h : ¬ SamePs a b) : eqPs a b = false := Bool.eq_false_iff.2 (fun e => h (eqPs_iff.1 e))
noncomputable def eqM (a b : Md) : Bool := @decide (SameM a b) (Classical.propDecidable _)
theorem eqM_iff {a b : Md} : eqM a b = true ↔ SameM a b := by unfold eqM; exact @decide_eq_true_iff _ (Classical.propDecidable _)
theorem eqM_no {a b : Md} (h : ¬ SameM a b) : eqM a b = false := Bool.eq_false_iff.2 (fun e => h (eqM_iff.1 e))
theorem RVars.nil' {w w' : World} {A : Option Addr} {l : List V} (h : RVars w A l) (hk : Kept Nil w w') : RVars w' A l := RVars.ofRow (rowOf_kept vrCells_len hk (fun _ _ _ _ h => h) h.rowOf)
set_option maxHeartbeats 4000000 in
theorem EqualV_is (a b : List V) (A B : Option Addr) (c d : Nat) (w : World) (h1 : RVars w A a) (h2 : RVars w B b) (ha : a.length ≤ 100000) (hb : b.length ≤ 100000) :
  Calls Tryz.prog 81 #[.slice A a.length c, .slice B b.length d] w fun e w' => e = .returned (.bool (eqRw a b)) ∧ Kept Nil w w' := by
 have H1 := Lib.hid h1
 have H2 := Lib.hid h2
 clear h1 h2
 by_cases hl : a.length = b.length
 ·rw [← hl]
  have HL := Lib.hid hl
  clear hl
  go_enter Tryz.func81, Tryz.ntmps81
  go_wp2_with fail
  go_loopw [13] (fun i wr => ∃ k : Nat, k ≤ a.length ∧ i = .int .i64 k ∧ (∀ j, j < k → a[j]? = b[j]?) ∧ Kept Nil w wr) (fun i _ => a.length - (intOf i).toNat)
  case atStart => exact ⟨0, Nat.zero_le _, rfl, fun j hj => by omega, Kept.refl _ _⟩
  case round =>
   obtain ⟨k, hk, rfl, hall, hK⟩ := hrel
   have HALL := Lib.hid hall
   have HKR := Lib.hid hK
   have hzr := hK.size
   clear hall hK
   by_cases hlt : k < a.length
   ·obtain ⟨o, eo⟩ : ∃ o, a[k]? = some o := ⟨_, List.getElem?_eq_getElem hlt⟩
    obtain ⟨u, eu⟩ : ∃ o, b[k]? = some o := ⟨_, List.getElem?_eq_getElem (by rw [← HL.out]; exact hlt)⟩
    obtain ⟨x, off, e1, c0, c1⟩ := (H1.out.nil' HKR.out).at eo
    obtain ⟨y, off2, e2, d0, d1⟩ := (H2.out.nil' HKR.out).at eu
    have hbs : x < wr.heap.size := World.block_lt_of_cell? _ _ c0
    have hbs2 : y < wr.heap.size := World.block_lt_of_cell? _ _ d0
    have hlt2 : (k : Int) < (a.length : Int) := by omega
    have hw : IntKind.i64.wrap ((k : Int) + 1) = (k : Int) + 1 := by rw [IntKind.wrap_i64]; omega
    have hne := neqV o u
    have EO := Lib.hid eo
    have EU := Lib.hid eu
    clear eo eu
    subst e1 e2
    cases he : eqV o u with
    | true =>
     have hou : o = u := eqV_iff.1 he
     have HOU := Lib.hid hou
     rw [he] at hne
     clear he hou
     go_upto_region 6 with fail
     go_big_quiet (fail)
     go_wp2_with fail
     go_round
     exact ⟨k + 1, by omega, by go_num, fun j hj => by (by_cases e : j = k; (rw [e, EO.out, EU.out, HOU.out]); exact HALL.out j (by omega)), HKR.out.drewN _⟩
     case measure => (simp [intOf] <;> omega)
    | false =>
     have hou : o ≠ u := fun h => by rw [h, eqV_refl] at he; cases he
     have HOU := Lib.hid hou
     rw [he] at hne
     clear he hou
     go_upto_region 6 with fail
     go_big_quiet (fail)
     go_wp2_with fail
     go_ret
     have hno : eqRw a b = false := eqRw_no (fun h => HOU.out (by
      have h9 := EO.out
      rw [h, EU.out] at h9
      exact (Option.some.inj h9).symm))
     exact ⟨by rw [hno]; rfl, HKR.out.drewN _⟩
   ·obtain rfl : k = a.length := by omega
    go_wp2_with fail
    go_ret
    have hyes : eqRw a b = true := eqRw_iff.2 (List.ext_getElem? fun j => by
     by_cases hj : j < a.length
     ·exact HALL.out j hj
     ·rw [List.getElem?_eq_none (by omega), List.getElem?_eq_none (by rw [← HL.out]; omega)])
    exact ⟨by rw [hyes]; rfl, HKR.out⟩
 ·have hn : ((a.length : Int) != (b.length : Int)) = true := by simp; omega
  rw [eqRw_no (fun h => hl (by rw [h]))]
  clear hl
  go_enter Tryz.func81, Tryz.ntmps81
  go_wp2_with fail
  go_ret
  exact ⟨rfl, Kept.refl _ _⟩
theorem RSteps.nil' {w w' : World} {A : Option Addr} {l : List S} (h : RSteps w A l) (hk : Kept Nil w w') : RSteps w' A l := RSteps.ofRow (rowOf_kept stCells_len hk (fun _ _ _ _ h => h) h.rowOf)
set_option maxHeartbeats 4000000 in
theorem EqualS_is (a b : List S) (A B : Option Addr) (c d : Nat) (w : World) (h1 : RSteps w A a) (h2 : RSteps w B b) (ha : a.length ≤ 100000) (hb : b.length ≤ 100000) :
  Calls Tryz.prog 82 #[.slice A a.length c, .slice B b.length d] w fun e w' => e = .returned (.bool (eqRw a b)) ∧ Kept Nil w w' := by
 have H1 := Lib.hid h1
 have H2 := Lib.hid h2
 clear h1 h2
 by_cases hl : a.length = b.length
 ·rw [← hl]
  have HL := Lib.hid hl
  clear hl
  go_enter Tryz.func82, Tryz.ntmps82
  go_wp2_with fail
  go_loopw [13] (fun i wr => ∃ k : Nat, k ≤ a.length ∧ i = .int .i64 k ∧ (∀ j, j < k → a[j]? = b[j]?) ∧ Kept Nil w wr) (fun i _ => a.length - (intOf i).toNat)
  case atStart => exact ⟨0, Nat.zero_le _, rfl, fun j hj => by omega, Kept.refl _ _⟩
  case round =>
   obtain ⟨k, hk, rfl, hall, hK⟩ := hrel
   have HALL := Lib.hid hall
   have HKR := Lib.hid hK
   have hzr := hK.size
   clear hall hK
   by_cases hlt : k < a.length
   ·obtain ⟨o, eo⟩ : ∃ o, a[k]? = some o := ⟨_, List.getElem?_eq_getElem hlt⟩
    obtain ⟨u, eu⟩ : ∃ o, b[k]? = some o := ⟨_, List.getElem?_eq_getElem (by rw [← HL.out]; exact hlt)⟩
    obtain ⟨x, off, e1, c0, c1, c2, c3, c4⟩ := (H1.out.nil' HKR.out).at eo
    obtain ⟨y, off2, e2, d0, d1, d2, d3, d4⟩ := (H2.out.nil' HKR.out).at eu
    have hbs : x < wr.heap.size := World.block_lt_of_cell? _ _ c0
    have hbs2 : y < wr.heap.size := World.block_lt_of_cell? _ _ d0
    have hlt2 : (k : Int) < (a.length : Int) := by omega
    have hw : IntKind.i64.wrap ((k : Int) + 1) = (k : Int) + 1 := by rw [IntKind.wrap_i64]; omega
    have hne := neqS o u
    have EO := Lib.hid eo
    have EU := Lib.hid eu
    clear eo eu
    subst e1 e2
    cases he : eqS o u with
    | true =>
     have hou : o = u := eqS_iff.1 he
     have HOU := Lib.hid hou
     rw [he] at hne
     clear he hou
     go_upto_region 6 with fail
     go_big_quiet (fail)
     go_wp2_with fail
     go_round
     exact ⟨k + 1, by omega, by go_num, fun j hj => by (by_cases e : j = k; (rw [e, EO.out, EU.out, HOU.out]); exact HALL.out j (by omega)), HKR.out.drewN _⟩
     case measure => (simp [intOf] <;> omega)
    | false =>
     have hou : o ≠ u := fun h => by rw [h, eqS_refl] at he; cases he
     have HOU := Lib.hid hou
     rw [he] at hne
     clear he hou
     go_upto_region 6 with fail
     go_big_quiet (fail)
     go_wp2_with fail
     go_ret
     have hno : eqRw a b = false := eqRw_no (fun h => HOU.out (by
      have h9 := EO.out
      rw [h, EU.out] at h9
      exact (Option.some.inj h9).symm))
     exact ⟨by rw [hno]; rfl, HKR.out.drewN _⟩
   ·obtain rfl : k = a.length := by omega
    go_wp2_with fail
    go_ret
    have hyes : eqRw a b = true := eqRw_iff.2 (List.ext_getElem? fun j => by
     by_cases hj : j < a.length
     ·exact HALL.out j hj
     ·rw [List.getElem?_eq_none (by omega), List.getElem?_eq_none (by rw [← HL.out]; omega)])
    exact ⟨by rw [hyes]; rfl, HKR.out⟩
 ·have hn : ((a.length : Int) != (b.length : Int)) = true := by simp; omega
  rw [eqRw_no (fun h => hl (by rw [h]))]
  clear hl
  go_enter Tryz.func82, Tryz.ntmps82
  go_wp2_with fail
  go_ret
  exact ⟨rfl, Kept.refl _ _⟩
theorem RLinks.nil' {w w' : World} {A : Option Addr} {l : List Lk} (h : RLinks w A l) (hk : Kept Nil w w') : RLinks w' A l := RLinks.ofRow (rowOf_kept lkCells_len hk (fun _ _ _ _ h => h) h.rowOf)
set_option maxHeartbeats 4000000 in
theorem EqualL_is (a b : List Lk) (A B : Option Addr) (c d : Nat) (w : World) (h1 : RLinks w A a) (h2 : RLinks w B b) (ha : a.length ≤ 100000) (hb : b.length ≤ 100000) :
  Calls Tryz.prog 46 #[.slice A a.length c, .slice B b.length d] w fun e w' => e = .returned (.bool (eqRw a b)) ∧ Kept Nil w w' := by
 have H1 := Lib.hid h1
 have H2 := Lib.hid h2
 clear h1 h2
 by_cases hl : a.length = b.length
 ·rw [← hl]
  have HL := Lib.hid hl
  clear hl
  go_enter Tryz.func46, Tryz.ntmps46
  go_wp2_with fail
  go_loopw [13] (fun i wr => ∃ k : Nat, k ≤ a.length ∧ i = .int .i64 k ∧ (∀ j, j < k → a[j]? = b[j]?) ∧ Kept Nil w wr) (fun i _ => a.length - (intOf i).toNat)
  case atStart => exact ⟨0, Nat.zero_le _, rfl, fun j hj => by omega, Kept.refl _ _⟩
  case round =>
   obtain ⟨k, hk, rfl, hall, hK⟩ := hrel
   have HALL := Lib.hid hall
   have HKR := Lib.hid hK
   have hzr := hK.size
   clear hall hK
   by_cases hlt : k < a.length
   ·obtain ⟨o, eo⟩ : ∃ o, a[k]? = some o := ⟨_, List.getElem?_eq_getElem hlt⟩
    obtain ⟨u, eu⟩ : ∃ o, b[k]? = some o := ⟨_, List.getElem?_eq_getElem (by rw [← HL.out]; exact hlt)⟩
    obtain ⟨x, off, e1, c0, c1, c2, c3, c4⟩ := (H1.out.nil' HKR.out).at eo
    obtain ⟨y, off2, e2, d0, d1, d2, d3, d4⟩ := (H2.out.nil' HKR.out).at eu
    have hbs : x < wr.heap.size := World.block_lt_of_cell? _ _ c0
    have hbs2 : y < wr.heap.size := World.block_lt_of_cell? _ _ d0
    have hlt2 : (k : Int) < (a.length : Int) := by omega
    have hw : IntKind.i64.wrap ((k : Int) + 1) = (k : Int) + 1 := by rw [IntKind.wrap_i64]; omega
    have hne := neqL o u
    have EO := Lib.hid eo
    have EU := Lib.hid eu
    clear eo eu
    subst e1 e2
    cases he : eqL o u with
    | true =>
     have hou : o = u := eqL_iff.1 he
     have HOU := Lib.hid hou
     rw [he] at hne
     clear he hou
     go_upto_region 6 with fail
     go_big_quiet (fail)
     go_wp2_with fail
     go_round
     exact ⟨k + 1, by omega, by go_num, fun j hj => by (by_cases e : j = k; (rw [e, EO.out, EU.out, HOU.out]); exact HALL.out j (by omega)), HKR.out.drewN _⟩
     case measure => (simp [intOf] <;> omega)
    | false =>
     have hou : o ≠ u := fun h => by rw [h, eqL_refl] at he; cases he
     have HOU := Lib.hid hou
     rw [he] at hne
     clear he hou
     go_upto_region 6 with fail
     go_big_quiet (fail)
     go_wp2_with fail
     go_ret
     have hno : eqRw a b = false := eqRw_no (fun h => HOU.out (by
      have h9 := EO.out
      rw [h, EU.out] at h9
      exact (Option.some.inj h9).symm))
     exact ⟨by rw [hno]; rfl, HKR.out.drewN _⟩
   ·obtain rfl : k = a.length := by omega
    go_wp2_with fail
    go_ret
    have hyes : eqRw a b = true := eqRw_iff.2 (List.ext_getElem? fun j => by
     by_cases hj : j < a.length
     ·exact HALL.out j hj
     ·rw [List.getElem?_eq_none (by omega), List.getElem?_eq_none (by rw [← HL.out]; omega)])
    exact ⟨by rw [hyes]; rfl, HKR.out⟩
 ·have hn : ((a.length : Int) != (b.length : Int)) = true := by simp; omega
  rw [eqRw_no (fun h => hl (by rw [h]))]
  clear hl
  go_enter Tryz.func46, Tryz.ntmps46
  go_wp2_with fail
  go_ret
  exact ⟨rfl, Kept.refl _ _⟩
theorem REvents.nil' {w w' : World} {A : Option Addr} {l : List Ev} (h : REvents w A l) (hk : Kept Nil w w') : REvents w' A l := REvents.ofRow (rowOf_kept evCells_len hk (fun _ _ _ _ h => h) h.rowOf)
set_option maxHeartbeats 4000000 in
theorem EqualE_is (a b : List Ev) (A B : Option Addr) (c d : Nat) (w : World) (h1 : REvents w A a) (h2 : REvents w B b) (ha : a.length ≤ 100000) (hb : b.length ≤ 100000) :
  Calls Tryz.prog 47 #[.slice A a.length c, .slice B b.length d] w fun e w' => e = .returned (.bool (eqRw a b)) ∧ Kept Nil w w' := by
 have H1 := Lib.hid h1
 have H2 := Lib.hid h2
 clear h1 h2
 by_cases hl : a.length = b.length
 ·rw [← hl]
  have HL := Lib.hid hl
  clear hl
  go_enter Tryz.func47, Tryz.ntmps47
  go_wp2_with fail
  go_loopw [13] (fun i wr => ∃ k : Nat, k ≤ a.length ∧ i = .int .i64 k ∧ (∀ j, j < k → a[j]? = b[j]?) ∧ Kept Nil w wr) (fun i _ => a.length - (intOf i).toNat)
  case atStart => exact ⟨0, Nat.zero_le _, rfl, fun j hj => by omega, Kept.refl _ _⟩
  case round =>
   obtain ⟨k, hk, rfl, hall, hK⟩ := hrel
   have HALL := Lib.hid hall
   have HKR := Lib.hid hK
   have hzr := hK.size
   clear hall hK
   by_cases hlt : k < a.length
   ·obtain ⟨o, eo⟩ : ∃ o, a[k]? = some o := ⟨_, List.getElem?_eq_getElem hlt⟩
    obtain ⟨u, eu⟩ : ∃ o, b[k]? = some o := ⟨_, List.getElem?_eq_getElem (by rw [← HL.out]; exact hlt)⟩
    obtain ⟨x, off, e1, c0, c1, c2⟩ := (H1.out.nil' HKR.out).at9 eo
    obtain ⟨y, off2, e2, d0, d1, d2⟩ := (H2.out.nil' HKR.out).at9 eu
    have hbs : x < wr.heap.size := World.block_lt_of_cell? _ _ c0
    have hbs2 : y < wr.heap.size := World.block_lt_of_cell? _ _ d0
    have hlt2 : (k : Int) < (a.length : Int) := by omega
    have hw : IntKind.i64.wrap ((k : Int) + 1) = (k : Int) + 1 := by rw [IntKind.wrap_i64]; omega
    have hne := neqE o u
    have EO := Lib.hid eo
    have EU := Lib.hid eu
    clear eo eu
    subst e1 e2
    cases he : eqE o u with
    | true =>
     have hou : o = u := eqE_iff.1 he
     have HOU := Lib.hid hou
     rw [he] at hne
     clear he hou
     go_upto_region 6 with fail
     go_big_quiet (fail)
     go_wp2_with fail
     go_round
     exact ⟨k + 1, by omega, by go_num, fun j hj => by (by_cases e : j = k; (rw [e, EO.out, EU.out, HOU.out]); exact HALL.out j (by omega)), HKR.out.drewN _⟩
     case measure => (simp [intOf] <;> omega)
    | false =>
     have hou : o ≠ u := fun h => by rw [h, eqE_refl] at he; cases he
     have HOU := Lib.hid hou
     rw [he] at hne
     clear he hou
     go_upto_region 6 with fail
     go_big_quiet (fail)
     go_wp2_with fail
     go_ret
     have hno : eqRw a b = false := eqRw_no (fun h => HOU.out (by
      have h9 := EO.out
      rw [h, EU.out] at h9
      exact (Option.some.inj h9).symm))
     exact ⟨by rw [hno]; rfl, HKR.out.drewN _⟩
   ·obtain rfl : k = a.length := by omega
    go_wp2_with fail
    go_ret
    have hyes : eqRw a b = true := eqRw_iff.2 (List.ext_getElem? fun j => by
     by_cases hj : j < a.length
     ·exact HALL.out j hj
     ·rw [List.getElem?_eq_none (by omega), List.getElem?_eq_none (by rw [← HL.out]; omega)])
    exact ⟨by rw [hyes]; rfl, HKR.out⟩
 ·have hn : ((a.length : Int) != (b.length : Int)) = true := by simp; omega
  rw [eqRw_no (fun h => hl (by rw [h]))]
  clear hl
  go_enter Tryz.func47, Tryz.ntmps47
  go_wp2_with fail
  go_ret
  exact ⟨rfl, Kept.refl _ _⟩
set_option maxHeartbeats 4000000 in
theorem cSameProc_is (pn qn : ByteArray) (pw qw : Int) (vs us : List V) (ss ts : List S) (va vb sa sb : Option Addr) (vc vd sc sd : Nat) (w : World) (h1 : RProc w ⟨pn, pw, va, vs, vc, sa, ss, sc⟩) (h2 : RProc w ⟨qn, qw, vb, us, vd, sb, ts, sd⟩) (hv : vs.length ≤ 100000 ∧ us.length ≤ 100000) (hs : ss.length ≤ 100000 ∧ ts.length ≤ 100000) :
  Calls Tryz.prog 45 #[.agg #[.string pn, .int .i64 pw, .slice va vs.length vc, .slice sa ss.length sc], .agg #[.string qn, .int .i64 qw, .slice vb us.length vd, .slice sb ts.length sd]] w fun e w' => e = .returned (.bool (eqP ⟨pn, pw, va, vs, vc, sa, ss, sc⟩ ⟨qn, qw, vb, us, vd, sb, ts, sd⟩)) ∧ Kept Nil w w' := by
 have H1 := Lib.hid h1
 have H2 := Lib.hid h2
 clear h1 h2
 obtain ⟨r, hr⟩ : ∃ r, eqP ⟨pn, pw, va, vs, vc, sa, ss, sc⟩ ⟨qn, qw, vb, us, vd, sb, ts, sd⟩ = r := ⟨_, rfl⟩
 rw [hr]
 obtain ⟨W1, hW⟩ : ∃ W, ((w.alloc (.cells #[.string pn, .int .i64 pw, .slice va vs.length vc, .slice sa ss.length sc] 34)).alloc (.cells #[.string qn, .int .i64 qw, .slice vb us.length vd, .slice sb ts.length sd] 34)) = W := ⟨_, rfl⟩
 have hk : Kept Nil w W1 := by rw [← hW]; exact (((Kept.refl Nil w).alloc _).alloc _)
 have hsz : W1.heap.size = w.heap.size + 2 := by rw [← hW]; simp
 have hb : W1.heap[w.heap.size]? = some (.cells #[.string pn, .int .i64 pw, .slice va vs.length vc, .slice sa ss.length sc] 34 (0, 0)) := by
  rw [← hW]
  rw [heap_old _ _ (by simp only [World.size_alloc]; omega)]
  have h9 := heap_new w (.cells #[.string pn, .int .i64 pw, .slice va vs.length vc, .slice sa ss.length sc] 34)
  exact h9
 have G0 := Lib.hid (show W1.cell? ⟨w.heap.size, 0, none⟩ = some (.string pn) by rw [cell_of hb]; rfl)
 have G1 := Lib.hid (show W1.cell? ⟨w.heap.size, 1, none⟩ = some (.int .i64 pw) by rw [cell_of hb]; rfl)
 have G2 := Lib.hid (show W1.cell? ⟨w.heap.size, 2, none⟩ = some (.slice va vs.length vc) by rw [cell_of hb]; rfl)
 have G3 := Lib.hid (show W1.cell? ⟨w.heap.size, 3, none⟩ = some (.slice sa ss.length sc) by rw [cell_of hb]; rfl)
 have GB := Lib.hid hb
 have hzg : w.heap.size < W1.heap.size := by omega
 clear hb
 have hb : W1.heap[w.heap.size + 1]? = some (.cells #[.string qn, .int .i64 qw, .slice vb us.length vd, .slice sb ts.length sd] 34 (0, 0)) := by
  rw [← hW]
  have h9 := heap_new (w.alloc (.cells #[.string pn, .int .i64 pw, .slice va vs.length vc, .slice sa ss.length sc] 34)) (.cells #[.string qn, .int .i64 qw, .slice vb us.length vd, .slice sb ts.length sd] 34)
  simp only [World.size_alloc] at h9
  exact h9
 have Q0 := Lib.hid (show W1.cell? ⟨w.heap.size + 1, 0, none⟩ = some (.string qn) by rw [cell_of hb]; rfl)
 have Q1 := Lib.hid (show W1.cell? ⟨w.heap.size + 1, 1, none⟩ = some (.int .i64 qw) by rw [cell_of hb]; rfl)
 have Q2 := Lib.hid (show W1.cell? ⟨w.heap.size + 1, 2, none⟩ = some (.slice vb us.length vd) by rw [cell_of hb]; rfl)
 have Q3 := Lib.hid (show W1.cell? ⟨w.heap.size + 1, 3, none⟩ = some (.slice sb ts.length sd) by rw [cell_of hb]; rfl)
 have QB := Lib.hid hb
 have hzq : w.heap.size + 1 < W1.heap.size := by omega
 clear hb
 have HW := Lib.hid hW
 have HK := Lib.hid hk
 have HSZ := Lib.hid hsz
 clear hW hk hsz
 by_cases h1 : pn = qn
 ·subst h1
  have b1 : (pn.toList == pn.toList) = true := by simp
  by_cases h2 : pw = qw
  ·subst h2
   have b2 : (pw == pw) = true := by simp
   by_cases h3 : vs = us
   ·have e3 : eqRw vs us = true := eqRw_iff.2 h3
    have HB3 := Lib.hid e3
    cases h4 : eqRw ss ts with
    | true =>
     have e4 := eqRw_iff.1 h4
     have HB4 := Lib.hid h4
     obtain rfl : r = true := by rw [← hr]; exact eqP_iff.2 ⟨rfl, rfl, h3, e4⟩
     clear hr h3 e3 h4 e4
     go_enter Tryz.func45, Tryz.ntmps45
     go_upto_region 1 with fail
     rw [HW.out]
     have g0 := ((Kept.refl Nil W1)).cell G0.out (fun h => h)
     have g1 := ((Kept.refl Nil W1)).cell G1.out (fun h => h)
     have g2 := ((Kept.refl Nil W1)).cell G2.out (fun h => h)
     have g3 := ((Kept.refl Nil W1)).cell G3.out (fun h => h)
     have q0 := ((Kept.refl Nil W1)).cell Q0.out (fun h => h)
     have q1 := ((Kept.refl Nil W1)).cell Q1.out (fun h => h)
     have q2 := ((Kept.refl Nil W1)).cell Q2.out (fun h => h)
     have q3 := ((Kept.refl Nil W1)).cell Q3.out (fun h => h)
     go_wp2_with (first | (go_at_call 81; with_reducible refine (EqualV_is vs us va vb vc vd _ (H1.out.nil (HK.out.step (by repeat (first | exact kzr _ _ | assumption | refine kzd ?_ | refine kzn ?_ _ | refine kza ?_ _ | refine kzs ?_ (by assumption))))).v (H2.out.nil (HK.out.step (by repeat (first | exact kzr _ _ | assumption | refine kzd ?_ | refine kzn ?_ _ | refine kza ?_ _ | refine kzs ?_ (by assumption))))).v hv.1 hv.2).mono ?_; rintro e w3 ⟨rfl, hk3⟩; rw [HB3.out]; have hz3 : w.heap.size + 1 < w3.heap.size := (by have := (show Kept Nil W1 w3 from (by repeat (first | exact kzr _ _ | assumption | refine kzd ?_ | refine kzn ?_ _ | refine kza ?_ _ | refine kzs ?_ (by assumption)))).size; omega); have hy3 : w.heap.size < w3.heap.size := (by omega); clear g0 g1 g2 g3 q0 q1 q2 q3; have g0 := (show Kept Nil W1 w3 from (by repeat (first | exact kzr _ _ | assumption | refine kzd ?_ | refine kzn ?_ _ | refine kza ?_ _ | refine kzs ?_ (by assumption)))).cell G0.out (fun h => h); have g1 := (show Kept Nil W1 w3 from (by repeat (first | exact kzr _ _ | assumption | refine kzd ?_ | refine kzn ?_ _ | refine kza ?_ _ | refine kzs ?_ (by assumption)))).cell G1.out (fun h => h); have g2 := (show Kept Nil W1 w3 from (by repeat (first | exact kzr _ _ | assumption | refine kzd ?_ | refine kzn ?_ _ | refine kza ?_ _ | refine kzs ?_ (by assumption)))).cell G2.out (fun h => h); have g3 := (show Kept Nil W1 w3 from (by repeat (first | exact kzr _ _ | assumption | refine kzd ?_ | refine kzn ?_ _ | refine kza ?_ _ | refine kzs ?_ (by assumption)))).cell G3.out (fun h => h); have q0 := (show Kept Nil W1 w3 from (by repeat (first | exact kzr _ _ | assumption | refine kzd ?_ | refine kzn ?_ _ | refine kza ?_ _ | refine kzs ?_ (by assumption)))).cell Q0.out (fun h => h); have q1 := (show Kept Nil W1 w3 from (by repeat (first | exact kzr _ _ | assumption | refine kzd ?_ | refine kzn ?_ _ | refine kza ?_ _ | refine kzs ?_ (by assumption)))).cell Q1.out (fun h => h); have q2 := (show Kept Nil W1 w3 from (by repeat (first | exact kzr _ _ | assumption | refine kzd ?_ | refine kzn ?_ _ | refine kza ?_ _ | refine kzs ?_ (by assumption)))).cell Q2.out (fun h => h); have q3 := (show Kept Nil W1 w3 from (by repeat (first | exact kzr _ _ | assumption | refine kzd ?_ | refine kzn ?_ _ | refine kza ?_ _ | refine kzs ?_ (by assumption)))).cell Q3.out (fun h => h)) | (go_at_call 82; with_reducible refine (EqualS_is ss ts sa sb sc sd _ (H1.out.nil (HK.out.step (by repeat (first | exact kzr _ _ | assumption | refine kzd ?_ | refine kzn ?_ _ | refine kza ?_ _ | refine kzs ?_ (by assumption))))).s (H2.out.nil (HK.out.step (by repeat (first | exact kzr _ _ | assumption | refine kzd ?_ | refine kzn ?_ _ | refine kza ?_ _ | refine kzs ?_ (by assumption))))).s hs.1 hs.2).mono ?_; rintro e w4 ⟨rfl, hk4⟩; rw [HB4.out]; have hz4 : w.heap.size + 1 < w4.heap.size := (by have := (show Kept Nil W1 w4 from (by repeat (first | exact kzr _ _ | assumption | refine kzd ?_ | refine kzn ?_ _ | refine kza ?_ _ | refine kzs ?_ (by assumption)))).size; omega); have hy4 : w.heap.size < w4.heap.size := (by omega); clear g0 g1 g2 g3 q0 q1 q2 q3; have g0 := (show Kept Nil W1 w4 from (by repeat (first | exact kzr _ _ | assumption | refine kzd ?_ | refine kzn ?_ _ | refine kza ?_ _ | refine kzs ?_ (by assumption)))).cell G0.out (fun h => h); have g1 := (show Kept Nil W1 w4 from (by repeat (first | exact kzr _ _ | assumption | refine kzd ?_ | refine kzn ?_ _ | refine kza ?_ _ | refine kzs ?_ (by assumption)))).cell G1.out (fun h => h); have g2 := (show Kept Nil W1 w4 from (by repeat (first | exact kzr _ _ | assumption | refine kzd ?_ | refine kzn ?_ _ | refine kza ?_ _ | refine kzs ?_ (by assumption)))).cell G2.out (fun h => h); have g3 := (show Kept Nil W1 w4 from (by repeat (first | exact kzr _ _ | assumption | refine kzd ?_ | refine kzn ?_ _ | refine kza ?_ _ | refine kzs ?_ (by assumption)))).cell G3.out (fun h => h); have q0 := (show Kept Nil W1 w4 from (by repeat (first | exact kzr _ _ | assumption | refine kzd ?_ | refine kzn ?_ _ | refine kza ?_ _ | refine kzs ?_ (by assumption)))).cell Q0.out (fun h => h); have q1 := (show Kept Nil W1 w4 from (by repeat (first | exact kzr _ _ | assumption | refine kzd ?_ | refine kzn ?_ _ | refine kza ?_ _ | refine kzs ?_ (by assumption)))).cell Q1.out (fun h => h); have q2 := (show Kept Nil W1 w4 from (by repeat (first | exact kzr _ _ | assumption | refine kzd ?_ | refine kzn ?_ _ | refine kza ?_ _ | refine kzs ?_ (by assumption)))).cell Q2.out (fun h => h); have q3 := (show Kept Nil W1 w4 from (by repeat (first | exact kzr _ _ | assumption | refine kzd ?_ | refine kzn ?_ _ | refine kza ?_ _ | refine kzs ?_ (by assumption)))).cell Q3.out (fun h => h)))
     go_ret
     exact ⟨rfl, HK.out.step (by repeat (first | exact kzr _ _ | assumption | refine kzd ?_ | refine kzn ?_ _ | refine kza ?_ _ | refine kzs ?_ (by assumption)))⟩
    | false =>
     have e4 : ss ≠ ts := fun h => by rw [eqRw_iff.2 h] at h4; cases h4
     have HB4 := Lib.hid h4
     obtain rfl : r = false := by rw [← hr]; exact eqP_no (fun h => e4 h.s)
     clear hr h3 e3 h4 e4
     go_enter Tryz.func45, Tryz.ntmps45
     go_upto_region 1 with fail
     rw [HW.out]
     have g0 := ((Kept.refl Nil W1)).cell G0.out (fun h => h)
     have g1 := ((Kept.refl Nil W1)).cell G1.out (fun h => h)
     have g2 := ((Kept.refl Nil W1)).cell G2.out (fun h => h)
     have g3 := ((Kept.refl Nil W1)).cell G3.out (fun h => h)
     have q0 := ((Kept.refl Nil W1)).cell Q0.out (fun h => h)
     have q1 := ((Kept.refl Nil W1)).cell Q1.out (fun h => h)
     have q2 := ((Kept.refl Nil W1)).cell Q2.out (fun h => h)
     have q3 := ((Kept.refl Nil W1)).cell Q3.out (fun h => h)
     go_wp2_with (first | (go_at_call 81; with_reducible refine (EqualV_is vs us va vb vc vd _ (H1.out.nil (HK.out.step (by repeat (first | exact kzr _ _ | assumption | refine kzd ?_ | refine kzn ?_ _ | refine kza ?_ _ | refine kzs ?_ (by assumption))))).v (H2.out.nil (HK.out.step (by repeat (first | exact kzr _ _ | assumption | refine kzd ?_ | refine kzn ?_ _ | refine kza ?_ _ | refine kzs ?_ (by assumption))))).v hv.1 hv.2).mono ?_; rintro e w3 ⟨rfl, hk3⟩; rw [HB3.out]; have hz3 : w.heap.size + 1 < w3.heap.size := (by have := (show Kept Nil W1 w3 from (by repeat (first | exact kzr _ _ | assumption | refine kzd ?_ | refine kzn ?_ _ | refine kza ?_ _ | refine kzs ?_ (by assumption)))).size; omega); have hy3 : w.heap.size < w3.heap.size := (by omega); clear g0 g1 g2 g3 q0 q1 q2 q3; have g0 := (show Kept Nil W1 w3 from (by repeat (first | exact kzr _ _ | assumption | refine kzd ?_ | refine kzn ?_ _ | refine kza ?_ _ | refine kzs ?_ (by assumption)))).cell G0.out (fun h => h); have g1 := (show Kept Nil W1 w3 from (by repeat (first | exact kzr _ _ | assumption | refine kzd ?_ | refine kzn ?_ _ | refine kza ?_ _ | refine kzs ?_ (by assumption)))).cell G1.out (fun h => h); have g2 := (show Kept Nil W1 w3 from (by repeat (first | exact kzr _ _ | assumption | refine kzd ?_ | refine kzn ?_ _ | refine kza ?_ _ | refine kzs ?_ (by assumption)))).cell G2.out (fun h => h); have g3 := (show Kept Nil W1 w3 from (by repeat (first | exact kzr _ _ | assumption | refine kzd ?_ | refine kzn ?_ _ | refine kza ?_ _ | refine kzs ?_ (by assumption)))).cell G3.out (fun h => h); have q0 := (show Kept Nil W1 w3 from (by repeat (first | exact kzr _ _ | assumption | refine kzd ?_ | refine kzn ?_ _ | refine kza ?_ _ | refine kzs ?_ (by assumption)))).cell Q0.out (fun h => h); have q1 := (show Kept Nil W1 w3 from (by repeat (first | exact kzr _ _ | assumption | refine kzd ?_ | refine kzn ?_ _ | refine kza ?_ _ | refine kzs ?_ (by assumption)))).cell Q1.out (fun h => h); have q2 := (show Kept Nil W1 w3 from (by repeat (first | exact kzr _ _ | assumption | refine kzd ?_ | refine kzn ?_ _ | refine kza ?_ _ | refine kzs ?_ (by assumption)))).cell Q2.out (fun h => h); have q3 := (show Kept Nil W1 w3 from (by repeat (first | exact kzr _ _ | assumption | refine kzd ?_ | refine kzn ?_ _ | refine kza ?_ _ | refine kzs ?_ (by assumption)))).cell Q3.out (fun h => h)) | (go_at_call 82; with_reducible refine (EqualS_is ss ts sa sb sc sd _ (H1.out.nil (HK.out.step (by repeat (first | exact kzr _ _ | assumption | refine kzd ?_ | refine kzn ?_ _ | refine kza ?_ _ | refine kzs ?_ (by assumption))))).s (H2.out.nil (HK.out.step (by repeat (first | exact kzr _ _ | assumption | refine kzd ?_ | refine kzn ?_ _ | refine kza ?_ _ | refine kzs ?_ (by assumption))))).s hs.1 hs.2).mono ?_; rintro e w4 ⟨rfl, hk4⟩; rw [HB4.out]; have hz4 : w.heap.size + 1 < w4.heap.size := (by have := (show Kept Nil W1 w4 from (by repeat (first | exact kzr _ _ | assumption | refine kzd ?_ | refine kzn ?_ _ | refine kza ?_ _ | refine kzs ?_ (by assumption)))).size; omega); have hy4 : w.heap.size < w4.heap.size := (by omega); clear g0 g1 g2 g3 q0 q1 q2 q3; have g0 := (show Kept Nil W1 w4 from (by repeat (first | exact kzr _ _ | assumption | refine kzd ?_ | refine kzn ?_ _ | refine kza ?_ _ | refine kzs ?_ (by assumption)))).cell G0.out (fun h => h); have g1 := (show Kept Nil W1 w4 from (by repeat (first | exact kzr _ _ | assumption | refine kzd ?_ | refine kzn ?_ _ | refine kza ?_ _ | refine kzs ?_ (by assumption)))).cell G1.out (fun h => h); have g2 := (show Kept Nil W1 w4 from (by repeat (first | exact kzr _ _ | assumption | refine kzd ?_ | refine kzn ?_ _ | refine kza ?_ _ | refine kzs ?_ (by assumption)))).cell G2.out (fun h => h); have g3 := (show Kept Nil W1 w4 from (by repeat (first | exact kzr _ _ | assumption | refine kzd ?_ | refine kzn ?_ _ | refine kza ?_ _ | refine kzs ?_ (by assumption)))).cell G3.out (fun h => h); have q0 := (show Kept Nil W1 w4 from (by repeat (first | exact kzr _ _ | assumption | refine kzd ?_ | refine kzn ?_ _ | refine kza ?_ _ | refine kzs ?_ (by assumption)))).cell Q0.out (fun h => h); have q1 := (show Kept Nil W1 w4 from (by repeat (first | exact kzr _ _ | assumption | refine kzd ?_ | refine kzn ?_ _ | refine kza ?_ _ | refine kzs ?_ (by assumption)))).cell Q1.out (fun h => h); have q2 := (show Kept Nil W1 w4 from (by repeat (first | exact kzr _ _ | assumption | refine kzd ?_ | refine kzn ?_ _ | refine kza ?_ _ | refine kzs ?_ (by assumption)))).cell Q2.out (fun h => h); have q3 := (show Kept Nil W1 w4 from (by repeat (first | exact kzr _ _ | assumption | refine kzd ?_ | refine kzn ?_ _ | refine kza ?_ _ | refine kzs ?_ (by assumption)))).cell Q3.out (fun h => h)))
     go_ret
     exact ⟨rfl, HK.out.step (by repeat (first | exact kzr _ _ | assumption | refine kzd ?_ | refine kzn ?_ _ | refine kza ?_ _ | refine kzs ?_ (by assumption)))⟩
   ·have e3 : eqRw vs us = false := eqRw_no h3
    have HB3 := Lib.hid e3
    obtain rfl : r = false := by rw [← hr]; exact eqP_no (fun h => h3 h.v)
    clear hr h3 e3
    go_enter Tryz.func45, Tryz.ntmps45
    go_upto_region 1 with fail
    rw [HW.out]
    have g0 := ((Kept.refl Nil W1)).cell G0.out (fun h => h)
    have g1 := ((Kept.refl Nil W1)).cell G1.out (fun h => h)
    have g2 := ((Kept.refl Nil W1)).cell G2.out (fun h => h)
    have g3 := ((Kept.refl Nil W1)).cell G3.out (fun h => h)
    have q0 := ((Kept.refl Nil W1)).cell Q0.out (fun h => h)
    have q1 := ((Kept.refl Nil W1)).cell Q1.out (fun h => h)
    have q2 := ((Kept.refl Nil W1)).cell Q2.out (fun h => h)
    have q3 := ((Kept.refl Nil W1)).cell Q3.out (fun h => h)
    go_wp2_with (first | (go_at_call 81; with_reducible refine (EqualV_is vs us va vb vc vd _ (H1.out.nil (HK.out.step (by repeat (first | exact kzr _ _ | assumption | refine kzd ?_ | refine kzn ?_ _ | refine kza ?_ _ | refine kzs ?_ (by assumption))))).v (H2.out.nil (HK.out.step (by repeat (first | exact kzr _ _ | assumption | refine kzd ?_ | refine kzn ?_ _ | refine kza ?_ _ | refine kzs ?_ (by assumption))))).v hv.1 hv.2).mono ?_; rintro e w3 ⟨rfl, hk3⟩; rw [HB3.out]; have hz3 : w.heap.size + 1 < w3.heap.size := (by have := (show Kept Nil W1 w3 from (by repeat (first | exact kzr _ _ | assumption | refine kzd ?_ | refine kzn ?_ _ | refine kza ?_ _ | refine kzs ?_ (by assumption)))).size; omega); have hy3 : w.heap.size < w3.heap.size := (by omega); clear g0 g1 g2 g3 q0 q1 q2 q3; have g0 := (show Kept Nil W1 w3 from (by repeat (first | exact kzr _ _ | assumption | refine kzd ?_ | refine kzn ?_ _ | refine kza ?_ _ | refine kzs ?_ (by assumption)))).cell G0.out (fun h => h); have g1 := (show Kept Nil W1 w3 from (by repeat (first | exact kzr _ _ | assumption | refine kzd ?_ | refine kzn ?_ _ | refine kza ?_ _ | refine kzs ?_ (by assumption)))).cell G1.out (fun h => h); have g2 := (show Kept Nil W1 w3 from (by repeat (first | exact kzr _ _ | assumption | refine kzd ?_ | refine kzn ?_ _ | refine kza ?_ _ | refine kzs ?_ (by assumption)))).cell G2.out (fun h => h); have g3 := (show Kept Nil W1 w3 from (by repeat (first | exact kzr _ _ | assumption | refine kzd ?_ | refine kzn ?_ _ | refine kza ?_ _ | refine kzs ?_ (by assumption)))).cell G3.out (fun h => h); have q0 := (show Kept Nil W1 w3 from (by repeat (first | exact kzr _ _ | assumption | refine kzd ?_ | refine kzn ?_ _ | refine kza ?_ _ | refine kzs ?_ (by assumption)))).cell Q0.out (fun h => h); have q1 := (show Kept Nil W1 w3 from (by repeat (first | exact kzr _ _ | assumption | refine kzd ?_ | refine kzn ?_ _ | refine kza ?_ _ | refine kzs ?_ (by assumption)))).cell Q1.out (fun h => h); have q2 := (show Kept Nil W1 w3 from (by repeat (first | exact kzr _ _ | assumption | refine kzd ?_ | refine kzn ?_ _ | refine kza ?_ _ | refine kzs ?_ (by assumption)))).cell Q2.out (fun h => h); have q3 := (show Kept Nil W1 w3 from (by repeat (first | exact kzr _ _ | assumption | refine kzd ?_ | refine kzn ?_ _ | refine kza ?_ _ | refine kzs ?_ (by assumption)))).cell Q3.out (fun h => h)))
    go_ret
    exact ⟨rfl, HK.out.step (by repeat (first | exact kzr _ _ | assumption | refine kzd ?_ | refine kzn ?_ _ | refine kza ?_ _ | refine kzs ?_ (by assumption)))⟩
  ·have b2 : (pw == qw) = false := by simp [h2]
   obtain rfl : r = false := by rw [← hr]; exact eqP_no (fun h => h2 h.w)
   clear hr h2
   go_enter Tryz.func45, Tryz.ntmps45
   go_upto_region 1 with fail
   rw [HW.out]
   have g0 := ((Kept.refl Nil W1)).cell G0.out (fun h => h)
   have g1 := ((Kept.refl Nil W1)).cell G1.out (fun h => h)
   have g2 := ((Kept.refl Nil W1)).cell G2.out (fun h => h)
   have g3 := ((Kept.refl Nil W1)).cell G3.out (fun h => h)
   have q0 := ((Kept.refl Nil W1)).cell Q0.out (fun h => h)
   have q1 := ((Kept.refl Nil W1)).cell Q1.out (fun h => h)
   have q2 := ((Kept.refl Nil W1)).cell Q2.out (fun h => h)
   have q3 := ((Kept.refl Nil W1)).cell Q3.out (fun h => h)
   go_wp2_with fail
   go_ret
   exact ⟨rfl, HK.out.step (by repeat (first | exact kzr _ _ | assumption | refine kzd ?_ | refine kzn ?_ _ | refine kza ?_ _ | refine kzs ?_ (by assumption)))⟩
 ·have b1 : (pn.toList == qn.toList) = false := by simp [ByteArray.toList_eq, ByteArray.ext_iff] at h1 ⊢; exact h1
  obtain rfl : r = false := by rw [← hr]; exact eqP_no (fun h => h1 h.n)
  clear hr h1
  go_enter Tryz.func45, Tryz.ntmps45
  go_upto_region 1 with fail
  rw [HW.out]
  have g0 := ((Kept.refl Nil W1)).cell G0.out (fun h => h)
  have g1 := ((Kept.refl Nil W1)).cell G1.out (fun h => h)
  have g2 := ((Kept.refl Nil W1)).cell G2.out (fun h => h)
  have g3 := ((Kept.refl Nil W1)).cell G3.out (fun h => h)
  have q0 := ((Kept.refl Nil W1)).cell Q0.out (fun h => h)
  have q1 := ((Kept.refl Nil W1)).cell Q1.out (fun h => h)
  have q2 := ((Kept.refl Nil W1)).cell Q2.out (fun h => h)
  have q3 := ((Kept.refl Nil W1)).cell Q3.out (fun h => h)
  go_wp2_with fail
  go_ret
  exact ⟨rfl, HK.out.step (by repeat (first | exact kzr _ _ | assumption | refine kzd ?_ | refine kzn ?_ _ | refine kza ?_ _ | refine kzs ?_ (by assumption)))⟩
end Go.Proofs.YtniocgnfgpaioaaGreat.Mo
