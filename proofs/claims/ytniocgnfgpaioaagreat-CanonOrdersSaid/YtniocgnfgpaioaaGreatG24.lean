/- The walks of model.arg and of the reference's step. -/
import Derived.Test.YtniocgnfgpaioaaGreatG18
set_option linter.unusedVariables false
set_option linter.unusedSimpArgs false
namespace Go.Proofs.YtniocgnfgpaioaaGreat.Mo
open Go Go.RowKit Go.Proofs.YtniocgnfgpaioaaGreat.Lb

theorem varIx_neg (vs : List V) (s : ByteArray) : varIx vs s = -1 ∨ 0 ≤ varIx vs s := by
 rw [varIx_find]
 rcases findI_cases (vs.map V.name) s with ⟨h, _⟩ | ⟨k, _, h, _⟩
 ·exact .inl h
 ·exact .inr (by omega)
theorem findI_neg1 (ns : List ByteArray) (s : ByteArray) : findI ns s = -1 ∨ ∃ k : Nat, findI ns s = k ∧ k < ns.length := by
 rcases findI_cases ns s with ⟨h, _⟩ | ⟨k, t, h, h2, _⟩
 ·exact .inl h
 ·exact .inr ⟨k, h, (List.getElem?_eq_some_iff.1 h2).1⟩
set_option maxHeartbeats 2000000 in
theorem Arg_is (p : Pr) (s : S) (w : World) (hr : RProc w p) : Calls Tryz.prog 120 #[p.val, s.arg] w fun e w' => e = .returned (.int .i64 (argC p.vs s)) ∧ Kept Nil w w' := by
 have HR := Lib.hid hr
 clear hr
 obtain ⟨pn, pw, va, vs, vc, sa, ss, pc_⟩ := p
 obtain ⟨k0, nm, ak, an, as_⟩ := s
 unfold Pr.val S.arg
 simp only
 obtain ⟨x, hx⟩ : ∃ x, varIx vs as_ = x := ⟨_, rfl⟩
 have hxn := varIx_neg vs as_
 rw [hx] at hxn
 have HXN := Lib.hid hxn
 have HX := Lib.hid hx
 clear hx hxn
 have hk0 : Kept Nil w ((w.alloc (.cells #[.string pn, .int .i64 pw, .slice va vs.length vc, .slice sa ss.length pc_] 34)).alloc (.cells #[.int .i64 ak, .int .i64 an, .string as_] 36)) := ((Kept.refl Nil w).alloc _).alloc _
 by_cases hq1 : ak = 0
 ·skip
  have fq1_0y : (ak == 0) = true := by first | (simp [hq1]; done) | (simp; omega) | (simp at hq1 ⊢; exact hq1) | exact hq1
  have fq1_1y : (ak != 0) = false := by first | (simp [hq1]; done) | (simp; omega) | (simp at hq1 ⊢; exact hq1) | exact hq1
  have fq1_2y : (ak == 1) = false := by first | (simp [hq1]; done) | (simp; omega) | (simp at hq1 ⊢; exact hq1) | exact hq1
  have fq1_3y : (ak == 2) = false := by first | (simp [hq1]; done) | (simp; omega) | (simp at hq1 ⊢; exact hq1) | exact hq1
  by_cases hq2 : numB an = true
  ·skip
   have fq2_0y : numB an = true := by first | (simp [hq2]; done) | (simp; omega) | (simp at hq2 ⊢; exact hq2) | exact hq2
   by_cases hq3 : as_.toList = []
   ·skip
    have fq3_0y : as_.toList = [] := by first | (simp [hq3]; done) | (simp; omega) | (simp at hq3 ⊢; exact hq3) | exact hq3
    have HN := Lib.hid (show argC vs ⟨k0, nm, ak, an, as_⟩ = 0 by unfold argC; simp only; simp [HX.out, *])
    clear hq1 hq2 hq3
    go_enter Tryz.func120, Tryz.ntmps120
    go_wp2_with (first | (go_at_call 119; refine (Var_is _ as_ _ (HR.out.nil (by repeat (first | exact kzr _ _ | assumption | refine kzd ?_ | refine kzn ?_ _ | refine kza ?_ _ | refine kzs ?_ (by assumption))))).mono ?_; rintro e w1 ⟨rfl, hk1⟩; rw [show varIx _ _ = _ from HX.out]; obtain ⟨hc1, hf1⟩ := hk1.rules; have hz1_0 : w.heap.size < w1.heap.size := (by have := hk1.size; first | omega | (simp at this; omega)); have hz1_1 : w.heap.size + 1 < w1.heap.size := (by have := hk1.size; first | omega | (simp at this; omega))) | (go_at_call 90; refine (number_is an _).mono ?_; rintro e w1 ⟨rfl, rfl⟩))
    go_ret
    exact ⟨by rw [HN.out]; rfl, (by repeat (first | exact kzr _ _ | assumption | refine kzd ?_ | refine kzn ?_ _ | refine kza ?_ _ | refine kzs ?_ (by assumption)))⟩
   ·skip
    have fq3_0n : as_.toList.isEmpty = false := by first | (simp [hq3]; done) | (simp; omega) | (simp at hq3 ⊢; exact hq3) | exact hq3
    have fq3_1n : (!as_.toList.isEmpty) = true := by first | (simp [hq3]; done) | (simp; omega) | (simp at hq3 ⊢; exact hq3) | exact hq3
    have HN := Lib.hid (show argC vs ⟨k0, nm, ak, an, as_⟩ = 21 by unfold argC; simp only; simp [HX.out, *])
    clear hq1 hq2 hq3
    go_enter Tryz.func120, Tryz.ntmps120
    go_wp2_with (first | (go_at_call 119; refine (Var_is _ as_ _ (HR.out.nil (by repeat (first | exact kzr _ _ | assumption | refine kzd ?_ | refine kzn ?_ _ | refine kza ?_ _ | refine kzs ?_ (by assumption))))).mono ?_; rintro e w1 ⟨rfl, hk1⟩; rw [show varIx _ _ = _ from HX.out]; obtain ⟨hc1, hf1⟩ := hk1.rules; have hz1_0 : w.heap.size < w1.heap.size := (by have := hk1.size; first | omega | (simp at this; omega)); have hz1_1 : w.heap.size + 1 < w1.heap.size := (by have := hk1.size; first | omega | (simp at this; omega))) | (go_at_call 90; refine (number_is an _).mono ?_; rintro e w1 ⟨rfl, rfl⟩))
    go_ret
    exact ⟨by rw [HN.out]; rfl, (by repeat (first | exact kzr _ _ | assumption | refine kzd ?_ | refine kzn ?_ _ | refine kza ?_ _ | refine kzs ?_ (by assumption)))⟩
  ·skip
   have fq2_0n : numB an = false := by first | (simp [hq2]; done) | (simp; omega) | (simp at hq2 ⊢; exact hq2) | exact hq2
   have HN := Lib.hid (show argC vs ⟨k0, nm, ak, an, as_⟩ = 23 by unfold argC; simp only; simp [HX.out, *])
   clear hq1 hq2
   go_enter Tryz.func120, Tryz.ntmps120
   go_wp2_with (first | (go_at_call 119; refine (Var_is _ as_ _ (HR.out.nil (by repeat (first | exact kzr _ _ | assumption | refine kzd ?_ | refine kzn ?_ _ | refine kza ?_ _ | refine kzs ?_ (by assumption))))).mono ?_; rintro e w1 ⟨rfl, hk1⟩; rw [show varIx _ _ = _ from HX.out]; obtain ⟨hc1, hf1⟩ := hk1.rules; have hz1_0 : w.heap.size < w1.heap.size := (by have := hk1.size; first | omega | (simp at this; omega)); have hz1_1 : w.heap.size + 1 < w1.heap.size := (by have := hk1.size; first | omega | (simp at this; omega))) | (go_at_call 90; refine (number_is an _).mono ?_; rintro e w1 ⟨rfl, rfl⟩))
   go_ret
   exact ⟨by rw [HN.out]; rfl, (by repeat (first | exact kzr _ _ | assumption | refine kzd ?_ | refine kzn ?_ _ | refine kza ?_ _ | refine kzs ?_ (by assumption)))⟩
 ·skip
  have fq1_0n : (ak == 0) = false := by first | (simp [hq1]; done) | (simp; omega) | (simp at hq1 ⊢; exact hq1) | exact hq1
  have fq1_1n : (ak != 0) = true := by first | (simp [hq1]; done) | (simp; omega) | (simp at hq1 ⊢; exact hq1) | exact hq1
  by_cases hq4 : an = 0
  ·skip
   have fq4_0y : (an != 0) = false := by first | (simp [hq4]; done) | (simp; omega) | (simp at hq4 ⊢; exact hq4) | exact hq4
   by_cases hq5 : ak = 1
   ·skip
    have fq5_0y : (ak == 1) = true := by first | (simp [hq5]; done) | (simp; omega) | (simp at hq5 ⊢; exact hq5) | exact hq5
    have fq5_1y : (ak == 2) = false := by first | (simp [hq5]; done) | (simp; omega) | (simp at hq5 ⊢; exact hq5) | exact hq5
    have hxn := HXN.out
    by_cases hq6 : x < 0
    ·skip
     have fq6_0y : (x == -1) = true := by first | (simp [hq6]; done) | (simp; omega) | (simp at hq6 ⊢; exact hq6) | exact hq6
     have HN := Lib.hid (show argC vs ⟨k0, nm, ak, an, as_⟩ = 4 by unfold argC; simp only; simp [HX.out, *])
     clear hq1 hq4 hq5 hxn hq6
     go_enter Tryz.func120, Tryz.ntmps120
     go_wp2_with (first | (go_at_call 119; refine (Var_is _ as_ _ (HR.out.nil (by repeat (first | exact kzr _ _ | assumption | refine kzd ?_ | refine kzn ?_ _ | refine kza ?_ _ | refine kzs ?_ (by assumption))))).mono ?_; rintro e w1 ⟨rfl, hk1⟩; rw [show varIx _ _ = _ from HX.out]; obtain ⟨hc1, hf1⟩ := hk1.rules; have hz1_0 : w.heap.size < w1.heap.size := (by have := hk1.size; first | omega | (simp at this; omega)); have hz1_1 : w.heap.size + 1 < w1.heap.size := (by have := hk1.size; first | omega | (simp at this; omega))) | (go_at_call 90; refine (number_is an _).mono ?_; rintro e w1 ⟨rfl, rfl⟩))
     go_ret
     exact ⟨by rw [HN.out]; rfl, (by repeat (first | exact kzr _ _ | assumption | refine kzd ?_ | refine kzn ?_ _ | refine kza ?_ _ | refine kzs ?_ (by assumption)))⟩
    ·skip
     have fq6_0n : (x == -1) = false := by first | (simp [hq6]; done) | (simp; omega) | (simp at hq6 ⊢; exact hq6) | exact hq6
     have HN := Lib.hid (show argC vs ⟨k0, nm, ak, an, as_⟩ = 0 by unfold argC; simp only; simp [HX.out, *])
     clear hq1 hq4 hq5 hxn hq6
     go_enter Tryz.func120, Tryz.ntmps120
     go_wp2_with (first | (go_at_call 119; refine (Var_is _ as_ _ (HR.out.nil (by repeat (first | exact kzr _ _ | assumption | refine kzd ?_ | refine kzn ?_ _ | refine kza ?_ _ | refine kzs ?_ (by assumption))))).mono ?_; rintro e w1 ⟨rfl, hk1⟩; rw [show varIx _ _ = _ from HX.out]; obtain ⟨hc1, hf1⟩ := hk1.rules; have hz1_0 : w.heap.size < w1.heap.size := (by have := hk1.size; first | omega | (simp at this; omega)); have hz1_1 : w.heap.size + 1 < w1.heap.size := (by have := hk1.size; first | omega | (simp at this; omega))) | (go_at_call 90; refine (number_is an _).mono ?_; rintro e w1 ⟨rfl, rfl⟩))
     go_ret
     exact ⟨by rw [HN.out]; rfl, (by repeat (first | exact kzr _ _ | assumption | refine kzd ?_ | refine kzn ?_ _ | refine kza ?_ _ | refine kzs ?_ (by assumption)))⟩
   ·skip
    have fq5_0n : (ak == 1) = false := by first | (simp [hq5]; done) | (simp; omega) | (simp at hq5 ⊢; exact hq5) | exact hq5
    by_cases hq7 : ak = 2
    ·skip
     have fq7_0y : (ak == 2) = true := by first | (simp [hq7]; done) | (simp; omega) | (simp at hq7 ⊢; exact hq7) | exact hq7
     by_cases hq8 : as_.toList = []
     ·skip
      have fq8_0y : as_.toList = [] := by first | (simp [hq8]; done) | (simp; omega) | (simp at hq8 ⊢; exact hq8) | exact hq8
      have HN := Lib.hid (show argC vs ⟨k0, nm, ak, an, as_⟩ = 0 by unfold argC; simp only; simp [HX.out, *])
      clear hq1 hq4 hq5 hq7 hq8
      go_enter Tryz.func120, Tryz.ntmps120
      go_wp2_with (first | (go_at_call 119; refine (Var_is _ as_ _ (HR.out.nil (by repeat (first | exact kzr _ _ | assumption | refine kzd ?_ | refine kzn ?_ _ | refine kza ?_ _ | refine kzs ?_ (by assumption))))).mono ?_; rintro e w1 ⟨rfl, hk1⟩; rw [show varIx _ _ = _ from HX.out]; obtain ⟨hc1, hf1⟩ := hk1.rules; have hz1_0 : w.heap.size < w1.heap.size := (by have := hk1.size; first | omega | (simp at this; omega)); have hz1_1 : w.heap.size + 1 < w1.heap.size := (by have := hk1.size; first | omega | (simp at this; omega))) | (go_at_call 90; refine (number_is an _).mono ?_; rintro e w1 ⟨rfl, rfl⟩))
      go_ret
      exact ⟨by rw [HN.out]; rfl, (by repeat (first | exact kzr _ _ | assumption | refine kzd ?_ | refine kzn ?_ _ | refine kza ?_ _ | refine kzs ?_ (by assumption)))⟩
     ·skip
      have fq8_0n : as_.toList.isEmpty = false := by first | (simp [hq8]; done) | (simp; omega) | (simp at hq8 ⊢; exact hq8) | exact hq8
      have fq8_1n : (!as_.toList.isEmpty) = true := by first | (simp [hq8]; done) | (simp; omega) | (simp at hq8 ⊢; exact hq8) | exact hq8
      have HN := Lib.hid (show argC vs ⟨k0, nm, ak, an, as_⟩ = 21 by unfold argC; simp only; simp [HX.out, *])
      clear hq1 hq4 hq5 hq7 hq8
      go_enter Tryz.func120, Tryz.ntmps120
      go_wp2_with (first | (go_at_call 119; refine (Var_is _ as_ _ (HR.out.nil (by repeat (first | exact kzr _ _ | assumption | refine kzd ?_ | refine kzn ?_ _ | refine kza ?_ _ | refine kzs ?_ (by assumption))))).mono ?_; rintro e w1 ⟨rfl, hk1⟩; rw [show varIx _ _ = _ from HX.out]; obtain ⟨hc1, hf1⟩ := hk1.rules; have hz1_0 : w.heap.size < w1.heap.size := (by have := hk1.size; first | omega | (simp at this; omega)); have hz1_1 : w.heap.size + 1 < w1.heap.size := (by have := hk1.size; first | omega | (simp at this; omega))) | (go_at_call 90; refine (number_is an _).mono ?_; rintro e w1 ⟨rfl, rfl⟩))
      go_ret
      exact ⟨by rw [HN.out]; rfl, (by repeat (first | exact kzr _ _ | assumption | refine kzd ?_ | refine kzn ?_ _ | refine kza ?_ _ | refine kzs ?_ (by assumption)))⟩
    ·skip
     have fq7_0n : (ak == 2) = false := by first | (simp [hq7]; done) | (simp; omega) | (simp at hq7 ⊢; exact hq7) | exact hq7
     have HN := Lib.hid (show argC vs ⟨k0, nm, ak, an, as_⟩ = 0 by unfold argC; simp only; simp [HX.out, *])
     clear hq1 hq4 hq5 hq7
     go_enter Tryz.func120, Tryz.ntmps120
     go_wp2_with (first | (go_at_call 119; refine (Var_is _ as_ _ (HR.out.nil (by repeat (first | exact kzr _ _ | assumption | refine kzd ?_ | refine kzn ?_ _ | refine kza ?_ _ | refine kzs ?_ (by assumption))))).mono ?_; rintro e w1 ⟨rfl, hk1⟩; rw [show varIx _ _ = _ from HX.out]; obtain ⟨hc1, hf1⟩ := hk1.rules; have hz1_0 : w.heap.size < w1.heap.size := (by have := hk1.size; first | omega | (simp at this; omega)); have hz1_1 : w.heap.size + 1 < w1.heap.size := (by have := hk1.size; first | omega | (simp at this; omega))) | (go_at_call 90; refine (number_is an _).mono ?_; rintro e w1 ⟨rfl, rfl⟩))
     go_ret
     exact ⟨by rw [HN.out]; rfl, (by repeat (first | exact kzr _ _ | assumption | refine kzd ?_ | refine kzn ?_ _ | refine kza ?_ _ | refine kzs ?_ (by assumption)))⟩
  ·skip
   have fq4_0n : (an != 0) = true := by first | (simp [hq4]; done) | (simp; omega) | (simp at hq4 ⊢; exact hq4) | exact hq4
   have HN := Lib.hid (show argC vs ⟨k0, nm, ak, an, as_⟩ = 21 by unfold argC; simp only; simp [HX.out, *])
   clear hq1 hq4
   go_enter Tryz.func120, Tryz.ntmps120
   go_wp2_with (first | (go_at_call 119; refine (Var_is _ as_ _ (HR.out.nil (by repeat (first | exact kzr _ _ | assumption | refine kzd ?_ | refine kzn ?_ _ | refine kza ?_ _ | refine kzs ?_ (by assumption))))).mono ?_; rintro e w1 ⟨rfl, hk1⟩; rw [show varIx _ _ = _ from HX.out]; obtain ⟨hc1, hf1⟩ := hk1.rules; have hz1_0 : w.heap.size < w1.heap.size := (by have := hk1.size; first | omega | (simp at this; omega)); have hz1_1 : w.heap.size + 1 < w1.heap.size := (by have := hk1.size; first | omega | (simp at this; omega))) | (go_at_call 90; refine (number_is an _).mono ?_; rintro e w1 ⟨rfl, rfl⟩))
   go_ret
   exact ⟨by rw [HN.out]; rfl, (by repeat (first | exact kzr _ _ | assumption | refine kzd ?_ | refine kzn ?_ _ | refine kza ?_ _ | refine kzs ?_ (by assumption)))⟩
theorem stepC_own {ls : List Lk} {p : Pr} {s : S} {j : Nat} {l : Lk} (hk : s.kind = 4) (ha : ¬ s.ak < 0) (ha2 : ¬ 2 < s.ak) (hj : findI (ls.map Lk.name) s.name = (j : Int)) (hl : ls[j]? = some l) : stepC ls p s = if l.src.toList = p.name.toList then argC p.vs s else 47 := by
 unfold stepC
 rw [if_neg (by omega), if_pos hk, hj, if_neg (by omega), Int.toNat_natCast, hl]
 simp
set_option maxHeartbeats 4000000 in
theorem RefStep_is (m : Md) (p : Pr) (s : S) (w : World) (hm : RModel w m) (hr : RProc w p) : Calls Tryz.prog 97 #[m.val, p.val, s.val] w fun e w' => e = .returned (.int .i64 (stepC m.ls p s)) ∧ Kept Nil w w' := by
 have HR := Lib.hid hr
 have HM := Lib.hid hm
 have hll := hm.ll
 unfold maxLen at hll
 clear hr hm
 obtain ⟨ver, pa, ps, pc, la, ls, lc, ea, es, ec⟩ := m
 obtain ⟨pn, pw, va, vs, vc, sa, ss, pc_⟩ := p
 obtain ⟨k0, nm, ak, an, as_⟩ := s
 unfold Pr.val S.val Md.val
 simp only at *
 obtain ⟨x, hx⟩ : ∃ x, varIx vs nm = x := ⟨_, rfl⟩
 have HX := Lib.hid hx
 obtain ⟨y, hy⟩ : ∃ y, findI (ls.map Lk.name) nm = y := ⟨_, rfl⟩
 have HY := Lib.hid hy
 obtain ⟨z, hz⟩ : ∃ z, argC vs ⟨k0, nm, ak, an, as_⟩ = z := ⟨_, rfl⟩
 have HZ := Lib.hid hz
 have HYN := Lib.hid (findI_neg1 (ls.map Lk.name) nm)
 clear hx hy hz
 have hk0 : Kept Nil w (((w.alloc (.cells #[.int .i64 ver, .slice pa ps.length pc, .slice la ls.length lc, .slice ea es.length ec] 26)).alloc (.cells #[.string pn, .int .i64 pw, .slice va vs.length vc, .slice sa ss.length pc_] 34)).alloc (.cells #[.int .i64 k0, .string nm, .int .i64 ak, .int .i64 an, .string as_] 38)) := (((Kept.refl Nil w).alloc _).alloc _).alloc _
 by_cases hq9 : k0 < 1
 ·skip
  have fq9_0y : decide (k0 < 1) = true := by first | (simp [hq9]; done) | (simp; omega) | (simp at hq9 ⊢; exact hq9) | exact hq9
  have HN := Lib.hid (show stepC ls ⟨pn, pw, va, vs, vc, sa, ss, pc_⟩ ⟨k0, nm, ak, an, as_⟩ = 21 by unfold stepC; simp only; simp [HX.out, HY.out, HZ.out, *])
  clear hq9
  go_enter Tryz.func97, Tryz.ntmps97
  go_wp2_with (first | (go_at_call 96; refine (RefVar_is _ nm _ (HR.out.nil (by repeat (first | exact kzr _ _ | assumption | refine kzd ?_ | refine kzn ?_ _ | refine kza ?_ _ | refine kzs ?_ (by assumption))))).mono ?_; rintro e w1 ⟨rfl, hk1⟩; rw [show varIx _ _ = _ from HX.out]; obtain ⟨hc1, hf1⟩ := hk1.rules; have hz1_0 : w.heap.size < w1.heap.size := (by have := hk1.size; first | omega | (simp at this; omega)); have hz1_1 : w.heap.size + 1 < w1.heap.size := (by have := hk1.size; first | omega | (simp at this; omega)); have hz1_2 : w.heap.size + 1 + 1 < w1.heap.size := (by have := hk1.size; first | omega | (simp at this; omega))) | (go_at_call 98; refine (RefLink_is _ nm _ (HM.out.nil (by repeat (first | exact kzr _ _ | assumption | refine kzd ?_ | refine kzn ?_ _ | refine kza ?_ _ | refine kzs ?_ (by assumption))))).mono ?_; rintro e w1 ⟨rfl, hk1⟩; rw [show findI _ _ = _ from HY.out]; obtain ⟨hc1, hf1⟩ := hk1.rules; have hz1_0 : w.heap.size < w1.heap.size := (by have := hk1.size; first | omega | (simp at this; omega)); have hz1_1 : w.heap.size + 1 < w1.heap.size := (by have := hk1.size; first | omega | (simp at this; omega)); have hz1_2 : w.heap.size + 1 + 1 < w1.heap.size := (by have := hk1.size; first | omega | (simp at this; omega))) | (go_at_call 122; refine (RefArg_is ⟨pn, pw, va, vs, vc, sa, ss, pc_⟩ ⟨k0, nm, ak, an, as_⟩ _ (HR.out.nil (by repeat (first | exact kzr _ _ | assumption | refine kzd ?_ | refine kzn ?_ _ | refine kza ?_ _ | refine kzs ?_ (by assumption))))).mono ?_; rintro e w2 ⟨rfl, hk2⟩; rw [show argC _ _ = _ from HZ.out]))
  go_ret
  exact ⟨by rw [HN.out]; rfl, (by repeat (first | exact kzr _ _ | assumption | refine kzd ?_ | refine kzn ?_ _ | refine kza ?_ _ | refine kzs ?_ (by assumption)))⟩
 ·skip
  have fq9_0n : decide (k0 < 1) = false := by first | (simp [hq9]; done) | (simp; omega) | (simp at hq9 ⊢; exact hq9) | exact hq9
  by_cases hq10 : 4 < k0
  ·skip
   have fq10_0y : decide (4 < k0) = true := by first | (simp [hq10]; done) | (simp; omega) | (simp at hq10 ⊢; exact hq10) | exact hq10
   have HN := Lib.hid (show stepC ls ⟨pn, pw, va, vs, vc, sa, ss, pc_⟩ ⟨k0, nm, ak, an, as_⟩ = 21 by unfold stepC; simp only; simp [HX.out, HY.out, HZ.out, *])
   clear hq9 hq10
   go_enter Tryz.func97, Tryz.ntmps97
   go_wp2_with (first | (go_at_call 96; refine (RefVar_is _ nm _ (HR.out.nil (by repeat (first | exact kzr _ _ | assumption | refine kzd ?_ | refine kzn ?_ _ | refine kza ?_ _ | refine kzs ?_ (by assumption))))).mono ?_; rintro e w1 ⟨rfl, hk1⟩; rw [show varIx _ _ = _ from HX.out]; obtain ⟨hc1, hf1⟩ := hk1.rules; have hz1_0 : w.heap.size < w1.heap.size := (by have := hk1.size; first | omega | (simp at this; omega)); have hz1_1 : w.heap.size + 1 < w1.heap.size := (by have := hk1.size; first | omega | (simp at this; omega)); have hz1_2 : w.heap.size + 1 + 1 < w1.heap.size := (by have := hk1.size; first | omega | (simp at this; omega))) | (go_at_call 98; refine (RefLink_is _ nm _ (HM.out.nil (by repeat (first | exact kzr _ _ | assumption | refine kzd ?_ | refine kzn ?_ _ | refine kza ?_ _ | refine kzs ?_ (by assumption))))).mono ?_; rintro e w1 ⟨rfl, hk1⟩; rw [show findI _ _ = _ from HY.out]; obtain ⟨hc1, hf1⟩ := hk1.rules; have hz1_0 : w.heap.size < w1.heap.size := (by have := hk1.size; first | omega | (simp at this; omega)); have hz1_1 : w.heap.size + 1 < w1.heap.size := (by have := hk1.size; first | omega | (simp at this; omega)); have hz1_2 : w.heap.size + 1 + 1 < w1.heap.size := (by have := hk1.size; first | omega | (simp at this; omega))) | (go_at_call 122; refine (RefArg_is ⟨pn, pw, va, vs, vc, sa, ss, pc_⟩ ⟨k0, nm, ak, an, as_⟩ _ (HR.out.nil (by repeat (first | exact kzr _ _ | assumption | refine kzd ?_ | refine kzn ?_ _ | refine kza ?_ _ | refine kzs ?_ (by assumption))))).mono ?_; rintro e w2 ⟨rfl, hk2⟩; rw [show argC _ _ = _ from HZ.out]))
   go_ret
   exact ⟨by rw [HN.out]; rfl, (by repeat (first | exact kzr _ _ | assumption | refine kzd ?_ | refine kzn ?_ _ | refine kza ?_ _ | refine kzs ?_ (by assumption)))⟩
  ·skip
   have fq10_0n : decide (4 < k0) = false := by first | (simp [hq10]; done) | (simp; omega) | (simp at hq10 ⊢; exact hq10) | exact hq10
   by_cases hq11 : ak < 0
   ·skip
    have fq11_0y : decide (ak < 0) = true := by first | (simp [hq11]; done) | (simp; omega) | (simp at hq11 ⊢; exact hq11) | exact hq11
    have HN := Lib.hid (show stepC ls ⟨pn, pw, va, vs, vc, sa, ss, pc_⟩ ⟨k0, nm, ak, an, as_⟩ = 21 by unfold stepC; simp only; simp [HX.out, HY.out, HZ.out, *])
    clear hq9 hq10 hq11
    go_enter Tryz.func97, Tryz.ntmps97
    go_wp2_with (first | (go_at_call 96; refine (RefVar_is _ nm _ (HR.out.nil (by repeat (first | exact kzr _ _ | assumption | refine kzd ?_ | refine kzn ?_ _ | refine kza ?_ _ | refine kzs ?_ (by assumption))))).mono ?_; rintro e w1 ⟨rfl, hk1⟩; rw [show varIx _ _ = _ from HX.out]; obtain ⟨hc1, hf1⟩ := hk1.rules; have hz1_0 : w.heap.size < w1.heap.size := (by have := hk1.size; first | omega | (simp at this; omega)); have hz1_1 : w.heap.size + 1 < w1.heap.size := (by have := hk1.size; first | omega | (simp at this; omega)); have hz1_2 : w.heap.size + 1 + 1 < w1.heap.size := (by have := hk1.size; first | omega | (simp at this; omega))) | (go_at_call 98; refine (RefLink_is _ nm _ (HM.out.nil (by repeat (first | exact kzr _ _ | assumption | refine kzd ?_ | refine kzn ?_ _ | refine kza ?_ _ | refine kzs ?_ (by assumption))))).mono ?_; rintro e w1 ⟨rfl, hk1⟩; rw [show findI _ _ = _ from HY.out]; obtain ⟨hc1, hf1⟩ := hk1.rules; have hz1_0 : w.heap.size < w1.heap.size := (by have := hk1.size; first | omega | (simp at this; omega)); have hz1_1 : w.heap.size + 1 < w1.heap.size := (by have := hk1.size; first | omega | (simp at this; omega)); have hz1_2 : w.heap.size + 1 + 1 < w1.heap.size := (by have := hk1.size; first | omega | (simp at this; omega))) | (go_at_call 122; refine (RefArg_is ⟨pn, pw, va, vs, vc, sa, ss, pc_⟩ ⟨k0, nm, ak, an, as_⟩ _ (HR.out.nil (by repeat (first | exact kzr _ _ | assumption | refine kzd ?_ | refine kzn ?_ _ | refine kza ?_ _ | refine kzs ?_ (by assumption))))).mono ?_; rintro e w2 ⟨rfl, hk2⟩; rw [show argC _ _ = _ from HZ.out]))
    go_ret
    exact ⟨by rw [HN.out]; rfl, (by repeat (first | exact kzr _ _ | assumption | refine kzd ?_ | refine kzn ?_ _ | refine kza ?_ _ | refine kzs ?_ (by assumption)))⟩
   ·skip
    have fq11_0n : decide (ak < 0) = false := by first | (simp [hq11]; done) | (simp; omega) | (simp at hq11 ⊢; exact hq11) | exact hq11
    by_cases hq12 : 2 < ak
    ·skip
     have fq12_0y : decide (2 < ak) = true := by first | (simp [hq12]; done) | (simp; omega) | (simp at hq12 ⊢; exact hq12) | exact hq12
     have HN := Lib.hid (show stepC ls ⟨pn, pw, va, vs, vc, sa, ss, pc_⟩ ⟨k0, nm, ak, an, as_⟩ = 21 by unfold stepC; simp only; simp [HX.out, HY.out, HZ.out, *])
     clear hq9 hq10 hq11 hq12
     go_enter Tryz.func97, Tryz.ntmps97
     go_wp2_with (first | (go_at_call 96; refine (RefVar_is _ nm _ (HR.out.nil (by repeat (first | exact kzr _ _ | assumption | refine kzd ?_ | refine kzn ?_ _ | refine kza ?_ _ | refine kzs ?_ (by assumption))))).mono ?_; rintro e w1 ⟨rfl, hk1⟩; rw [show varIx _ _ = _ from HX.out]; obtain ⟨hc1, hf1⟩ := hk1.rules; have hz1_0 : w.heap.size < w1.heap.size := (by have := hk1.size; first | omega | (simp at this; omega)); have hz1_1 : w.heap.size + 1 < w1.heap.size := (by have := hk1.size; first | omega | (simp at this; omega)); have hz1_2 : w.heap.size + 1 + 1 < w1.heap.size := (by have := hk1.size; first | omega | (simp at this; omega))) | (go_at_call 98; refine (RefLink_is _ nm _ (HM.out.nil (by repeat (first | exact kzr _ _ | assumption | refine kzd ?_ | refine kzn ?_ _ | refine kza ?_ _ | refine kzs ?_ (by assumption))))).mono ?_; rintro e w1 ⟨rfl, hk1⟩; rw [show findI _ _ = _ from HY.out]; obtain ⟨hc1, hf1⟩ := hk1.rules; have hz1_0 : w.heap.size < w1.heap.size := (by have := hk1.size; first | omega | (simp at this; omega)); have hz1_1 : w.heap.size + 1 < w1.heap.size := (by have := hk1.size; first | omega | (simp at this; omega)); have hz1_2 : w.heap.size + 1 + 1 < w1.heap.size := (by have := hk1.size; first | omega | (simp at this; omega))) | (go_at_call 122; refine (RefArg_is ⟨pn, pw, va, vs, vc, sa, ss, pc_⟩ ⟨k0, nm, ak, an, as_⟩ _ (HR.out.nil (by repeat (first | exact kzr _ _ | assumption | refine kzd ?_ | refine kzn ?_ _ | refine kza ?_ _ | refine kzs ?_ (by assumption))))).mono ?_; rintro e w2 ⟨rfl, hk2⟩; rw [show argC _ _ = _ from HZ.out]))
     go_ret
     exact ⟨by rw [HN.out]; rfl, (by repeat (first | exact kzr _ _ | assumption | refine kzd ?_ | refine kzn ?_ _ | refine kza ?_ _ | refine kzs ?_ (by assumption)))⟩
    ·skip
     have fq12_0n : decide (2 < ak) = false := by first | (simp [hq12]; done) | (simp; omega) | (simp at hq12 ⊢; exact hq12) | exact hq12
     by_cases hq13 : k0 = 4
     ·skip
      have fq13_0y : (k0 == 4) = true := by first | (simp [hq13]; done) | (simp; omega) | (simp at hq13 ⊢; exact hq13) | exact hq13
      by_cases hq14 : y < 0
      ·skip
       have fq14_0y : decide (y < 0) = true := by first | (simp [hq14]; done) | (simp; omega) | (simp at hq14 ⊢; exact hq14) | exact hq14
       have HN := Lib.hid (show stepC ls ⟨pn, pw, va, vs, vc, sa, ss, pc_⟩ ⟨k0, nm, ak, an, as_⟩ = 4 by unfold stepC; simp only; simp [HX.out, HY.out, HZ.out, *])
       clear hq9 hq10 hq11 hq12 hq13 hq14
       go_enter Tryz.func97, Tryz.ntmps97
       go_wp2_with (first | (go_at_call 96; refine (RefVar_is _ nm _ (HR.out.nil (by repeat (first | exact kzr _ _ | assumption | refine kzd ?_ | refine kzn ?_ _ | refine kza ?_ _ | refine kzs ?_ (by assumption))))).mono ?_; rintro e w1 ⟨rfl, hk1⟩; rw [show varIx _ _ = _ from HX.out]; obtain ⟨hc1, hf1⟩ := hk1.rules; have hz1_0 : w.heap.size < w1.heap.size := (by have := hk1.size; first | omega | (simp at this; omega)); have hz1_1 : w.heap.size + 1 < w1.heap.size := (by have := hk1.size; first | omega | (simp at this; omega)); have hz1_2 : w.heap.size + 1 + 1 < w1.heap.size := (by have := hk1.size; first | omega | (simp at this; omega))) | (go_at_call 98; refine (RefLink_is _ nm _ (HM.out.nil (by repeat (first | exact kzr _ _ | assumption | refine kzd ?_ | refine kzn ?_ _ | refine kza ?_ _ | refine kzs ?_ (by assumption))))).mono ?_; rintro e w1 ⟨rfl, hk1⟩; rw [show findI _ _ = _ from HY.out]; obtain ⟨hc1, hf1⟩ := hk1.rules; have hz1_0 : w.heap.size < w1.heap.size := (by have := hk1.size; first | omega | (simp at this; omega)); have hz1_1 : w.heap.size + 1 < w1.heap.size := (by have := hk1.size; first | omega | (simp at this; omega)); have hz1_2 : w.heap.size + 1 + 1 < w1.heap.size := (by have := hk1.size; first | omega | (simp at this; omega))) | (go_at_call 122; refine (RefArg_is ⟨pn, pw, va, vs, vc, sa, ss, pc_⟩ ⟨k0, nm, ak, an, as_⟩ _ (HR.out.nil (by repeat (first | exact kzr _ _ | assumption | refine kzd ?_ | refine kzn ?_ _ | refine kza ?_ _ | refine kzs ?_ (by assumption))))).mono ?_; rintro e w2 ⟨rfl, hk2⟩; rw [show argC _ _ = _ from HZ.out]))
       go_ret
       exact ⟨by rw [HN.out]; rfl, (by repeat (first | exact kzr _ _ | assumption | refine kzd ?_ | refine kzn ?_ _ | refine kza ?_ _ | refine kzs ?_ (by assumption)))⟩
      ·skip
       have fq14_0n : decide (y < 0) = false := by first | (simp [hq14]; done) | (simp; omega) | (simp at hq14 ⊢; exact hq14) | exact hq14
       obtain ⟨j, hj, hjl⟩ : ∃ j : Nat, y = j ∧ j < ls.length := by
        rcases HYN.out with h | ⟨j, h, hl⟩
        ·rw [HY.out] at h; omega
        ·exact ⟨j, HY.out.symm.trans h, by simpa using hl⟩
       subst hj
       obtain ⟨l, hl⟩ : ∃ l, ls[j]? = some l := ⟨_, List.getElem?_eq_getElem hjl⟩
       obtain ⟨b, off, rfl, c0, c1, c2, c3, c4⟩ := (HM.out.l).at hl
       have hbl : b < w.heap.size := World.block_lt_of_cell? _ _ c0
       have hjI : (j : Int) < (ls.length : Int) := by omega
       have hls := hl
       by_cases hq15 : l.src.toList = pn.toList
       ·skip
        have fq15_0y : (l.src.toList != pn.toList) = false := by first | (simp [hq15]; done) | (simp; omega) | (simp at hq15 ⊢; exact hq15) | exact hq15
        have fq15_1y : (l.src.toList == pn.toList) = true := by first | (simp [hq15]; done) | (simp; omega) | (simp at hq15 ⊢; exact hq15) | exact hq15
        have fq15_2y : decide (l.src.toList = pn.toList) = true := by first | (simp [hq15]; done) | (simp; omega) | (simp at hq15 ⊢; exact hq15) | exact hq15
        have HN := Lib.hid (show stepC ls ⟨pn, pw, va, vs, vc, sa, ss, pc_⟩ ⟨k0, nm, ak, an, as_⟩ = z by rw [stepC_own (by simp only; omega) (by simp only; omega) (by simp only; omega) HY.out hls]; simp only; rw [if_pos (by assumption)]; exact HZ.out)
        clear hq9 hq10 hq11 hq12 hq13 hq14 hl hls hq15
        go_enter Tryz.func97, Tryz.ntmps97
        go_wp2_with (first | (go_at_call 96; refine (RefVar_is _ nm _ (HR.out.nil (by repeat (first | exact kzr _ _ | assumption | refine kzd ?_ | refine kzn ?_ _ | refine kza ?_ _ | refine kzs ?_ (by assumption))))).mono ?_; rintro e w1 ⟨rfl, hk1⟩; rw [show varIx _ _ = _ from HX.out]; obtain ⟨hc1, hf1⟩ := hk1.rules; have hz1_0 : w.heap.size < w1.heap.size := (by have := hk1.size; first | omega | (simp at this; omega)); have hz1_1 : w.heap.size + 1 < w1.heap.size := (by have := hk1.size; first | omega | (simp at this; omega)); have hz1_2 : w.heap.size + 1 + 1 < w1.heap.size := (by have := hk1.size; first | omega | (simp at this; omega))) | (go_at_call 98; refine (RefLink_is _ nm _ (HM.out.nil (by repeat (first | exact kzr _ _ | assumption | refine kzd ?_ | refine kzn ?_ _ | refine kza ?_ _ | refine kzs ?_ (by assumption))))).mono ?_; rintro e w1 ⟨rfl, hk1⟩; rw [show findI _ _ = _ from HY.out]; obtain ⟨hc1, hf1⟩ := hk1.rules; have hz1_0 : w.heap.size < w1.heap.size := (by have := hk1.size; first | omega | (simp at this; omega)); have hz1_1 : w.heap.size + 1 < w1.heap.size := (by have := hk1.size; first | omega | (simp at this; omega)); have hz1_2 : w.heap.size + 1 + 1 < w1.heap.size := (by have := hk1.size; first | omega | (simp at this; omega))) | (go_at_call 122; refine (RefArg_is ⟨pn, pw, va, vs, vc, sa, ss, pc_⟩ ⟨k0, nm, ak, an, as_⟩ _ (HR.out.nil (by repeat (first | exact kzr _ _ | assumption | refine kzd ?_ | refine kzn ?_ _ | refine kza ?_ _ | refine kzs ?_ (by assumption))))).mono ?_; rintro e w2 ⟨rfl, hk2⟩; rw [show argC _ _ = _ from HZ.out]))
        have hkw : Kept Nil w w1 := (by repeat (first | exact kzr _ _ | assumption | refine kzd ?_ | refine kzn ?_ _ | refine kza ?_ _ | refine kzs ?_ (by assumption)))
        have qa := hk1.cell (p := ⟨w.heap.size, 2, none⟩) (v := .slice (some ⟨b, off, none⟩) ls.length lc) (by go_simp) (fun h => h)
        have qb := hk1.cell (p := ⟨w.heap.size + 1, 0, none⟩) (v := .string pn) (by go_simp) (fun h => h)
        have qc := hkw.cell c1 (fun h => h)
        go_big_quiet (fail)
        go_wp2_with (first | (go_at_call 96; refine (RefVar_is _ nm _ (HR.out.nil (by repeat (first | exact kzr _ _ | assumption | refine kzd ?_ | refine kzn ?_ _ | refine kza ?_ _ | refine kzs ?_ (by assumption))))).mono ?_; rintro e w1 ⟨rfl, hk1⟩; rw [show varIx _ _ = _ from HX.out]; obtain ⟨hc1, hf1⟩ := hk1.rules; have hz1_0 : w.heap.size < w1.heap.size := (by have := hk1.size; first | omega | (simp at this; omega)); have hz1_1 : w.heap.size + 1 < w1.heap.size := (by have := hk1.size; first | omega | (simp at this; omega)); have hz1_2 : w.heap.size + 1 + 1 < w1.heap.size := (by have := hk1.size; first | omega | (simp at this; omega))) | (go_at_call 98; refine (RefLink_is _ nm _ (HM.out.nil (by repeat (first | exact kzr _ _ | assumption | refine kzd ?_ | refine kzn ?_ _ | refine kza ?_ _ | refine kzs ?_ (by assumption))))).mono ?_; rintro e w1 ⟨rfl, hk1⟩; rw [show findI _ _ = _ from HY.out]; obtain ⟨hc1, hf1⟩ := hk1.rules; have hz1_0 : w.heap.size < w1.heap.size := (by have := hk1.size; first | omega | (simp at this; omega)); have hz1_1 : w.heap.size + 1 < w1.heap.size := (by have := hk1.size; first | omega | (simp at this; omega)); have hz1_2 : w.heap.size + 1 + 1 < w1.heap.size := (by have := hk1.size; first | omega | (simp at this; omega))) | (go_at_call 122; refine (RefArg_is ⟨pn, pw, va, vs, vc, sa, ss, pc_⟩ ⟨k0, nm, ak, an, as_⟩ _ (HR.out.nil (by repeat (first | exact kzr _ _ | assumption | refine kzd ?_ | refine kzn ?_ _ | refine kza ?_ _ | refine kzs ?_ (by assumption))))).mono ?_; rintro e w2 ⟨rfl, hk2⟩; rw [show argC _ _ = _ from HZ.out]))
        go_ret
        exact ⟨by rw [HN.out]; rfl, (by repeat (first | exact kzr _ _ | assumption | refine kzd ?_ | refine kzn ?_ _ | refine kza ?_ _ | refine kzs ?_ (by assumption)))⟩
       ·skip
        have fq15_0n : (l.src.toList != pn.toList) = true := by first | (simp [hq15]; done) | (simp; omega) | (simp at hq15 ⊢; exact hq15) | exact hq15
        have fq15_1n : (l.src.toList == pn.toList) = false := by first | (simp [hq15]; done) | (simp; omega) | (simp at hq15 ⊢; exact hq15) | exact hq15
        have fq15_2n : decide (l.src.toList = pn.toList) = false := by first | (simp [hq15]; done) | (simp; omega) | (simp at hq15 ⊢; exact hq15) | exact hq15
        have HN := Lib.hid (show stepC ls ⟨pn, pw, va, vs, vc, sa, ss, pc_⟩ ⟨k0, nm, ak, an, as_⟩ = 47 by rw [stepC_own (by simp only; omega) (by simp only; omega) (by simp only; omega) HY.out hls]; simp only; rw [if_neg (by assumption)])
        clear hq9 hq10 hq11 hq12 hq13 hq14 hl hls hq15
        go_enter Tryz.func97, Tryz.ntmps97
        go_wp2_with (first | (go_at_call 96; refine (RefVar_is _ nm _ (HR.out.nil (by repeat (first | exact kzr _ _ | assumption | refine kzd ?_ | refine kzn ?_ _ | refine kza ?_ _ | refine kzs ?_ (by assumption))))).mono ?_; rintro e w1 ⟨rfl, hk1⟩; rw [show varIx _ _ = _ from HX.out]; obtain ⟨hc1, hf1⟩ := hk1.rules; have hz1_0 : w.heap.size < w1.heap.size := (by have := hk1.size; first | omega | (simp at this; omega)); have hz1_1 : w.heap.size + 1 < w1.heap.size := (by have := hk1.size; first | omega | (simp at this; omega)); have hz1_2 : w.heap.size + 1 + 1 < w1.heap.size := (by have := hk1.size; first | omega | (simp at this; omega))) | (go_at_call 98; refine (RefLink_is _ nm _ (HM.out.nil (by repeat (first | exact kzr _ _ | assumption | refine kzd ?_ | refine kzn ?_ _ | refine kza ?_ _ | refine kzs ?_ (by assumption))))).mono ?_; rintro e w1 ⟨rfl, hk1⟩; rw [show findI _ _ = _ from HY.out]; obtain ⟨hc1, hf1⟩ := hk1.rules; have hz1_0 : w.heap.size < w1.heap.size := (by have := hk1.size; first | omega | (simp at this; omega)); have hz1_1 : w.heap.size + 1 < w1.heap.size := (by have := hk1.size; first | omega | (simp at this; omega)); have hz1_2 : w.heap.size + 1 + 1 < w1.heap.size := (by have := hk1.size; first | omega | (simp at this; omega))) | (go_at_call 122; refine (RefArg_is ⟨pn, pw, va, vs, vc, sa, ss, pc_⟩ ⟨k0, nm, ak, an, as_⟩ _ (HR.out.nil (by repeat (first | exact kzr _ _ | assumption | refine kzd ?_ | refine kzn ?_ _ | refine kza ?_ _ | refine kzs ?_ (by assumption))))).mono ?_; rintro e w2 ⟨rfl, hk2⟩; rw [show argC _ _ = _ from HZ.out]))
        have hkw : Kept Nil w w1 := (by repeat (first | exact kzr _ _ | assumption | refine kzd ?_ | refine kzn ?_ _ | refine kza ?_ _ | refine kzs ?_ (by assumption)))
        have qa := hk1.cell (p := ⟨w.heap.size, 2, none⟩) (v := .slice (some ⟨b, off, none⟩) ls.length lc) (by go_simp) (fun h => h)
        have qb := hk1.cell (p := ⟨w.heap.size + 1, 0, none⟩) (v := .string pn) (by go_simp) (fun h => h)
        have qc := hkw.cell c1 (fun h => h)
        go_big_quiet (fail)
        go_wp2_with (first | (go_at_call 96; refine (RefVar_is _ nm _ (HR.out.nil (by repeat (first | exact kzr _ _ | assumption | refine kzd ?_ | refine kzn ?_ _ | refine kza ?_ _ | refine kzs ?_ (by assumption))))).mono ?_; rintro e w1 ⟨rfl, hk1⟩; rw [show varIx _ _ = _ from HX.out]; obtain ⟨hc1, hf1⟩ := hk1.rules; have hz1_0 : w.heap.size < w1.heap.size := (by have := hk1.size; first | omega | (simp at this; omega)); have hz1_1 : w.heap.size + 1 < w1.heap.size := (by have := hk1.size; first | omega | (simp at this; omega)); have hz1_2 : w.heap.size + 1 + 1 < w1.heap.size := (by have := hk1.size; first | omega | (simp at this; omega))) | (go_at_call 98; refine (RefLink_is _ nm _ (HM.out.nil (by repeat (first | exact kzr _ _ | assumption | refine kzd ?_ | refine kzn ?_ _ | refine kza ?_ _ | refine kzs ?_ (by assumption))))).mono ?_; rintro e w1 ⟨rfl, hk1⟩; rw [show findI _ _ = _ from HY.out]; obtain ⟨hc1, hf1⟩ := hk1.rules; have hz1_0 : w.heap.size < w1.heap.size := (by have := hk1.size; first | omega | (simp at this; omega)); have hz1_1 : w.heap.size + 1 < w1.heap.size := (by have := hk1.size; first | omega | (simp at this; omega)); have hz1_2 : w.heap.size + 1 + 1 < w1.heap.size := (by have := hk1.size; first | omega | (simp at this; omega))) | (go_at_call 122; refine (RefArg_is ⟨pn, pw, va, vs, vc, sa, ss, pc_⟩ ⟨k0, nm, ak, an, as_⟩ _ (HR.out.nil (by repeat (first | exact kzr _ _ | assumption | refine kzd ?_ | refine kzn ?_ _ | refine kza ?_ _ | refine kzs ?_ (by assumption))))).mono ?_; rintro e w2 ⟨rfl, hk2⟩; rw [show argC _ _ = _ from HZ.out]))
        go_ret
        exact ⟨by rw [HN.out]; rfl, (by repeat (first | exact kzr _ _ | assumption | refine kzd ?_ | refine kzn ?_ _ | refine kza ?_ _ | refine kzs ?_ (by assumption)))⟩
     ·skip
      have fq13_0n : (k0 == 4) = false := by first | (simp [hq13]; done) | (simp; omega) | (simp at hq13 ⊢; exact hq13) | exact hq13
      by_cases hq16 : x < 0
      ·skip
       have fq16_0y : decide (x < 0) = true := by first | (simp [hq16]; done) | (simp; omega) | (simp at hq16 ⊢; exact hq16) | exact hq16
       have HN := Lib.hid (show stepC ls ⟨pn, pw, va, vs, vc, sa, ss, pc_⟩ ⟨k0, nm, ak, an, as_⟩ = 4 by unfold stepC; simp only; simp [HX.out, HY.out, HZ.out, *])
       clear hq9 hq10 hq11 hq12 hq13 hq16
       go_enter Tryz.func97, Tryz.ntmps97
       go_wp2_with (first | (go_at_call 96; refine (RefVar_is _ nm _ (HR.out.nil (by repeat (first | exact kzr _ _ | assumption | refine kzd ?_ | refine kzn ?_ _ | refine kza ?_ _ | refine kzs ?_ (by assumption))))).mono ?_; rintro e w1 ⟨rfl, hk1⟩; rw [show varIx _ _ = _ from HX.out]; obtain ⟨hc1, hf1⟩ := hk1.rules; have hz1_0 : w.heap.size < w1.heap.size := (by have := hk1.size; first | omega | (simp at this; omega)); have hz1_1 : w.heap.size + 1 < w1.heap.size := (by have := hk1.size; first | omega | (simp at this; omega)); have hz1_2 : w.heap.size + 1 + 1 < w1.heap.size := (by have := hk1.size; first | omega | (simp at this; omega))) | (go_at_call 98; refine (RefLink_is _ nm _ (HM.out.nil (by repeat (first | exact kzr _ _ | assumption | refine kzd ?_ | refine kzn ?_ _ | refine kza ?_ _ | refine kzs ?_ (by assumption))))).mono ?_; rintro e w1 ⟨rfl, hk1⟩; rw [show findI _ _ = _ from HY.out]; obtain ⟨hc1, hf1⟩ := hk1.rules; have hz1_0 : w.heap.size < w1.heap.size := (by have := hk1.size; first | omega | (simp at this; omega)); have hz1_1 : w.heap.size + 1 < w1.heap.size := (by have := hk1.size; first | omega | (simp at this; omega)); have hz1_2 : w.heap.size + 1 + 1 < w1.heap.size := (by have := hk1.size; first | omega | (simp at this; omega))) | (go_at_call 122; refine (RefArg_is ⟨pn, pw, va, vs, vc, sa, ss, pc_⟩ ⟨k0, nm, ak, an, as_⟩ _ (HR.out.nil (by repeat (first | exact kzr _ _ | assumption | refine kzd ?_ | refine kzn ?_ _ | refine kza ?_ _ | refine kzs ?_ (by assumption))))).mono ?_; rintro e w2 ⟨rfl, hk2⟩; rw [show argC _ _ = _ from HZ.out]))
       go_ret
       exact ⟨by rw [HN.out]; rfl, (by repeat (first | exact kzr _ _ | assumption | refine kzd ?_ | refine kzn ?_ _ | refine kza ?_ _ | refine kzs ?_ (by assumption)))⟩
      ·skip
       have fq16_0n : decide (x < 0) = false := by first | (simp [hq16]; done) | (simp; omega) | (simp at hq16 ⊢; exact hq16) | exact hq16
       have HN := Lib.hid (show stepC ls ⟨pn, pw, va, vs, vc, sa, ss, pc_⟩ ⟨k0, nm, ak, an, as_⟩ = z by unfold stepC; simp only; simp [HX.out, HY.out, HZ.out, *])
       clear hq9 hq10 hq11 hq12 hq13 hq16
       go_enter Tryz.func97, Tryz.ntmps97
       go_wp2_with (first | (go_at_call 96; refine (RefVar_is _ nm _ (HR.out.nil (by repeat (first | exact kzr _ _ | assumption | refine kzd ?_ | refine kzn ?_ _ | refine kza ?_ _ | refine kzs ?_ (by assumption))))).mono ?_; rintro e w1 ⟨rfl, hk1⟩; rw [show varIx _ _ = _ from HX.out]; obtain ⟨hc1, hf1⟩ := hk1.rules; have hz1_0 : w.heap.size < w1.heap.size := (by have := hk1.size; first | omega | (simp at this; omega)); have hz1_1 : w.heap.size + 1 < w1.heap.size := (by have := hk1.size; first | omega | (simp at this; omega)); have hz1_2 : w.heap.size + 1 + 1 < w1.heap.size := (by have := hk1.size; first | omega | (simp at this; omega))) | (go_at_call 98; refine (RefLink_is _ nm _ (HM.out.nil (by repeat (first | exact kzr _ _ | assumption | refine kzd ?_ | refine kzn ?_ _ | refine kza ?_ _ | refine kzs ?_ (by assumption))))).mono ?_; rintro e w1 ⟨rfl, hk1⟩; rw [show findI _ _ = _ from HY.out]; obtain ⟨hc1, hf1⟩ := hk1.rules; have hz1_0 : w.heap.size < w1.heap.size := (by have := hk1.size; first | omega | (simp at this; omega)); have hz1_1 : w.heap.size + 1 < w1.heap.size := (by have := hk1.size; first | omega | (simp at this; omega)); have hz1_2 : w.heap.size + 1 + 1 < w1.heap.size := (by have := hk1.size; first | omega | (simp at this; omega))) | (go_at_call 122; refine (RefArg_is ⟨pn, pw, va, vs, vc, sa, ss, pc_⟩ ⟨k0, nm, ak, an, as_⟩ _ (HR.out.nil (by repeat (first | exact kzr _ _ | assumption | refine kzd ?_ | refine kzn ?_ _ | refine kza ?_ _ | refine kzs ?_ (by assumption))))).mono ?_; rintro e w2 ⟨rfl, hk2⟩; rw [show argC _ _ = _ from HZ.out]))
       go_ret
       exact ⟨by rw [HN.out]; rfl, (by repeat (first | exact kzr _ _ | assumption | refine kzd ?_ | refine kzn ?_ _ | refine kza ?_ _ | refine kzs ?_ (by assumption)))⟩
end Go.Proofs.YtniocgnfgpaioaaGreat.Mo
