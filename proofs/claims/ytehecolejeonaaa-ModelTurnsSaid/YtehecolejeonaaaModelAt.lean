/- The contracts of models, over a model's four parts. -/
import Derived.Test.YtehecolejeonaaaModelAlive
import Derived.Test.YtehecolejeonaaaFew
import Derived.Test.YtehecolejeonaaaMdP
import Derived.Test.YtehecolejeonaaaRef05T
import Derived.Test.YtehecolejeonaaaMask
namespace Go.Proofs.Ytehecolejeonaaa.Mo
open Go Go.RowKit Go.Proofs.Ytehecolejeonaaa.Lb
set_option linter.unusedVariables false
set_option linter.unusedSimpArgs false

theorem names_876 {m : Md} (h1 : m.ps.length ≤ 12) (h2 : m.ls.length ≤ 24) (h3 : ∀ q ∈ m.ps, q.vs.length ≤ 70) : (mdNames m).length ≤ 876 := by
  unfold mdNames
  rw [List.length_append, List.length_map, List.length_flatMap]
  have hf : (fun a => (prNames a).length) = (fun a : Pr => a.vs.length + 1) := by funext a; simp [prNames]
  rw [hf]
  have : (m.ps.map (fun a : Pr => a.vs.length + 1)).sum ≤ m.ps.length * 71 := by
    have h3' := h3
    generalize m.ps = l at *
    clear h1 h2 hf
    induction l with
    | nil => simp
    | cons p l ih =>
      have := ih (fun q hq => h3 q (List.mem_cons_of_mem _ hq)) (fun q hq => h3 q (List.mem_cons_of_mem _ hq))
      have := h3 p (List.mem_cons_self ..)
      simp only [List.map_cons, List.sum_cons, List.length_cons]
      omega
  omega
theorem Few_at {ver : Int} {pa : Option Addr} {ps : List Pr} {pc : Nat} {la : Option Addr} {ls : List Lk} {lc : Nat} {ea : Option Addr} {es : List Ev} {ec : Nat}  (w : World) (hm : RModel w ⟨ver, pa, ps, pc, la, ls, lc, ea, es, ec⟩)  : Calls Try.prog 9 #[.agg #[.int .i64 ver, .slice pa ps.length pc, .slice la ls.length lc, .slice ea es.length ec]] w fun e w' => FewEnd ⟨ver, pa, ps, pc, la, ls, lc, ea, es, ec⟩ w e w' := Few_is ⟨ver, pa, ps, pc, la, ls, lc, ea, es, ec⟩ w hm
theorem Check_at {ver : Int} {pa : Option Addr} {ps : List Pr} {pc : Nat} {la : Option Addr} {ls : List Lk} {lc : Nat} {ea : Option Addr} {es : List Ev} {ec : Nat}  (w : World) (hm : RModel w ⟨ver, pa, ps, pc, la, ls, lc, ea, es, ec⟩) (hs : SzM ⟨ver, pa, ps, pc, la, ls, lc, ea, es, ec⟩) (hvl : ∀ p ∈ ps, p.vs.length ≤ 100000) : Calls Try.prog 11 #[.agg #[.int .i64 ver, .slice pa ps.length pc, .slice la ls.length lc, .slice ea es.length ec]] w fun e w' => e = .returned (.agg #[.int .i64 (mdCheck ⟨ver, pa, ps, pc, la, ls, lc, ea, es, ec⟩).1, .int .i64 (mdCheck ⟨ver, pa, ps, pc, la, ls, lc, ea, es, ec⟩).2]) ∧ Kept Nil w w' := CheckM_is ⟨ver, pa, ps, pc, la, ls, lc, ea, es, ec⟩ w hm hs hvl
theorem RefCheck_at {ver : Int} {pa : Option Addr} {ps : List Pr} {pc : Nat} {la : Option Addr} {ls : List Lk} {lc : Nat} {ea : Option Addr} {es : List Ev} {ec : Nat}  (w : World) (hm : RModel w ⟨ver, pa, ps, pc, la, ls, lc, ea, es, ec⟩) (hs : SzM ⟨ver, pa, ps, pc, la, ls, lc, ea, es, ec⟩) : Calls Try.prog 10 #[.agg #[.int .i64 ver, .slice pa ps.length pc, .slice la ls.length lc, .slice ea es.length ec]] w fun e w' => e = .returned (.tuple #[.int .i64 (mdCheck ⟨ver, pa, ps, pc, la, ls, lc, ea, es, ec⟩).1, .int .i64 (mdCheck ⟨ver, pa, ps, pc, la, ls, lc, ea, es, ec⟩).2]) ∧ Kept Nil w w' := RefCheckM_is ⟨ver, pa, ps, pc, la, ls, lc, ea, es, ec⟩ w hm hs
theorem Proc_at {ver : Int} {pa : Option Addr} {ps : List Pr} {pc : Nat} {la : Option Addr} {ls : List Lk} {lc : Nat} {ea : Option Addr} {es : List Ev} {ec : Nat} (s : ByteArray) (w : World) (hm : RModel w ⟨ver, pa, ps, pc, la, ls, lc, ea, es, ec⟩)  : Calls Try.prog 16 #[.agg #[.int .i64 ver, .slice pa ps.length pc, .slice la ls.length lc, .slice ea es.length ec], .string s] w fun e w' => e = .returned (.int .i64 (findI (ps.map Pr.name) s)) ∧ Kept Nil w w' := Proc_is ⟨ver, pa, ps, pc, la, ls, lc, ea, es, ec⟩ s w hm
theorem RefProcM_at {ver : Int} {pa : Option Addr} {ps : List Pr} {pc : Nat} {la : Option Addr} {ls : List Lk} {lc : Nat} {ea : Option Addr} {es : List Ev} {ec : Nat} (s : ByteArray) (w : World) (hm : RModel w ⟨ver, pa, ps, pc, la, ls, lc, ea, es, ec⟩)  : Calls Try.prog 17 #[.agg #[.int .i64 ver, .slice pa ps.length pc, .slice la ls.length lc, .slice ea es.length ec], .string s] w fun e w' => e = .returned (.int .i64 (findI (ps.map Pr.name) s)) ∧ Kept Nil w w' := RefProc_is ⟨ver, pa, ps, pc, la, ls, lc, ea, es, ec⟩ s w hm
theorem Link_at {ver : Int} {pa : Option Addr} {ps : List Pr} {pc : Nat} {la : Option Addr} {ls : List Lk} {lc : Nat} {ea : Option Addr} {es : List Ev} {ec : Nat} (s : ByteArray) (w : World) (hm : RModel w ⟨ver, pa, ps, pc, la, ls, lc, ea, es, ec⟩)  : Calls Try.prog 18 #[.agg #[.int .i64 ver, .slice pa ps.length pc, .slice la ls.length lc, .slice ea es.length ec], .string s] w fun e w' => e = .returned (.int .i64 (findI (ls.map Lk.name) s)) ∧ Kept Nil w w' := Link_is ⟨ver, pa, ps, pc, la, ls, lc, ea, es, ec⟩ s w hm
theorem RefLinkM_at {ver : Int} {pa : Option Addr} {ps : List Pr} {pc : Nat} {la : Option Addr} {ls : List Lk} {lc : Nat} {ea : Option Addr} {es : List Ev} {ec : Nat} (s : ByteArray) (w : World) (hm : RModel w ⟨ver, pa, ps, pc, la, ls, lc, ea, es, ec⟩)  : Calls Try.prog 19 #[.agg #[.int .i64 ver, .slice pa ps.length pc, .slice la ls.length lc, .slice ea es.length ec], .string s] w fun e w' => e = .returned (.int .i64 (findI (ls.map Lk.name) s)) ∧ Kept Nil w w' := RefLink_is ⟨ver, pa, ps, pc, la, ls, lc, ea, es, ec⟩ s w hm
theorem RefNames_at {ver : Int} {pa : Option Addr} {ps : List Pr} {pc : Nat} {la : Option Addr} {ls : List Lk} {lc : Nat} {ea : Option Addr} {es : List Ev} {ec : Nat}  (w : World) (hm : RModel w ⟨ver, pa, ps, pc, la, ls, lc, ea, es, ec⟩) (hf : FewP ⟨ver, pa, ps, pc, la, ls, lc, ea, es, ec⟩) : Calls Try.prog 14 #[.agg #[.int .i64 ver, .slice pa ps.length pc, .slice la ls.length lc, .slice ea es.length ec]] w fun e w' => ∃ v, e = .returned v ∧ w'.ownsRow w.heap.size 9 1 v (mdNames ⟨ver, pa, ps, pc, la, ls, lc, ea, es, ec⟩).length ((mdNames ⟨ver, pa, ps, pc, la, ls, lc, ea, es, ec⟩).map Value.string) ∧ Kept Nil w w' := Names_is ⟨ver, pa, ps, pc, la, ls, lc, ea, es, ec⟩ w hm (Nat.le_trans (names_876 hf.pl hf.ll (fun q hq => (hf.vs q hq).1)) (by decide)) (Nat.le_trans hf.pl (by decide)) (Nat.le_trans hf.ll (by decide)) (fun q hq => Nat.le_trans (hf.vs q hq).1 (by decide))
theorem names_at {ver : Int} {pa : Option Addr} {ps : List Pr} {pc : Nat} {la : Option Addr} {ls : List Lk} {lc : Nat} {ea : Option Addr} {es : List Ev} {ec : Nat} (most : Int) (w : World) (hm : RModel w ⟨ver, pa, ps, pc, la, ls, lc, ea, es, ec⟩) (hf : FewP ⟨ver, pa, ps, pc, la, ls, lc, ea, es, ec⟩) : Calls Try.prog 21 #[.agg #[.int .i64 ver, .slice pa ps.length pc, .slice la ls.length lc, .slice ea es.length ec], .int .i64 most] w fun e w' => ∃ v, e = .returned v ∧ w'.ownsRow w.heap.size 9 1 v ((mdNames ⟨ver, pa, ps, pc, la, ls, lc, ea, es, ec⟩).take most.toNat).length (((mdNames ⟨ver, pa, ps, pc, la, ls, lc, ea, es, ec⟩).take most.toNat).map Value.string) ∧ Kept Nil w w' := names_is ⟨ver, pa, ps, pc, la, ls, lc, ea, es, ec⟩ most w hm (Nat.le_trans hf.pl (by decide)) (Nat.le_trans hf.ll (by decide)) (fun q hq => Nat.le_trans (hf.vs q hq).1 (by decide)) (Nat.le_trans (names_876 hf.pl hf.ll (fun q hq => (hf.vs q hq).1)) (by decide))
theorem Var_at {pn : ByteArray} {pw : Int} {va : Option Addr} {vs : List V} {vc : Nat} {sa : Option Addr} {ss : List S} {sc : Nat} (s : ByteArray) (w : World) (hr : RProc w ⟨pn, pw, va, vs, vc, sa, ss, sc⟩) : Calls Try.prog 12 #[.agg #[.string pn, .int .i64 pw, .slice va vs.length vc, .slice sa ss.length sc], .string s] w fun e w' => e = .returned (.int .i64 (varIx vs s)) ∧ Kept Nil w w' := Var_is ⟨pn, pw, va, vs, vc, sa, ss, sc⟩ s w hr
theorem RefVar_at {pn : ByteArray} {pw : Int} {va : Option Addr} {vs : List V} {vc : Nat} {sa : Option Addr} {ss : List S} {sc : Nat} (s : ByteArray) (w : World) (hr : RProc w ⟨pn, pw, va, vs, vc, sa, ss, sc⟩) : Calls Try.prog 13 #[.agg #[.string pn, .int .i64 pw, .slice va vs.length vc, .slice sa ss.length sc], .string s] w fun e w' => e = .returned (.int .i64 (varIx vs s)) ∧ Kept Nil w w' := RefVar_is ⟨pn, pw, va, vs, vc, sa, ss, sc⟩ s w hr
theorem Held_is (n lo hi : Int) (h : lo ≤ hi) (w : World) : Calls Try.prog 15 #[.int .i64 n, .int .i64 lo, .int .i64 hi] w fun e w' => e = .returned (.int .i64 (if hi < n then hi else if n < lo then lo else n)) ∧ w = w' := by
  obtain ⟨r, hr⟩ : ∃ r, (if hi < n then hi else if n < lo then lo else n) = r := ⟨_, rfl⟩
  rw [hr]
  have HR := Lib.hid hr
  clear hr
  by_cases hq1 : hi < n
  · skip
    have fq1_0y : decide (hi < n) = true := by first | (simp [hq1]; done) | (simp; omega) | (simp at hq1 ⊢; exact hq1) | exact hq1
    have fq1_1y : decide (hi < lo) = false := by first | (simp [hq1]; done) | (simp; omega) | (simp at hq1 ⊢; exact hq1) | exact hq1
    have HN := Lib.hid (show r = hi by (rw [← HR.out]; simp [*]))
    clear hq1
    go_enter Try.func15, Try.ntmps15
    go_wp2_with fail
    go_ret
    exact ⟨by rw [HN.out]; rfl, rfl⟩
  · skip
    have fq1_0n : decide (hi < n) = false := by first | (simp [hq1]; done) | (simp; omega) | (simp at hq1 ⊢; exact hq1) | exact hq1
    by_cases hq2 : n < lo
    · skip
      have fq2_0y : decide (n < lo) = true := by first | (simp [hq2]; done) | (simp; omega) | (simp at hq2 ⊢; exact hq2) | exact hq2
      have HN := Lib.hid (show r = lo by (rw [← HR.out]; simp [*]))
      clear hq1 hq2
      go_enter Try.func15, Try.ntmps15
      go_wp2_with fail
      go_ret
      exact ⟨by rw [HN.out]; rfl, rfl⟩
    · skip
      have fq2_0n : decide (n < lo) = false := by first | (simp [hq2]; done) | (simp; omega) | (simp at hq2 ⊢; exact hq2) | exact hq2
      have HN := Lib.hid (show r = n by (rw [← HR.out]; simp [*]))
      clear hq1 hq2
      go_enter Try.func15, Try.ntmps15
      go_wp2_with fail
      go_ret
      exact ⟨by rw [HN.out]; rfl, rfl⟩
end Go.Proofs.Ytehecolejeonaaa.Mo
