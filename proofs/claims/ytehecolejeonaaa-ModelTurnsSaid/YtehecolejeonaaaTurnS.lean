/- What the check says of a right model with one link, or one event, turned. -/
import Derived.Test.YtehecolejeonaaaLessS
import Derived.Test.YtehecolejeonaaaFaultEq
namespace Go.Proofs.Ytehecolejeonaaa.Mo
open Go Go.RowKit Go.Proofs.Ytehecolejeonaaa.Lb
set_option linter.unusedVariables false
set_option linter.unusedSimpArgs false
theorem mem_set_or {α : Type} {l : List α} {k : Nat} {a x : α} (h : x ∈ l.set k a) : x ∈ l ∨ x = a := List.mem_or_eq_of_mem_set h
theorem Check_ls {ver : Int} {pa : Option Addr} {ps : List Pr} {pc : Nat} {la : Option Addr} {ls : List Lk} {lc : Nat} {ea : Option Addr} {es : List Ev} {ec : Nat} {k : Nat} {l l' : Lk} (hk : ls[k]? = some l) (hn : l'.name = l.name) (h1 : l'.src = l.src) (h2 : l'.dst = l.dst) (A : Option Addr) (cap : Nat) (c1 c2 : Int) (w : World) (hm : RModel w ⟨ver, pa, ps, pc, la, ls, lc, ea, es, ec⟩) (hs : SzM ⟨ver, pa, ps, pc, la, ls, lc, ea, es, ec⟩) (hvl : ∀ p ∈ ps, p.vs.length ≤ 100000) (hA : RLinks w A (ls.set k l')) (hc : mdCheck ⟨ver, pa, ps, pc, A, ls.set k l', cap, ea, es, ec⟩ = (c1, c2)) :
    Calls Try.prog 11 #[.agg #[.int .i64 ver, .slice pa ps.length pc, .slice A ls.length cap, .slice ea es.length ec]] w fun e w' => e = .returned (.agg #[.int .i64 c1, .int .i64 c2]) ∧ Kept Nil w w' := by
  have hml := List.mem_of_getElem? hk
  have h := CheckM_is ⟨ver, pa, ps, pc, A, ls.set k l', cap, ea, es, ec⟩ w ⟨hm.p, hm.pp, hA, hm.e, hm.pl, by simpa using hm.ll, hm.el⟩ ⟨hs.p, fun x hx => ?_, fun x hx => ?_, fun x hx => ?_, hs.e⟩ hvl
  · rw [hc] at h
    unfold Md.val at h
    simp only [List.length_set] at h
    exact h
  · rcases mem_set_or hx with hx | rfl
    · exact hs.ln x hx
    · rw [hn]; exact hs.ln l hml
  · rcases mem_set_or hx with hx | rfl
    · exact hs.lsrc x hx
    · rw [h1]; exact hs.lsrc l hml
  · rcases mem_set_or hx with hx | rfl
    · exact hs.ldst x hx
    · rw [h2]; exact hs.ldst l hml
theorem Check_es {ver : Int} {pa : Option Addr} {ps : List Pr} {pc : Nat} {la : Option Addr} {ls : List Lk} {lc : Nat} {ea : Option Addr} {es : List Ev} {ec : Nat} {k : Nat} {e' : Ev} (he : e'.to.size ≤ maxLen) (A : Option Addr) (cap : Nat) (c1 c2 : Int) (w : World) (hm : RModel w ⟨ver, pa, ps, pc, la, ls, lc, ea, es, ec⟩) (hs : SzM ⟨ver, pa, ps, pc, la, ls, lc, ea, es, ec⟩) (hvl : ∀ p ∈ ps, p.vs.length ≤ 100000) (hA : REvents w A (es.set k e')) (hc : mdCheck ⟨ver, pa, ps, pc, la, ls, lc, A, es.set k e', cap⟩ = (c1, c2)) :
    Calls Try.prog 11 #[.agg #[.int .i64 ver, .slice pa ps.length pc, .slice la ls.length lc, .slice A es.length cap]] w fun e w' => e = .returned (.agg #[.int .i64 c1, .int .i64 c2]) ∧ Kept Nil w w' := by
  have h := CheckM_is ⟨ver, pa, ps, pc, la, ls, lc, A, es.set k e', cap⟩ w ⟨hm.p, hm.pp, hm.l, hA, hm.pl, hm.ll, by simpa using hm.el⟩ ⟨hs.p, hs.ln, hs.lsrc, hs.ldst, fun x hx => ?_⟩ hvl
  · rw [hc] at h
    unfold Md.val at h
    simp only [List.length_set] at h
    exact h
  · rcases mem_set_or hx with hx | rfl
    · exact hs.e x hx
    · exact he
end Go.Proofs.Ytehecolejeonaaa.Mo
