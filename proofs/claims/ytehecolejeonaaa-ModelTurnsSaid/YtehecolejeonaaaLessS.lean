/- What the check says of a right model without its events, its steps and links, or of version 1. -/
import Derived.Test.YtehecolejeonaaaModelAt
import Derived.Test.YtehecolejeonaaaModelRows
namespace Go.Proofs.Ytehecolejeonaaa.Mo
open Go Go.RowKit Go.Proofs.Ytehecolejeonaaa.Lb
set_option linter.unusedVariables false
set_option linter.unusedSimpArgs false
theorem Check_quiet {ver : Int} {pa : Option Addr} {ps : List Pr} {pc : Nat} {la : Option Addr} {ls : List Lk} {lc : Nat} {ea : Option Addr} {es : List Ev} {ec : Nat}  (w : World) (hm : RModel w ⟨ver, pa, ps, pc, la, ls, lc, ea, es, ec⟩) (hs : SzM ⟨ver, pa, ps, pc, la, ls, lc, ea, es, ec⟩) (hvl : ∀ p ∈ ps, p.vs.length ≤ 100000) (hr : MdRight ⟨ver, pa, ps, pc, la, ls, lc, ea, es, ec⟩)  : Calls Try.prog 11 #[.agg #[.int .i64 ver, .slice pa ps.length pc, .slice la ls.length lc, .slice none 0 0]] w fun e w' => e = .returned (.agg #[.int .i64 0, .int .i64 0]) ∧ Kept Nil w w' := by
  have h := CheckM_is ⟨ver, pa, ps, pc, la, ls, lc, none, [], 0⟩ w ⟨hm.p, hm.pp, hm.l, .inl rfl, hm.pl, hm.ll, by simp⟩ ⟨hs.p, hs.ln, hs.lsrc, hs.ldst, by simp⟩ hvl
  rw [(show MdRight ⟨ver, pa, ps, pc, la, ls, lc, none, [], 0⟩ from quiet_right hr).ok] at h
  unfold Md.val at h
  simp only [List.length_nil, List.length_map] at h
  exact h
theorem Check_older {ver : Int} {pa : Option Addr} {ps : List Pr} {pc : Nat} {la : Option Addr} {ls : List Lk} {lc : Nat} {ea : Option Addr} {es : List Ev} {ec : Nat}  (w : World) (hm : RModel w ⟨ver, pa, ps, pc, la, ls, lc, ea, es, ec⟩) (hs : SzM ⟨ver, pa, ps, pc, la, ls, lc, ea, es, ec⟩) (hvl : ∀ p ∈ ps, p.vs.length ≤ 100000) (hr : MdRight ⟨ver, pa, ps, pc, la, ls, lc, ea, es, ec⟩)  : Calls Try.prog 11 #[.agg #[.int .i64 1, .slice pa ps.length pc, .slice la ls.length lc, .slice ea es.length ec]] w fun e w' => e = .returned (.agg #[.int .i64 0, .int .i64 0]) ∧ Kept Nil w w' := by
  have h := CheckM_is ⟨1, pa, ps, pc, la, ls, lc, ea, es, ec⟩ w ⟨hm.p, hm.pp, hm.l, hm.e, hm.pl, hm.ll, hm.el⟩ ⟨hs.p, hs.ln, hs.lsrc, hs.ldst, hs.e⟩ hvl
  rw [(show MdRight ⟨1, pa, ps, pc, la, ls, lc, ea, es, ec⟩ from older_right hr).ok] at h
  unfold Md.val at h
  simp only [List.length_nil, List.length_map] at h
  exact h
theorem Check_bare {ver : Int} {pa : Option Addr} {ps : List Pr} {pc : Nat} {la : Option Addr} {ls : List Lk} {lc : Nat} {ea : Option Addr} {es : List Ev} {ec : Nat} (A : Option Addr) (cap : Nat) (w : World) (hm : RModel w ⟨ver, pa, ps, pc, la, ls, lc, ea, es, ec⟩) (hs : SzM ⟨ver, pa, ps, pc, la, ls, lc, ea, es, ec⟩) (hvl : ∀ p ∈ ps, p.vs.length ≤ 100000) (hr : MdRight ⟨ver, pa, ps, pc, la, ls, lc, ea, es, ec⟩) (hA : RProcs w A (ps.map noSteps)) : Calls Try.prog 11 #[.agg #[.int .i64 ver, .slice A ps.length cap, .slice none 0 0, .slice none 0 0]] w fun e w' => e = .returned (.agg #[.int .i64 0, .int .i64 0]) ∧ Kept Nil w w' := by
  have h := CheckM_is ⟨ver, A, ps.map noSteps, cap, none, [], 0, none, [], 0⟩ w ⟨hA, fun q hq => (by obtain ⟨p, hp, rfl⟩ := List.mem_map.1 hq; exact ⟨(hm.pp p hp).v, .inl rfl, (hm.pp p hp).vl, by simp [noSteps], by simp [noSteps]⟩), .inl rfl, .inl rfl, by simpa using hm.pl, by simp, by simp⟩ ⟨fun q hq => (by obtain ⟨p, hp, rfl⟩ := List.mem_map.1 hq; exact ⟨(hs.p p hp).n, (hs.p p hp).v, by simp [noSteps]⟩), by simp, by simp, by simp, by simp⟩ (fun q hq => (by obtain ⟨p, hp, rfl⟩ := List.mem_map.1 hq; exact hvl p hp))
  rw [(bare_right hr A cap).ok] at h
  unfold Md.val at h
  simp only [List.length_nil, List.length_map] at h
  exact h
end Go.Proofs.Ytehecolejeonaaa.Mo
