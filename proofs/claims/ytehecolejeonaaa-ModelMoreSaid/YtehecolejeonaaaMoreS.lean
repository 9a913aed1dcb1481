/- What the check and the search say of a right model with a process more. -/
import Derived.Test.YtehecolejeonaaaLessS
namespace Go.Proofs.Ytehecolejeonaaa.Mo
open Go Go.RowKit Go.Proofs.Ytehecolejeonaaa.Lb
set_option linter.unusedVariables false
set_option linter.unusedSimpArgs false
def newP (nm : ByteArray) : Pr := ⟨nm, 1, none, [], 0, none, [], 0⟩
theorem more_model {ver : Int} {pa : Option Addr} {ps : List Pr} {pc : Nat} {la : Option Addr} {ls : List Lk} {lc : Nat} {ea : Option Addr} {es : List Ev} {ec : Nat} (nm : ByteArray) (A : Option Addr) (cap : Nat) (w : World) (hm : RModel w ⟨ver, pa, ps, pc, la, ls, lc, ea, es, ec⟩) (hl : ps.length ≤ 12) (hA : RProcs w A (ps ++ [newP nm])) : RModel w (moreM ⟨ver, pa, ps, pc, la, ls, lc, ea, es, ec⟩ A cap nm) :=
  ⟨hA, fun q hq => by
    simp only [moreM, List.mem_append, List.mem_cons, List.not_mem_nil, or_false] at hq
    rcases hq with hq | rfl
    · exact hm.pp q hq
    · exact ⟨.inl rfl, .inl rfl, by simp, by simp, by simp⟩, hm.l, hm.e, by simp [moreM, maxLen]; omega, hm.ll, hm.el⟩
theorem more_sz {ver : Int} {pa : Option Addr} {ps : List Pr} {pc : Nat} {la : Option Addr} {ls : List Lk} {lc : Nat} {ea : Option Addr} {es : List Ev} {ec : Nat} (nm : ByteArray) (hn : nm.size ≤ maxLen) (A : Option Addr) (cap : Nat) (hs : SzM ⟨ver, pa, ps, pc, la, ls, lc, ea, es, ec⟩) : SzM (moreM ⟨ver, pa, ps, pc, la, ls, lc, ea, es, ec⟩ A cap nm) :=
  ⟨fun q hq => by
    simp only [moreM, List.mem_append, List.mem_cons, List.not_mem_nil, or_false] at hq
    rcases hq with hq | rfl
    · exact hs.p q hq
    · exact ⟨hn, by simp, by simp⟩, hs.ln, hs.lsrc, hs.ldst, hs.e⟩
theorem Check_fresh {ver : Int} {pa : Option Addr} {ps : List Pr} {pc : Nat} {la : Option Addr} {ls : List Lk} {lc : Nat} {ea : Option Addr} {es : List Ev} {ec : Nat} (nm : ByteArray) (hn : nm.size ≤ maxLen) (A : Option Addr) (cap : Nat) (w : World) (hm : RModel w ⟨ver, pa, ps, pc, la, ls, lc, ea, es, ec⟩) (hs : SzM ⟨ver, pa, ps, pc, la, ls, lc, ea, es, ec⟩) (hvl : ∀ p ∈ ps, p.vs.length ≤ 100000) (hl : ps.length ≤ 12) (hA : RProcs w A (ps ++ [newP nm])) (hr : MdRight ⟨ver, pa, ps, pc, la, ls, lc, ea, es, ec⟩) (e0 : nm = freshOne) (hf : findI (ps.map Pr.name) freshOne < 0) : Calls Try.prog 11 #[.agg #[.int .i64 ver, .slice A (ps.length + 1) cap, .slice la ls.length lc, .slice ea es.length ec]] w fun e w' => e = .returned (.agg #[.int .i64 0, .int .i64 0]) ∧ Kept Nil w w' := by
  have h := CheckM_is (moreM ⟨ver, pa, ps, pc, la, ls, lc, ea, es, ec⟩ A cap nm) w (more_model nm A cap w hm hl hA) (more_sz nm hn A cap hs) (fun q hq => by
    simp only [moreM, List.mem_append, List.mem_cons, List.not_mem_nil, or_false] at hq
    rcases hq with hq | rfl
    · exact hvl q hq
    · simp)
  rw [e0, more_fresh hr hl A cap hf] at h
  unfold Md.val at h
  simp only [moreM, List.length_append, List.length_cons, List.length_nil] at h
  exact h
theorem Check_twice {ver : Int} {pa : Option Addr} {ps : List Pr} {pc : Nat} {la : Option Addr} {ls : List Lk} {lc : Nat} {ea : Option Addr} {es : List Ev} {ec : Nat} (nm : ByteArray) (hn : nm.size ≤ maxLen) (A : Option Addr) (cap : Nat) (w : World) (hm : RModel w ⟨ver, pa, ps, pc, la, ls, lc, ea, es, ec⟩) (hs : SzM ⟨ver, pa, ps, pc, la, ls, lc, ea, es, ec⟩) (hvl : ∀ p ∈ ps, p.vs.length ≤ 100000) (hl : ps.length ≤ 12) (hA : RProcs w A (ps ++ [newP nm])) (hr : MdRight ⟨ver, pa, ps, pc, la, ls, lc, ea, es, ec⟩) (k : Nat) (p : Pr) (hk : ps[k]? = some p) (e0 : nm = p.name) (c : Int) (hc : (ps.length : Int) + 1 = c) : Calls Try.prog 11 #[.agg #[.int .i64 ver, .slice A (ps.length + 1) cap, .slice la ls.length lc, .slice ea es.length ec]] w fun e w' => e = .returned (.agg #[.int .i64 5, .int .i64 c]) ∧ Kept Nil w w' := by
  have h := CheckM_is (moreM ⟨ver, pa, ps, pc, la, ls, lc, ea, es, ec⟩ A cap nm) w (more_model nm A cap w hm hl hA) (more_sz nm hn A cap hs) (fun q hq => by
    simp only [moreM, List.mem_append, List.mem_cons, List.not_mem_nil, or_false] at hq
    rcases hq with hq | rfl
    · exact hvl q hq
    · simp)
  rw [e0, (more_twice hr hl A cap hk).1, hc] at h
  unfold Md.val at h
  simp only [moreM, List.length_append, List.length_cons, List.length_nil] at h
  exact h
theorem Proc_fresh {ver : Int} {pa : Option Addr} {ps : List Pr} {pc : Nat} {la : Option Addr} {ls : List Lk} {lc : Nat} {ea : Option Addr} {es : List Ev} {ec : Nat} (f : Int) (w : World) (hm : RModel w ⟨ver, pa, ps, pc, la, ls, lc, ea, es, ec⟩) (hf : findI (ps.map Pr.name) freshOne = f) : Calls Try.prog 16 #[.agg #[.int .i64 ver, .slice pa ps.length pc, .slice la ls.length lc, .slice ea es.length ec], .string ⟨#[102, 114, 101, 115, 104, 95, 111, 110, 101]⟩] w fun e w' => e = .returned (.int .i64 f) ∧ Kept Nil w w' := by
  have h := Proc_is ⟨ver, pa, ps, pc, la, ls, lc, ea, es, ec⟩ freshOne w hm
  rw [hf] at h
  exact h
theorem Proc_twice {ver : Int} {pa : Option Addr} {ps : List Pr} {pc : Nat} {la : Option Addr} {ls : List Lk} {lc : Nat} {ea : Option Addr} {es : List Ev} {ec : Nat} (nm : ByteArray) (A : Option Addr) (cap : Nat) (w : World) (hm : RModel w ⟨ver, pa, ps, pc, la, ls, lc, ea, es, ec⟩) (hl : ps.length ≤ 12) (hA : RProcs w A (ps ++ [newP nm])) (hr : MdRight ⟨ver, pa, ps, pc, la, ls, lc, ea, es, ec⟩) (k : Nat) (p : Pr) (hk : ps[k]? = some p) (e0 : nm = p.name) :
    Calls Try.prog 16 #[.agg #[.int .i64 ver, .slice A (ps.length + 1) cap, .slice la ls.length lc, .slice ea es.length ec], .string nm] w fun e w' => e = .returned (.int .i64 (k : Int)) ∧ Kept Nil w w' := by
  have h := Proc_is (moreM ⟨ver, pa, ps, pc, la, ls, lc, ea, es, ec⟩ A cap nm) nm w (more_model nm A cap w hm hl hA)
  have h9 := (more_twice hr hl A cap hk).2
  rw [← e0] at h9
  rw [h9] at h
  unfold Md.val at h
  simp only [moreM, List.length_append, List.length_cons, List.length_nil] at h
  exact h
end Go.Proofs.Ytehecolejeonaaa.Mo
