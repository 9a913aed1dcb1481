/- A process that came in, opened. -/
import Derived.Test.YtnohhpinigkccaaVar
import Derived.Test.YtnohhpinigkccaaStruct
namespace Go.Proofs.Ytnohhpinigkccaa.Mo
open Go Go.RowKit Go.ChangeShapes Go.WideShapes Go.Proofs.Ytnohhpinigkccaa.Ro Go.Proofs.Ytnohhpinigkccaa.Lb
set_option linter.unusedVariables false
section
variable {H : Type} {enc : TypeId × Value → H} {w : World} {base : Nat} {spare : Nat → Bool} {held : Bool}
theorem var_open {fuel : Nat} {cs : List Value} {x : DataW H × List MemPlace} (h : DataW.trod enc Try.prog w base spare held fuel 49 cs = some x) :
    ∃ v : V, cs[0]? = some (.string v.name) ∧ cs[1]? = some (.int .i64 v.init) := by
  obtain ⟨n, hf⟩ := field_at Try.underlying49 h
  obtain ⟨y0, h0⟩ := hf 0 _ rfl
  obtain ⟨y1, h1⟩ := hf 1 _ rfl
  obtain ⟨a0, e0, _⟩ := str_at (o := 0) Try.underlying9 (by kernel_rfl) h0
  obtain ⟨a1, e1, _⟩ := int_at (o := 1) Try.underlying2 (by kernel_rfl) h1
  exact ⟨⟨a0, a1⟩, e0, e1⟩
theorem vars_open {fuel : Nat} {cs : List Value} {x : DataW H × List MemPlace} (h : DataW.trod enc Try.prog w base spare held fuel 22 cs = some x) :
    ∃ (A : Option Addr) (cap : Nat) (vs : List V), cs = [.slice A vs.length cap] ∧ vs.length ≤ maxLen ∧ RVars w A vs := by
  have hC : Try.prog.cellsOf 49 = 2 := by kernel_rfl
  rcases rows_open Try.underlying22 (by rw [hC]; omega) h with h0 | ⟨a, len, cap, e, hm, h0⟩
  · exact ⟨none, 0, [], h0, by simp [maxLen], .inl rfl⟩
  · rcases h0 with rfl | ⟨b, off, rfl, hi⟩
    · exact ⟨some a, cap, [], e, hm, .inl rfl⟩
    · rw [hC] at hi
      obtain ⟨vs, hl, hp⟩ := list_of (α := V) (p := fun i o => w.cell? ⟨b, off + i * 2, none⟩ = some (.string o.name) ∧ w.cell? ⟨b, off + i * 2 + 1, none⟩ = some (.int .i64 o.init)) len (fun i hil => by
        obtain ⟨es, n, y, hes, hc, ht⟩ := hi i hil
        obtain ⟨o, e0, e1⟩ := var_open ht
        exact ⟨o, by have := hc 0 (by omega); rw [e0] at this; exact this, by have := hc 1 (by omega); rw [e1] at this; exact this⟩)
      subst hl
      exact ⟨_, cap, vs, e, hm, .inr ⟨b, off, rfl, hp⟩⟩
theorem take_drop_at {cs : List Value} {o n j : Nat} (hj : j < n) : ((cs.drop o).take n)[j]? = cs[o + j]? := by
  rw [List.getElem?_take_of_lt hj, List.getElem?_drop]
theorem step_open {fuel : Nat} {cs : List Value} {x : DataW H × List MemPlace} (h : DataW.trod enc Try.prog w base spare held fuel 47 cs = some x) :
    ∃ s : S, (cs[0]? = some (.int .i64 s.kind) ∧ cs[1]? = some (.string s.name) ∧ cs[2]? = some (.int .i64 s.ak) ∧ cs[3]? = some (.int .i64 s.an) ∧ cs[4]? = some (.string s.as_)) ∧ Sc.I64 s.an ∧ s.name.size ≤ maxLen := by
  obtain ⟨n, hf⟩ := field_at Try.underlying47 h
  obtain ⟨y0, h0⟩ := hf 0 _ rfl
  obtain ⟨y1, h1⟩ := hf 1 _ rfl
  obtain ⟨y2, h2⟩ := hf 2 _ rfl
  obtain ⟨a0, e0, _⟩ := int_at (o := 0) Try.underlying3 (by kernel_rfl) h0
  obtain ⟨a1, e1, hz1⟩ := str_at (o := 1) Try.underlying9 (by kernel_rfl) h1
  have hC : Try.prog.cellsOf 45 = 3 := by kernel_rfl
  have h2' : DataW.trod enc Try.prog w base spare held n 45 ((cs.drop 2).take (Try.prog.cellsOf 45)) = some y2 := h2
  rw [hC] at h2'
  obtain ⟨n', hg⟩ := field_at Try.underlying45 h2'
  obtain ⟨z0, g0⟩ := hg 0 _ rfl
  obtain ⟨z1, g1⟩ := hg 1 _ rfl
  obtain ⟨z2, g2⟩ := hg 2 _ rfl
  obtain ⟨b0, f0, _⟩ := int_at (o := 0) Try.underlying3 (by kernel_rfl) g0
  obtain ⟨b1, f1, hw1⟩ := int_at (o := 1) Try.underlying2 (by kernel_rfl) g1
  obtain ⟨b2, f2, _⟩ := str_at (o := 2) Try.underlying9 (by kernel_rfl) g2
  rw [take_drop_at (by omega)] at f0 f1 f2
  exact ⟨⟨a0, a1, b0, b1, b2⟩, ⟨e0, e1, f0, f1, f2⟩, Sc.I64.of_wf hw1, hz1⟩
theorem steps_open {fuel : Nat} {cs : List Value} {x : DataW H × List MemPlace} (h : DataW.trod enc Try.prog w base spare held fuel 23 cs = some x) :
    ∃ (A : Option Addr) (cap : Nat) (ss : List S), cs = [.slice A ss.length cap] ∧ ss.length ≤ maxLen ∧ RSteps w A ss ∧ ∀ s ∈ ss, Sc.I64 s.an ∧ s.name.size ≤ maxLen := by
  have hC : Try.prog.cellsOf 47 = 5 := by kernel_rfl
  rcases rows_open Try.underlying23 (by rw [hC]; omega) h with h0 | ⟨a, len, cap, e, hm, h0⟩
  · exact ⟨none, 0, [], h0, by simp [maxLen], .inl rfl, by simp⟩
  · rcases h0 with rfl | ⟨b, off, rfl, hi⟩
    · exact ⟨some a, cap, [], e, hm, .inl rfl, by simp⟩
    · rw [hC] at hi
      obtain ⟨ss, hl, hp⟩ := list_of (α := S) (p := fun i s => (w.cell? ⟨b, off + i * 5, none⟩ = some (.int .i64 s.kind) ∧ w.cell? ⟨b, off + i * 5 + 1, none⟩ = some (.string s.name) ∧
          w.cell? ⟨b, off + i * 5 + 2, none⟩ = some (.int .i64 s.ak) ∧ w.cell? ⟨b, off + i * 5 + 3, none⟩ = some (.int .i64 s.an) ∧ w.cell? ⟨b, off + i * 5 + 4, none⟩ = some (.string s.as_)) ∧ Sc.I64 s.an ∧ s.name.size ≤ maxLen) len (fun i hil => by
        obtain ⟨es, n, y, hes, hc, ht⟩ := hi i hil
        obtain ⟨o, ⟨e0, e1, e2, e3, e4⟩, hw⟩ := step_open ht
        exact ⟨o, ⟨by have := hc 0 (by omega); rw [e0] at this; exact this, by have := hc 1 (by omega); rw [e1] at this; exact this, by have := hc 2 (by omega); rw [e2] at this; exact this, by have := hc 3 (by omega); rw [e3] at this; exact this, by have := hc 4 (by omega); rw [e4] at this; exact this⟩, hw⟩)
      subst hl
      refine ⟨_, cap, ss, e, hm, .inr ⟨b, off, rfl, fun j s hj => (hp j s hj).1⟩, fun s hs => ?_⟩
      obtain ⟨j, hj, rfl⟩ := List.mem_iff_getElem.1 hs
      exact (hp j _ (List.getElem?_eq_getElem hj)).2
theorem slice_cap {t e : TypeId} {fuel n cap : Nat} {A : Option Addr} {x : DataW H × List MemPlace} (ht : Try.prog.underlying t = some (.slice e)) (h : DataW.trod enc Try.prog w base spare held fuel t [.slice A n cap] = some x) : n ≤ cap := by
  rcases Go.Deep.open_slice ht h with ⟨h0, _⟩ | ⟨a, len, cap', m, n', D, Pl, hcs, hb, hl, hm, _⟩
  · simp at h0; omega
  · simp at hcs; omega
theorem proc_open {fuel : Nat} {cs : List Value} {x : DataW H × List MemPlace} (h : DataW.trod enc Try.prog w base spare held fuel 25 cs = some x) :
    ∃ p : Pr, cs = [.string p.name, .int .i64 p.weight, .slice p.va p.vs.length p.vc, .slice p.sa p.ss.length p.sc] ∧ RProc w p ∧ (∀ s ∈ p.ss, s.name.size ≤ maxLen) := by
  have hlen : cs.length = 4 := by
    obtain ⟨_, _, _, _, hl, _⟩ := DataW.trod_struct Try.underlying25 h
    rw [hl]; kernel_rfl
  obtain ⟨n, hf⟩ := field_at Try.underlying25 h
  obtain ⟨y0, h0⟩ := hf 0 _ rfl
  obtain ⟨y1, h1⟩ := hf 1 _ rfl
  obtain ⟨y2, h2⟩ := hf 2 _ rfl
  obtain ⟨y3, h3⟩ := hf 3 _ rfl
  obtain ⟨a0, e0, _⟩ := str_at (o := 0) Try.underlying9 (by kernel_rfl) h0
  obtain ⟨a1, e1, _⟩ := int_at (o := 1) Try.underlying2 (by kernel_rfl) h1
  have h2' : DataW.trod enc Try.prog w base spare held n 22 ((cs.drop 2).take (Try.prog.cellsOf 22)) = some y2 := h2
  rw [show Try.prog.cellsOf 22 = 1 by kernel_rfl] at h2'
  obtain ⟨va, vc, vs, c2, hvl, hv⟩ := vars_open h2'
  have h3' : DataW.trod enc Try.prog w base spare held n 23 ((cs.drop 3).take (Try.prog.cellsOf 23)) = some y3 := h3
  rw [show Try.prog.cellsOf 23 = 1 by kernel_rfl] at h3'
  obtain ⟨sa, pc_, ss, c3, hsl, hs, hss⟩ := steps_open h3'
  have e2 := cell_one c2
  have e3 := cell_one c3
  refine ⟨⟨a0, a1, va, vs, vc, sa, ss, pc_⟩, ?_, ⟨hv, hs, hvl, hsl, fun s h => (hss s h).1⟩, fun s h => (hss s h).2⟩
  match cs, hlen with
  | [q0, q1, q2, q3], _ =>
    simp at e0 e1 e2 e3
    rw [e0, e1, e2, e3]
theorem proc_open2 {fuel : Nat} {cs : List Value} {x : DataW H × List MemPlace} (h : DataW.trod enc Try.prog w base spare held fuel 25 cs = some x) :
    ∃ p : Pr, cs = [.string p.name, .int .i64 p.weight, .slice p.va p.vs.length p.vc, .slice p.sa p.ss.length p.sc] ∧ RProc w p ∧ (∀ s ∈ p.ss, s.name.size ≤ maxLen) ∧ p.ss.length ≤ p.sc := by
  have hlen : cs.length = 4 := by
    obtain ⟨_, _, _, _, hl, _⟩ := DataW.trod_struct Try.underlying25 h
    rw [hl]; kernel_rfl
  obtain ⟨n, hf⟩ := field_at Try.underlying25 h
  obtain ⟨y0, h0⟩ := hf 0 _ rfl
  obtain ⟨y1, h1⟩ := hf 1 _ rfl
  obtain ⟨y2, h2⟩ := hf 2 _ rfl
  obtain ⟨y3, h3⟩ := hf 3 _ rfl
  obtain ⟨a0, e0, _⟩ := str_at (o := 0) Try.underlying9 (by kernel_rfl) h0
  obtain ⟨a1, e1, _⟩ := int_at (o := 1) Try.underlying2 (by kernel_rfl) h1
  have h2' : DataW.trod enc Try.prog w base spare held n 22 ((cs.drop 2).take (Try.prog.cellsOf 22)) = some y2 := h2
  rw [show Try.prog.cellsOf 22 = 1 by kernel_rfl] at h2'
  obtain ⟨va, vc, vs, c2, hvl, hv⟩ := vars_open h2'
  have h3' : DataW.trod enc Try.prog w base spare held n 23 ((cs.drop 3).take (Try.prog.cellsOf 23)) = some y3 := h3
  rw [show Try.prog.cellsOf 23 = 1 by kernel_rfl] at h3'
  obtain ⟨sa, pc_, ss, c3, hsl, hs, hss⟩ := steps_open h3'
  rw [c3] at h3'
  have hcap := slice_cap Try.underlying23 h3'
  have e2 := cell_one c2
  have e3 := cell_one c3
  refine ⟨⟨a0, a1, va, vs, vc, sa, ss, pc_⟩, ?_, ⟨hv, hs, hvl, hsl, fun s h => (hss s h).1⟩, fun s h => (hss s h).2, hcap⟩
  match cs, hlen with
  | [q0, q1, q2, q3], _ =>
    simp at e0 e1 e2 e3
    rw [e0, e1, e2, e3]
theorem slice_none {t e : TypeId} {fuel n cap : Nat} {A : Option Addr} {x : DataW H × List MemPlace} (ht : Try.prog.underlying t = some (.slice e)) (h : DataW.trod enc Try.prog w base spare held fuel t [.slice A n cap] = some x) : A = none → cap = 0 := by
  rcases Go.Deep.open_slice ht h with ⟨h0, _⟩ | ⟨a, len, cap', m, n', D, Pl, hcs, hb, hl, hm, _⟩
  · simp at h0; omega
  · simp at hcs; intro e; rw [e] at hcs; cases hcs.1
theorem proc_open3 {fuel : Nat} {cs : List Value} {x : DataW H × List MemPlace} (h : DataW.trod enc Try.prog w base spare held fuel 25 cs = some x) :
    ∃ p : Pr, cs = [.string p.name, .int .i64 p.weight, .slice p.va p.vs.length p.vc, .slice p.sa p.ss.length p.sc] ∧ RProc w p ∧ (∀ s ∈ p.ss, s.name.size ≤ maxLen) ∧ p.ss.length ≤ p.sc ∧ (p.sa = none → p.sc = 0) := by
  have hlen : cs.length = 4 := by
    obtain ⟨_, _, _, _, hl, _⟩ := DataW.trod_struct Try.underlying25 h
    rw [hl]; kernel_rfl
  obtain ⟨n, hf⟩ := field_at Try.underlying25 h
  obtain ⟨y0, h0⟩ := hf 0 _ rfl
  obtain ⟨y1, h1⟩ := hf 1 _ rfl
  obtain ⟨y2, h2⟩ := hf 2 _ rfl
  obtain ⟨y3, h3⟩ := hf 3 _ rfl
  obtain ⟨a0, e0, _⟩ := str_at (o := 0) Try.underlying9 (by kernel_rfl) h0
  obtain ⟨a1, e1, _⟩ := int_at (o := 1) Try.underlying2 (by kernel_rfl) h1
  have h2' : DataW.trod enc Try.prog w base spare held n 22 ((cs.drop 2).take (Try.prog.cellsOf 22)) = some y2 := h2
  rw [show Try.prog.cellsOf 22 = 1 by kernel_rfl] at h2'
  obtain ⟨va, vc, vs, c2, hvl, hv⟩ := vars_open h2'
  have h3' : DataW.trod enc Try.prog w base spare held n 23 ((cs.drop 3).take (Try.prog.cellsOf 23)) = some y3 := h3
  rw [show Try.prog.cellsOf 23 = 1 by kernel_rfl] at h3'
  obtain ⟨sa, pc_, ss, c3, hsl, hs, hss⟩ := steps_open h3'
  rw [c3] at h3'
  have hcap := slice_cap Try.underlying23 h3'
  have hnone := slice_none Try.underlying23 h3'
  have e2 := cell_one c2
  have e3 := cell_one c3
  refine ⟨⟨a0, a1, va, vs, vc, sa, ss, pc_⟩, ?_, ⟨hv, hs, hvl, hsl, fun s h => (hss s h).1⟩, fun s h => (hss s h).2, hcap, hnone⟩
  match cs, hlen with
  | [q0, q1, q2, q3], _ =>
    simp at e0 e1 e2 e3
    rw [e0, e1, e2, e3]
end
end Go.Proofs.Ytnohhpinigkccaa.Mo
