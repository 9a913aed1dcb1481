/- A model that came in, opened: how its parts lie, and their bounds. -/
import Derived.Test.YthgbahlkflmgiaaCheckP
import Derived.Test.YthgbahlkflmgiaaStruct
namespace Go.Proofs.Ythgbahlkflmgiaa.Mo
open Go Go.RowKit Go.ChangeShapes Go.WideShapes Go.Proofs.Ythgbahlkflmgiaa.Ro Go.Proofs.Ythgbahlkflmgiaa.Lb
set_option linter.unusedVariables false
set_option maxRecDepth 8000

/-- The bounds that each value of a type has. -/
structure OkV (v : V) : Prop where
  n : v.name.size ≤ maxLen
  i : Sc.I64 v.init
structure OkS (s : S) : Prop where
  k : Sc.I64 s.kind
  n : s.name.size ≤ maxLen
  ak : Sc.I64 s.ak
  an : Sc.I64 s.an
  as_ : s.as_.size ≤ maxLen
structure OkP (p : Pr) : Prop where
  n : p.name.size ≤ maxLen
  w : Sc.I64 p.weight
  v : ∀ v ∈ p.vs, OkV v
  s : ∀ s ∈ p.ss, OkS s
  vc : p.vs.length ≤ p.vc
  vn : p.va = none → p.vc = 0
  sc : p.ss.length ≤ p.sc
  sn : p.sa = none → p.sc = 0
structure OkL (l : Lk) : Prop where
  n : l.name.size ≤ maxLen
  s : l.src.size ≤ maxLen
  d : l.dst.size ≤ maxLen
  dl : Sc.I64 l.delay
  w : Sc.I64 l.weight
structure OkE (e : Ev) : Prop where
  t : e.to.size ≤ maxLen
  a : Sc.I64 e.at_
  v : Sc.I64 e.value
structure OkM (m : Md) : Prop where
  v : Sc.I64 m.version
  p : ∀ p ∈ m.ps, OkP p
  l : ∀ l ∈ m.ls, OkL l
  e : ∀ e ∈ m.es, OkE e
  pc : m.ps.length ≤ m.pc
  pn : m.pa = none → m.pc = 0
  lc : m.ls.length ≤ m.lc
  ln : m.la = none → m.lc = 0
  ec : m.es.length ≤ m.ec
  en : m.ea = none → m.ec = 0
theorem OkM.sz {m : Md} (h : OkM m) : SzM m :=
  ⟨fun p hp => ⟨(h.p p hp).n, fun v hv => ((h.p p hp).v v hv).n, fun s hs => ((h.p p hp).s s hs).n⟩, fun l hl => (h.l l hl).n, fun l hl => (h.l l hl).s, fun l hl => (h.l l hl).d, fun e he => (h.e e he).t⟩
section
variable {H : Type} {enc : TypeId × Value → H} {w : World} {base : Nat} {spare : Nat → Bool} {held : Bool}
theorem slice_capM {t e : TypeId} {fuel n cap : Nat} {A : Option Addr} {x : DataW H × List MemPlace} (ht : Try.prog.underlying t = some (.slice e)) (h : DataW.trod enc Try.prog w base spare held fuel t [.slice A n cap] = some x) : n ≤ cap ∧ (A = none → cap = 0) := by
  rcases Go.Deep.open_slice ht h with ⟨h0, _⟩ | ⟨a, len, cap', m, n', D, Pl, hcs, hb, hl, hm, _⟩
  · simp at h0; obtain ⟨_, h1, h2⟩ := h0; exact ⟨by omega, fun _ => h2⟩
  · simp at hcs; exact ⟨by omega, fun e => by rw [e] at hcs; cases hcs.1⟩
theorem rows_gen {α : Type} {t e : TypeId} {fuel C : Nat} {cs : List Value} {x : DataW H × List MemPlace} (ht : Try.prog.underlying t = some (.slice e)) (hC : Try.prog.cellsOf e = C) (hpos : 0 < C) (Q : α → Prop) (cells : α → List Value)
    (hopen : ∀ {es : List Value} {n : Nat} {y : DataW H × List MemPlace}, es.length = C → DataW.trod enc Try.prog w base spare held n e es = some y → ∃ o, es = cells o ∧ Q o)
    (h : DataW.trod enc Try.prog w base spare held fuel t cs = some x) :
    ∃ (A : Option Addr) (cap : Nat) (l : List α), cs = [.slice A l.length cap] ∧ l.length ≤ maxLen ∧
      (l = [] ∨ ∃ b off, A = some ⟨b, off, none⟩ ∧ ∀ j o, l[j]? = some o → ∀ c, c < C → w.cell? ⟨b, off + j * C + c, none⟩ = (cells o)[c]?) ∧ (∀ o ∈ l, Q o) ∧ l.length ≤ cap ∧ (A = none → cap = 0) := by
  have hr := rows_open ht (by rw [hC]; omega) h
  rw [hC] at hr
  rcases hr with h0 | ⟨a, len, cap, e', hm, h0⟩
  · exact ⟨none, 0, [], h0, by simp [maxLen], .inl rfl, by simp, by simp, fun _ => rfl⟩
  · rw [e'] at h
    obtain ⟨hcap, hnone⟩ := slice_capM ht h
    rcases h0 with rfl | ⟨b, off, rfl, hi⟩
    · exact ⟨some a, cap, [], e', hm, .inl rfl, by simp, hcap, hnone⟩
    · obtain ⟨l, hl, hp⟩ := list_of (α := α) (p := fun i o => (∀ c, c < C → w.cell? ⟨b, off + i * C + c, none⟩ = (cells o)[c]?) ∧ Q o) len (fun i hil => by
        obtain ⟨es, n, y, hes, hc, htr⟩ := hi i hil
        obtain ⟨o, rfl, hq⟩ := hopen hes htr
        exact ⟨o, hc, hq⟩)
      subst hl
      refine ⟨_, cap, l, e', hm, .inr ⟨b, off, rfl, fun j o hj => (hp j o hj).1⟩, fun o ho => ?_, hcap, hnone⟩
      obtain ⟨j, hj, rfl⟩ := List.mem_iff_getElem.1 ho
      exact (hp j _ (List.getElem?_eq_getElem hj)).2
theorem tdM {cs : List Value} {o n j : Nat} (hj : j < n) : ((cs.drop o).take n)[j]? = cs[o + j]? := by
  rw [List.getElem?_take_of_lt hj, List.getElem?_drop]
theorem var_openM {fuel : Nat} {cs : List Value} {x : DataW H × List MemPlace} (hl : cs.length = 2) (h : DataW.trod enc Try.prog w base spare held fuel 80 cs = some x) :
    ∃ v : V, cs = [.string v.name, .int .i64 v.init] ∧ OkV v := by
  obtain ⟨n, hf⟩ := field_at Try.underlying80 h
  obtain ⟨y0, h0⟩ := hf 0 _ rfl
  obtain ⟨y1, h1⟩ := hf 1 _ rfl
  obtain ⟨a0, e0, z0⟩ := str_at (o := 0) Try.underlying9 (by kernel_rfl) h0
  obtain ⟨a1, e1, z1⟩ := int_at (o := 1) Try.underlying2 (by kernel_rfl) h1
  refine ⟨⟨a0, a1⟩, ?_, z0, Sc.I64.of_wf z1⟩
  match cs, hl with
  | [q0, q1], _ => simp at e0 e1; rw [e0, e1]
theorem step_openM {fuel : Nat} {cs : List Value} {x : DataW H × List MemPlace} (hl : cs.length = 5) (h : DataW.trod enc Try.prog w base spare held fuel 90 cs = some x) :
    ∃ s : S, cs = [.int .i64 s.kind, .string s.name, .int .i64 s.ak, .int .i64 s.an, .string s.as_] ∧ OkS s := by
  obtain ⟨n, hf⟩ := field_at Try.underlying90 h
  obtain ⟨y0, h0⟩ := hf 0 _ rfl
  obtain ⟨y1, h1⟩ := hf 1 _ rfl
  obtain ⟨y2, h2⟩ := hf 2 _ rfl
  obtain ⟨a0, e0, z0⟩ := int_at (o := 0) Try.underlying3 (by kernel_rfl) h0
  obtain ⟨a1, e1, z1⟩ := str_at (o := 1) Try.underlying9 (by kernel_rfl) h1
  have hC : Try.prog.cellsOf 88 = 3 := by kernel_rfl
  have h2' : DataW.trod enc Try.prog w base spare held n 88 ((cs.drop 2).take (Try.prog.cellsOf 88)) = some y2 := h2
  rw [hC] at h2'
  obtain ⟨n', hg⟩ := field_at Try.underlying88 h2'
  obtain ⟨y3, g0⟩ := hg 0 _ rfl
  obtain ⟨y4, g1⟩ := hg 1 _ rfl
  obtain ⟨y5, g2⟩ := hg 2 _ rfl
  obtain ⟨b0, f0, z2⟩ := int_at (o := 0) Try.underlying3 (by kernel_rfl) g0
  obtain ⟨b1, f1, z3⟩ := int_at (o := 1) Try.underlying2 (by kernel_rfl) g1
  obtain ⟨b2, f2, z4⟩ := str_at (o := 2) Try.underlying9 (by kernel_rfl) g2
  rw [tdM (by omega)] at f0 f1 f2
  refine ⟨⟨a0, a1, b0, b1, b2⟩, ?_, Sc.I64.of_wf z0, z1, Sc.I64.of_wf z2, Sc.I64.of_wf z3, z4⟩
  match cs, hl with
  | [q0, q1, q2, q3, q4], _ => simp at e0 e1 f0 f1 f2; rw [e0, e1, f0, f1, f2]
def prCells (p : Pr) : List Value := [.string p.name, .int .i64 p.weight, .slice p.va p.vs.length p.vc, .slice p.sa p.ss.length p.sc]
theorem proc_openM {fuel : Nat} {cs : List Value} {x : DataW H × List MemPlace} (hl : cs.length = 4) (h : DataW.trod enc Try.prog w base spare held fuel 52 cs = some x) :
    ∃ p : Pr, cs = prCells p ∧ (RProc w p ∧ OkP p) := by
  obtain ⟨n, hf⟩ := field_at Try.underlying52 h
  obtain ⟨y0, h0⟩ := hf 0 _ rfl
  obtain ⟨y1, h1⟩ := hf 1 _ rfl
  obtain ⟨y2, h2⟩ := hf 2 _ rfl
  obtain ⟨y3, h3⟩ := hf 3 _ rfl
  obtain ⟨a0, e0, z0⟩ := str_at (o := 0) Try.underlying9 (by kernel_rfl) h0
  obtain ⟨a1, e1, z1⟩ := int_at (o := 1) Try.underlying2 (by kernel_rfl) h1
  have h2' : DataW.trod enc Try.prog w base spare held n 49 ((cs.drop 2).take (Try.prog.cellsOf 49)) = some y2 := h2
  rw [show Try.prog.cellsOf 49 = 1 by kernel_rfl] at h2'
  obtain ⟨va, vc, vs, c2, hvl, hv, hvq, hvc, hvn⟩ := rows_gen (C := 2) Try.underlying49 (by kernel_rfl) (by decide) OkV (fun v => [.string v.name, .int .i64 v.init]) (fun hl h => var_openM hl h) h2'
  have h3' : DataW.trod enc Try.prog w base spare held n 50 ((cs.drop 3).take (Try.prog.cellsOf 50)) = some y3 := h3
  rw [show Try.prog.cellsOf 50 = 1 by kernel_rfl] at h3'
  obtain ⟨sa, sc, ss, c3, hsl, hs, hsq, hsc, hsn⟩ := rows_gen (C := 5) Try.underlying50 (by kernel_rfl) (by decide) OkS (fun s => [.int .i64 s.kind, .string s.name, .int .i64 s.ak, .int .i64 s.an, .string s.as_]) (fun hl h => step_openM hl h) h3'
  have e2 := cell_one c2
  have e3 := cell_one c3
  refine ⟨⟨a0, a1, va, vs, vc, sa, ss, sc⟩, ?_, ⟨?_, ?_, hvl, hsl, fun s h => (hsq s h).an⟩, z0, Sc.I64.of_wf z1, hvq, hsq, hvc, hvn, hsc, hsn⟩
  · match cs, hl with
    | [q0, q1, q2, q3], _ => simp at e0 e1 e2 e3; rw [e0, e1, e2, e3]; rfl
  · rcases hv with h | ⟨b, off, e, hc⟩
    · exact .inl h
    · exact .inr ⟨b, off, e, fun j v hj => ⟨hc j v hj 0 (by decide), hc j v hj 1 (by decide)⟩⟩
  · rcases hs with h | ⟨b, off, e, hc⟩
    · exact .inl h
    · exact .inr ⟨b, off, e, fun j v hj => ⟨hc j v hj 0 (by decide), hc j v hj 1 (by decide), hc j v hj 2 (by decide), hc j v hj 3 (by decide), hc j v hj 4 (by decide)⟩⟩
theorem link_openM {fuel : Nat} {cs : List Value} {x : DataW H × List MemPlace} (hl : cs.length = 5) (h : DataW.trod enc Try.prog w base spare held fuel 48 cs = some x) :
    ∃ l : Lk, cs = [.string l.name, .string l.src, .string l.dst, .int .i64 l.delay, .int .i64 l.weight] ∧ OkL l := by
  obtain ⟨n, hf⟩ := field_at Try.underlying48 h
  obtain ⟨y0, h0⟩ := hf 0 _ rfl
  obtain ⟨y1, h1⟩ := hf 1 _ rfl
  obtain ⟨y2, h2⟩ := hf 2 _ rfl
  obtain ⟨y3, h3⟩ := hf 3 _ rfl
  obtain ⟨y4, h4⟩ := hf 4 _ rfl
  obtain ⟨a0, e0, z0⟩ := str_at (o := 0) Try.underlying9 (by kernel_rfl) h0
  obtain ⟨a1, e1, z1⟩ := str_at (o := 1) Try.underlying9 (by kernel_rfl) h1
  obtain ⟨a2, e2, z2⟩ := str_at (o := 2) Try.underlying9 (by kernel_rfl) h2
  obtain ⟨a3, e3, z3⟩ := int_at (o := 3) Try.underlying2 (by kernel_rfl) h3
  obtain ⟨a4, e4, z4⟩ := int_at (o := 4) Try.underlying2 (by kernel_rfl) h4
  refine ⟨⟨a0, a1, a2, a3, a4⟩, ?_, z0, z1, z2, Sc.I64.of_wf z3, Sc.I64.of_wf z4⟩
  match cs, hl with
  | [q0, q1, q2, q3, q4], _ => simp at e0 e1 e2 e3 e4; rw [e0, e1, e2, e3, e4]
theorem event_openM {fuel : Nat} {cs : List Value} {x : DataW H × List MemPlace} (hl : cs.length = 3) (h : DataW.trod enc Try.prog w base spare held fuel 57 cs = some x) :
    ∃ e : Ev, cs = [.string e.to, .int .i64 e.at_, .int .i64 e.value] ∧ OkE e := by
  obtain ⟨n, hf⟩ := field_at Try.underlying57 h
  obtain ⟨y0, h0⟩ := hf 0 _ rfl
  obtain ⟨y1, h1⟩ := hf 1 _ rfl
  obtain ⟨y2, h2⟩ := hf 2 _ rfl
  obtain ⟨a0, e0, z0⟩ := str_at (o := 0) Try.underlying9 (by kernel_rfl) h0
  obtain ⟨a1, e1, z1⟩ := int_at (o := 1) Try.underlying2 (by kernel_rfl) h1
  obtain ⟨a2, e2, z2⟩ := int_at (o := 2) Try.underlying2 (by kernel_rfl) h2
  refine ⟨⟨a0, a1, a2⟩, ?_, z0, Sc.I64.of_wf z1, Sc.I64.of_wf z2⟩
  match cs, hl with
  | [q0, q1, q2], _ => simp at e0 e1 e2; rw [e0, e1, e2]
theorem model_openM {fuel : Nat} {cs : List Value} {x : DataW H × List MemPlace} (h : DataW.trod enc Try.prog w base spare held fuel 26 cs = some x) :
    ∃ m : Md, cs = [.int .i64 m.version, .slice m.pa m.ps.length m.pc, .slice m.la m.ls.length m.lc, .slice m.ea m.es.length m.ec] ∧ RModel w m ∧ OkM m := by
  have hl : cs.length = 4 := by
    obtain ⟨_, _, _, _, hl, _⟩ := DataW.trod_struct Try.underlying26 h
    rw [hl]; kernel_rfl
  obtain ⟨n, hf⟩ := field_at Try.underlying26 h
  obtain ⟨y0, h0⟩ := hf 0 _ rfl
  obtain ⟨y1, h1⟩ := hf 1 _ rfl
  obtain ⟨y2, h2⟩ := hf 2 _ rfl
  obtain ⟨y3, h3⟩ := hf 3 _ rfl
  obtain ⟨a0, e0, z0⟩ := int_at (o := 0) Try.underlying3 (by kernel_rfl) h0
  have h1' : DataW.trod enc Try.prog w base spare held n 22 ((cs.drop 1).take (Try.prog.cellsOf 22)) = some y1 := h1
  rw [show Try.prog.cellsOf 22 = 1 by kernel_rfl] at h1'
  obtain ⟨pa, pc, ps, c1, hpl, hp, hpq, hpc, hpn⟩ := rows_gen (C := 4) Try.underlying22 (by kernel_rfl) (by decide) (fun p => RProc w p ∧ OkP p) prCells (fun hl h => proc_openM hl h) h1'
  have h2' : DataW.trod enc Try.prog w base spare held n 23 ((cs.drop 2).take (Try.prog.cellsOf 23)) = some y2 := h2
  rw [show Try.prog.cellsOf 23 = 1 by kernel_rfl] at h2'
  obtain ⟨la, lc, ls, c2, hll, hlk, hlq, hlc, hln⟩ := rows_gen (C := 5) Try.underlying23 (by kernel_rfl) (by decide) OkL (fun l => [.string l.name, .string l.src, .string l.dst, .int .i64 l.delay, .int .i64 l.weight]) (fun hl h => link_openM hl h) h2'
  have h3' : DataW.trod enc Try.prog w base spare held n 24 ((cs.drop 3).take (Try.prog.cellsOf 24)) = some y3 := h3
  rw [show Try.prog.cellsOf 24 = 1 by kernel_rfl] at h3'
  obtain ⟨ea, ec, es, c3, hel, hev, heq, hec, hen⟩ := rows_gen (C := 3) Try.underlying24 (by kernel_rfl) (by decide) OkE (fun e => [.string e.to, .int .i64 e.at_, .int .i64 e.value]) (fun hl h => event_openM hl h) h3'
  have e1 := cell_one c1
  have e2 := cell_one c2
  have e3 := cell_one c3
  refine ⟨⟨a0, pa, ps, pc, la, ls, lc, ea, es, ec⟩, ?_, ⟨?_, fun q hq => (hpq q hq).1, ?_, ?_, hpl, hll, hel⟩, Sc.I64.of_wf z0, fun q hq => (hpq q hq).2, hlq, heq, hpc, hpn, hlc, hln, hec, hen⟩
  · match cs, hl with
    | [q0, q1, q2, q3], _ => simp at e0 e1 e2 e3; rw [e0, e1, e2, e3]
  · rcases hp with h | ⟨b, off, e, hc⟩
    · exact .inl h
    · exact .inr ⟨b, off, e, fun j v hj => ⟨hc j v hj 0 (by decide), hc j v hj 1 (by decide), hc j v hj 2 (by decide), hc j v hj 3 (by decide)⟩⟩
  · rcases hlk with h | ⟨b, off, e, hc⟩
    · exact .inl h
    · exact .inr ⟨b, off, e, fun j v hj => ⟨hc j v hj 0 (by decide), hc j v hj 1 (by decide), hc j v hj 2 (by decide), hc j v hj 3 (by decide), hc j v hj 4 (by decide)⟩⟩
  · rcases hev with h | ⟨b, off, e, hc⟩
    · exact .inl h
    · exact .inr ⟨b, off, e, fun j v hj => ⟨hc j v hj 0 (by decide), hc j v hj 1 (by decide), hc j v hj 2 (by decide)⟩⟩
end
end Go.Proofs.Ythgbahlkflmgiaa.Mo
