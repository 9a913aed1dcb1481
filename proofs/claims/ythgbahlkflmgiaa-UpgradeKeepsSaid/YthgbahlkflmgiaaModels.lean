/- Models as plain things, and how they lie in memory. -/
import Derived.Test.YthgbahlkflmgiaaVar
namespace Go.Proofs.Ythgbahlkflmgiaa.Mo
open Go Go.RowKit Go.Proofs.Ythgbahlkflmgiaa.Lb
set_option linter.unusedVariables false

structure Lk where
  name : ByteArray
  src : ByteArray
  dst : ByteArray
  delay : Int
  weight : Int
structure Ev where
  to : ByteArray
  at_ : Int
  value : Int
structure Md where
  version : Int
  pa : Option Addr
  ps : List Pr
  pc : Nat
  la : Option Addr
  ls : List Lk
  lc : Nat
  ea : Option Addr
  es : List Ev
  ec : Nat
def Md.val (m : Md) : Value := .agg #[.int .i64 m.version, .slice m.pa m.ps.length m.pc, .slice m.la m.ls.length m.lc, .slice m.ea m.es.length m.ec]
def RProcs (w : World) (A : Option Addr) (ps : List Pr) : Prop :=
  ps = [] ∨ ∃ b off, A = some ⟨b, off, none⟩ ∧ ∀ j p, ps[j]? = some p → w.cell? ⟨b, off + j * 4, none⟩ = some (.string p.name) ∧ w.cell? ⟨b, off + j * 4 + 1, none⟩ = some (.int .i64 p.weight) ∧
    w.cell? ⟨b, off + j * 4 + 2, none⟩ = some (.slice p.va p.vs.length p.vc) ∧ w.cell? ⟨b, off + j * 4 + 3, none⟩ = some (.slice p.sa p.ss.length p.sc)
def RLinks (w : World) (A : Option Addr) (ls : List Lk) : Prop :=
  ls = [] ∨ ∃ b off, A = some ⟨b, off, none⟩ ∧ ∀ j l, ls[j]? = some l → w.cell? ⟨b, off + j * 5, none⟩ = some (.string l.name) ∧ w.cell? ⟨b, off + j * 5 + 1, none⟩ = some (.string l.src) ∧
    w.cell? ⟨b, off + j * 5 + 2, none⟩ = some (.string l.dst) ∧ w.cell? ⟨b, off + j * 5 + 3, none⟩ = some (.int .i64 l.delay) ∧ w.cell? ⟨b, off + j * 5 + 4, none⟩ = some (.int .i64 l.weight)
def REvents (w : World) (A : Option Addr) (es : List Ev) : Prop :=
  es = [] ∨ ∃ b off, A = some ⟨b, off, none⟩ ∧ ∀ j e, es[j]? = some e → w.cell? ⟨b, off + j * 3, none⟩ = some (.string e.to) ∧ w.cell? ⟨b, off + j * 3 + 1, none⟩ = some (.int .i64 e.at_) ∧ w.cell? ⟨b, off + j * 3 + 2, none⟩ = some (.int .i64 e.value)
structure RModel (w : World) (m : Md) : Prop where
  p : RProcs w m.pa m.ps
  pp : ∀ q ∈ m.ps, RProc w q
  l : RLinks w m.la m.ls
  e : REvents w m.ea m.es
  pl : m.ps.length ≤ maxLen
  ll : m.ls.length ≤ maxLen
  el : m.es.length ≤ maxLen
theorem RProcs.at {w : World} {A : Option Addr} {ps : List Pr} (h : RProcs w A ps) {k : Nat} {p : Pr} (hv : ps[k]? = some p) :
    ∃ b off, A = some ⟨b, off, none⟩ ∧ w.cell? ⟨b, off + k * 4, none⟩ = some (.string p.name) ∧ w.cell? ⟨b, off + k * 4 + 1, none⟩ = some (.int .i64 p.weight) ∧
    w.cell? ⟨b, off + k * 4 + 2, none⟩ = some (.slice p.va p.vs.length p.vc) ∧ w.cell? ⟨b, off + k * 4 + 3, none⟩ = some (.slice p.sa p.ss.length p.sc) := by
  rcases h with rfl | ⟨b, off, h, hc⟩
  · simp at hv
  · exact ⟨b, off, h, hc k p hv⟩
theorem RLinks.at {w : World} {A : Option Addr} {ls : List Lk} (h : RLinks w A ls) {k : Nat} {l : Lk} (hv : ls[k]? = some l) :
    ∃ b off, A = some ⟨b, off, none⟩ ∧ w.cell? ⟨b, off + k * 5, none⟩ = some (.string l.name) ∧ w.cell? ⟨b, off + k * 5 + 1, none⟩ = some (.string l.src) ∧
    w.cell? ⟨b, off + k * 5 + 2, none⟩ = some (.string l.dst) ∧ w.cell? ⟨b, off + k * 5 + 3, none⟩ = some (.int .i64 l.delay) ∧ w.cell? ⟨b, off + k * 5 + 4, none⟩ = some (.int .i64 l.weight) := by
  rcases h with rfl | ⟨b, off, h, hc⟩
  · simp at hv
  · exact ⟨b, off, h, hc k l hv⟩
theorem RModel.nil {w w' : World} {m : Md} (h : RModel w m) (hk : Kept Nil w w') : RModel w' m := by
  refine ⟨?_, fun q hq => (h.pp q hq).nil hk, ?_, ?_, h.pl, h.ll, h.el⟩
  · rcases h.p with e | ⟨b, off, e, hc⟩
    · exact .inl e
    · exact .inr ⟨b, off, e, fun j p hj => by obtain ⟨h1, h2, h3, h4⟩ := hc j p hj; exact ⟨hk.cell h1 (fun h => h), hk.cell h2 (fun h => h), hk.cell h3 (fun h => h), hk.cell h4 (fun h => h)⟩⟩
  · rcases h.l with e | ⟨b, off, e, hc⟩
    · exact .inl e
    · exact .inr ⟨b, off, e, fun j p hj => by obtain ⟨h1, h2, h3, h4, h5⟩ := hc j p hj; exact ⟨hk.cell h1 (fun h => h), hk.cell h2 (fun h => h), hk.cell h3 (fun h => h), hk.cell h4 (fun h => h), hk.cell h5 (fun h => h)⟩⟩
  · rcases h.e with e | ⟨b, off, e, hc⟩
    · exact .inl e
    · exact .inr ⟨b, off, e, fun j p hj => by obtain ⟨h1, h2, h3⟩ := hc j p hj; exact ⟨hk.cell h1 (fun h => h), hk.cell h2 (fun h => h), hk.cell h3 (fun h => h)⟩⟩
/-- All names. -/
def prNames (p : Pr) : List ByteArray := p.name :: p.vs.map V.name
def mdNames (m : Md) : List ByteArray := m.ps.flatMap prNames ++ m.ls.map Lk.name
end Go.Proofs.Ythgbahlkflmgiaa.Mo
