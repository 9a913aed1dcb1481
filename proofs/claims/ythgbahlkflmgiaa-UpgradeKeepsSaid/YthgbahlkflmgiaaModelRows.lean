/- The rows of a model as rows of cells. -/
import Derived.Test.YthgbahlkflmgiaaRowOf
import Derived.Test.YthgbahlkflmgiaaModelO
namespace Go.Proofs.Ythgbahlkflmgiaa.Mo
open Go Go.RowKit Go.Proofs.Ythgbahlkflmgiaa.Lb
set_option linter.unusedVariables false
def lkCells (l : Lk) : List Value := [.string l.name, .string l.src, .string l.dst, .int .i64 l.delay, .int .i64 l.weight]
def evCells (e : Ev) : List Value := [.string e.to, .int .i64 e.at_, .int .i64 e.value]
def vrCells (v : V) : List Value := [.string v.name, .int .i64 v.init]
def stCells (s : S) : List Value := [.int .i64 s.kind, .string s.name, .int .i64 s.ak, .int .i64 s.an, .string s.as_]
theorem prCells_len (p : Pr) : (prCells p).length = 4 := rfl
theorem lkCells_len (l : Lk) : (lkCells l).length = 5 := rfl
theorem evCells_len (e : Ev) : (evCells e).length = 3 := rfl
theorem vrCells_len (v : V) : (vrCells v).length = 2 := rfl
theorem stCells_len (s : S) : (stCells s).length = 5 := rfl
theorem RProcs.rowOf {w : World} {A : Option Addr} {l : List Pr} (h : RProcs w A l) : RowOf w A 4 prCells l := by
  rcases h with h | ⟨b, off, e, hc⟩
  · exact .inl h
  · refine .inr ⟨b, off, e, fun j o hj c hcc => ?_⟩
    obtain ⟨h0, h1, h2, h3⟩ := hc j o hj
    match c, hcc with
    | 0, _ => exact h0
    | 1, _ => exact h1
    | 2, _ => exact h2
    | 3, _ => exact h3
theorem RProcs.ofRow {w : World} {A : Option Addr} {l : List Pr} (h : RowOf w A 4 prCells l) : RProcs w A l := by
  rcases h with h | ⟨b, off, e, hc⟩
  · exact .inl h
  · exact .inr ⟨b, off, e, fun j o hj => ⟨hc j o hj 0 (by decide), hc j o hj 1 (by decide), hc j o hj 2 (by decide), hc j o hj 3 (by decide)⟩⟩
theorem prCells_one (l : List Pr) : ∀ u ∈ l.flatMap prCells, u.oneCell' = true := fun u hu => by
  obtain ⟨o, _, ho⟩ := List.mem_flatMap.1 hu
  simp only [prCells, List.mem_cons, List.not_mem_nil, or_false] at ho
  rcases ho with rfl | rfl | rfl | rfl <;> rfl
theorem RLinks.rowOf {w : World} {A : Option Addr} {l : List Lk} (h : RLinks w A l) : RowOf w A 5 lkCells l := by
  rcases h with h | ⟨b, off, e, hc⟩
  · exact .inl h
  · refine .inr ⟨b, off, e, fun j o hj c hcc => ?_⟩
    obtain ⟨h0, h1, h2, h3, h4⟩ := hc j o hj
    match c, hcc with
    | 0, _ => exact h0
    | 1, _ => exact h1
    | 2, _ => exact h2
    | 3, _ => exact h3
    | 4, _ => exact h4
theorem RLinks.ofRow {w : World} {A : Option Addr} {l : List Lk} (h : RowOf w A 5 lkCells l) : RLinks w A l := by
  rcases h with h | ⟨b, off, e, hc⟩
  · exact .inl h
  · exact .inr ⟨b, off, e, fun j o hj => ⟨hc j o hj 0 (by decide), hc j o hj 1 (by decide), hc j o hj 2 (by decide), hc j o hj 3 (by decide), hc j o hj 4 (by decide)⟩⟩
theorem lkCells_one (l : List Lk) : ∀ u ∈ l.flatMap lkCells, u.oneCell' = true := fun u hu => by
  obtain ⟨o, _, ho⟩ := List.mem_flatMap.1 hu
  simp only [lkCells, List.mem_cons, List.not_mem_nil, or_false] at ho
  rcases ho with rfl | rfl | rfl | rfl | rfl <;> rfl
theorem REvents.rowOf {w : World} {A : Option Addr} {l : List Ev} (h : REvents w A l) : RowOf w A 3 evCells l := by
  rcases h with h | ⟨b, off, e, hc⟩
  · exact .inl h
  · refine .inr ⟨b, off, e, fun j o hj c hcc => ?_⟩
    obtain ⟨h0, h1, h2⟩ := hc j o hj
    match c, hcc with
    | 0, _ => exact h0
    | 1, _ => exact h1
    | 2, _ => exact h2
theorem REvents.ofRow {w : World} {A : Option Addr} {l : List Ev} (h : RowOf w A 3 evCells l) : REvents w A l := by
  rcases h with h | ⟨b, off, e, hc⟩
  · exact .inl h
  · exact .inr ⟨b, off, e, fun j o hj => ⟨hc j o hj 0 (by decide), hc j o hj 1 (by decide), hc j o hj 2 (by decide)⟩⟩
theorem evCells_one (l : List Ev) : ∀ u ∈ l.flatMap evCells, u.oneCell' = true := fun u hu => by
  obtain ⟨o, _, ho⟩ := List.mem_flatMap.1 hu
  simp only [evCells, List.mem_cons, List.not_mem_nil, or_false] at ho
  rcases ho with rfl | rfl | rfl <;> rfl
theorem RVars.rowOf {w : World} {A : Option Addr} {l : List V} (h : RVars w A l) : RowOf w A 2 vrCells l := by
  rcases h with h | ⟨b, off, e, hc⟩
  · exact .inl h
  · refine .inr ⟨b, off, e, fun j o hj c hcc => ?_⟩
    obtain ⟨h0, h1⟩ := hc j o hj
    match c, hcc with
    | 0, _ => exact h0
    | 1, _ => exact h1
theorem RVars.ofRow {w : World} {A : Option Addr} {l : List V} (h : RowOf w A 2 vrCells l) : RVars w A l := by
  rcases h with h | ⟨b, off, e, hc⟩
  · exact .inl h
  · exact .inr ⟨b, off, e, fun j o hj => ⟨hc j o hj 0 (by decide), hc j o hj 1 (by decide)⟩⟩
theorem vrCells_one (l : List V) : ∀ u ∈ l.flatMap vrCells, u.oneCell' = true := fun u hu => by
  obtain ⟨o, _, ho⟩ := List.mem_flatMap.1 hu
  simp only [vrCells, List.mem_cons, List.not_mem_nil, or_false] at ho
  rcases ho with rfl | rfl <;> rfl
theorem RSteps.rowOf {w : World} {A : Option Addr} {l : List S} (h : RSteps w A l) : RowOf w A 5 stCells l := by
  rcases h with h | ⟨b, off, e, hc⟩
  · exact .inl h
  · refine .inr ⟨b, off, e, fun j o hj c hcc => ?_⟩
    obtain ⟨h0, h1, h2, h3, h4⟩ := hc j o hj
    match c, hcc with
    | 0, _ => exact h0
    | 1, _ => exact h1
    | 2, _ => exact h2
    | 3, _ => exact h3
    | 4, _ => exact h4
theorem RSteps.ofRow {w : World} {A : Option Addr} {l : List S} (h : RowOf w A 5 stCells l) : RSteps w A l := by
  rcases h with h | ⟨b, off, e, hc⟩
  · exact .inl h
  · exact .inr ⟨b, off, e, fun j o hj => ⟨hc j o hj 0 (by decide), hc j o hj 1 (by decide), hc j o hj 2 (by decide), hc j o hj 3 (by decide), hc j o hj 4 (by decide)⟩⟩
theorem stCells_one (l : List S) : ∀ u ∈ l.flatMap stCells, u.oneCell' = true := fun u hu => by
  obtain ⟨o, _, ho⟩ := List.mem_flatMap.1 hu
  simp only [stCells, List.mem_cons, List.not_mem_nil, or_false] at ho
  rcases ho with rfl | rfl | rfl | rfl | rfl <;> rfl
theorem infoP : (Try.prog.info? 52).map (fun i => (i.zero, i.size, i.bytes)) = some (some (.agg #[.string ⟨#[]⟩, .int .i64 0, .slice none 0 0, .slice none 0 0]), 4, 72) := by kernel_rfl
theorem infoL : (Try.prog.info? 48).map (fun i => (i.zero, i.size, i.bytes)) = some (some (.agg #[.string ⟨#[]⟩, .string ⟨#[]⟩, .string ⟨#[]⟩, .int .i64 0, .int .i64 0]), 5, 64) := by kernel_rfl
theorem infoE : (Try.prog.info? 57).map (fun i => (i.zero, i.size, i.bytes)) = some (some (.agg #[.string ⟨#[]⟩, .int .i64 0, .int .i64 0]), 3, 32) := by kernel_rfl
end Go.Proofs.Ythgbahlkflmgiaa.Mo
