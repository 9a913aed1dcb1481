/- Models that lie in memory with their bounds; with the same contents; rows that are new, or lie elsewhere: plain. Nothing of the program is walked here; A heap in plain Lean: a list of pairs (something, when it was put in) that rises and sinks; what comes out is the least, the first put in of equal ones. Conditions: 'less' is a strict weak order. -/
import Derived.Test.YtniocgnfgpaioaaGreatG3
import Derived.Test.YtniocgnfgpaioaaGreatG4
set_option linter.unusedVariables false
set_option linter.unusedSimpArgs false
section
section
namespace Go.Proofs.YtniocgnfgpaioaaGreat.Mo
open Go Go.RowKit Go.Proofs.YtniocgnfgpaioaaGreat.Lb
/-- The same contents. -/
structure SameP (p q : Pr) : Prop where
 n : p.name = q.name
 w : p.weight = q.weight
 v : p.vs = q.vs
 s : p.ss = q.ss
theorem SameP.rfl' (p : Pr) : SameP p p := ⟨rfl, rfl, rfl, rfl⟩
theorem SameP.symm {p q : Pr} (h : SameP p q) : SameP q p := ⟨h.n.symm, h.w.symm, h.v.symm, h.s.symm⟩
theorem SameP.trans {p q r : Pr} (h : SameP p q) (h' : SameP q r) : SameP p r := ⟨h.n.trans h'.n, h.w.trans h'.w, h.v.trans h'.v, h.s.trans h'.s⟩
structure SamePs (ps qs : List Pr) : Prop where
 l : ps.length = qs.length
 p : ∀ (j : Nat) (p q : Pr), ps[j]? = some p → qs[j]? = some q → SameP p q
structure SameM (a b : Md) : Prop where
 v : a.version = b.version
 p : SamePs a.ps b.ps
 l : a.ls = b.ls
 e : a.es = b.es
theorem SamePs.refl (ps : List Pr) : SamePs ps ps := ⟨rfl, fun j p q h1 h2 => by rw [h1] at h2; cases h2; exact SameP.rfl' p⟩
def NewRow {α : Type} (b : Nat) (w : World) (A : Option Addr) (t : TypeId) (C : Nat) (cells : α → List Value) (l : List α) : Prop :=
 l ≠ [] → ∃ g, b ≤ g ∧ A = some ⟨g, 0, none⟩ ∧ RowAt w g t C cells l
theorem newRow_of_own {α : Type} {w : World} {base n C : Nat} {t : TypeId} {cells : α → List Value} {l : List α} {A : Option Addr} {m c : Nat} (h : w.ownsRow base t C (.slice A m c) n (l.flatMap cells)) (hC : ∀ a, (cells a).length = C) (hpos : 0 < C) : NewRow base w A t C cells l := by
 intro hne
 obtain ⟨g, cap, e, _, hb, _, hr⟩ := rowAt_of_own h hC hpos hne
 cases e
 exact ⟨g, hb, rfl, hr⟩
theorem NewRow.kept {α : Type} {w w' : World} {b C : Nat} {t : TypeId} {A : Option Addr} {cells : α → List Value} {l : List α} {S : Nat → Prop} (h : NewRow b w A t C cells l) (hk : Kept S w w') (hS : ∀ i, b ≤ i → ¬ S i) : NewRow b w' A t C cells l := by
 intro hne
 obtain ⟨g, hb, e, hr⟩ := h hne
 exact ⟨g, hb, e, hr.kept hk (hS g hb)⟩
theorem NewRow.row {α : Type} {w : World} {b C : Nat} {t : TypeId} {A : Option Addr} {cells : α → List Value} {l : List α} (h : NewRow b w A t C cells l) : RowOf w A C cells l := by
 by_cases hne : l = []
 ·exact .inl hne
 ·obtain ⟨g, _, rfl, hr⟩ := h hne
  exact hr.row
theorem NewRow.lower {α : Type} {w : World} {b b' C : Nat} {t : TypeId} {A : Option Addr} {cells : α → List Value} {l : List α} (h : NewRow b w A t C cells l) (hb : b' ≤ b) : NewRow b' w A t C cells l := by
 intro hne
 obtain ⟨g, h1, e, hr⟩ := h hne
 exact ⟨g, by omega, e, hr⟩
theorem cap_of_own {w : World} {base t C n m c : Nat} {xs : List Value} {A : Option Addr} (h : w.ownsRow base t C (.slice A m c) n xs) : A = none → c = 0 := by
 rcases own_form h with ⟨h1, h2, _⟩ | ⟨g, cap, h1, _, _, h4, _⟩
 ·simp only [Value.slice.injEq] at h1; exact fun _ => h1.2.2
 ·simp only [Value.slice.injEq] at h1; exact fun h => by rw [h1.1] at h; cases h
theorem le_of_own {w : World} {base t C n m c : Nat} {xs : List Value} {A : Option Addr} (h : w.ownsRow base t C (.slice A m c) n xs) : m ≤ c := by
 rcases own_form h with ⟨h1, h2, _⟩ | ⟨g, cap, h1, _, _, h4, _⟩
 ·simp only [Value.slice.injEq] at h1; omega
 ·simp only [Value.slice.injEq] at h1; omega
theorem rowAt_drew {α : Type} {w : World} {g C : Nat} {t : TypeId} {cells : α → List Value} {l : List α} (h : RowAt w g t C cells l) : RowAt w.drew g t C cells l := ⟨h.ex⟩
/-- Rows that are new from block b on. -/
structure Fresh (b : Nat) (q : Pr) : Prop where
 v : ∀ g off, q.vs ≠ [] → q.va = some ⟨g, off, none⟩ → b ≤ g
 s : ∀ g off, q.ss ≠ [] → q.sa = some ⟨g, off, none⟩ → b ≤ g
structure FreshM (b : Nat) (m : Md) : Prop where
 p : ∀ g off, m.ps ≠ [] → m.pa = some ⟨g, off, none⟩ → b ≤ g
 pp : ∀ q ∈ m.ps, Fresh b q
 l : ∀ g off, m.ls ≠ [] → m.la = some ⟨g, off, none⟩ → b ≤ g
 e : ∀ g off, m.es ≠ [] → m.ea = some ⟨g, off, none⟩ → b ≤ g
theorem rowOf_kept {α : Type} {w w' : World} {A : Option Addr} {C : Nat} {cells : α → List Value} {l : List α} {K : Nat → Prop} (hC : ∀ a, (cells a).length = C) (hk : Kept K w w') (hn : ∀ b off, l ≠ [] → A = some ⟨b, off, none⟩ → ¬ K b) (h : RowOf w A C cells l) : RowOf w' A C cells l := by
 by_cases hne : l = []
 ·exact .inl hne
 rcases h with h | ⟨b, off, e, hc⟩
 ·exact .inl h
 ·refine .inr ⟨b, off, e, fun j o hj c hcc => ?_⟩
  have h9 := hc j o hj c hcc
  have hv : (cells o)[c]? = some ((cells o)[c]'(by rw [hC]; exact hcc)) := List.getElem?_eq_getElem _
  rw [hv] at h9 ⊢
  exact hk.cell h9 (hn b off hne e)
theorem RModel.fresh {w w' : World} {m : Md} {b : Nat} {K : Nat → Prop} (h : RModel w m) (hf : FreshM b m) (hk : Kept K w w') (hb : ∀ i, b ≤ i → ¬ K i) : RModel w' m :=
 ⟨RProcs.ofRow (rowOf_kept prCells_len hk (fun g off hn e => hb g (hf.p g off hn e)) h.p.rowOf), fun q hq => (h.pp q hq).kept hk (fun g off hn e => hb g ((hf.pp q hq).v g off hn e)) (fun g off hn e => hb g ((hf.pp q hq).s g off hn e)),
  RLinks.ofRow (rowOf_kept lkCells_len hk (fun g off hn e => hb g (hf.l g off hn e)) h.l.rowOf), REvents.ofRow (rowOf_kept evCells_len hk (fun g off hn e => hb g (hf.e g off hn e)) h.e.rowOf), h.pl, h.ll, h.el⟩
/-- Rows that lie in no block of K. -/
structure OutP (K : Nat → Prop) (q : Pr) : Prop where
 v : ∀ g off, q.vs ≠ [] → q.va = some ⟨g, off, none⟩ → ¬ K g
 s : ∀ g off, q.ss ≠ [] → q.sa = some ⟨g, off, none⟩ → ¬ K g
structure OutM (K : Nat → Prop) (m : Md) : Prop where
 p : ∀ g off, m.ps ≠ [] → m.pa = some ⟨g, off, none⟩ → ¬ K g
 pp : ∀ q ∈ m.ps, OutP K q
 l : ∀ g off, m.ls ≠ [] → m.la = some ⟨g, off, none⟩ → ¬ K g
 e : ∀ g off, m.es ≠ [] → m.ea = some ⟨g, off, none⟩ → ¬ K g
theorem RModel.out {w w' : World} {m : Md} {K : Nat → Prop} (h : RModel w m) (hf : OutM K m) (hk : Kept K w w') : RModel w' m :=
 ⟨RProcs.ofRow (rowOf_kept prCells_len hk hf.p h.p.rowOf), fun q hq => (h.pp q hq).kept hk (hf.pp q hq).v (hf.pp q hq).s,
  RLinks.ofRow (rowOf_kept lkCells_len hk hf.l h.l.rowOf), REvents.ofRow (rowOf_kept evCells_len hk hf.e h.e.rowOf), h.pl, h.ll, h.el⟩
theorem rowOf_low {α : Type} {w : World} {A : Option Addr} {C : Nat} {cells : α → List Value} {l : List α} (hC : ∀ a, (cells a).length = C) (hpos : 0 < C) (h : RowOf w A C cells l) {b off : Nat} (hn : l ≠ []) (e : A = some ⟨b, off, none⟩) : b < w.heap.size := by
 rcases h with h | ⟨b', off', e', hc⟩
 ·exact absurd h hn
 ·rw [e] at e'; cases e'
  cases l with
  | nil => exact absurd rfl hn
  | cons o l =>
   have h9 := hc 0 o rfl 0 hpos
   rw [List.getElem?_eq_getElem (by rw [hC]; exact hpos)] at h9
   exact World.block_lt_of_cell? _ _ h9
theorem RModel.low {w : World} {m : Md} (h : RModel w m) : OutM (fun i => w.heap.size ≤ i) m :=
 ⟨fun g off hn e => by have := rowOf_low prCells_len (by decide) h.p.rowOf hn e; omega, fun q hq => ⟨fun g off hn e => by have := (h.pp q hq).v.low g off hn e; omega, fun g off hn e => by have := (h.pp q hq).s.low g off hn e; omega⟩,
  fun g off hn e => by have := rowOf_low lkCells_len (by decide) h.l.rowOf hn e; omega, fun g off hn e => by have := rowOf_low evCells_len (by decide) h.e.rowOf hn e; omega⟩
structure SmallM (m : Md) : Prop where
 p : m.ps.length ≤ 100000
 l : m.ls.length ≤ 100000
 e : m.es.length ≤ 100000
 v : ∀ p ∈ m.ps, p.vs.length ≤ 100000 ∧ p.ss.length ≤ 100000
/-- A model that lies in memory, with its bounds. -/
structure HeldM (w : World) (m : Md) : Prop where
 r : RModel w m
 o : OkM m
 s : SmallM m
theorem HeldM.nil {w w' : World} {m : Md} (h : HeldM w m) (hk : Kept Nil w w') : HeldM w' m := ⟨h.r.nil hk, h.o, h.s⟩
theorem SmallM.same {a b : Md} (h : SmallM a) (hs : SameM a b) : SmallM b := by
 refine ⟨by rw [← hs.p.l]; exact h.p, by rw [← hs.l]; exact h.l, by rw [← hs.e]; exact h.e, fun q hq => ?_⟩
 obtain ⟨j, hj, hq⟩ := List.mem_iff_getElem.1 hq
 have hq2 : b.ps[j]? = some q := by rw [← hq]; exact List.getElem?_eq_getElem _
 obtain ⟨p, hp⟩ : ∃ r, a.ps[j]? = some r := ⟨_, List.getElem?_eq_getElem (by rw [hs.p.l]; exact hj)⟩
 have h9 := h.v p (List.mem_of_getElem? hp)
 have hpq := hs.p.p j p q hp hq2
 rw [hpq.v, hpq.s] at h9
 exact h9
theorem FreshM.mono {a b : Nat} {m : Md} (h : FreshM b m) (hab : a ≤ b) : FreshM a m :=
 ⟨fun g off hn e => Nat.le_trans hab (h.p g off hn e), fun q hq => ⟨fun g off hn e => Nat.le_trans hab ((h.pp q hq).v g off hn e), fun g off hn e => Nat.le_trans hab ((h.pp q hq).s g off hn e)⟩, fun g off hn e => Nat.le_trans hab (h.l g off hn e), fun g off hn e => Nat.le_trans hab (h.e g off hn e)⟩
theorem HeldM.fresh {w w' : World} {m : Md} {b : Nat} {K : Nat → Prop} (h : HeldM w m) (hf : FreshM b m) (hk : Kept K w w') (hb : ∀ i, b ≤ i → ¬ K i) : HeldM w' m := ⟨h.r.fresh hf hk hb, h.o, h.s⟩
theorem SameM.rfl' (m : Md) : SameM m m := ⟨rfl, SamePs.refl _, rfl, rfl⟩
theorem SamePs.symm {a b : List Pr} (h : SamePs a b) : SamePs b a := ⟨h.l.symm, fun j p q h1 h2 => (h.p j q p h2 h1).symm⟩
theorem SamePs.trans {a b c : List Pr} (h : SamePs a b) (k : SamePs b c) : SamePs a c := by
 refine ⟨h.l.trans k.l, fun j p q h1 h2 => ?_⟩
 have hj := (List.getElem?_eq_some_iff.1 h1).1
 obtain ⟨r, hr⟩ : ∃ r, b[j]? = some r := ⟨_, List.getElem?_eq_getElem (by rw [← h.l]; exact hj)⟩
 exact (h.p j p r h1 hr).trans (k.p j r q hr h2)
theorem SameM.symm {a b : Md} (h : SameM a b) : SameM b a := ⟨h.v.symm, h.p.symm, h.l.symm, h.e.symm⟩
theorem SameM.trans {a b c : Md} (h : SameM a b) (k : SameM b c) : SameM a c := ⟨h.v.trans k.v, h.p.trans k.p, h.l.trans k.l, h.e.trans k.e⟩
theorem SamePs.map {a b : List Pr} (h : SamePs a b) {β : Type} (f : Pr → β) (hf : ∀ p q, SameP p q → f p = f q) : a.map f = b.map f := by
 apply List.ext_getElem?
 intro j
 rw [List.getElem?_map, List.getElem?_map]
 by_cases hj : j < a.length
 ·obtain ⟨p, hp⟩ : ∃ r, a[j]? = some r := ⟨_, List.getElem?_eq_getElem hj⟩
  obtain ⟨q, hq⟩ : ∃ r, b[j]? = some r := ⟨_, List.getElem?_eq_getElem (by rw [← h.l]; exact hj)⟩
  rw [hp, hq, Option.map_some, Option.map_some, hf p q (h.p j p q hp hq)]
 ·rw [List.getElem?_eq_none (by omega), List.getElem?_eq_none (by rw [← h.l]; omega)]
theorem SamePs.names {a b : List Pr} (h : SamePs a b) : a.map Pr.name = b.map Pr.name := h.map Pr.name (fun _ _ k => k.n)
theorem SamePs.mapS {a b : List Pr} (h : SamePs a b) (f : Pr → Pr) (hf : ∀ p q, SameP p q → SameP (f p) (f q)) : SamePs (a.map f) (b.map f) := by
 refine ⟨by rw [List.length_map, List.length_map, h.l], fun j p q h1 h2 => ?_⟩
 rw [List.getElem?_map] at h1 h2
 obtain ⟨p', hp, rfl⟩ := Option.map_eq_some_iff.1 h1
 obtain ⟨q', hq, rfl⟩ := Option.map_eq_some_iff.1 h2
 exact hf _ _ (h.p j p' q' hp hq)
theorem procC_same {a b : Md} (h : SameM a b) (i : Nat) {p q : Pr} (k : SameP p q) : procC a i p = procC b i q := by
 have hs : (fun s => stepC a.ls p s) = fun s => stepC b.ls q s := by
  funext s
  unfold stepC
  rw [h.l, k.n, k.v]
 unfold procC
 rw [h.p.names, h.v, k.n, k.w, k.v, k.s]
 rw [show stepC a.ls p = stepC b.ls q from hs]
theorem linkC_same {a b : Md} (h : SameM a b) (i : Nat) (l : Lk) : linkC a i l = linkC b i l := by
 unfold linkC
 rw [h.p.names, h.v, h.l]
theorem eventC_same {a b : Md} (h : SameM a b) (e : Ev) : eventC a e = eventC b e := by
 unfold eventC
 rw [h.p.names]
theorem check_same {a b : Md} (h : SameM a b) : mdCheck a = mdCheck b := by
 have hP : codesP a = codesP b := by
  unfold codesP
  apply List.ext_getElem?
  intro j
  rw [List.getElem?_mapIdx, List.getElem?_mapIdx]
  by_cases hj : j < a.ps.length
  ·obtain ⟨p, hp⟩ : ∃ r, a.ps[j]? = some r := ⟨_, List.getElem?_eq_getElem hj⟩
   obtain ⟨q, hq⟩ : ∃ r, b.ps[j]? = some r := ⟨_, List.getElem?_eq_getElem (by rw [← h.p.l]; exact hj)⟩
   rw [hp, hq, Option.map_some, Option.map_some, procC_same h j (h.p.p j p q hp hq)]
  ·rw [List.getElem?_eq_none (by omega), List.getElem?_eq_none (by rw [← h.p.l]; omega)]
   rfl
 have hL : codesL a = codesL b := by
  unfold codesL
  rw [h.l]
  have : linkC a = linkC b := by funext i l; exact linkC_same h i l
  rw [this]
 have hE : codesE a = codesE b := by
  unfold codesE
  rw [h.e]
  have : eventC a = eventC b := by funext l; exact eventC_same h l
  rw [this]
 unfold mdCheck
 rw [hP, hL, hE, h.v, h.p.l, h.l, h.e]
/-- A model, one up: the fault, and the model. -/
structure CopyAt (b0 : Nat) (K : Nat → Prop) (w : World) (k : Nat) (ps qs : List Pr) : Prop where
 s : SamePs (ps.take k) qs
 r : ∀ q ∈ qs, RProc w q ∧ OkP q ∧ Fresh b0 q ∧ OutP K q
theorem CopyAt.start {b0 : Nat} {K : Nat → Prop} {w : World} {ps : List Pr} : CopyAt b0 K w 0 ps [] := ⟨by rw [List.take_zero]; exact SamePs.refl _, fun q hq => by simp at hq⟩
theorem RProc.low {w : World} {q : Pr} (h : RProc w q) : OutP (fun i => w.heap.size ≤ i) q := ⟨fun g off hn e => by have := h.v.low g off hn e; omega, fun g off hn e => by have := h.s.low g off hn e; omega⟩
theorem CopyAt.next {b0 : Nat} {K K' : Nat → Prop} {w w' : World} {k : Nat} {ps qs : List Pr} (h : CopyAt b0 K w k ps qs) (hk : Kept K w w') (hK : ∀ i, K' i → K i ∨ w.heap.size ≤ i) {p p' : Pr} (hp : ps[k]? = some p) (hs : SameP p p') (hr : RProc w' p') (ho : OkP p') (hf : Fresh b0 p') (hx : OutP K' p') : CopyAt b0 K' w' (k + 1) ps (qs ++ [p']) := by
 have hkl := (List.getElem?_eq_some_iff.1 hp).1
 refine ⟨⟨?_, fun j a b ha hb => ?_⟩, fun q hq => ?_⟩
 ·have := h.s.l; simp only [List.length_append, List.length_take, List.length_cons, List.length_nil] at *; omega
 ·rw [List.take_add_one, hp, Option.toList_some] at ha
  have hl := h.s.l
  by_cases hj : j < qs.length
  ·rw [List.getElem?_append_left (by rw [hl]; exact hj)] at ha
   rw [List.getElem?_append_left hj] at hb
   exact h.s.p j a b ha hb
  ·have hj2 : j = qs.length := by
    have h9 := (List.getElem?_eq_some_iff.1 hb).1
    simp only [List.length_append, List.length_cons, List.length_nil] at h9; omega
   subst hj2
   rw [List.getElem?_append_right (by rw [hl]; exact Nat.le_refl _), hl] at ha
   rw [List.getElem?_append_right (Nat.le_refl _)] at hb
   simp at ha hb
   subst ha; subst hb; exact hs
 ·rcases List.mem_append.1 hq with h1 | h1
  ·obtain ⟨a, b, c, d⟩ := h.r q h1
   have hlow := RProc.low a
   exact ⟨a.kept hk d.v d.s, b, c, ⟨fun g off hn e hh => (hK g hh).elim (d.v g off hn e) (hlow.v g off hn e), fun g off hn e hh => (hK g hh).elim (d.s g off hn e) (hlow.s g off hn e)⟩⟩
  ·simp only [List.mem_cons, List.not_mem_nil, or_false] at h1
   subst h1
   exact ⟨hr, ho, hf, hx⟩
/-- A model whose rows are new, and lie in blocks of their own. -/
structure NewM (b : Nat) (w : World) (m : Md) : Prop where
 p : NewRow b w m.pa 34 4 prCells m.ps
 l : NewRow b w m.la 42 5 lkCells m.ls
 e : NewRow b w m.ea 48 3 evCells m.es
 xp : ∀ q ∈ m.ps, OutP (fun i => ∃ off, m.pa = some ⟨i, off, none⟩) q
 xl : m.ls ≠ [] → ∀ q ∈ m.ps, OutP (fun i => ∃ off, m.la = some ⟨i, off, none⟩) q
theorem rowAt_ne {α β : Type} {w : World} {g h C D : Nat} {t u : TypeId} {c : α → List Value} {d : β → List Value} {l : List α} {k : List β} (a : RowAt w g t C c l) (b : RowAt w h u D d k) (hne : t ≠ u) : g ≠ h := by
 rintro rfl
 obtain ⟨x, h1, _⟩ := a.ex
 obtain ⟨y, h2, _⟩ := b.ex
 rw [h1] at h2
 cases h2
 exact hne rfl
structure HoldN (b : Nat) (w : World) (m : Md) : Prop where
 h : HeldM w m
 n : NewM b w m
 f : FreshM b m
theorem HoldN.fresh {b : Nat} {w w' : World} {m : Md} {K : Nat → Prop} (h : HoldN b w m) (hk : Kept K w w') (hb : ∀ i, b ≤ i → ¬ K i) : HoldN b w' m :=
 ⟨h.h.fresh h.f hk hb, ⟨h.n.p.kept hk hb, h.n.l.kept hk hb, h.n.e.kept hk hb, h.n.xp, h.n.xl⟩, h.f⟩
theorem HoldN.nil {b : Nat} {w w' : World} {m : Md} (h : HoldN b w m) (hk : Kept Nil w w') : HoldN b w' m := h.fresh hk (fun _ _ h => h)
theorem HoldN.ver {b : Nat} {w : World} {v v' : Int} {ps : List Pr} {ls : List Lk} {es : List Ev} {pa la ea : Option Addr} {pc lc ec : Nat} (h : HoldN b w ⟨v, pa, ps, pc, la, ls, lc, ea, es, ec⟩) (hv : Sc.I64 v') : HoldN b w ⟨v', pa, ps, pc, la, ls, lc, ea, es, ec⟩ :=
 ⟨⟨⟨h.h.r.p, h.h.r.pp, h.h.r.l, h.h.r.e, h.h.r.pl, h.h.r.ll, h.h.r.el⟩, ⟨hv, h.h.o.p, h.h.o.l, h.h.o.e, h.h.o.pc, h.h.o.pn, h.h.o.lc, h.h.o.ln, h.h.o.ec, h.h.o.en⟩, ⟨h.h.s.p, h.h.s.l, h.h.s.e, h.h.s.v⟩⟩, ⟨h.n.p, h.n.l, h.n.e, h.n.xp, h.n.xl⟩, ⟨h.f.p, h.f.pp, h.f.l, h.f.e⟩⟩
theorem HoldN.links {b : Nat} {w w' : World} {v : Int} {ps : List Pr} {ls ls' : List Lk} {es : List Ev} {pa la ea : Option Addr} {pc lc ec gg : Nat} (h : HoldN b w ⟨v, pa, ps, pc, la, ls, lc, ea, es, ec⟩)
  (hg : ls ≠ [] → la = some ⟨gg, 0, none⟩ ∧ RowAt w' gg 42 5 lkCells ls') (hk : Kept (fun i => ls ≠ [] ∧ i = gg) w w') (hl : ls'.length = ls.length) (ho : ∀ l ∈ ls', OkL l) : HoldN b w' ⟨v, pa, ps, pc, la, ls', lc, ea, es, ec⟩ := by
 by_cases hne : ls = []
 ·have e : ls' = [] := List.eq_nil_of_length_eq_zero (by rw [hl, hne]; rfl)
  rw [e]
  rw [hne] at h
  exact h.nil (hk.mono (fun i _ h => absurd hne h.1))
 ·obtain ⟨rfl, hr⟩ := hg hne
  have hne' : ls' ≠ [] := fun e => hne (List.eq_nil_of_length_eq_zero (by rw [← hl, e]; rfl))
  have hk' : Kept (fun i => i = gg) w w' := hk.mono (fun i _ h => h.2)
  obtain ⟨g0, hb0, e0, hr0⟩ := h.n.l hne
  cases e0
  have hp : NewRow b w' pa 34 4 prCells ps := fun hn => by
   obtain ⟨g1, hb1, e1, hr1⟩ := h.n.p hn
   exact ⟨g1, hb1, e1, hr1.kept hk' (rowAt_ne hr1 hr0 (by decide))⟩
  have he : NewRow b w' ea 48 3 evCells es := fun hn => by
   obtain ⟨g1, hb1, e1, hr1⟩ := h.n.e hn
   exact ⟨g1, hb1, e1, hr1.kept hk' (rowAt_ne hr1 hr0 (by decide))⟩
  have hx := h.n.xl hne
  refine ⟨⟨⟨RProcs.ofRow hp.row, fun q hq => ?_, RLinks.ofRow hr.row, REvents.ofRow he.row, h.h.r.pl, by simp only [hl]; exact h.h.r.ll, h.h.r.el⟩, ⟨h.h.o.v, h.h.o.p, ho, h.h.o.e, h.h.o.pc, h.h.o.pn, by simp only [hl]; exact h.h.o.lc, h.h.o.ln, h.h.o.ec, h.h.o.en⟩, ⟨h.h.s.p, by simp only [hl]; exact h.h.s.l, h.h.s.e, h.h.s.v⟩⟩,
   ⟨hp, fun _ => ⟨gg, hb0, rfl, hr⟩, he, h.n.xp, fun _ => hx⟩, ⟨h.f.p, h.f.pp, fun g off _ e => h.f.l g off hne e, h.f.e⟩⟩
  exact (h.h.r.pp q hq).kept hk' (fun g off hn e hh => (hx q hq).v g off hn e ⟨0, by simp only; rw [hh]⟩) (fun g off hn e hh => (hx q hq).s g off hn e ⟨0, by simp only; rw [hh]⟩)
end Go.Proofs.YtniocgnfgpaioaaGreat.Mo
end
end
section
namespace Go.Proofs.YtniocgnfgpaioaaGreat.HpPure

variable {α : Type}

/-- A strict weak order. -/
structure SWO (lt : α → α → Bool) : Prop where
 irrefl : ∀ a, lt a a = false
 trans : ∀ a b c, lt a b = true → lt b c = true → lt a c = true
 incomp : ∀ a b c, lt a b = false → lt b c = false → lt a c = false

/-- One comes out ahead of another one. -/
def bef (lt : α → α → Bool) (p q : α × Int) : Bool := lt p.1 q.1 || (!lt q.1 p.1 && decide (p.2 < q.2))

theorem bef_irrefl {lt : α → α → Bool} (h : SWO lt) (p : α × Int) : bef lt p p = false := by
 simp [bef, h.irrefl]
theorem bef_trans {lt : α → α → Bool} (h : SWO lt) {p q r : α × Int} (h1 : bef lt p q = true) (h2 : bef lt q r = true) : bef lt p r = true := by
 simp only [bef, Bool.or_eq_true, Bool.and_eq_true, Bool.not_eq_true', decide_eq_true_eq] at *
 by_cases k : lt p.1 r.1 = true
 ·exact .inl k
 ·refine .inr ?_
  have k' : lt p.1 r.1 = false := by simpa using k
  rcases h1 with a | ⟨a, a'⟩
  ·rcases h2 with b | ⟨b, b'⟩
   ·exact absurd (h.trans _ _ _ a b) k
   ·have : lt p.1 q.1 = false := h.incomp _ _ _ k' b
    rw [this] at a; cases a
  ·rcases h2 with b | ⟨b, b'⟩
   ·have : lt q.1 r.1 = false := h.incomp _ _ _ a k'
    rw [this] at b; cases b
   ·exact ⟨h.incomp _ _ _ b a, by omega⟩
theorem bef_total {lt : α → α → Bool} {p q : α × Int} (hn : p.2 ≠ q.2) (h1 : bef lt p q = false) : bef lt q p = true := by
 simp only [bef, Bool.or_eq_true, Bool.and_eq_true, Bool.not_eq_true', decide_eq_true_eq, Bool.or_eq_false_iff, Bool.and_eq_false_iff, Bool.not_eq_false', decide_eq_false_iff_not] at *
 obtain ⟨a, b⟩ := h1
 rcases b with b | b
 ·exact .inl b
 ·by_cases k : lt q.1 p.1 = true
  ·exact .inl k
  ·exact .inr ⟨a, by omega⟩
theorem bef_asymm {lt : α → α → Bool} (h : SWO lt) {p q : α × Int} (h1 : bef lt p q = true) : bef lt q p = false := by
 cases hq : bef lt q p
 ·rfl
 ·have := bef_trans h h1 hq; rw [bef_irrefl h] at this; cases this

/-- Two change their places. -/
def swap (xs : List (α × Int)) (i j : Nat) : List (α × Int) :=
 match xs[i]?, xs[j]? with
 | some a, some b => (xs.set i b).set j a
 | _, _ => xs

theorem swap_length (xs : List (α × Int)) (i j : Nat) : (swap xs i j).length = xs.length := by
 unfold swap; split <;> simp
theorem swap_of {xs : List (α × Int)} {i j : Nat} (hi : i < xs.length) (hj : j < xs.length) : swap xs i j = (xs.set i xs[j]).set j xs[i] := by
 unfold swap; rw [List.getElem?_eq_getElem hi, List.getElem?_eq_getElem hj]
theorem swap_get {xs : List (α × Int)} {i j k : Nat} (hi : i < xs.length) (hj : j < xs.length) : (swap xs i j)[k]? = if k = j then xs[i]? else if k = i then xs[j]? else xs[k]? := by
 rw [swap_of hi hj]
 by_cases h1 : k = j
 ·subst h1; rw [if_pos rfl, List.getElem?_set_self (by simpa using hj), List.getElem?_eq_getElem hi]
 ·rw [if_neg h1, List.getElem?_set_ne (by omega)]
  by_cases h2 : k = i
  ·subst h2; rw [if_pos rfl, List.getElem?_set_self hi, List.getElem?_eq_getElem hj]
  ·rw [if_neg h2, List.getElem?_set_ne (by omega)]
theorem swap_perm (xs : List (α × Int)) (i j : Nat) : (swap xs i j).Perm xs := by
 by_cases hi : i < xs.length
 ·by_cases hj : j < xs.length
  ·rw [swap_of hi hj]; exact List.set_set_perm hi hj
  ·unfold swap; rw [List.getElem?_eq_none (by omega : xs.length ≤ j)]; split <;> simp_all
 ·unfold swap; rw [List.getElem?_eq_none (by omega : xs.length ≤ i)]

def aheadB (lt : α → α → Bool) (xs : List (α × Int)) (i j : Nat) : Bool :=
 match xs[i]?, xs[j]? with
 | some a, some b => bef lt a b
 | _, _ => false

/-- One rises. -/
def up (lt : α → α → Bool) (xs : List (α × Int)) (i : Nat) : List (α × Int) :=
 if h : 0 < i then if aheadB lt xs i ((i - 1) / 2) = true then up lt (swap xs i ((i - 1) / 2)) ((i - 1) / 2) else xs else xs
termination_by i
decreasing_by omega

def least1 (lt : α → α → Bool) (xs : List (α × Int)) (i : Nat) : Nat := if 2 * i + 1 < xs.length ∧ aheadB lt xs (2 * i + 1) i = true then 2 * i + 1 else i
def least (lt : α → α → Bool) (xs : List (α × Int)) (i : Nat) : Nat := if 2 * i + 2 < xs.length ∧ aheadB lt xs (2 * i + 2) (least1 lt xs i) = true then 2 * i + 2 else least1 lt xs i

theorem least_cases (lt : α → α → Bool) (xs : List (α × Int)) (i : Nat) : least lt xs i = i ∨ (least lt xs i = 2 * i + 1 ∧ 2 * i + 1 < xs.length) ∨ (least lt xs i = 2 * i + 2 ∧ 2 * i + 2 < xs.length) := by
 unfold least
 split
 ·rename_i h; exact .inr (.inr ⟨rfl, h.1⟩)
 ·unfold least1; split
  ·rename_i h; exact .inr (.inl ⟨rfl, h.1⟩)
  ·exact .inl rfl

/-- One sinks. -/
def down (lt : α → α → Bool) (xs : List (α × Int)) (i : Nat) : List (α × Int) :=
 if h : least lt xs i = i then xs else down lt (swap xs i (least lt xs i)) (least lt xs i)
termination_by xs.length - i
decreasing_by
 have := least_cases lt xs i
 rw [swap_length]; omega

theorem up_length (lt : α → α → Bool) (xs : List (α × Int)) (i : Nat) : (up lt xs i).length = xs.length := by
 fun_induction up lt xs i with
 | case1 xs i h ha ih => rw [ih, swap_length]
 | case2 => rfl
 | case3 => rfl
theorem up_perm (lt : α → α → Bool) (xs : List (α × Int)) (i : Nat) : (up lt xs i).Perm xs := by
 fun_induction up lt xs i with
 | case1 xs i h ha ih => exact ih.trans (swap_perm _ _ _)
 | case2 => exact .refl _
 | case3 => exact .refl _
theorem down_length (lt : α → α → Bool) (xs : List (α × Int)) (i : Nat) : (down lt xs i).length = xs.length := by
 fun_induction down lt xs i with
 | case1 => rfl
 | case2 xs i h ih => rw [ih, swap_length]
theorem down_perm (lt : α → α → Bool) (xs : List (α × Int)) (i : Nat) : (down lt xs i).Perm xs := by
 fun_induction down lt xs i with
 | case1 => exact .refl _
 | case2 xs i h ih => exact ih.trans (swap_perm _ _ _)

def push (lt : α → α → Bool) (xs : List (α × Int)) (x : α) (s : Int) : List (α × Int) := up lt (xs ++ [(x, s)]) xs.length
/-- What is left when the least is taken out. -/
def pop (lt : α → α → Bool) (xs : List (α × Int)) : List (α × Int) := down lt ((swap xs 0 (xs.length - 1)).take (xs.length - 1)) 0

theorem bef_incomp {lt : α → α → Bool} (h : SWO lt) {p q r : α × Int} (h1 : bef lt p q = false) (h2 : bef lt q r = false) : bef lt p r = false := by
 simp only [bef, Bool.or_eq_false_iff, Bool.and_eq_false_iff, Bool.not_eq_false', decide_eq_false_iff_not] at *
 obtain ⟨a, a'⟩ := h1
 obtain ⟨b, b'⟩ := h2
 have pr := h.incomp _ _ _ a b
 refine ⟨pr, ?_⟩
 by_cases k : lt r.1 p.1 = true
 ·exact .inl k
 ·refine .inr ?_
  have k' : lt r.1 p.1 = false := by simpa using k
  have c1 : ¬ p.2 < q.2 := by
   rcases a' with a' | a'
   ·have := h.incomp _ _ _ b k'; rw [this] at a'; cases a'
   ·exact a'
  have c2 : ¬ q.2 < r.2 := by
   rcases b' with b' | b'
   ·have := h.incomp _ _ _ k' a; rw [this] at b'; cases b'
   ·exact b'
  omega

theorem aheadB_of {lt : α → α → Bool} {xs : List (α × Int)} {i j : Nat} {a b : α × Int} (hi : xs[i]? = some a) (hj : xs[j]? = some b) : aheadB lt xs i j = bef lt a b := by
 unfold aheadB; rw [hi, hj]

def HeapP (lt : α → α → Bool) (xs : List (α × Int)) : Prop := ∀ i a b, 0 < i → xs[i]? = some a → xs[(i - 1) / 2]? = some b → bef lt a b = false
def UpP (lt : α → α → Bool) (xs : List (α × Int)) (i : Nat) : Prop :=
 (∀ j a b, 0 < j → j ≠ i → xs[j]? = some a → xs[(j - 1) / 2]? = some b → bef lt a b = false) ∧
 (∀ j a b, 0 < i → 0 < j → (j - 1) / 2 = i → xs[j]? = some a → xs[(i - 1) / 2]? = some b → bef lt a b = false)
def DownP (lt : α → α → Bool) (xs : List (α × Int)) (i : Nat) : Prop :=
 (∀ j a b, 0 < j → (j - 1) / 2 ≠ i → xs[j]? = some a → xs[(j - 1) / 2]? = some b → bef lt a b = false) ∧
 (∀ j a b, 0 < i → 0 < j → (j - 1) / 2 = i → xs[j]? = some a → xs[(i - 1) / 2]? = some b → bef lt a b = false)

theorem up_heap {lt : α → α → Bool} (h : SWO lt) (xs : List (α × Int)) (i : Nat) (hl : i < xs.length) (hp : UpP lt xs i) : HeapP lt (up lt xs i) := by
 fun_induction up lt xs i with
 | case2 xs i h0 ha =>
  intro j a b hj e1 e2
  by_cases hji : j = i
  ·subst hji
   have := aheadB_of (lt := lt) e1 e2
   rw [← this]; simpa using ha
  ·exact hp.1 j a b hj hji e1 e2
 | case3 xs i h0 =>
  intro j a b hj e1 e2
  exact hp.1 j a b hj (by omega) e1 e2
 | case1 xs i h0 ha ih =>
  have hpl : (i - 1) / 2 < xs.length := by omega
  refine ih (by rw [swap_length]; omega) ?_
  obtain ⟨a, ea⟩ : ∃ a, xs[i]? = some a := ⟨_, List.getElem?_eq_getElem hl⟩
  obtain ⟨b, eb⟩ : ∃ b, xs[(i - 1) / 2]? = some b := ⟨_, List.getElem?_eq_getElem hpl⟩
  rw [aheadB_of ea eb] at ha
  refine ⟨?_, ?_⟩
  ·intro j x y hj hjp e1 e2
   rw [swap_get hl hpl] at e1 e2
   rw [if_neg hjp] at e1
   by_cases hji : j = i
   ·subst hji
    rw [if_pos rfl, eb] at e1
    rw [if_pos rfl, ea] at e2
    cases e1; cases e2
    exact bef_asymm h ha
   ·rw [if_neg hji] at e1
    by_cases q1 : (j - 1) / 2 = (i - 1) / 2
    ·rw [if_pos q1, ea] at e2
     cases e2
     have hx := hp.1 j x b hj hji e1 (by rw [q1]; exact eb)
     cases hxa : bef lt x a
     ·rfl
     ·have := bef_trans h hxa ha; rw [hx] at this; cases this
    ·rw [if_neg q1] at e2
     by_cases q2 : (j - 1) / 2 = i
     ·rw [if_pos q2, eb] at e2
      cases e2
      exact hp.2 j x b h0 hj q2 e1 eb
     ·rw [if_neg q2] at e2
      exact hp.1 j x y hj hji e1 e2
  ·intro j x y hp0 hj hjp e1 e2
   rw [swap_get hl hpl] at e1 e2
   rw [if_neg (by omega), if_neg (by omega)] at e2
   have hby := hp.1 ((i - 1) / 2) b y hp0 (by omega) eb e2
   rw [if_neg (by omega)] at e1
   by_cases hji : j = i
   ·rw [if_pos hji, eb] at e1
    cases e1
    exact hby
   ·rw [if_neg hji] at e1
    exact bef_incomp h (hp.1 j x b hj hji e1 (by rw [hjp]; exact eb)) hby

theorem least_spec {lt : α → α → Bool} (h : SWO lt) {xs : List (α × Int)} {i : Nat} (hl : i < xs.length) (a : α × Int) (ea : xs[i]? = some a) :
  (∃ m, xs[least lt xs i]? = some m ∧ (∀ j x, (j = 2 * i + 1 ∨ j = 2 * i + 2) → xs[j]? = some x → bef lt x m = false) ∧ (least lt xs i ≠ i → bef lt m a = true) ∧ bef lt a m = false) ∨ (least lt xs i = i ∧ ∀ j x, (j = 2 * i + 1 ∨ j = 2 * i + 2) → xs[j]? = some x → bef lt x a = false) := by
 by_cases c1 : 2 * i + 1 < xs.length
 ·obtain ⟨b, eb⟩ : ∃ b, xs[2 * i + 1]? = some b := ⟨_, List.getElem?_eq_getElem c1⟩
  have l1 : least1 lt xs i = if bef lt b a = true then 2 * i + 1 else i := by
   unfold least1; rw [aheadB_of eb ea]; simp [c1]
  by_cases c2 : 2 * i + 2 < xs.length
  ·obtain ⟨c, ec⟩ : ∃ c, xs[2 * i + 2]? = some c := ⟨_, List.getElem?_eq_getElem c2⟩
   cases hb : bef lt b a
   ·rw [hb] at l1
    simp only [Bool.false_eq_true, if_false] at l1
    have l2 : least lt xs i = if bef lt c a = true then 2 * i + 2 else i := by
     unfold least; rw [l1, aheadB_of ec ea]; simp [c2]
    cases hc : bef lt c a
    ·rw [hc] at l2
     simp only [Bool.false_eq_true, if_false] at l2
     refine .inr ⟨l2, ?_⟩
     rintro j x (rfl | rfl) e
     ·rw [eb] at e; cases e; exact hb
     ·rw [ec] at e; cases e; exact hc
    ·rw [hc] at l2
     simp only [if_true] at l2
     refine .inl ⟨c, by rw [l2]; exact ec, ?_, fun _ => hc, bef_asymm h hc⟩
     rintro j x (rfl | rfl) e
     ·rw [eb] at e; cases e; exact bef_incomp h hb (bef_asymm h hc)
     ·rw [ec] at e; cases e; exact bef_irrefl h _
   ·rw [hb] at l1
    simp only [if_true] at l1
    have l2 : least lt xs i = if bef lt c b = true then 2 * i + 2 else 2 * i + 1 := by
     unfold least; rw [l1, aheadB_of ec eb]; simp [c2]
    cases hc : bef lt c b
    ·rw [hc] at l2
     simp only [Bool.false_eq_true, if_false] at l2
     refine .inl ⟨b, by rw [l2]; exact eb, ?_, fun _ => hb, bef_asymm h hb⟩
     rintro j x (rfl | rfl) e
     ·rw [eb] at e; cases e; exact bef_irrefl h _
     ·rw [ec] at e; cases e; exact hc
    ·rw [hc] at l2
     simp only [if_true] at l2
     have hca := bef_trans h hc hb
     refine .inl ⟨c, by rw [l2]; exact ec, ?_, fun _ => hca, bef_asymm h hca⟩
     rintro j x (rfl | rfl) e
     ·rw [eb] at e; cases e; exact bef_asymm h hc
     ·rw [ec] at e; cases e; exact bef_irrefl h _
  ·have l2 : least lt xs i = least1 lt xs i := by unfold least; rw [if_neg (by omega)]
   cases hb : bef lt b a
   ·rw [hb] at l1
    simp only [Bool.false_eq_true, if_false] at l1
    refine .inr ⟨by rw [l2, l1], ?_⟩
    rintro j x (rfl | rfl) e
    ·rw [eb] at e; cases e; exact hb
    ·rw [List.getElem?_eq_none (by omega)] at e; cases e
   ·rw [hb] at l1
    simp only [if_true] at l1
    refine .inl ⟨b, by rw [l2, l1]; exact eb, ?_, fun _ => hb, bef_asymm h hb⟩
    rintro j x (rfl | rfl) e
    ·rw [eb] at e; cases e; exact bef_irrefl h _
    ·rw [List.getElem?_eq_none (by omega)] at e; cases e
 ·refine .inr ⟨?_, ?_⟩
  ·unfold least least1; rw [if_neg (show ¬ (2 * i + 1 < xs.length ∧ _) by omega), if_neg (by omega)]
  ·rintro j x (rfl | rfl) e
   ·rw [List.getElem?_eq_none (by omega)] at e; cases e
   ·rw [List.getElem?_eq_none (by omega)] at e; cases e

theorem down_heap {lt : α → α → Bool} (h : SWO lt) (xs : List (α × Int)) (i : Nat) (hp : DownP lt xs i) : HeapP lt (down lt xs i) := by
 fun_induction down lt xs i with
 | case1 xs i hli =>
  intro j x y hj e1 e2
  by_cases q : (j - 1) / 2 = i
  ·rw [q] at e2
   have hl : i < xs.length := (List.getElem?_eq_some_iff.1 e2).1
   rcases least_spec h hl y e2 with ⟨m, em, hc, _, _⟩ | ⟨_, hc⟩
   ·rw [hli, e2] at em; cases em
    exact hc j x (by omega) e1
   ·exact hc j x (by omega) e1
  ·exact hp.1 j x y hj q e1 e2
 | case2 xs i hli ih =>
  refine ih ?_
  have hcs := least_cases lt xs i
  have hl : i < xs.length := by omega
  have hcl : least lt xs i < xs.length := by omega
  obtain ⟨a, ea⟩ : ∃ a, xs[i]? = some a := ⟨_, List.getElem?_eq_getElem hl⟩
  rcases least_spec h hl a ea with ⟨m, em, hc, hm, _⟩ | ⟨hh, _⟩
  ·have hma := hm hli
   have hch : (least lt xs i - 1) / 2 = i := by omega
   have hc0 : 0 < least lt xs i := by omega
   generalize hcc : least lt xs i = c at *
   refine ⟨?_, ?_⟩
   ·intro j x y hj hjc e1 e2
    rw [swap_get hl hcl] at e1 e2
    rw [if_neg hjc] at e2
    by_cases q : (j - 1) / 2 = i
    ·rw [if_pos q, em] at e2
     cases e2
     by_cases jc : j = c
     ·rw [if_pos jc, ea] at e1
      cases e1
      exact bef_asymm h hma
     ·rw [if_neg jc, if_neg (by omega)] at e1
      exact hc j x (by omega) e1
    ·rw [if_neg q] at e2
     rw [if_neg (by omega)] at e1
     by_cases ji : j = i
     ·subst ji
      rw [if_pos rfl, em] at e1
      cases e1
      exact hp.2 c _ y hj hc0 hch em e2
     ·rw [if_neg ji] at e1
      exact hp.1 j x y hj q e1 e2
   ·intro j x y _ hj hjc e1 e2
    rw [swap_get hl hcl] at e1 e2
    rw [hch, if_neg (by omega), if_pos rfl, em] at e2
    cases e2
    rw [if_neg (by omega), if_neg (by omega)] at e1
    exact hp.1 j x _ hj (by omega) e1 (by rw [hjc]; exact em)
  ·exact absurd hh hli

theorem push_heap {lt : α → α → Bool} (h : SWO lt) {xs : List (α × Int)} (hp : HeapP lt xs) (x : α) (s : Int) : HeapP lt (push lt xs x s) := by
 refine up_heap h _ _ (by simp) ⟨?_, ?_⟩
 ·intro j a b hj hne e1 e2
  have hjl := (List.getElem?_eq_some_iff.1 e1).1
  simp only [List.length_append, List.length_singleton] at hjl
  rw [List.getElem?_append_left (by omega)] at e1 e2
  exact hp j a b hj e1 e2
 ·intro j a b h0 hj hq e1 e2
  have hjl := (List.getElem?_eq_some_iff.1 e1).1
  simp only [List.length_append, List.length_singleton] at hjl
  omega
theorem push_perm (lt : α → α → Bool) (xs : List (α × Int)) (x : α) (s : Int) : (push lt xs x s).Perm ((x, s) :: xs) :=
 (up_perm _ _ _).trans (List.perm_append_comm (l₁ := xs) (l₂ := [(x, s)]))
theorem push_length (lt : α → α → Bool) (xs : List (α × Int)) (x : α) (s : Int) : (push lt xs x s).length = xs.length + 1 := by
 unfold push; rw [up_length]; simp

theorem heap_root {lt : α → α → Bool} (h : SWO lt) {xs : List (α × Int)} (hp : HeapP lt xs) {a : α × Int} (ea : xs[0]? = some a) (j : Nat) : ∀ b, xs[j]? = some b → bef lt b a = false := by
 induction j using Nat.strongRecOn with
 | _ j ih =>
  intro b eb
  by_cases hj : 0 < j
  ·have hl := (List.getElem?_eq_some_iff.1 eb).1
   obtain ⟨c, ec⟩ : ∃ c, xs[(j - 1) / 2]? = some c := ⟨_, List.getElem?_eq_getElem (by omega)⟩
   exact bef_incomp h (hp j b c hj eb ec) (ih _ (by omega) c ec)
  ·obtain rfl : j = 0 := by omega
   rw [ea] at eb; cases eb
   exact bef_irrefl h _

theorem pop_length (lt : α → α → Bool) (xs : List (α × Int)) : (pop lt xs).length = xs.length - 1 := by
 unfold pop; rw [down_length, List.length_take, swap_length]; omega
theorem pop_perm (lt : α → α → Bool) {xs : List (α × Int)} {a : α × Int} (ea : xs[0]? = some a) : (a :: pop lt xs).Perm xs := by
 have hl := (List.getElem?_eq_some_iff.1 ea).1
 have h1 := swap_perm xs 0 (xs.length - 1)
 have hlast : (swap xs 0 (xs.length - 1))[xs.length - 1]? = some a := by rw [swap_get hl (by omega), if_pos rfl]; exact ea
 have h2 : swap xs 0 (xs.length - 1) = (swap xs 0 (xs.length - 1)).take (xs.length - 1) ++ [a] := by
  have e : (swap xs 0 (xs.length - 1)).take (xs.length - 1 + 1) = swap xs 0 (xs.length - 1) := List.take_of_length_le (by rw [swap_length]; omega)
  have t := List.take_add_one (l := swap xs 0 (xs.length - 1)) (i := xs.length - 1)
  rw [hlast, e] at t
  exact t
 refine ((down_perm lt _ 0).cons a).trans ?_
 refine (List.perm_append_comm (l₁ := [a])).trans ?_
 rw [← h2]; exact h1
theorem pop_heap {lt : α → α → Bool} (h : SWO lt) {xs : List (α × Int)} (hp : HeapP lt xs) : HeapP lt (pop lt xs) := by
 by_cases hl : 0 < xs.length
 ·refine down_heap h _ _ ⟨?_, fun j a b h0 => by omega⟩
  intro j a b hj hq e1 e2
  have hjl := (List.getElem?_eq_some_iff.1 e1).1
  rw [List.length_take, swap_length] at hjl
  rw [List.getElem?_take_of_lt (by omega), swap_get hl (by omega), if_neg (by omega), if_neg (by omega)] at e1 e2
  exact hp j a b hj e1 e2
 ·have : xs = [] := List.eq_nil_of_length_eq_zero (by omega)
  subst this
  intro i a b _ e1
  have := (List.getElem?_eq_some_iff.1 e1).1
  rw [pop_length] at this
  simp at this

/-- All that comes out, one after the other. -/
def drain (lt : α → α → Bool) (xs : List (α × Int)) : List (α × Int) :=
 match h : xs[0]? with
 | some a => a :: drain lt (pop lt xs)
 | none => []
termination_by xs.length
decreasing_by
 have := (List.getElem?_eq_some_iff.1 h).1
 rw [pop_length]; omega

theorem drain_nil (lt : α → α → Bool) : drain lt [] = [] := by unfold drain; rfl
theorem drain_cons (lt : α → α → Bool) {xs : List (α × Int)} {a : α × Int} (ea : xs[0]? = some a) : drain lt xs = a :: drain lt (pop lt xs) := by
 rw [drain.eq_def]; split
 ·rename_i b hb; rw [ea] at hb; cases hb; rfl
 ·rename_i hb; rw [ea] at hb; cases hb
theorem drain_perm (lt : α → α → Bool) (xs : List (α × Int)) : (drain lt xs).Perm xs := by
 fun_induction drain lt xs with
 | case1 xs a h ih => exact (ih.cons a).trans (pop_perm lt h)
 | case2 xs h =>
  have : xs = [] := by simpa using h
  subst this; exact .refl _
theorem drain_sorted {lt : α → α → Bool} (h : SWO lt) (xs : List (α × Int)) (hp : HeapP lt xs) : (drain lt xs).Pairwise (fun a b => bef lt b a = false) := by
 fun_induction drain lt xs with
 | case1 xs a ha ih =>
  refine List.Pairwise.cons ?_ (ih (pop_heap h hp))
  intro b hb
  have hb1 : b ∈ pop lt xs := (drain_perm lt _).mem_iff.1 hb
  have hb2 : b ∈ xs := (pop_perm lt ha).mem_iff.1 (List.mem_cons_of_mem _ hb1)
  obtain ⟨j, _, hj⟩ := List.mem_iff_getElem.1 hb2
  exact heap_root h hp ha j b (List.getElem?_eq_some_iff.2 ⟨_, hj⟩)
 | case2 => exact .nil

/-- Two rows of the same pairs, both in order, are one, where no two pairs have the same number. -/
theorem sorted_unique {lt : α → α → Bool} (h : SWO lt) : ∀ (xs ys : List (α × Int)), xs.Perm ys → xs.Pairwise (fun a b => bef lt b a = false) → ys.Pairwise (fun a b => bef lt b a = false) → (xs.map Prod.snd).Nodup → xs = ys
 | [], ys, hp, _, _, _ => (List.nil_perm.1 hp).symm
 | x :: xs, [], hp, _, _, _ => absurd (List.perm_nil.1 hp) (by simp)
 | x :: xs, y :: ys, hp, h1, h2, hn => by
  have hxy : x = y := by
   have hx : x ∈ y :: ys := hp.mem_iff.1 (by simp)
   have hy : y ∈ x :: xs := hp.mem_iff.2 (by simp)
   rcases List.mem_cons.1 hx with e | hx
   ·exact e
   rcases List.mem_cons.1 hy with e | hy
   ·exact e.symm
   have b1 := (List.pairwise_cons.1 h1).1 y hy
   have b2 := (List.pairwise_cons.1 h2).1 x hx
   have hne : x.2 ≠ y.2 := by
    have := (List.nodup_cons.1 (show (x.2 :: xs.map Prod.snd).Nodup from hn)).1
    intro e; exact this (by rw [e]; exact List.mem_map.2 ⟨y, hy, rfl⟩)
   have := bef_total hne b2
   rw [b1] at this; cases this
  subst hxy
  rw [sorted_unique h xs ys hp.cons_inv (List.pairwise_cons.1 h1).2 (List.pairwise_cons.1 h2).2 (List.nodup_cons.1 (show (x.2 :: xs.map Prod.snd).Nodup from hn)).2]
end Go.Proofs.YtniocgnfgpaioaaGreat.HpPure
end
