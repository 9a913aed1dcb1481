/- Rows of structs: as they lie, as they are appended, with one cell turned. Nothing of the program is named. -/
import Derived.Test.YthgbahlkflmgiaaAppendS
namespace Go.Proofs.Ythgbahlkflmgiaa.Lb
open Go Go.RowKit
set_option linter.unusedVariables false

def RowOf {α : Type} (w : World) (A : Option Addr) (C : Nat) (cells : α → List Value) (l : List α) : Prop :=
  l = [] ∨ ∃ b off, A = some ⟨b, off, none⟩ ∧ ∀ j o, l[j]? = some o → ∀ c, c < C → w.cell? ⟨b, off + j * C + c, none⟩ = (cells o)[c]?
theorem rowOf_nil {α : Type} {w w' : World} {A : Option Addr} {C : Nat} {cells : α → List Value} {l : List α} (hC : ∀ a, (cells a).length = C) (hk : Kept Nil w w') (h : RowOf w A C cells l) : RowOf w' A C cells l := by
  rcases h with h | ⟨b, off, e, hc⟩
  · exact .inl h
  · refine .inr ⟨b, off, e, fun j o hj c hcc => ?_⟩
    have h9 := hc j o hj c hcc
    have hv : (cells o)[c]? = some ((cells o)[c]'(by rw [hC]; exact hcc)) := List.getElem?_eq_getElem _
    rw [hv] at h9 ⊢
    exact hk.cell h9 (fun h => h)
theorem RowOf.src {α : Type} {w : World} {A : Option Addr} {C cap : Nat} {cells : α → List Value} {l : List α} (h : RowOf w A C cells l) (hC : ∀ a, (cells a).length = C) (hpos : 0 < C) (hn : A = none → cap = 0) : SrcRow w C (.slice A l.length cap) l.length (l.flatMap cells) := by
  cases A with
  | none =>
    rcases h with h | ⟨b, off, h, _⟩
    · subst h; rw [hn rfl]; exact .inl ⟨rfl, rfl, rfl⟩
    · cases h
  | some a =>
    refine .inr ⟨a, cap, rfl, flat_len hC l, fun j u hj => ?_⟩
    rcases h with h | ⟨b, off, h, hc⟩
    · subst h; simp at hj
    · cases h
      have hjl : j < l.length * C := by rw [← flat_len hC l]; exact (List.getElem?_eq_some_iff.1 hj).1
      have hq : j / C < l.length := Nat.div_lt_of_lt_mul (by rw [Nat.mul_comm]; exact hjl)
      have hm : j % C < C := Nat.mod_lt _ hpos
      have e : j / C * C + j % C = j := by rw [Nat.mul_comm]; exact Nat.div_add_mod j C
      have ho := List.getElem?_eq_getElem hq
      have h1 := flat_get hC ho hm
      rw [e, hj] at h1
      have h2 := hc _ _ ho _ hm
      rw [show off + j / C * C + j % C = off + j by omega] at h2
      rw [Go.WideShapes.add_plain, h2]
      exact h1.symm
theorem wpList_append_src {P : Program} {w : World} {ops : Array Oper} {rest : List Oper} {o : Oper} {a : Act} {Q : Exit → Act → World → Prop} (hgd : o.guard = none) (s x : Operand) (t : TypeId)
    (ho : o.op = .call { callee := .builtin .append, args := #[s, x], argTypes := #[t, t] })
    (base : Nat) (e : TypeId) (i : TypeInfo) (z : Value) (size bytes : Nat) (ht : P.underlying t = some (.slice e)) (hi : P.info? e = some i) (hz : i.zero = some z)
    (hsize : i.size = size) (hby : i.bytes = bytes) (hzs : z.cells.size = size) (hsz : 0 < size)
    (v : Value) (n : Nat) (xs : List Value) (hs : a.eval s = v) (hown : w.ownsRow base e size v n xs)
    (v2 : Value) (m : Nat) (news : List Value) (hx : a.eval x = v2) (hsrc : SrcRow w size v2 m news) (h1 : ∀ u ∈ news, u.oneCell' = true)
    (h63 : n + m ≤ maxLen) (hbytes : (n + m) * bytes ≤ 140737488355328) (hbase : base ≤ w.heap.size)
    (h : ∀ v' w', w'.ownsRow base e size v' (n + m) (xs ++ news) → w.grownBy w' v.ownBlock → wpList P ops Q rest (a.put o.dst v') w') :
    wpList P ops Q (o :: rest) a w := by
  rcases hsrc with ⟨rfl, rfl, rfl⟩ | ⟨ad, c, rfl, hl, hnews⟩
  · refine wpList_append_own_none hgd s x t ho base e i size ht hi v n xs hs hown hx ?_
    exact h v w (by simpa using hown) (grownBy_refl _ _)
  · exact wpList_append_own w hgd s x t ho base e i z size bytes ht hi hz hsize hby hzs hsz v n xs hs hown ad m c news hx hl hnews h1 h63 hbytes hbase fun v' w' r1 r2 _ => h v' w' r1 r2
/-- A row in a block of its own. -/
structure RowAt {α : Type} (w : World) (g : Nat) (e : TypeId) (C : Nat) (cells : α → List Value) (l : List α) : Prop where
  ex : ∃ cur : Array Value, w.heap[g]? = some (.cells cur e (0, 0)) ∧ ∀ j o, l[j]? = some o → ∀ c, c < C → cur[j * C + c]? = (cells o)[c]?
theorem RowAt.kept {α : Type} {w w' : World} {g C : Nat} {e : TypeId} {cells : α → List Value} {l : List α} {S : Nat → Prop} (h : RowAt w g e C cells l) (hk : Kept S w w') (hS : ¬ S g) : RowAt w' g e C cells l := by
  obtain ⟨cur, h1, h2⟩ := h.ex
  exact ⟨cur, hk.heap h1 hS, h2⟩
theorem RowAt.row {α : Type} {w : World} {g C : Nat} {e : TypeId} {cells : α → List Value} {l : List α} (h : RowAt w g e C cells l) : RowOf w (some ⟨g, 0, none⟩) C cells l := by
  obtain ⟨cur, h1, h2⟩ := h.ex
  exact .inr ⟨g, 0, rfl, fun j o hj c hc => by rw [cell_of h1, Nat.zero_add]; exact h2 j o hj c hc⟩
theorem RowAt.cell {α : Type} {w : World} {g C : Nat} {e : TypeId} {cells : α → List Value} {l : List α} (h : RowAt w g e C cells l) {k : Nat} {o : α} (hk : l[k]? = some o) {c : Nat} (hc : c < C) : w.cell? ⟨g, k * C + c, none⟩ = (cells o)[c]? := by
  obtain ⟨cur, h1, h2⟩ := h.ex
  rw [cell_of h1]; exact h2 k o hk c hc
theorem RowAt.frozen {α : Type} {w : World} {g C : Nat} {e : TypeId} {cells : α → List Value} {l : List α} (h : RowAt w g e C cells l) (j : Nat) : w.frozen? ⟨g, j, none⟩ = false := by
  obtain ⟨cur, h1, h2⟩ := h.ex
  exact frozen_of h1 j
theorem RowAt.lt {α : Type} {w : World} {g C : Nat} {e : TypeId} {cells : α → List Value} {l : List α} (h : RowAt w g e C cells l) : g < w.heap.size := by
  obtain ⟨cur, h1, h2⟩ := h.ex
  exact (Array.getElem?_eq_some_iff.1 h1).1
theorem RowAt.set {α : Type} {w : World} {g C : Nat} {e : TypeId} {cells : α → List Value} {l : List α} (h : RowAt w g e C cells l) (hC : ∀ a, (cells a).length = C) {k : Nat} {o o' : α} (hk : l[k]? = some o) {c : Nat} (hc : c < C) {u : Value} (he : cells o' = (cells o).set c u) :
    RowAt (w.setCell ⟨g, k * C + c, none⟩ u) g e C cells (l.set k o') := by
  obtain ⟨cur, h1, h2⟩ := h.ex
  refine ⟨_, heap_set h1 _ _, fun j o2 hj c2 hc2 => ?_⟩
  have hkl := (List.getElem?_eq_some_iff.1 hk).1
  have hold := h2 k o hk c hc
  rw [List.getElem?_set] at hj
  rw [Array.getElem?_setIfInBounds]
  have hin : k * C + c < cur.size := by
    by_cases hlt : k * C + c < cur.size
    · exact hlt
    · rw [Array.getElem?_eq_none (by omega), List.getElem?_eq_getElem (by rw [hC]; exact hc)] at hold; cases hold
  by_cases e1 : k = j
  · subst e1
    rw [if_pos rfl, if_pos hkl] at hj
    cases hj
    by_cases e2 : c = c2
    · subst e2
      rw [if_pos rfl, if_pos hin, he, List.getElem?_set_self (by rw [hC]; exact hc)]
    · rw [if_neg (by omega), h2 k o hk c2 hc2, he, List.getElem?_set_ne e2]
  · rw [if_neg e1] at hj
    have hne : k * C + c ≠ j * C + c2 := by
      intro hh
      rcases Nat.lt_or_gt_of_ne e1 with hl | hl
      · have := Nat.mul_le_mul_right C (show k + 1 ≤ j by omega)
        rw [Nat.add_mul] at this
        omega
      · have := Nat.mul_le_mul_right C (show j + 1 ≤ k by omega)
        rw [Nat.add_mul] at this
        omega
    rw [if_neg hne]
    exact h2 j o2 hj c2 hc2
theorem rowAt_of_own {α : Type} {w : World} {base n C : Nat} {e : TypeId} {cells : α → List Value} {l : List α} {v : Value} (h : w.ownsRow base e C v n (l.flatMap cells)) (hC : ∀ a, (cells a).length = C) (hpos : 0 < C) (hne : l ≠ []) :
    ∃ g cap, v = .slice (some ⟨g, 0, none⟩) l.length cap ∧ n = l.length ∧ base ≤ g ∧ l.length ≤ cap ∧ RowAt w g e C cells l := by
  have hl := h.1
  rw [flat_len hC] at hl
  have hn : n = l.length := (Nat.eq_of_mul_eq_mul_right hpos hl).symm
  subst hn
  have h0 := h
  rcases h.2 with ⟨h1, h2⟩ | ⟨g, cap, cur, h1, hb, hh, hcap, _⟩
  · exact absurd (List.eq_nil_of_length_eq_zero h2) hne
  · subst h1
    refine ⟨g, cap, rfl, rfl, hb, hcap, ⟨cur, hh, fun j o hj c hc => ?_⟩⟩
    have h9 := flat_get hC hj hc
    rw [← h9, ← cell_of hh]
    have hjl := (List.getElem?_eq_some_iff.1 hj).1
    have : j * C + c < l.length * C := by
      have := Nat.mul_le_mul_right C (show j + 1 ≤ l.length by omega)
      rw [Nat.add_mul] at this
      omega
    have h8 : (l.flatMap cells)[j * C + c]? = some ((l.flatMap cells)[j * C + c]'(by rw [flat_len hC]; exact this)) := List.getElem?_eq_getElem _
    rw [h8]
    exact own_cell h0 h8
theorem rowOf_own {α : Type} {w : World} {base n C : Nat} {e : TypeId} {cells : α → List Value} {l : List α} {v : Value} (h : w.ownsRow base e C v n (l.flatMap cells)) (hC : ∀ a, (cells a).length = C) (hpos : 0 < C) :
    ∃ A cap, v = .slice A l.length cap ∧ n = l.length ∧ RowOf w A C cells l ∧ (∀ b off, A = some ⟨b, off, none⟩ → base ≤ b) ∧ l.length ≤ cap ∧ (A = none → cap = 0) := by
  by_cases hne : l = []
  · subst hne
    have hl := h.1
    rw [List.flatMap_nil, List.length_nil] at hl
    have hn : n = 0 := (Nat.mul_eq_zero.1 hl.symm).resolve_right (by omega)
    subst hn
    rcases own_form h with ⟨h1, _, _⟩ | ⟨g, cap, h1, h2, _, h4, _⟩
    · exact ⟨none, 0, h1, rfl, .inl rfl, (fun _ _ e => by cases e), Nat.le_refl _, fun _ => rfl⟩
    · exact ⟨some ⟨g, 0, none⟩, cap, h1, rfl, .inl rfl, (fun _ _ e => by cases e; exact h2), Nat.zero_le _, fun e => by cases e⟩
  · obtain ⟨g, cap, h1, h2, h3, h4, h5⟩ := rowAt_of_own h hC hpos hne
    exact ⟨_, cap, h1, h2, h5.row, (fun _ _ e => by cases e; exact h3), h4, fun e => by cases e⟩
end Go.Proofs.Ythgbahlkflmgiaa.Lb
