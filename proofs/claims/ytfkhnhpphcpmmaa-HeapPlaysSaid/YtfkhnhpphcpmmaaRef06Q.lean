/- The reference's order is the heap's: both are the only one. -/
import Derived.Test.YtfkhnhpphcpmmaaHpAlive
namespace Go.Proofs.Ytfkhnhpphcpmmaa.Ref06
open Go Go.RowKit Go.Proofs.Ytfkhnhpphcpmmaa.Lb Go.Proofs.Ytfkhnhpphcpmmaa.HpPure Go.Proofs.Ytfkhnhpphcpmmaa.HpItem
set_option linter.unusedVariables false
set_option linter.unusedSimpArgs false

def key (xs : List It) (j : Nat) : Int := (xs[j]?.map It.f0).getD 0
theorem key_of {xs : List It} {j : Nat} {x : It} (h : xs[j]? = some x) : key xs j = x.f0 := by unfold key; rw [h]; rfl
theorem firstGo_spec (xs : List It) (k : Nat) : ∀ a, firstGo xs k = some a → (∀ j, j < k → ¬ key xs j < key xs a) ∧ (∀ j, j < a → key xs a < key xs j) := by
  induction k with
  | zero => intro a h; cases h
  | succ k ih =>
    intro a h
    rw [firstGo] at h
    split at h
    · rename_i h0
      cases h
      obtain rfl := (firstGo_none xs k).1 h0
      exact ⟨fun j hj => by obtain rfl : j = 0 := by omega
                            omega, fun j hj => by omega⟩
    · rename_i b hb
      obtain ⟨h1, h2⟩ := ih b hb
      have hbk := firstGo_lt xs k b hb
      split at h
      · rename_i hlt
        cases h
        have hlt : key xs k < key xs b := hlt
        refine ⟨fun j hj => ?_, fun j hj => ?_⟩
        · by_cases e : j = k
          · subst e; omega
          · have := h1 j (by omega); omega
        · have := h1 j (by omega); omega
      · rename_i hlt
        cases h
        have hlt : ¬ key xs k < key xs a := hlt
        refine ⟨fun j hj => ?_, h2⟩
        by_cases e : j = k
        · subst e; exact hlt
        · exact h1 j (by omega)

theorem erase_perm {β : Type} : ∀ (l : List β) (i : Nat) (h : i < l.length), (l[i] :: l.eraseIdx i).Perm l
  | x :: l, 0, _ => List.Perm.refl _
  | x :: l, i + 1, h => by
    have := erase_perm l i (by simp at h; omega)
    rw [List.eraseIdx_cons_succ, List.getElem_cons_succ]
    exact (List.Perm.swap _ _ _).trans (this.cons x)
theorem erase_map {β γ : Type} (f : β → γ) : ∀ (l : List β) (i : Nat), (l.map f).eraseIdx i = (l.eraseIdx i).map f
  | [], i => by simp
  | x :: l, 0 => by simp
  | x :: l, i + 1 => by simp [erase_map f l i]
theorem least_of {qs : List (It × Int)} (hs : qs.Pairwise (fun a b => a.2 < b.2)) {a : Nat} (h : firstGo (qs.map Prod.fst) qs.length = some a) {q : It × Int} (hq : qs[a]? = some q) : ∀ p ∈ qs, bef ltK p q = false := by
  obtain ⟨h1, h2⟩ := firstGo_spec _ _ a h
  intro p hp
  obtain ⟨j, hj, rfl⟩ := List.mem_iff_getElem.1 hp
  have ka : key (qs.map Prod.fst) a = q.1.f0 := key_of (by rw [List.getElem?_map, hq]; rfl)
  have kj : key (qs.map Prod.fst) j = qs[j].1.f0 := key_of (by rw [List.getElem?_map, List.getElem?_eq_getElem hj]; rfl)
  have g1 := h1 j hj
  rw [ka, kj] at g1
  simp only [bef, ltK, Bool.or_eq_false_iff, Bool.and_eq_false_iff, Bool.not_eq_false', decide_eq_false_iff_not, decide_eq_true_eq]
  refine ⟨g1, ?_⟩
  by_cases hja : j < a
  · have g2 := h2 j hja
    rw [ka, kj] at g2
    exact .inl g2
  · refine .inr ?_
    obtain ⟨ha, rfl⟩ := List.getElem?_eq_some_iff.1 hq
    by_cases e : j = a
    · subst e; omega
    · have := (List.pairwise_iff_getElem.1 hs) a j ha hj (by omega)
      omega

/-- The reference's order, on pairs. -/
theorem sortP (n : Nat) : ∀ qs : List (It × Int), qs.length = n → qs.Pairwise (fun a b => a.2 < b.2) → ∃ ys : List (It × Int), ys.Perm qs ∧ ys.Pairwise (fun a b => bef ltK b a = false) ∧ ys.map Prod.fst = sortRef (qs.map Prod.fst) := by
  induction n with
  | zero =>
    intro qs h _
    have : qs = [] := List.eq_nil_of_length_eq_zero h
    subst this
    exact ⟨[], List.Perm.refl _, List.Pairwise.nil, by rw [List.map_nil, sortRef_nil]⟩
  | succ n ih =>
    intro qs hl hs
    cases hf : firstGo (qs.map Prod.fst) (qs.map Prod.fst).length with
    | none =>
      have := (firstGo_none _ _).1 hf
      rw [List.length_map] at this
      omega
    | some a =>
      have ha := firstGo_lt _ _ a hf
      rw [List.length_map] at ha
      have hq : qs[a]? = some qs[a] := List.getElem?_eq_getElem ha
      have hsc := sortRef_cons (qs.map Prod.fst) a hf
      rw [List.length_map] at hf
      have hle := least_of hs hf hq
      obtain ⟨ys, p1, p2, p3⟩ := ih (qs.eraseIdx a) (by rw [List.length_eraseIdx, if_pos ha]; omega) (hs.sublist (List.eraseIdx_sublist qs a))
      have hperm : (qs[a] :: ys).Perm qs := (p1.cons _).trans (erase_perm qs a ha)
      refine ⟨qs[a] :: ys, hperm, List.Pairwise.cons (fun y hy => hle y (hperm.mem_iff.1 (List.mem_cons_of_mem _ hy))) p2, ?_⟩
      rw [List.map_cons, p3, hsc, List.getElem?_map, hq, wo, if_neg (by omega), Int.toNat_natCast]
      rw [erase_map]
      rfl
theorem numbered_pairwise (s : Int) (xs : List It) : (numbered s xs).Pairwise (fun a b => a.2 < b.2) := by
  induction xs generalizing s with
  | nil => exact List.Pairwise.nil
  | cons x xs ih => exact List.Pairwise.cons (fun p hp => by have := numbered_snd_ge (s + 1) xs p hp; omega) (ih (s + 1))
theorem sortRef_eq (xs : List It) : sortedBy ltK xs = sortRef xs := by
  obtain ⟨ys, p1, p2, p3⟩ := sortP _ (numbered 0 xs) rfl (numbered_pairwise 0 xs)
  unfold sortedBy
  rw [sortedP_unique swoK p1 p2, p3, numbered_fst]
end Go.Proofs.Ytfkhnhpphcpmmaa.Ref06
