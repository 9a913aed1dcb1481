/- The reference's row of items, plainly: the first least one, a row without one, the row in order. Nothing of the program is named but the shape of an item. -/
import Derived.Test.YtfkhnhpphcpmmaaHpItem7
namespace Go.Proofs.Ytfkhnhpphcpmmaa.Ref06
open Go Go.RowKit Go.Proofs.Ytfkhnhpphcpmmaa.Lb Go.Proofs.Ytfkhnhpphcpmmaa.HpPure Go.Proofs.Ytfkhnhpphcpmmaa.HpItem
set_option linter.unusedVariables false
set_option linter.unusedSimpArgs false

/-- The first least one of the first k. -/
def firstGo (xs : List It) : Nat → Option Nat
  | 0 => none
  | k + 1 => match firstGo xs k with
    | none => some k
    | some a => if (xs[k]?.map It.f0).getD 0 < (xs[a]?.map It.f0).getD 0 then some k else some a
def atOf : Option Nat → Int
  | none => -1
  | some a => a
theorem firstGo_lt (xs : List It) (k : Nat) : ∀ a, firstGo xs k = some a → a < k := by
  induction k with
  | zero => intro a h; cases h
  | succ k ih =>
    intro a h
    rw [firstGo] at h
    split at h
    · cases h; omega
    · rename_i b hb
      have := ih b hb
      split at h <;> cases h <;> omega
theorem firstGo_none (xs : List It) (k : Nat) : firstGo xs k = none ↔ k = 0 := by
  cases k with
  | zero => simp [firstGo]
  | succ k =>
    simp only [firstGo, Nat.add_one_ne_zero, iff_false]
    split
    · simp
    · split <;> simp
/-- A row without one of its places. -/
def wo (xs : List It) (at_ : Int) : List It := if at_ < 0 then xs else xs.eraseIdx at_.toNat
theorem wo_snoc (xs : List It) (x : It) (at_ : Int) : wo (xs ++ [x]) at_ = if (xs.length : Int) = at_ then wo xs at_ else wo xs at_ ++ [x] := by
  unfold wo
  by_cases h : at_ < 0
  · rw [if_pos h, if_pos h, if_neg (by omega)]
  · rw [if_neg h, if_neg h]
    obtain ⟨a, rfl⟩ : ∃ a : Nat, at_ = a := ⟨at_.toNat, by omega⟩
    simp only [Int.toNat_natCast]
    by_cases h1 : xs.length = a
    · subst h1
      rw [if_pos rfl, List.eraseIdx_append_of_length_le (by omega)]
      simp
      exact (List.eraseIdx_of_length_le (Nat.le_refl _)).symm
    · rw [if_neg (by omega)]
      by_cases h2 : a < xs.length
      · rw [List.eraseIdx_append_of_lt_length h2]
      · rw [List.eraseIdx_of_length_le (by simp; omega), List.eraseIdx_of_length_le (by omega)]
theorem wo_len_le (xs : List It) (at_ : Int) : (wo xs at_).length ≤ xs.length := by
  unfold wo
  split
  · exact Nat.le_refl _
  · rw [List.length_eraseIdx]; split <;> omega
theorem wo_len (xs : List It) (a : Nat) (h : a < xs.length) : (wo xs (a : Int)).length = xs.length - 1 := by
  unfold wo
  rw [if_neg (by omega), Int.toNat_natCast, List.length_eraseIdx, if_pos h]
/-- The row in order. -/
def sortRef (xs : List It) : List It :=
  match h : firstGo xs xs.length with
  | none => []
  | some a => (xs[a]?.getD ⟨0, 0⟩) :: sortRef (wo xs (a : Int))
termination_by xs.length
decreasing_by
  have h1 := firstGo_lt xs xs.length a h
  rw [wo_len xs a h1]; omega
theorem sortRef_nil : sortRef [] = [] := by unfold sortRef; rfl
theorem sortRef_cons (xs : List It) (a : Nat) (h : firstGo xs xs.length = some a) : sortRef xs = (xs[a]?.getD ⟨0, 0⟩) :: sortRef (wo xs (a : Int)) := by
  rw [sortRef]
  split
  · rename_i h2; rw [h] at h2; cases h2
  · rename_i b h2; rw [h] at h2; cases h2; rfl

theorem row_of_own {w : World} {base n : Nat} {v : Value} {xs : List It} (h : w.ownsRow base 27 2 v n (xs.flatMap It.cells)) : n = xs.length ∧ ∃ A cap, v = .slice A xs.length cap ∧ Row w A xs ∧ (∀ b off, A = some ⟨b, off, none⟩ → base ≤ b ∧ b < w.heap.size ∧ v.ownBlock = some b) := by
  have hl := h.1
  rw [flat_len (f := It.cells) (sz := 2) (fun _ => rfl)] at hl
  have hn : n = xs.length := by omega
  subst hn
  refine ⟨rfl, ?_⟩
  rcases own_form h with ⟨h1, h2, h3⟩ | ⟨g, cap, h1, h2, h3, h4, h5⟩
  · have : xs = [] := by simpa using h2
    subst this
    exact ⟨none, 0, by rw [h1]; rfl, .inl rfl, fun _ _ e => by cases e⟩
  · subst h1
    refine ⟨some ⟨g, 0, none⟩, cap, rfl, .inr ⟨g, 0, rfl, fun j x hj => ?_⟩, fun b off e => by cases e; exact ⟨h2, h3, rfl⟩⟩
    have e0 := own_cell h (flat_get (f := It.cells) (sz := 2) (fun _ => rfl) hj (c := 0) (by omega))
    have e1 := own_cell h (flat_get (f := It.cells) (sz := 2) (fun _ => rfl) hj (c := 1) (by omega))
    rw [Nat.zero_add]
    exact ⟨e0, e1⟩
end Go.Proofs.Ytfkhnhpphcpmmaa.Ref06
