/- What sorting by a heap comes to, plainly: pushes, then drains. Nothing of the program is named. -/
import Derived.Test.YtfkhnhpphcpmmaaHpPure
namespace Go.Proofs.Ytfkhnhpphcpmmaa.HpPure
set_option linter.unusedVariables false
set_option linter.unusedSimpArgs false
variable {α : Type}

/-- Elements with their numbers, from s on. -/
def numbered : Int → List α → List (α × Int)
  | _, [] => []
  | s, x :: xs => (x, s) :: numbered (s + 1) xs
theorem numbered_fst (s : Int) (xs : List α) : (numbered s xs).map Prod.fst = xs := by
  induction xs generalizing s with
  | nil => rfl
  | cons x xs ih => simp [numbered, ih]
theorem numbered_snd_ge (s : Int) (xs : List α) : ∀ p ∈ numbered s xs, s ≤ p.2 := by
  induction xs generalizing s with
  | nil => intro p hp; cases hp
  | cons x xs ih =>
    intro p hp
    rcases List.mem_cons.1 hp with rfl | hp
    · exact Int.le_refl _
    · have := ih (s + 1) p hp; omega
theorem numbered_nodup (s : Int) (xs : List α) : ((numbered s xs).map Prod.snd).Nodup := by
  induction xs generalizing s with
  | nil => exact List.nodup_nil
  | cons x xs ih =>
    refine List.nodup_cons.2 ⟨fun h => ?_, ih (s + 1)⟩
    obtain ⟨p, hp, e⟩ := List.mem_map.1 h
    have := numbered_snd_ge (s + 1) xs p hp
    omega
theorem numbered_length (s : Int) (xs : List α) : (numbered s xs).length = xs.length := by rw [← List.length_map (f := Prod.fst), numbered_fst]
theorem numbered_append (s : Int) (xs ys : List α) : numbered s (xs ++ ys) = numbered s xs ++ numbered (s + xs.length) ys := by
  induction xs generalizing s with
  | nil => simp [numbered]
  | cons x xs ih =>
    have e : s + 1 + (xs.length : Int) = s + ((x :: xs).length : Int) := by simp; omega
    rw [List.cons_append, numbered, ih, e]; rfl

/-- All are put in, one after the other. -/
def pushes (lt : α → α → Bool) : List (α × Int) → List (α × Int) → List (α × Int) := List.foldl (fun h p => push lt h p.1 p.2)
theorem pushes_snoc (lt : α → α → Bool) (h ps : List (α × Int)) (x : α) (s : Int) : pushes lt h (ps ++ [(x, s)]) = push lt (pushes lt h ps) x s := by simp [pushes]
theorem pushes_perm (lt : α → α → Bool) (h ps : List (α × Int)) : (pushes lt h ps).Perm (h ++ ps) := by
  induction ps generalizing h with
  | nil => simp [pushes]
  | cons p ps ih =>
    refine (ih (push lt h p.1 p.2)).trans ?_
    refine ((push_perm lt h p.1 p.2).append_right ps).trans ?_
    exact List.perm_middle.symm
theorem pushes_length (lt : α → α → Bool) (h ps : List (α × Int)) : (pushes lt h ps).length = h.length + ps.length := by rw [(pushes_perm lt h ps).length_eq, List.length_append]
theorem pushes_heap {lt : α → α → Bool} (hs : SWO lt) {h : List (α × Int)} (hh : HeapP lt h) (ps : List (α × Int)) : HeapP lt (pushes lt h ps) := by
  induction ps generalizing h with
  | nil => exact hh
  | cons p ps ih => exact ih (push_heap hs hh p.1 p.2)
theorem heap_nil (lt : α → α → Bool) : HeapP lt [] := by intro i a b _ h; simp at h

/-- What is taken out of a heap into which the elements were put. -/
def sortedP (lt : α → α → Bool) (xs : List α) : List (α × Int) := drain lt (pushes lt [] (numbered 0 xs))
def sortedBy (lt : α → α → Bool) (xs : List α) : List α := (sortedP lt xs).map Prod.fst
theorem sortedP_perm (lt : α → α → Bool) (xs : List α) : (sortedP lt xs).Perm (numbered 0 xs) := (drain_perm lt _).trans (pushes_perm lt [] _)
theorem sortedBy_perm (lt : α → α → Bool) (xs : List α) : (sortedBy lt xs).Perm xs := by
  have := (sortedP_perm lt xs).map Prod.fst
  rwa [numbered_fst] at this
theorem sortedBy_length (lt : α → α → Bool) (xs : List α) : (sortedBy lt xs).length = xs.length := (sortedBy_perm lt xs).length_eq
theorem sortedP_sorted {lt : α → α → Bool} (h : SWO lt) (xs : List α) : (sortedP lt xs).Pairwise (fun a b => bef lt b a = false) := drain_sorted h _ (pushes_heap h (heap_nil lt) _)
/-- The only such order. -/
theorem sortedP_unique {lt : α → α → Bool} (h : SWO lt) {xs : List α} {ys : List (α × Int)} (hp : ys.Perm (numbered 0 xs)) (hs : ys.Pairwise (fun a b => bef lt b a = false)) : sortedP lt xs = ys :=
  sorted_unique h _ _ ((sortedP_perm lt xs).trans hp.symm) (sortedP_sorted h xs) hs (((sortedP_perm lt xs).map Prod.snd).nodup_iff.2 (numbered_nodup 0 xs))
end Go.Proofs.Ytfkhnhpphcpmmaa.HpPure
