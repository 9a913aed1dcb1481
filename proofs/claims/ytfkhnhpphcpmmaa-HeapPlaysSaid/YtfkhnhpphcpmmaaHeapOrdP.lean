/- What the statement HeapOrders says of what is sorted, plainly. -/
import Derived.Test.YtfkhnhpphcpmmaaRef06Q
namespace Go.Proofs.Ytfkhnhpphcpmmaa.HpItem
open Go Go.RowKit Go.Proofs.Ytfkhnhpphcpmmaa.Lb Go.Proofs.Ytfkhnhpphcpmmaa.HpPure Go.Proofs.Ytfkhnhpphcpmmaa.Ref06
set_option linter.unusedVariables false
set_option linter.unusedSimpArgs false

/-- The items of a list of keys. -/
def itemsOf (zs : List Int) : List It := (numbered 0 zs).map (fun p => ⟨p.1, p.2⟩)
theorem itemsOf_len (zs : List Int) : (itemsOf zs).length = zs.length := by unfold itemsOf; rw [List.length_map, numbered_length]
theorem itemsOf_take (zs : List Int) {k : Nat} {z : Int} (h : zs[k]? = some z) : itemsOf (zs.take (k + 1)) = itemsOf (zs.take k) ++ [⟨z, k⟩] := by
  have hk := (List.getElem?_eq_some_iff.1 h).1
  unfold itemsOf
  rw [List.take_add_one, h, numbered_append, List.map_append]
  simp [numbered, Nat.min_eq_left (Nat.le_of_lt hk)]
theorem numbered_get {α : Type} (s : Int) (xs : List α) (i : Nat) : (numbered s xs)[i]? = xs[i]?.map (fun x => (x, s + i)) := by
  induction xs generalizing s i with
  | nil => simp [numbered]
  | cons x xs ih =>
    cases i with
    | zero => simp [numbered]
    | succ i => rw [numbered, List.getElem?_cons_succ, List.getElem?_cons_succ, ih]; congr 1; funext y; congr 1; omega
theorem itemsOf_get (zs : List Int) (i : Nat) : (itemsOf zs)[i]? = zs[i]?.map (fun z => ⟨z, i⟩) := by
  unfold itemsOf
  rw [List.getElem?_map, numbered_get]
  cases zs[i]? <;> simp
/-- Each item bears its own number. -/
theorem tagged (zs : List Int) : ∀ p ∈ numbered 0 (itemsOf zs), p.1.f1 = p.2 := by
  intro p hp
  obtain ⟨i, hi, rfl⟩ := List.mem_iff_getElem.1 hp
  have h := numbered_get 0 (itemsOf zs) i
  rw [List.getElem?_eq_getElem hi, itemsOf_get] at h
  cases hz : zs[i]? with
  | none => rw [hz] at h; cases h
  | some z => rw [hz] at h; simp at h; rw [h]
theorem mem_sorted {zs : List Int} {p : It × Int} (hp : p ∈ sortedP ltK (itemsOf zs)) : p.1.f1 = p.2 := tagged zs p ((sortedP_perm ltK _).mem_iff.1 hp)
/-- What comes out stands in the row where its number says. -/
theorem sorted_in {zs : List Int} {x : It} (hx : x ∈ sortedBy ltK (itemsOf zs)) : ∃ t : Nat, x.f1 = t ∧ t < zs.length ∧ (itemsOf zs)[t]? = some x := by
  have := (sortedBy_perm ltK (itemsOf zs)).mem_iff.1 hx
  obtain ⟨i, hi, rfl⟩ := List.mem_iff_getElem.1 this
  have h := itemsOf_get zs i
  rw [List.getElem?_eq_getElem hi] at h
  have hi2 : i < zs.length := by rwa [itemsOf_len] at hi
  rw [List.getElem?_eq_getElem hi2] at h
  simp at h
  exact ⟨i, by rw [h], hi2, List.getElem?_eq_getElem hi⟩
theorem sorted_tags (zs : List Int) : ((sortedBy ltK (itemsOf zs)).map It.f1).Nodup := by
  have h1 : ((sortedP ltK (itemsOf zs)).map Prod.snd).Nodup := ((sortedP_perm ltK _).map Prod.snd).nodup_iff.2 (numbered_nodup 0 _)
  have h2 : (sortedBy ltK (itemsOf zs)).map It.f1 = (sortedP ltK (itemsOf zs)).map Prod.snd := by
    unfold sortedBy
    rw [List.map_map]
    exact List.map_congr_left (fun p hp => mem_sorted hp)
  rw [h2]; exact h1
/-- It rises; equal ones as they were put in. -/
theorem sorted_rises (zs : List Int) : (sortedBy ltK (itemsOf zs)).Pairwise (fun a b => ¬ b.f0 < a.f0 ∧ ¬ (a.f0 = b.f0 ∧ b.f1 < a.f1)) := by
  unfold sortedBy
  refine List.pairwise_map.2 ?_
  refine (sortedP_sorted swoK (itemsOf zs)).imp_of_mem (fun {a b} ha hb h => ?_)
  rw [mem_sorted ha, mem_sorted hb]
  simp only [bef, ltK, Bool.or_eq_false_iff, Bool.and_eq_false_iff, Bool.not_eq_false', decide_eq_false_iff_not, decide_eq_true_eq] at h
  omega
theorem same_ints : ∀ (xs ys : List Int), xs.Perm ys → xs.Pairwise (fun a b => b ≤ a) → ys.Pairwise (fun a b => b ≤ a) → xs = ys
  | [], ys, h, _, _ => (List.Perm.nil_eq h)
  | x :: xs, [], h, _, _ => by have := h.length_eq; simp at this
  | x :: xs, y :: ys, h, h1, h2 => by
    have hx : x ∈ y :: ys := h.mem_iff.1 (List.mem_cons_self ..)
    have hy : y ∈ x :: xs := h.mem_iff.2 (List.mem_cons_self ..)
    have e : x = y := by
      rw [List.pairwise_cons] at h1 h2
      rcases List.mem_cons.1 hx with e | hx
      · exact e
      · rcases List.mem_cons.1 hy with e | hy
        · exact e.symm
        · have := h1.1 y hy; have := h2.1 x hx; omega
    subst e
    rw [same_ints xs ys (List.Perm.cons_inv h) (List.pairwise_cons.1 h1).2 (List.pairwise_cons.1 h2).2]
/-- Backwards by what is greater: the keys, turned round. -/
theorem back_keys (xs : List It) : (sortedBy gtK xs).map It.f0 = ((sortedBy ltK xs).map It.f0).reverse := by
  refine same_ints _ _ ?_ ?_ ?_
  · exact (((sortedBy_perm gtK xs).trans (sortedBy_perm ltK xs).symm).map It.f0).trans (List.reverse_perm _).symm
  · refine List.pairwise_map.2 ?_
    unfold sortedBy
    refine List.pairwise_map.2 ((sortedP_sorted swoG xs).imp (fun {a b} h => ?_))
    simp only [bef, gtK, Bool.or_eq_false_iff, decide_eq_false_iff_not] at h
    omega
  · refine List.pairwise_reverse.2 (List.pairwise_map.2 ?_)
    unfold sortedBy
    refine List.pairwise_map.2 ((sortedP_sorted swoK xs).imp (fun {a b} h => ?_))
    simp only [bef, ltK, Bool.or_eq_false_iff, decide_eq_false_iff_not] at h
    omega
/-- Sorted again: the same. -/
theorem sorted_again (xs : List It) : sortedBy ltK (sortedBy ltK xs) = sortedBy ltK xs := by
  have hs : (sortedBy ltK xs).Pairwise (fun a b => ¬ b.f0 < a.f0) := by
    unfold sortedBy
    refine List.pairwise_map.2 ((sortedP_sorted swoK xs).imp (fun {a b} h => ?_))
    simp only [bef, ltK, Bool.or_eq_false_iff, decide_eq_false_iff_not] at h
    exact h.1
  generalize sortedBy ltK xs = ys at *
  have hp : (numbered 0 ys).Pairwise (fun a b => bef ltK b a = false) := by
    refine List.pairwise_iff_getElem.2 (fun i j hi hj hij => ?_)
    have hi' : i < ys.length := by rwa [numbered_length] at hi
    have hj' : j < ys.length := by rwa [numbered_length] at hj
    have e1 := numbered_get 0 ys i
    have e2 := numbered_get 0 ys j
    rw [List.getElem?_eq_getElem hi, List.getElem?_eq_getElem hi'] at e1
    rw [List.getElem?_eq_getElem hj, List.getElem?_eq_getElem hj'] at e2
    simp at e1 e2
    rw [e1, e2]
    have := List.pairwise_iff_getElem.1 hs i j hi' hj' hij
    simp only [bef, ltK, Bool.or_eq_false_iff, Bool.and_eq_false_iff, Bool.not_eq_false', decide_eq_false_iff_not, decide_eq_true_eq]
    exact ⟨this, .inr (by simp; omega)⟩
  have := sortedP_unique swoK (List.Perm.refl (numbered 0 ys)) hp
  show (sortedP ltK ys).map Prod.fst = ys
  rw [this, numbered_fst]
end Go.Proofs.Ytfkhnhpphcpmmaa.HpItem
