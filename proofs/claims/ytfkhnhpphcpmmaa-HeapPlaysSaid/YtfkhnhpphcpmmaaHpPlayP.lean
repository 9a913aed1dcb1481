/- What the statement HeapPlays says, plainly: a heap beside the reference's row. -/
import Derived.Test.YtfkhnhpphcpmmaaHeapOrdP
namespace Go.Proofs.Ytfkhnhpphcpmmaa.HpItem
open Go Go.RowKit Go.Proofs.Ytfkhnhpphcpmmaa.Lb Go.Proofs.Ytfkhnhpphcpmmaa.HpPure Go.Proofs.Ytfkhnhpphcpmmaa.Ref06
set_option linter.unusedVariables false
set_option linter.unusedSimpArgs false

/-- A heap holds what a row holds, numbered in the row's order. -/
structure Play (xs : List (It × Int)) (row : List It) (seq : Int) : Prop where
  heap : HeapP ltK xs
  qs : ∃ qs : List (It × Int), qs.Perm xs ∧ qs.map Prod.fst = row ∧ qs.Pairwise (fun a b => a.2 < b.2) ∧ ∀ q ∈ qs, q.2 < seq
theorem Play.nil : Play [] [] 0 := ⟨heap_nil ltK, [], List.Perm.refl _, rfl, List.Pairwise.nil, by simp⟩
theorem Play.len {xs : List (It × Int)} {row : List It} {seq : Int} (h : Play xs row seq) : xs.length = row.length := by
  obtain ⟨qs, h1, h2, _, _⟩ := h.qs
  rw [← h1.length_eq, ← h2, List.length_map]
theorem Play.push {xs : List (It × Int)} {row : List It} {seq : Int} (h : Play xs row seq) (x : It) : Play (push ltK xs x seq) (row ++ [x]) (seq + 1) := by
  obtain ⟨qs, h1, h2, h3, h4⟩ := h.qs
  refine ⟨push_heap swoK h.heap x seq, qs ++ [(x, seq)], ?_, by rw [List.map_append, h2]; rfl, ?_, ?_⟩
  · exact (List.perm_append_comm.trans (h1.cons _)).trans (push_perm ltK xs x seq).symm
  · refine List.pairwise_append.2 ⟨h3, List.pairwise_singleton _ _, fun a ha b hb => ?_⟩
    rw [List.mem_singleton] at hb
    subst hb
    exact h4 a ha
  · intro q hq
    rcases List.mem_append.1 hq with hq | hq
    · have := h4 q hq; omega
    · rw [List.mem_singleton] at hq; subst hq; show seq < seq + 1; omega
theorem Play.empty {xs : List (It × Int)} {row : List It} {seq : Int} (h : Play xs row seq) (hf : firstGo row row.length = none) : xs = [] ∧ row = [] := by
  have := (firstGo_none row row.length).1 hf
  have hl := h.len
  exact ⟨List.eq_nil_of_length_eq_zero (by omega), List.eq_nil_of_length_eq_zero this⟩
theorem nodup_of {qs : List (It × Int)} (h : qs.Pairwise (fun a b => a.2 < b.2)) : (qs.map Prod.snd).Nodup := by
  rw [List.nodup_iff_pairwise_ne, List.pairwise_map]
  exact h.imp (fun h => by omega)
theorem Play.root {xs : List (It × Int)} {row : List It} {seq : Int} (h : Play xs row seq) {a : Nat} (hf : firstGo row row.length = some a) :
    ∃ q, xs[0]? = some q ∧ row[a]? = some q.1 ∧ Play (pop ltK xs) (wo row (a : Int)) seq := by
  obtain ⟨qs, h1, h2, h3, h4⟩ := h.qs
  subst h2
  have ha := firstGo_lt _ _ a hf
  rw [List.length_map] at ha hf
  have hq : qs[a]? = some qs[a] := List.getElem?_eq_getElem ha
  have hle := least_of h3 hf hq
  have hl : 0 < xs.length := by rw [← h1.length_eq]; omega
  have hr : xs[0]? = some xs[0] := List.getElem?_eq_getElem hl
  have hrm : xs[0] ∈ qs := h1.mem_iff.2 (List.getElem_mem hl)
  have hqm : qs[a] ∈ qs := List.getElem_mem ha
  have hroot : ∀ b, b ∈ xs → bef ltK b xs[0] = false := fun b hb => by
    obtain ⟨j, hj, rfl⟩ := List.mem_iff_getElem.1 hb
    exact heap_root swoK h.heap hr j _ (List.getElem?_eq_getElem hj)
  have e : xs[0] = qs[a] := by
    have e2 : xs[0].2 = qs[a].2 := by
      refine Classical.byContradiction fun hne => ?_
      have h5 := bef_total hne (hle _ hrm)
      rw [hroot _ (h1.mem_iff.1 hqm)] at h5
      cases h5
    obtain ⟨j, hj, ej⟩ := List.mem_iff_getElem.1 hrm
    rcases Nat.lt_trichotomy j a with hlt | rfl | hlt
    · have := List.pairwise_iff_getElem.1 h3 j a hj ha hlt
      rw [ej] at this; omega
    · exact ej.symm
    · have := List.pairwise_iff_getElem.1 h3 a j ha hj hlt
      rw [ej] at this; omega
  refine ⟨xs[0], hr, by rw [List.getElem?_map, hq, e]; rfl, pop_heap swoK h.heap, qs.eraseIdx a, ?_, ?_, h3.sublist (List.eraseIdx_sublist qs a), fun q hq => h4 q (List.mem_of_mem_eraseIdx hq)⟩
  · have p1 := pop_perm ltK hr
    have p2 := erase_perm qs a ha
    rw [← e] at p2
    exact List.Perm.cons_inv ((p2.trans h1).trans p1.symm)
  · rw [wo, if_neg (by omega), Int.toNat_natCast, erase_map]
theorem Play.drained {xs : List (It × Int)} {row : List It} {seq : Int} (h : Play xs row seq) : (HpPure.drain ltK xs).map Prod.fst = sortRef row := by
  obtain ⟨qs, h1, h2, h3, h4⟩ := h.qs
  obtain ⟨ys, p1, p2, p3⟩ := sortP _ qs rfl h3
  have hp : (HpPure.drain ltK xs).Perm ys := ((drain_perm ltK xs).trans h1.symm).trans p1.symm
  have := sorted_unique swoK _ _ hp (drain_sorted swoK xs h.heap) p2 (((hp.trans p1).map Prod.snd).nodup_iff.2 (nodup_of h3))
  rw [this, p3, h2]
/-- The row without its first least one; so many times. -/
def st (row : List It) : List It := wo row (atOf (firstGo row row.length))
def itr (row : List It) : Nat → List It
  | 0 => row
  | n + 1 => st (itr row n)
theorem Play.itr {xs : List (It × Int)} {row : List It} {seq : Int} (h : Play xs row seq) : ∀ n, n ≤ row.length → ∃ zs, Play zs (itr row n) seq ∧ (itr row n).length + n = row.length ∧ ∃ pre : List (It × Int), pre.length = n ∧ HpPure.drain ltK xs = pre ++ HpPure.drain ltK zs
  | 0, _ => ⟨xs, h, rfl, [], rfl, rfl⟩
  | n + 1, hn => by
    obtain ⟨zs, h1, h2, pre, h3, h4⟩ := Play.itr h n (by omega)
    cases hf : firstGo (HpItem.itr row n) (HpItem.itr row n).length with
    | none =>
      have := (firstGo_none _ _).1 hf
      omega
    | some a =>
      obtain ⟨q, e1, e2, e3⟩ := h1.root hf
      have ha := firstGo_lt _ _ a hf
      have es : HpItem.itr row (n + 1) = wo (HpItem.itr row n) (a : Int) := by
        show st (HpItem.itr row n) = _
        unfold st
        rw [hf]; rfl
      refine ⟨pop ltK zs, by rw [es]; exact e3, by rw [es, wo_len _ _ ha]; omega, pre ++ [q], by simp [h3], ?_⟩
      rw [h4, drain_cons ltK e1, List.append_assoc]; rfl
theorem Play.take {xs ys tk : List (It × Int)} {row : List It} {seq : Int} (h : Play xs row seq) (hd : HpPure.drain ltK xs = tk ++ HpPure.drain ltK ys) (hy : HeapP ltK ys) {n : Nat} (hl : tk.length = n) (hn : n ≤ row.length) :
    Play ys (HpItem.itr row n) seq ∧ tk.map Prod.fst = (sortRef row).take n := by
  obtain ⟨zs, h1, h2, pre, h3, h4⟩ := h.itr n hn
  rw [hd] at h4
  have he : HpPure.drain ltK ys = HpPure.drain ltK zs := (List.append_inj h4 (by omega)).2
  have hp : zs.Perm ys := ((drain_perm ltK zs).symm.trans (by rw [he])).trans (drain_perm ltK ys)
  refine ⟨⟨hy, ?_⟩, ?_⟩
  · obtain ⟨qs, q1, q2, q3, q4⟩ := h1.qs
    exact ⟨qs, q1.trans hp, q2, q3, q4⟩
  · rw [← h.drained, hd, List.map_append, List.take_append_of_le_length (by rw [List.length_map]; omega), List.take_of_length_le (by rw [List.length_map]; omega)]
end Go.Proofs.Ytfkhnhpphcpmmaa.HpItem
