/- What the statement HeapMixes says, plainly: one step of its second half, and how often keys stand in lists. -/
import Derived.Test.YtfkhnhpphcpmmaaHeapOrdP
namespace Go.Proofs.Ytfkhnhpphcpmmaa.HpItem
open Go Go.RowKit Go.Proofs.Ytfkhnhpphcpmmaa.Lb Go.Proofs.Ytfkhnhpphcpmmaa.HpPure Go.Proofs.Ytfkhnhpphcpmmaa.Ref06
set_option linter.unusedVariables false
set_option linter.unusedSimpArgs false

/-- What a heap of the second half is. -/
structure Mix (n : Nat) (seq : Int) (xs : List (It × Int)) : Prop where
  heap : HeapP ltK xs
  len : xs.length = n
  nd : (xs.map Prod.snd).Nodup
  lt : ∀ p ∈ xs, p.2 < seq
theorem Mix.nil : Mix 0 0 [] := ⟨heap_nil ltK, rfl, by simp, by simp⟩
theorem Mix.push {n : Nat} {seq : Int} {xs : List (It × Int)} (h : Mix n seq xs) (x : It) : Mix (n + 1) (seq + 1) (push ltK xs x seq) := by
  have hp := push_perm ltK xs x seq
  refine ⟨push_heap swoK h.heap x seq, by rw [push_length, h.len], (hp.map Prod.snd).nodup_iff.2 ?_, fun p hp' => ?_⟩
  · rw [List.map_cons, List.nodup_cons]
    refine ⟨fun hm => ?_, h.nd⟩
    obtain ⟨p, h1, h2⟩ := List.mem_map.1 hm
    have := h.lt p h1
    simp only at h2
    omega
  · rcases List.mem_cons.1 (hp.mem_iff.1 hp') with rfl | hm
    · show seq < seq + 1; omega
    · have := h.lt p hm; omega
theorem Mix.pop {n : Nat} {seq : Int} {xs : List (It × Int)} (h : Mix (n + 1) seq xs) {q : It × Int} (hq : xs[0]? = some q) : Mix n seq (pop ltK xs) := by
  have hp := pop_perm ltK hq
  refine ⟨pop_heap swoK h.heap, by rw [pop_length, h.len]; rfl, ?_, fun p hm => h.lt p (hp.mem_iff.1 (List.mem_cons_of_mem _ hm))⟩
  have := (hp.map Prod.snd).nodup_iff.2 h.nd
  rw [List.map_cons, List.nodup_cons] at this
  exact this.2
/-- What comes out behind something put in. -/
theorem mix_step {n : Nat} {seq : Int} {xs : List (It × Int)} (h : Mix n seq xs) (z tag : Int) :
    ∃ q, (push ltK xs ⟨z, tag⟩ seq)[0]? = some q ∧ (xs = [] → q.1.f0 = z) ∧ (∀ p, xs[0]? = some p → (z < p.1.f0 → q.1.f0 = z) ∧ (¬ z < p.1.f0 → q.1 = p.1)) := by
  have hM := h.push ⟨z, tag⟩
  have hp := push_perm ltK xs ⟨z, tag⟩ seq
  have hl : 0 < (push ltK xs ⟨z, tag⟩ seq).length := by rw [hM.len]; omega
  refine ⟨_, List.getElem?_eq_getElem hl, ?_, ?_⟩
  · intro e
    subst e
    have := hp.mem_iff.1 (List.getElem_mem hl)
    simp at this
    rw [this]
  · intro p ep
    have hroot : ∀ b, b ∈ push ltK xs ⟨z, tag⟩ seq → bef ltK b (push ltK xs ⟨z, tag⟩ seq)[0] = false := fun b hb => by
      obtain ⟨j, hj, rfl⟩ := List.mem_iff_getElem.1 hb
      exact heap_root swoK hM.heap (List.getElem?_eq_getElem hl) j _ (List.getElem?_eq_getElem hj)
    have hrp : ∀ b, b ∈ xs → bef ltK b p = false := fun b hb => by
      obtain ⟨j, hj, rfl⟩ := List.mem_iff_getElem.1 hb
      exact heap_root swoK h.heap ep j _ (List.getElem?_eq_getElem hj)
    have hpm : p ∈ xs := List.mem_of_getElem? ep
    have hmem := hp.mem_iff.1 (List.getElem_mem hl)
    have h1 := hroot _ (hp.mem_iff.2 (List.mem_cons_self ..))
    have h2 := hroot p (hp.mem_iff.2 (List.mem_cons_of_mem _ hpm))
    have h5 := h.lt p hpm
    generalize (push ltK xs ⟨z, tag⟩ seq)[0] = q at *
    rcases List.mem_cons.1 hmem with e | hq
    · subst e
      refine ⟨fun _ => rfl, fun hz => ?_⟩
      simp [bef, ltK] at h2
      omega
    · have h3 := hrp q hq
      refine ⟨fun hz => ?_, fun hz => ?_⟩
      · simp [bef, ltK] at h1 h3
        omega
      · have h4 : q.2 = p.2 := by
          refine Classical.byContradiction fun hne => ?_
          have := bef_total (fun e => hne e.symm) h2
          rw [h3] at this; cases this
        have : q = p := by
          have hnd := h.nd
          rw [List.nodup_iff_pairwise_ne, List.pairwise_map] at hnd
          obtain ⟨i, hi, rfl⟩ := List.mem_iff_getElem.1 hq
          obtain ⟨j, hj, rfl⟩ := List.mem_iff_getElem.1 hpm
          rcases Nat.lt_trichotomy i j with hij | hij | hij
          · exact absurd h4 (List.pairwise_iff_getElem.1 hnd i j hi hj hij)
          · subst hij; rfl
          · exact absurd h4.symm (List.pairwise_iff_getElem.1 hnd j i hj hi hij)
        rw [this]

/-- How often a key stands in a list. -/
theorem count_snoc (xs : List Int) {k : Nat} {z : Int} (h : xs[k]? = some z) (t : Int) : (if t = z then ((xs.take k).count z : Int) + 1 else ((xs.take k).count t : Int)) = ((xs.take (k + 1)).count t : Int) := by
  rw [List.take_add_one, h, Option.toList_some, List.count_append]
  by_cases e : t = z
  · subst e; simp
  · rw [if_neg e, List.count_singleton]
    have : ¬ z = t := fun h => e h.symm
    simp [this]
theorem itemsOf_keys (zs : List Int) : (itemsOf zs).map It.f0 = zs := by
  unfold itemsOf
  rw [List.map_map]
  have : (It.f0 ∘ fun (p : Int × Int) => (⟨p.1, p.2⟩ : It)) = Prod.fst := rfl
  rw [this, numbered_fst]
theorem sorted_keys (zs : List Int) (t : Int) : ((sortedBy ltK (itemsOf zs)).map It.f0).count t = zs.count t := by
  rw [((sortedBy_perm ltK (itemsOf zs)).map It.f0).count_eq, itemsOf_keys]
end Go.Proofs.Ytfkhnhpphcpmmaa.HpItem
