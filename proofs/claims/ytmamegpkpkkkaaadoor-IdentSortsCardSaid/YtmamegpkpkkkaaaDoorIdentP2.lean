/- Names in order, names each once, plainly. Nothing of the program is named. -/
import Derived.Test.YtmamegpkpkkkaaaDoorFreshP
import Derived.Test.YtmamegpkpkkkaaaDoorSeenS
namespace Go.Proofs.YtmamegpkpkkkaaaDoor.Mo
open Go Go.RowKit Go.Proofs.YtmamegpkpkkkaaaDoor.Lb
set_option linter.unusedVariables false
set_option linter.unusedSimpArgs false
theorem less_irrefl (x : List UInt8) : Op.bytesLess x x = false := by
  have h := less_total x x
  simp at h
  exact h
theorem less_trans : ∀ {x y z : List UInt8}, Op.bytesLess x y = true → Op.bytesLess y z = true → Op.bytesLess x z = true
  | [], [], _, h, _ => by simp [Op.bytesLess] at h
  | [], b :: y, [], _, h => by simp [Op.bytesLess] at h
  | [], b :: y, c :: z, _, _ => by simp [Op.bytesLess]
  | a :: x, [], _, h, _ => by simp [Op.bytesLess] at h
  | a :: x, b :: y, [], _, h => by simp [Op.bytesLess] at h
  | a :: x, b :: y, c :: z, h1, h2 => by
    rw [Op.bytesLess] at h1 h2 ⊢
    simp only [Bool.or_eq_true, Bool.and_eq_true, decide_eq_true_eq, beq_iff_eq] at h1 h2 ⊢
    rcases h1 with h1 | ⟨rfl, h1⟩
    · rcases h2 with h2 | ⟨rfl, h2⟩
      · exact .inl (by rw [UInt8.lt_iff_toNat_lt] at *; omega)
      · exact .inl h1
    · rcases h2 with h2 | ⟨rfl, h2⟩
      · exact .inl h2
      · exact .inr ⟨rfl, less_trans h1 h2⟩
theorem sorted_lt {ns : List ByteArray} (h : sortB ns = true) : ∀ (d i : Nat) (a b : ByteArray), ns[i]? = some a → ns[i + d + 1]? = some b → Op.bytesLess a.toList b.toList = true
  | 0, i, a, b, ha, hb => sortB_at h ha hb
  | d + 1, i, a, b, ha, hb => by
    have hl := (List.getElem?_eq_some_iff.1 hb).1
    obtain ⟨c, hc⟩ : ∃ c, ns[i + d + 1]? = some c := ⟨_, List.getElem?_eq_getElem (by omega)⟩
    exact less_trans (sorted_lt h d i a c ha hc) (sortB_at h hc hb)
theorem nodup_of {ns : List ByteArray} (h : ∀ (i j : Nat) (a b : ByteArray), i < j → ns[i]? = some a → ns[j]? = some b → ky a ≠ ky b) : (ns.map ky).Nodup := by
  rw [List.nodup_iff_pairwise_ne, List.pairwise_map, List.pairwise_iff_getElem]
  intro i j hi hj hij
  exact h i j _ _ hij (List.getElem?_eq_getElem hi) (List.getElem?_eq_getElem hj)
theorem sorted_nodup {ns : List ByteArray} (h : sortB ns = true) : (ns.map ky).Nodup := by
  refine nodup_of fun i j a b hij ha hb e => ?_
  have hl := sorted_lt h (j - i - 1) i a b ha (by rw [show i + (j - i - 1) + 1 = j by omega]; exact hb)
  rw [ky_list, ky_list, e, less_irrefl] at hl
  cases hl
theorem fold_new : ∀ (xs acc : List ByteArray), (∀ x ∈ xs, ky x ∉ acc.map ky) → (xs.map ky).Nodup → xs.foldl dstep acc = acc ++ xs
  | [], acc, _, _ => by simp
  | x :: xs, acc, h, hn => by
    rw [List.foldl_cons]
    rw [List.map_cons, List.nodup_cons] at hn
    have e : dstep acc x = acc ++ [x] := by unfold dstep; rw [if_neg (h x (List.mem_cons_self ..))]
    rw [e, fold_new xs (acc ++ [x]) (fun y hy => ?_) hn.2]
    · simp
    · rw [List.map_append, List.mem_append]
      rintro (h1 | h1)
      · exact h y (List.mem_cons_of_mem _ hy) h1
      · simp only [List.map_cons, List.map_nil, List.mem_cons, List.not_mem_nil, or_false] at h1
        exact hn.1 (by rw [← h1]; exact List.mem_map.2 ⟨y, hy, rfl⟩)
theorem dist_of_nodup {xs : List ByteArray} (h : (xs.map ky).Nodup) : dist xs = xs := by
  unfold dist
  rw [fold_new xs [] (by simp) h]
  simp
theorem dist_sorted {ns : List ByteArray} (h : sortB ns = true) : dist ns = ns := dist_of_nodup (sorted_nodup h)
theorem dist_nodup (xs : List ByteArray) : ((dist xs).map ky).Nodup := by
  have : ∀ (ys acc : List ByteArray), (acc.map ky).Nodup → ((ys.foldl dstep acc).map ky).Nodup := by
    intro ys
    induction ys with
    | nil => intro acc h; exact h
    | cons y ys ih =>
      intro acc h
      rw [List.foldl_cons]
      refine ih _ ?_
      unfold dstep
      split
      · exact h
      · rename_i hy
        rw [List.map_append, List.nodup_append]
        refine ⟨h, by simp, ?_⟩
        intro a ha b hb
        simp only [List.map_cons, List.map_nil, List.mem_cons, List.not_mem_nil, or_false] at hb
        subst hb
        exact fun e => hy (e ▸ ha)
  exact this xs [] (by simp)
theorem findI_nodup {xs : List ByteArray} (h : (xs.map ky).Nodup) {i : Nat} {x : ByteArray} (hx : xs[i]? = some x) : findI xs x = (i : Int) := by
  refine findI_some (t := x) (fun j t hj ht e => ?_) hx rfl
  rw [List.nodup_iff_pairwise_ne, List.pairwise_map, List.pairwise_iff_getElem] at h
  have hi := (List.getElem?_eq_some_iff.1 hx)
  have hj' := (List.getElem?_eq_some_iff.1 ht)
  have := h j i hj'.1 hi.1 hj
  rw [hj'.2, hi.2] at this
  rw [ky_list, ky_list] at e
  exact this e
/-- What is found stands there; none ahead of it is like it. -/
theorem findI_le {ns : List ByteArray} {s t : ByteArray} {k : Nat} (h : ns[k]? = some t) (e : t.toList = s.toList) : 0 ≤ findI ns s ∧ findI ns s ≤ (k : Int) := by
  rcases findI_cases ns s with ⟨h1, h2⟩ | ⟨q, u, h1, h2, h3, h4⟩
  · exact absurd e (h2 t (List.mem_of_getElem? h))
  · rw [h1]
    refine ⟨by omega, ?_⟩
    by_cases hq : k < q
    · exact absurd e (h4 k t hq h)
    · omega
end Go.Proofs.YtmamegpkpkkkaaaDoor.Mo
