/- Names that are put behind one another, plainly. Nothing of the program is named. -/
import Derived.Test.YtmamegpkpkkkaaaDoorFreshL
namespace Go.Proofs.YtmamegpkpkkkaaaDoor.Mo
open Go Go.RowKit Go.Proofs.YtmamegpkpkkkaaaDoor.Lb
set_option linter.unusedVariables false
set_option linter.unusedSimpArgs false
theorem less_append (x : List UInt8) (c : UInt8) (r : List UInt8) : Op.bytesLess x (x ++ c :: r) = true := by
  induction x with
  | nil => simp [Op.bytesLess]
  | cons a x ih => simp [Op.bytesLess, ih]
/-- The letter of a byte. -/
def low (z : Int) : UInt8 := UInt8.ofNat (97 + (z % 26).toNat)
/-- s with the letters of the first k bytes behind it. -/
def preS (s : ByteArray) (zs : List Int) (k : Nat) : ByteArray := s ++ ⟨((zs.take k).map low).toArray⟩
theorem preS_list (s : ByteArray) (zs : List Int) (k : Nat) : (preS s zs k).data.toList = s.data.toList ++ (zs.take k).map low := by simp [preS, ByteArray.data_append]
theorem preS_zero (s : ByteArray) (zs : List Int) : preS s zs 0 = s := by
  apply ByteArray.ext
  simp [preS, ByteArray.data_append]
theorem preS_next (s : ByteArray) (zs : List Int) {k : Nat} {z : Int} (h : zs[k]? = some z) : preS s zs k ++ ⟨#[low z]⟩ = preS s zs (k + 1) := by
  apply ByteArray.ext
  apply Array.toList_inj.1
  rw [ByteArray.data_append, Array.toList_append, preS_list, preS_list, List.take_add_one, h]
  simp
theorem preS_size (s : ByteArray) (zs : List Int) {k : Nat} (h : k ≤ zs.length) : (preS s zs k).size = s.size + k := by
  rw [← size_list, preS_list, List.length_append, List.length_map, List.length_take, size_list]
  omega
theorem low_letter (z : Int) : letterB (low z) = true := by
  have h : ∀ m : Fin 26, letterB (UInt8.ofNat (97 + m.1)) = true := by decide +kernel
  exact h ⟨(z % 26).toNat, by omega⟩
theorem preS_right {s : ByteArray} {zs : List Int} {k : Nat} (h : rightName s = true) (hk : k ≤ zs.length) : rightName (preS s zs k) = decide (s.size + k ≤ 64) := by
  have hsz := preS_size s zs hk
  have h0 := h
  unfold rightName rightList at h0 ⊢
  simp only [Bool.and_eq_true, decide_eq_true_eq] at h0
  obtain ⟨⟨⟨h1, h2⟩, h3⟩, h4⟩ := h0
  rw [size_list, hsz, preS_list]
  cases hl : s.data.toList with
  | nil => rw [hl] at h1; simp at h1
  | cons c l =>
    rw [hl] at h3 h4
    have hs := size_list s
    rw [hl] at hs
    simp only [List.length_cons] at hs
    have e : ((c :: l) ++ (zs.take k).map low).all (fun c => letterB c || otherB c) = true := by
      rw [List.all_append, h4, List.all_map]
      simp only [Bool.true_and, List.all_eq_true]
      intro z _
      simp [Function.comp, low_letter]
    rw [e]
    have e1 : decide (1 ≤ s.size + k) = true := decide_eq_true (by omega)
    rw [e1]
    simp only [List.cons_append, h3, Bool.and_true, Bool.true_and]
/-- All of them. -/
def chain (s : ByteArray) (zs : List Int) (k : Nat) : List ByteArray := (List.range (k + 1)).map (preS s zs)
theorem chain_len (s : ByteArray) (zs : List Int) (k : Nat) : (chain s zs k).length = k + 1 := by simp [chain]
theorem chain_next (s : ByteArray) (zs : List Int) (k : Nat) : chain s zs (k + 1) = chain s zs k ++ [preS s zs (k + 1)] := by unfold chain; rw [List.range_succ, List.map_append]; rfl
theorem chain_zero (s : ByteArray) (zs : List Int) : chain s zs 0 = [s] := by simp [chain, preS_zero]
theorem chain_get (s : ByteArray) (zs : List Int) {n k : Nat} (h : k ≤ n) : (chain s zs n)[k]? = some (preS s zs k) := by
  unfold chain
  rw [List.getElem?_map, List.getElem?_range (by omega)]
  rfl
theorem preS_less (s : ByteArray) (zs : List Int) {k : Nat} (h : k < zs.length) : Op.bytesLess (preS s zs k).toList (preS s zs (k + 1)).toList = true := by
  obtain ⟨z, hz⟩ : ∃ z, zs[k]? = some z := ⟨_, List.getElem?_eq_getElem h⟩
  rw [ky_list, ky_list]
  unfold ky
  rw [← preS_next s zs hz, ByteArray.data_append, Array.toList_append]
  exact less_append _ _ _
theorem chain_sorted (s : ByteArray) (zs : List Int) : sortB (chain s zs zs.length) = true := by
  refine sortB_true fun i a b ha hb => ?_
  have hl := (List.getElem?_eq_some_iff.1 hb).1
  rw [chain_len] at hl
  rw [chain_get s zs (by omega)] at ha hb
  cases ha; cases hb
  exact preS_less s zs (by omega)
theorem chain_back (s : ByteArray) (zs : List Int) : sortB (chain s zs zs.length).reverse = decide (zs.length + 1 < 2) := by
  by_cases h : zs.length = 0
  · have e : (chain s zs zs.length).reverse = [s] := by rw [h, chain_zero]; rfl
    rw [e, h]
    rfl
  · have e : decide (zs.length + 1 < 2) = false := decide_eq_false (by omega)
    rw [e]
    have h0 : (chain s zs zs.length).reverse[0]? = some (preS s zs zs.length) := by
      rw [List.getElem?_reverse (by rw [chain_len]; omega), chain_len]
      exact chain_get s zs (by omega)
    have h1 : (chain s zs zs.length).reverse[0 + 1]? = some (preS s zs (zs.length - 1)) := by
      rw [List.getElem?_reverse (by rw [chain_len]; omega), chain_len]
      rw [show zs.length + 1 - 1 - (0 + 1) = zs.length - 1 by omega]
      exact chain_get s zs (by omega)
    refine sortB_false h0 h1 ?_
    have h9 := preS_less s zs (k := zs.length - 1) (by omega)
    rw [show zs.length - 1 + 1 = zs.length by omega] at h9
    have h8 := less_total (preS s zs (zs.length - 1)).toList (preS s zs zs.length).toList
    rw [h9] at h8
    simpa using h8.symm
theorem fold_old : ∀ (xs acc : List ByteArray), (∀ x ∈ xs, ky x ∈ acc.map ky) → xs.foldl dstep acc = acc
  | [], acc, _ => rfl
  | x :: xs, acc, h => by
    rw [List.foldl_cons]
    have e : dstep acc x = acc := by unfold dstep; rw [if_pos (h x (List.mem_cons_self ..))]
    rw [e]
    exact fold_old xs acc (fun y hy => h y (List.mem_cons_of_mem _ hy))
theorem chain_dist (s : ByteArray) (zs : List Int) : dist (chain s zs zs.length ++ (chain s zs zs.length).reverse) = chain s zs zs.length := by
  have h := dist_sorted (chain_sorted s zs)
  unfold dist at h ⊢
  rw [List.foldl_append, h]
  exact fold_old _ _ fun x hx => List.mem_map.2 ⟨x, List.mem_reverse.1 hx, rfl⟩
theorem chain_find (s : ByteArray) (zs : List Int) (n : Nat) : findI (chain s zs n) s = 0 := by
  have := findI_some (ns := chain s zs n) (s := s) (t := s) (k := 0) (fun j t hj => by omega) (by rw [chain_get s zs (Nat.zero_le _), preS_zero]) rfl
  simpa using this
theorem bad_A (s : ByteArray) : rightName (s ++ ⟨#[65]⟩) = false := by
  unfold rightName rightList
  have e : (s ++ (⟨#[65]⟩ : ByteArray)).data.toList = s.data.toList ++ [65] := by simp [ByteArray.data_append]
  rw [e, List.all_append]
  have e2 : ([65] : List UInt8).all (fun c => letterB c || otherB c) = false := by decide +kernel
  rw [e2]
  simp
end Go.Proofs.YtmamegpkpkkkaaaDoor.Mo
