/- Right names, plainly. Nothing of the program is named. -/
import Derived.WalkKit
namespace Go.Proofs.Ythgbahlkflmgiaa.Mo
open Go Go.RowKit
set_option linter.unusedVariables false

def letterB (c : UInt8) : Bool := decide (97 ≤ (c.toNat : Int)) && decide ((c.toNat : Int) ≤ 122)
def otherB (c : UInt8) : Bool := (decide (48 ≤ (c.toNat : Int)) && decide ((c.toNat : Int) ≤ 57)) || ((c.toNat : Int) == 95)
def rightList (l : List UInt8) : Bool := decide (1 ≤ l.length) && decide (l.length ≤ 64) && (match l with | [] => false | c :: _ => letterB c) && l.all (fun c => letterB c || otherB c)
def rightName (s : ByteArray) : Bool := rightList s.data.toList
/-- The code of a name: 0, or 40. -/
def nameC (s : ByteArray) : Int := if rightName s = true then 0 else 40
theorem get_list (s : ByteArray) (j : Nat) (h : j < s.size) : s.data.toList[j]? = some s[j] := by
  rw [List.getElem?_eq_getElem (by simpa using h)]; rfl
theorem size_list (s : ByteArray) : s.data.toList.length = s.size := by simp
theorem right_yes {s : ByteArray} (h1 : 1 ≤ s.size) (h2 : s.size ≤ 64) (h3 : letterB s[0] = true) (h4 : ∀ (j : Nat) (h : j < s.size), (letterB s[j] || otherB s[j]) = true) : rightName s = true := by
  unfold rightName rightList
  have h0 := get_list s 0 (by omega)
  have hall : s.data.toList.all (fun c => letterB c || otherB c) = true := by
    rw [List.all_eq_true]
    intro c hc
    obtain ⟨j, hj⟩ := List.mem_iff_getElem?.1 hc
    have hjl : j < s.size := by rw [← size_list]; exact (List.getElem?_eq_some_iff.1 hj).1
    rw [get_list s j hjl] at hj
    cases hj
    exact h4 j hjl
  rw [hall, size_list]
  cases hl : s.data.toList with
  | nil => rw [hl] at h0; simp at h0
  | cons c l =>
    rw [hl] at h0
    simp at h0
    subst h0
    simp [h1, h2, h3]
theorem right_parts' {s : ByteArray} (h : rightName s = true) : 1 ≤ s.size ∧ s.size ≤ 64 ∧ ∀ c, s.data.toList[0]? = some c → letterB c = true := by
  unfold rightName rightList at h
  rw [size_list] at h
  simp only [Bool.and_eq_true, decide_eq_true_eq] at h
  refine ⟨h.1.1.1, h.1.1.2, fun c hc => ?_⟩
  cases hl : s.data.toList with
  | nil => rw [hl] at hc; simp at hc
  | cons d l =>
    have h3 := h.1.2
    rw [hl] at hc h3
    simp at hc
    subst hc
    exact h3
theorem right_all {s : ByteArray} (h : rightName s = true) : ∀ (j : Nat) (hj : j < s.size), (letterB s[j] || otherB s[j]) = true := by
  unfold rightName rightList at h
  simp only [Bool.and_eq_true, List.all_eq_true] at h
  intro j hj
  exact h.2 _ (List.mem_of_getElem? (get_list s j hj))
theorem right_no_size {s : ByteArray} (h : s.size < 1 ∨ 64 < s.size) : rightName s = false := by
  cases hr : rightName s with
  | false => rfl
  | true => have := right_parts' hr; omega
theorem right_no_first {s : ByteArray} (h0 : 0 < s.size) (h : letterB s[0] = false) : rightName s = false := by
  cases hr : rightName s with
  | false => rfl
  | true => have := (right_parts' hr).2.2 _ (get_list s 0 h0); rw [h] at this; cases this
theorem right_no_at {s : ByteArray} {j : Nat} (hj : j < s.size) (h : (letterB s[j] || otherB s[j]) = false) : rightName s = false := by
  cases hr : rightName s with
  | false => rfl
  | true => have := right_all hr j hj; rw [h] at this; cases this
theorem nameC_yes {s : ByteArray} (h : rightName s = true) : nameC s = 0 := by unfold nameC; rw [if_pos h]
theorem nameC_no {s : ByteArray} (h : rightName s = false) : nameC s = 40 := by unfold nameC; rw [if_neg (by rw [h]; simp)]
end Go.Proofs.Ythgbahlkflmgiaa.Mo
