/- The first place of a string in a list. Nothing of the program is named. -/
import Derived.Test.YthgbahlkflmgiaaSeenS
namespace Go.Proofs.Ythgbahlkflmgiaa.Mo
open Go Go.RowKit Go.Proofs.Ythgbahlkflmgiaa.Lb
set_option linter.unusedVariables false
set_option linter.unusedSimpArgs false

/-- The first place of a string. -/
def findS (ns : List ByteArray) (s : ByteArray) : Option Nat := ns.findIdx? (fun t => t.toList == s.toList)
def findI (ns : List ByteArray) (s : ByteArray) : Int := match findS ns s with | some k => (k : Int) | none => -1
theorem findS_some {ns : List ByteArray} {s t : ByteArray} {k : Nat} (h : ∀ (j : Nat) (t : ByteArray), j < k → ns[j]? = some t → t.toList ≠ s.toList) (hk : ns[k]? = some t) (e : t.toList = s.toList) : findS ns s = some k := by
  unfold findS
  rw [List.findIdx?_eq_some_iff_getElem]
  have hkl := (List.getElem?_eq_some_iff.1 hk)
  refine ⟨hkl.1, by rw [hkl.2]; simp [e], fun j hj => ?_⟩
  have := h j (ns[j]'(Nat.lt_trans hj hkl.1)) hj (List.getElem?_eq_getElem _)
  simpa using this
theorem findS_none {ns : List ByteArray} {s : ByteArray} (h : ∀ (j : Nat) (t : ByteArray), j < ns.length → ns[j]? = some t → t.toList ≠ s.toList) : findS ns s = none := by
  unfold findS
  rw [List.findIdx?_eq_none_iff]
  intro t ht
  obtain ⟨j, hj⟩ := List.mem_iff_getElem?.1 ht
  simpa using h j t (List.getElem?_eq_some_iff.1 hj).1 hj
theorem findI_some {ns : List ByteArray} {s t : ByteArray} {k : Nat} (h : ∀ (j : Nat) (t : ByteArray), j < k → ns[j]? = some t → t.toList ≠ s.toList) (hk : ns[k]? = some t) (e : t.toList = s.toList) : findI ns s = k := by
  unfold findI; rw [findS_some h hk e]
theorem findI_none {ns : List ByteArray} {s : ByteArray} (h : ∀ (j : Nat) (t : ByteArray), j < ns.length → ns[j]? = some t → t.toList ≠ s.toList) : findI ns s = -1 := by
  unfold findI; rw [findS_none h]
theorem findI_cases (ns : List ByteArray) (s : ByteArray) : (findI ns s = -1 ∧ ∀ t ∈ ns, t.toList ≠ s.toList) ∨
    ∃ (k : Nat) (t : ByteArray), findI ns s = k ∧ ns[k]? = some t ∧ t.toList = s.toList ∧ ∀ (j : Nat) (t : ByteArray), j < k → ns[j]? = some t → t.toList ≠ s.toList := by
  unfold findI
  cases h : findS ns s with
  | none =>
    refine .inl ⟨rfl, fun t ht => ?_⟩
    have := (List.findIdx?_eq_none_iff.1 h) t ht
    simpa using this
  | some k =>
    obtain ⟨h1, h2, h3⟩ := List.findIdx?_eq_some_iff_getElem.1 h
    refine .inr ⟨k, ns[k], rfl, List.getElem?_eq_getElem h1, by simpa using h2, fun j t hj ht => ?_⟩
    obtain ⟨hjl, rfl⟩ := List.getElem?_eq_some_iff.1 ht
    simpa using h3 j hj
theorem ky_list (s : ByteArray) : s.toList = ky s := by unfold ky; exact ByteArray.toList_eq s
theorem findI_neg (ns : List ByteArray) (s : ByteArray) : findI ns s < 0 ↔ ky s ∉ ns.map ky := by
  rcases findI_cases ns s with ⟨h1, h2⟩ | ⟨k, t, h1, h2, h3, h4⟩
  · rw [h1]
    refine ⟨fun _ hm => ?_, fun _ => by omega⟩
    obtain ⟨t, ht, e⟩ := List.mem_map.1 hm
    exact h2 t ht (by rw [ky_list, ky_list]; exact e)
  · rw [h1]
    refine ⟨fun h => by omega, fun hm => absurd (List.mem_map.2 ⟨t, List.mem_of_getElem? h2, ?_⟩) hm⟩
    rw [← ky_list, ← ky_list]; exact h3
end Go.Proofs.Ythgbahlkflmgiaa.Mo
