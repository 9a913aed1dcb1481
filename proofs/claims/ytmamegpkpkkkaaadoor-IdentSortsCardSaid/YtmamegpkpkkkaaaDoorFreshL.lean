/- Fresh names of a stem that is not long; one beside the other. Nothing of the program is named. -/
import Derived.Test.YtmamegpkpkkkaaaDoorIdentP2
namespace Go.Proofs.YtmamegpkpkkkaaaDoor.Mo
open Go Go.RowKit Go.Proofs.YtmamegpkpkkkaaaDoor.Lb
set_option linter.unusedVariables false
set_option linter.unusedSimpArgs false
theorem cand60 {stem : ByteArray} {k : Nat} (hs : stem.size ≤ 60) (hk : k < 90) (h : rightName stem = true) : rightName (cand stem k) = true := by
  cases k with
  | zero => exact h
  | succ k =>
    rw [right_cand h (by omega)]
    have := (dig_ok ⟨k + 2, by omega⟩).2.2.1
    simp only at this
    simp; omega
theorem fresh60 {ns : List ByteArray} {stem : ByteArray} (hl : ns.length ≤ 80) (hs : stem.size ≤ 60) : freshB ns stem = rightName stem := by
  unfold freshB
  cases h : rightName stem with
  | false => rfl
  | true => rw [cand60 hs (by have := (freshK_is ns stem hl).1; omega) h]; rfl
theorem findI_none_app {ns : List ByteArray} {s t : ByteArray} (h : findI (ns ++ [s]) t < 0) : findI ns t < 0 ∧ t.toList ≠ s.toList := by
  rcases findI_cases (ns ++ [s]) t with ⟨h1, h2⟩ | ⟨k, u, h1, _⟩
  · refine ⟨?_, fun e => h2 s (by simp) e.symm⟩
    rcases findI_cases ns t with ⟨h3, _⟩ | ⟨k, u, h3, h4, h5, _⟩
    · rw [h3]; decide
    · exact absurd h5 (h2 u (by simp [List.mem_of_getElem? h4]))
  · rw [h1] at h; omega
theorem findI_m1 {ns : List ByteArray} {t : ByteArray} (h : findI ns t < 0) : findI ns t = -1 := by
  rcases findI_cases ns t with ⟨h1, _⟩ | ⟨k, u, h1, _⟩
  · exact h1
  · rw [h1] at h; omega
/-- What a fresh name of a right stem is. -/
structure FreshN (ns : List ByteArray) (stem S : ByteArray) : Prop where
  s : freshS ns stem = S
  e : freshE ns stem = 0
  r : rightName S = true
  f : findI ns S = -1
theorem fresh_right {ns : List ByteArray} {stem : ByteArray} (hl : ns.length ≤ 80) (hs : stem.size ≤ 60) (h : rightName stem = true) : FreshN ns stem (freshS ns stem) := by
  have hb : freshB ns stem = true := by rw [fresh60 hl hs, h]
  have hk := freshK_is ns stem hl
  have e1 : freshS ns stem = cand stem (freshK ns stem) := by unfold freshS; rw [if_pos hb]
  refine ⟨rfl, by unfold freshE; rw [if_pos hb], ?_, ?_⟩
  · rw [e1]; exact cand60 hs (by omega) h
  · rw [e1]; exact findI_m1 hk.2.1
theorem findI_of_key {ns : List ByteArray} {t : ByteArray} (h : ky t ∈ ns.map ky) : findI ns t < 0 ↔ False := by
  rw [findI_neg]
  exact ⟨fun hn => hn h, False.elim⟩
theorem dist_find {ns : List ByteArray} {i : Nat} {x : ByteArray} (h : (dist ns)[i]? = some x) : findI (dist ns) x = (i : Int) ∧ decide (findI ns x < 0) = false := by
  refine ⟨findI_nodup (dist_nodup ns) h, ?_⟩
  have : ky x ∈ ns.map ky := (dist_mem (ky x) ns).1 (List.mem_map.2 ⟨x, List.mem_of_getElem? h, rfl⟩)
  simp [findI_of_key this]
theorem find_dist {ns : List ByteArray} {i : Nat} {x : ByteArray} (h : ns[i]? = some x) : decide (findI (dist ns) x < 0) = false := by
  have : ky x ∈ (dist ns).map ky := (dist_mem (ky x) ns).2 (List.mem_map.2 ⟨x, List.mem_of_getElem? h, rfl⟩)
  simp [findI_of_key this]
end Go.Proofs.YtmamegpkpkkkaaaDoor.Mo
