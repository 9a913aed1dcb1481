/- A map[string]bool that a call makes, as the list of the keys that were set; and strings, each once. Nothing of the program is named. -/
import Derived.Test.YthgbahlkflmgiaaLib
import Derived.Maps.Own
import Derived.Maps.Views
import Derived.Maps.OwnOps
import Derived.Laws.Strings
namespace Go.Proofs.Ythgbahlkflmgiaa.Lb
open Go Go.RowKit Go.Maps
set_option linter.unusedVariables false
set_option linter.unusedSimpArgs false

structure SeenS (P : Program) (K E : TypeId) (b k : Nat) (ts : List (List UInt8)) (W : World) : Prop where
  own : ∃ D : DataW Unit, W.ownsMap P K (plainElem P E) b k D ∧ ∀ t : List UInt8, D.atKey (.string t) (.lit (.bool false)) = .lit (.bool (decide (t ∈ ts)))
theorem SeenS.made (w : World) (P : Program) (K E : TypeId) : SeenS P K E w.heap.size 0 [] (w.alloc (.map #[] 0)) :=
  ⟨.map [], World.ownsMap_made w P K _, fun t => by simp [DataW.atKey]⟩
theorem SeenS.block {P : Program} {K E : TypeId} {b k : Nat} {ts : List (List UInt8)} {W : World} (h : SeenS P K E b k ts W) : ∃ es clk, W.heap[b]? = some (.map es clk) := by
  obtain ⟨D, ⟨es, clock, hb, r⟩, hD⟩ := h.own
  exact ⟨es, clock, hb⟩
theorem SeenS.same {P : Program} {K E : TypeId} {b k : Nat} {ts : List (List UInt8)} {W W' : World} (h : SeenS P K E b k ts W) (hk : W'.heap[b]? = W.heap[b]?) : SeenS P K E b k ts W' := by
  obtain ⟨D, ⟨es, clock, hb, r⟩, hD⟩ := h.own
  exact ⟨D, ⟨es, clock, by rw [hk]; exact hb, r⟩, hD⟩
theorem SeenS.look {P : Program} {K E T : TypeId} {b k : Nat} {ts : List (List UInt8)} {W : World} (h : SeenS P K E b k ts W) (hK : P.underlying K = some .string) (hE : P.underlying E = some .bool) (hT : P.underlying T = some (.map K E)) (hz : ∀ w, (zeroValue E).run P w = .ok (.bool false) w) (s : ByteArray) (hs : s.size ≤ maxLen) :
    (Instr.lookup T (.map (some b)) (.string s) false).run P W = .ok (.bool (decide (s.data.toList ∈ ts))) W := by
  obtain ⟨D, ho, hD⟩ := h.own
  obtain ⟨v, ps, hrun, hv⟩ := ho.lookup (string_keyed hK) hT (hz W) (plainElem_bool hE false) (show keyOf P K (.string s) = some (.string s.data.toList) by simp [keyOf, hK, mapKey, hs])
  rw [hD] at hv
  unfold plainElem at hv
  rw [hE] at hv
  cases v <;> simp at hv
  rw [hrun, hv.1]
theorem SeenS.put {P : Program} {K E : TypeId} {b k : Nat} {ts : List (List UInt8)} {W' : World} {D : DataW Unit} (hm : IsMap D) (hD : ∀ t : List UInt8, D.atKey (.string t) (.lit (.bool false)) = .lit (.bool (decide (t ∈ ts)))) (t0 : List UInt8)
    (h : W'.ownsMap P K (plainElem P E) b (k + 1) (D.put (.string t0) (.lit (.bool true)))) : SeenS P K E b (k + 1) (ts ++ [t0]) W' := by
  refine ⟨_, h, fun t => ?_⟩
  by_cases e : t = t0
  · subst e
    rw [atKey_put_same hm (by first | exact trivial | simp [WideAt.IsKeyLit] | decide)]
    simp
  · rw [atKey_put_other (fun h => e (by cases h; rfl)), hD t]
    congr 2
    simp [e]

/-- Strings, each once. -/
def ky (s : ByteArray) : List UInt8 := s.data.toList
def dstep (acc : List ByteArray) (s : ByteArray) : List ByteArray := if ky s ∈ acc.map ky then acc else acc ++ [s]
def dist (xs : List ByteArray) : List ByteArray := xs.foldl dstep []
theorem dist_snoc (xs : List ByteArray) (s : ByteArray) : dist (xs ++ [s]) = dstep (dist xs) s := by unfold dist; rw [List.foldl_append]; rfl
theorem dstep_mem (acc : List ByteArray) (s : ByteArray) (t : List UInt8) : t ∈ (dstep acc s).map ky ↔ t ∈ acc.map ky ∨ t = ky s := by
  unfold dstep
  split
  · rename_i h
    constructor
    · exact .inl
    · rintro (h' | rfl)
      · exact h'
      · exact h
  · simp
theorem dist_mem (t : List UInt8) (xs : List ByteArray) : t ∈ (dist xs).map ky ↔ t ∈ xs.map ky := by
  have : ∀ (ys acc : List ByteArray), t ∈ (ys.foldl dstep acc).map ky ↔ t ∈ acc.map ky ∨ t ∈ ys.map ky := by
    intro ys
    induction ys with
    | nil => intro acc; simp
    | cons y ys ih => intro acc; rw [List.foldl_cons, ih, dstep_mem, List.map_cons, List.mem_cons]; exact or_assoc
  rw [dist, this]; simp
theorem dstep_prefix (ys acc : List ByteArray) : acc <+: ys.foldl dstep acc := by
  induction ys generalizing acc with
  | nil => exact List.prefix_refl _
  | cons y ys ih =>
    rw [List.foldl_cons]
    refine List.IsPrefix.trans ?_ (ih _)
    unfold dstep
    split
    · exact List.prefix_refl _
    · exact List.prefix_append _ _
theorem dist_take (xs : List ByteArray) (k : Nat) : dist (xs.take k) <+: dist xs := by
  have : dist xs = (xs.drop k).foldl dstep (dist (xs.take k)) := by
    unfold dist
    rw [← List.foldl_append, List.take_append_drop]
  rw [this]
  exact dstep_prefix _ _
theorem dist_len (xs : List ByteArray) : (dist xs).length ≤ xs.length := by
  have : ∀ (ys acc : List ByteArray), (ys.foldl dstep acc).length ≤ acc.length + ys.length := by
    intro ys
    induction ys with
    | nil => intro acc; simp
    | cons y ys ih =>
      intro acc
      rw [List.foldl_cons]
      refine Nat.le_trans (ih _) ?_
      unfold dstep
      split <;> simp <;> omega
  have h := this xs []
  unfold dist
  simpa using h
end Go.Proofs.Ythgbahlkflmgiaa.Lb
