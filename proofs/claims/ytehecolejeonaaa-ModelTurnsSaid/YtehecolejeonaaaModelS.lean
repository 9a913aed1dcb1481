/- The walk of sandtablelaw15.sample. -/
import Derived.Test.YtehecolejeonaaaCkAll
import Derived.Test.YtehecolejeonaaaNamesC
namespace Go.Proofs.Ytehecolejeonaaa.Mo
open Go Go.RowKit Go.Proofs.Ytehecolejeonaaa.Lb
set_option linter.unusedVariables false
set_option linter.unusedSimpArgs false

/-- The sample, its event to t; its rows lie behind block b. -/
def smpM (b : Nat) (t : ByteArray) : Md := ⟨3, some ⟨b + 1 + 1 + 1, 0, none⟩, [⟨⟨#[97]⟩, 1, some ⟨b + 1, 0, none⟩, [⟨⟨#[120]⟩, 0⟩], 1, some ⟨b + 1 + 1, 0, none⟩, [⟨1, ⟨#[120]⟩, 2, 0, ⟨#[]⟩⟩, ⟨4, ⟨#[108]⟩, 1, 0, ⟨#[120]⟩⟩], 2⟩, ⟨⟨#[98]⟩, 2, none, [], 0, none, [], 0⟩], 2,
  some ⟨b + 1 + 1 + 1 + 1, 0, none⟩, [⟨⟨#[108]⟩, ⟨#[97]⟩, ⟨#[98]⟩, 5, 1⟩], 1, some ⟨b + 1 + 1 + 1 + 1 + 1, 0, none⟩, [⟨t, 1, 7⟩], 1⟩
structure SmpAt (W : World) (b : Nat) (t : ByteArray) : Prop where
  v : W.heap[b + 1]? = some (.cells #[.string ⟨#[120]⟩, .int .i64 0] 73 (0, 0))
  s : W.heap[b + 1 + 1]? = some (.cells #[.int .i64 1, .string ⟨#[120]⟩, .int .i64 2, .int .i64 0, .string ⟨#[]⟩, .int .i64 4, .string ⟨#[108]⟩, .int .i64 1, .int .i64 0, .string ⟨#[120]⟩] 82 (0, 0))
  p : W.heap[b + 1 + 1 + 1]? = some (.cells #[.string ⟨#[97]⟩, .int .i64 1, .slice (some ⟨b + 1, 0, none⟩) 1 1, .slice (some ⟨b + 1 + 1, 0, none⟩) 2 2, .string ⟨#[98]⟩, .int .i64 2, .slice none 0 0, .slice none 0 0] 39 (0, 0))
  l : W.heap[b + 1 + 1 + 1 + 1]? = some (.cells #[.string ⟨#[108]⟩, .string ⟨#[97]⟩, .string ⟨#[98]⟩, .int .i64 5, .int .i64 1] 50 (0, 0))
  e : W.heap[b + 1 + 1 + 1 + 1 + 1]? = some (.cells #[.string t, .int .i64 1, .int .i64 7] 52 (0, 0))
theorem SmpAt.nil {W W' : World} {b : Nat} {t : ByteArray} (h : SmpAt W b t) (hk : Kept Nil W W') : SmpAt W' b t :=
  ⟨hk.heap h.v (fun h => h), hk.heap h.s (fun h => h), hk.heap h.p (fun h => h), hk.heap h.l (fun h => h), hk.heap h.e (fun h => h)⟩
theorem SmpAt.turn {W : World} {b : Nat} {t : ByteArray} (h : SmpAt W b t) (u : ByteArray) : SmpAt (W.setCell ⟨b + 1 + 1 + 1 + 1 + 1, 0, none⟩ (.string u)) b u :=
  ⟨(heap_set_other (by simp only; omega) _).trans h.v, (heap_set_other (by simp only; omega) _).trans h.s, (heap_set_other (by simp only; omega) _).trans h.p, (heap_set_other (by simp only; omega) _).trans h.l, by rw [heap_set h.e]; rfl⟩
theorem SmpAt.model {W : World} {b : Nat} {t : ByteArray} (h : SmpAt W b t) : RModel W (smpM b t) := by
  have hv := h.v
  have hs := h.s
  have hp := h.p
  have hl := h.l
  have he := h.e
  refine ⟨.inr ⟨_, _, rfl, fun j q hj => ?_⟩, fun q hq => ?_, .inr ⟨_, _, rfl, fun j q hj => ?_⟩, .inr ⟨_, _, rfl, fun j q hj => ?_⟩, by simp [smpM, maxLen], by simp [smpM, maxLen], by simp [smpM, maxLen]⟩
  · match j with
    | 0 => simp [smpM] at hj; subst hj; exact ⟨by rw [cell_of hp]; rfl, by rw [cell_of hp]; rfl, by rw [cell_of hp]; rfl, by rw [cell_of hp]; rfl⟩
    | 1 => simp [smpM] at hj; subst hj; exact ⟨by rw [cell_of hp]; rfl, by rw [cell_of hp]; rfl, by rw [cell_of hp]; rfl, by rw [cell_of hp]; rfl⟩
    | j + 2 => simp [smpM] at hj
  · simp [smpM] at hq
    rcases hq with rfl | rfl
    · refine ⟨.inr ⟨_, _, rfl, fun j v hj => ?_⟩, .inr ⟨_, _, rfl, fun j s hj => ?_⟩, by simp [maxLen], by simp [maxLen], fun s hs => ?_⟩
      · match j with
        | 0 => simp at hj; subst hj; exact ⟨by rw [cell_of hv]; rfl, by rw [cell_of hv]; rfl⟩
        | j + 1 => simp at hj
      · match j with
        | 0 => simp at hj; subst hj; exact ⟨by rw [cell_of hs]; rfl, by rw [cell_of hs]; rfl, by rw [cell_of hs]; rfl, by rw [cell_of hs]; rfl, by rw [cell_of hs]; rfl⟩
        | 1 => simp at hj; subst hj; exact ⟨by rw [cell_of hs]; rfl, by rw [cell_of hs]; rfl, by rw [cell_of hs]; rfl, by rw [cell_of hs]; rfl, by rw [cell_of hs]; rfl⟩
        | j + 2 => simp at hj
      · simp at hs
        rcases hs with rfl | rfl <;> exact ⟨by decide, by decide⟩
    · exact ⟨.inl rfl, .inl rfl, by simp [maxLen], by simp [maxLen], by simp⟩
  · match j with
    | 0 => simp [smpM] at hj; subst hj; exact ⟨by rw [cell_of hl]; rfl, by rw [cell_of hl]; rfl, by rw [cell_of hl]; rfl, by rw [cell_of hl]; rfl, by rw [cell_of hl]; rfl⟩
    | j + 1 => simp [smpM] at hj
  · match j with
    | 0 => simp [smpM] at hj; subst hj; exact ⟨by rw [cell_of he]; rfl, by rw [cell_of he]; rfl, by rw [cell_of he]; rfl⟩
    | j + 1 => simp [smpM] at hj
set_option maxHeartbeats 4000000 in
theorem sample_is (w : World) : Calls Try.prog 22 #[] w fun e w' => ∃ b, e = .returned (.agg #[.int .i64 3, .slice (some ⟨b + 1 + 1 + 1, 0, none⟩) 2 2, .slice (some ⟨b + 1 + 1 + 1 + 1, 0, none⟩) 1 1, .slice (some ⟨b + 1 + 1 + 1 + 1 + 1, 0, none⟩) 1 1]) ∧ w.heap.size ≤ b ∧ SmpAt w' b ⟨#[97]⟩ ∧ Kept Nil w w' := by
  go_enter Try.func22, Try.ntmps22
  go_wp2
  refine bodyPost_ret (v := .agg #[.int .i64 3, .slice (some ⟨w.heap.size + 1 + 1 + 1, 0, none⟩) 2 2, .slice (some ⟨w.heap.size + 1 + 1 + 1 + 1, 0, none⟩) 1 1, .slice (some ⟨w.heap.size + 1 + 1 + 1 + 1 + 1, 0, none⟩) 1 1]) (by simp [results, Try.results22, go_sem]) rfl ?_
  have h1 : (((((((w.alloc (.cells #[.int .i64 3, .slice (some ⟨w.heap.size + 1 + 1 + 1, 0, none⟩) 2 2, .slice (some ⟨w.heap.size + 1 + 1 + 1 + 1, 0, none⟩) 1 1, .slice (some ⟨w.heap.size + 1 + 1 + 1 + 1 + 1, 0, none⟩) 1 1] 26)).alloc (.cells #[.string ⟨#[120]⟩, .int .i64 0] 73)).alloc (.cells #[.int .i64 1, .string ⟨#[120]⟩, .int .i64 2, .int .i64 0, .string ⟨#[]⟩, .int .i64 4, .string ⟨#[108]⟩, .int .i64 1, .int .i64 0, .string ⟨#[120]⟩] 82)).alloc (.cells #[.string ⟨#[97]⟩, .int .i64 1, .slice (some ⟨w.heap.size + 1, 0, none⟩) 1 1, .slice (some ⟨w.heap.size + 1 + 1, 0, none⟩) 2 2, .string ⟨#[98]⟩, .int .i64 2, .slice none 0 0, .slice none 0 0] 39)).alloc (.cells #[.string ⟨#[108]⟩, .string ⟨#[97]⟩, .string ⟨#[98]⟩, .int .i64 5, .int .i64 1] 50)).alloc (.cells #[.string ⟨#[97]⟩, .int .i64 1, .int .i64 7] 52))).heap[w.heap.size + 1]? = some (.cells #[.string ⟨#[120]⟩, .int .i64 0] 73 (0, 0)) := by
    rw [heap_old _ _ (by simp only [World.size_alloc]; omega)]
    rw [heap_old _ _ (by simp only [World.size_alloc]; omega)]
    rw [heap_old _ _ (by simp only [World.size_alloc]; omega)]
    rw [heap_old _ _ (by simp only [World.size_alloc]; omega)]
    have h9 := heap_new (w.alloc (.cells #[.int .i64 3, .slice (some ⟨w.heap.size + 1 + 1 + 1, 0, none⟩) 2 2, .slice (some ⟨w.heap.size + 1 + 1 + 1 + 1, 0, none⟩) 1 1, .slice (some ⟨w.heap.size + 1 + 1 + 1 + 1 + 1, 0, none⟩) 1 1] 26)) (.cells #[.string ⟨#[120]⟩, .int .i64 0] 73)
    simp only [World.size_alloc] at h9
    exact h9
  have h2 : (((((((w.alloc (.cells #[.int .i64 3, .slice (some ⟨w.heap.size + 1 + 1 + 1, 0, none⟩) 2 2, .slice (some ⟨w.heap.size + 1 + 1 + 1 + 1, 0, none⟩) 1 1, .slice (some ⟨w.heap.size + 1 + 1 + 1 + 1 + 1, 0, none⟩) 1 1] 26)).alloc (.cells #[.string ⟨#[120]⟩, .int .i64 0] 73)).alloc (.cells #[.int .i64 1, .string ⟨#[120]⟩, .int .i64 2, .int .i64 0, .string ⟨#[]⟩, .int .i64 4, .string ⟨#[108]⟩, .int .i64 1, .int .i64 0, .string ⟨#[120]⟩] 82)).alloc (.cells #[.string ⟨#[97]⟩, .int .i64 1, .slice (some ⟨w.heap.size + 1, 0, none⟩) 1 1, .slice (some ⟨w.heap.size + 1 + 1, 0, none⟩) 2 2, .string ⟨#[98]⟩, .int .i64 2, .slice none 0 0, .slice none 0 0] 39)).alloc (.cells #[.string ⟨#[108]⟩, .string ⟨#[97]⟩, .string ⟨#[98]⟩, .int .i64 5, .int .i64 1] 50)).alloc (.cells #[.string ⟨#[97]⟩, .int .i64 1, .int .i64 7] 52))).heap[w.heap.size + 1 + 1]? = some (.cells #[.int .i64 1, .string ⟨#[120]⟩, .int .i64 2, .int .i64 0, .string ⟨#[]⟩, .int .i64 4, .string ⟨#[108]⟩, .int .i64 1, .int .i64 0, .string ⟨#[120]⟩] 82 (0, 0)) := by
    rw [heap_old _ _ (by simp only [World.size_alloc]; omega)]
    rw [heap_old _ _ (by simp only [World.size_alloc]; omega)]
    rw [heap_old _ _ (by simp only [World.size_alloc]; omega)]
    have h9 := heap_new ((w.alloc (.cells #[.int .i64 3, .slice (some ⟨w.heap.size + 1 + 1 + 1, 0, none⟩) 2 2, .slice (some ⟨w.heap.size + 1 + 1 + 1 + 1, 0, none⟩) 1 1, .slice (some ⟨w.heap.size + 1 + 1 + 1 + 1 + 1, 0, none⟩) 1 1] 26)).alloc (.cells #[.string ⟨#[120]⟩, .int .i64 0] 73)) (.cells #[.int .i64 1, .string ⟨#[120]⟩, .int .i64 2, .int .i64 0, .string ⟨#[]⟩, .int .i64 4, .string ⟨#[108]⟩, .int .i64 1, .int .i64 0, .string ⟨#[120]⟩] 82)
    simp only [World.size_alloc] at h9
    exact h9
  have h3 : (((((((w.alloc (.cells #[.int .i64 3, .slice (some ⟨w.heap.size + 1 + 1 + 1, 0, none⟩) 2 2, .slice (some ⟨w.heap.size + 1 + 1 + 1 + 1, 0, none⟩) 1 1, .slice (some ⟨w.heap.size + 1 + 1 + 1 + 1 + 1, 0, none⟩) 1 1] 26)).alloc (.cells #[.string ⟨#[120]⟩, .int .i64 0] 73)).alloc (.cells #[.int .i64 1, .string ⟨#[120]⟩, .int .i64 2, .int .i64 0, .string ⟨#[]⟩, .int .i64 4, .string ⟨#[108]⟩, .int .i64 1, .int .i64 0, .string ⟨#[120]⟩] 82)).alloc (.cells #[.string ⟨#[97]⟩, .int .i64 1, .slice (some ⟨w.heap.size + 1, 0, none⟩) 1 1, .slice (some ⟨w.heap.size + 1 + 1, 0, none⟩) 2 2, .string ⟨#[98]⟩, .int .i64 2, .slice none 0 0, .slice none 0 0] 39)).alloc (.cells #[.string ⟨#[108]⟩, .string ⟨#[97]⟩, .string ⟨#[98]⟩, .int .i64 5, .int .i64 1] 50)).alloc (.cells #[.string ⟨#[97]⟩, .int .i64 1, .int .i64 7] 52))).heap[w.heap.size + 1 + 1 + 1]? = some (.cells #[.string ⟨#[97]⟩, .int .i64 1, .slice (some ⟨w.heap.size + 1, 0, none⟩) 1 1, .slice (some ⟨w.heap.size + 1 + 1, 0, none⟩) 2 2, .string ⟨#[98]⟩, .int .i64 2, .slice none 0 0, .slice none 0 0] 39 (0, 0)) := by
    rw [heap_old _ _ (by simp only [World.size_alloc]; omega)]
    rw [heap_old _ _ (by simp only [World.size_alloc]; omega)]
    have h9 := heap_new (((w.alloc (.cells #[.int .i64 3, .slice (some ⟨w.heap.size + 1 + 1 + 1, 0, none⟩) 2 2, .slice (some ⟨w.heap.size + 1 + 1 + 1 + 1, 0, none⟩) 1 1, .slice (some ⟨w.heap.size + 1 + 1 + 1 + 1 + 1, 0, none⟩) 1 1] 26)).alloc (.cells #[.string ⟨#[120]⟩, .int .i64 0] 73)).alloc (.cells #[.int .i64 1, .string ⟨#[120]⟩, .int .i64 2, .int .i64 0, .string ⟨#[]⟩, .int .i64 4, .string ⟨#[108]⟩, .int .i64 1, .int .i64 0, .string ⟨#[120]⟩] 82)) (.cells #[.string ⟨#[97]⟩, .int .i64 1, .slice (some ⟨w.heap.size + 1, 0, none⟩) 1 1, .slice (some ⟨w.heap.size + 1 + 1, 0, none⟩) 2 2, .string ⟨#[98]⟩, .int .i64 2, .slice none 0 0, .slice none 0 0] 39)
    simp only [World.size_alloc] at h9
    exact h9
  have h4 : (((((((w.alloc (.cells #[.int .i64 3, .slice (some ⟨w.heap.size + 1 + 1 + 1, 0, none⟩) 2 2, .slice (some ⟨w.heap.size + 1 + 1 + 1 + 1, 0, none⟩) 1 1, .slice (some ⟨w.heap.size + 1 + 1 + 1 + 1 + 1, 0, none⟩) 1 1] 26)).alloc (.cells #[.string ⟨#[120]⟩, .int .i64 0] 73)).alloc (.cells #[.int .i64 1, .string ⟨#[120]⟩, .int .i64 2, .int .i64 0, .string ⟨#[]⟩, .int .i64 4, .string ⟨#[108]⟩, .int .i64 1, .int .i64 0, .string ⟨#[120]⟩] 82)).alloc (.cells #[.string ⟨#[97]⟩, .int .i64 1, .slice (some ⟨w.heap.size + 1, 0, none⟩) 1 1, .slice (some ⟨w.heap.size + 1 + 1, 0, none⟩) 2 2, .string ⟨#[98]⟩, .int .i64 2, .slice none 0 0, .slice none 0 0] 39)).alloc (.cells #[.string ⟨#[108]⟩, .string ⟨#[97]⟩, .string ⟨#[98]⟩, .int .i64 5, .int .i64 1] 50)).alloc (.cells #[.string ⟨#[97]⟩, .int .i64 1, .int .i64 7] 52))).heap[w.heap.size + 1 + 1 + 1 + 1]? = some (.cells #[.string ⟨#[108]⟩, .string ⟨#[97]⟩, .string ⟨#[98]⟩, .int .i64 5, .int .i64 1] 50 (0, 0)) := by
    rw [heap_old _ _ (by simp only [World.size_alloc]; omega)]
    have h9 := heap_new ((((w.alloc (.cells #[.int .i64 3, .slice (some ⟨w.heap.size + 1 + 1 + 1, 0, none⟩) 2 2, .slice (some ⟨w.heap.size + 1 + 1 + 1 + 1, 0, none⟩) 1 1, .slice (some ⟨w.heap.size + 1 + 1 + 1 + 1 + 1, 0, none⟩) 1 1] 26)).alloc (.cells #[.string ⟨#[120]⟩, .int .i64 0] 73)).alloc (.cells #[.int .i64 1, .string ⟨#[120]⟩, .int .i64 2, .int .i64 0, .string ⟨#[]⟩, .int .i64 4, .string ⟨#[108]⟩, .int .i64 1, .int .i64 0, .string ⟨#[120]⟩] 82)).alloc (.cells #[.string ⟨#[97]⟩, .int .i64 1, .slice (some ⟨w.heap.size + 1, 0, none⟩) 1 1, .slice (some ⟨w.heap.size + 1 + 1, 0, none⟩) 2 2, .string ⟨#[98]⟩, .int .i64 2, .slice none 0 0, .slice none 0 0] 39)) (.cells #[.string ⟨#[108]⟩, .string ⟨#[97]⟩, .string ⟨#[98]⟩, .int .i64 5, .int .i64 1] 50)
    simp only [World.size_alloc] at h9
    exact h9
  have h5 : (((((((w.alloc (.cells #[.int .i64 3, .slice (some ⟨w.heap.size + 1 + 1 + 1, 0, none⟩) 2 2, .slice (some ⟨w.heap.size + 1 + 1 + 1 + 1, 0, none⟩) 1 1, .slice (some ⟨w.heap.size + 1 + 1 + 1 + 1 + 1, 0, none⟩) 1 1] 26)).alloc (.cells #[.string ⟨#[120]⟩, .int .i64 0] 73)).alloc (.cells #[.int .i64 1, .string ⟨#[120]⟩, .int .i64 2, .int .i64 0, .string ⟨#[]⟩, .int .i64 4, .string ⟨#[108]⟩, .int .i64 1, .int .i64 0, .string ⟨#[120]⟩] 82)).alloc (.cells #[.string ⟨#[97]⟩, .int .i64 1, .slice (some ⟨w.heap.size + 1, 0, none⟩) 1 1, .slice (some ⟨w.heap.size + 1 + 1, 0, none⟩) 2 2, .string ⟨#[98]⟩, .int .i64 2, .slice none 0 0, .slice none 0 0] 39)).alloc (.cells #[.string ⟨#[108]⟩, .string ⟨#[97]⟩, .string ⟨#[98]⟩, .int .i64 5, .int .i64 1] 50)).alloc (.cells #[.string ⟨#[97]⟩, .int .i64 1, .int .i64 7] 52))).heap[w.heap.size + 1 + 1 + 1 + 1 + 1]? = some (.cells #[.string ⟨#[97]⟩, .int .i64 1, .int .i64 7] 52 (0, 0)) := by
    have h9 := heap_new (((((w.alloc (.cells #[.int .i64 3, .slice (some ⟨w.heap.size + 1 + 1 + 1, 0, none⟩) 2 2, .slice (some ⟨w.heap.size + 1 + 1 + 1 + 1, 0, none⟩) 1 1, .slice (some ⟨w.heap.size + 1 + 1 + 1 + 1 + 1, 0, none⟩) 1 1] 26)).alloc (.cells #[.string ⟨#[120]⟩, .int .i64 0] 73)).alloc (.cells #[.int .i64 1, .string ⟨#[120]⟩, .int .i64 2, .int .i64 0, .string ⟨#[]⟩, .int .i64 4, .string ⟨#[108]⟩, .int .i64 1, .int .i64 0, .string ⟨#[120]⟩] 82)).alloc (.cells #[.string ⟨#[97]⟩, .int .i64 1, .slice (some ⟨w.heap.size + 1, 0, none⟩) 1 1, .slice (some ⟨w.heap.size + 1 + 1, 0, none⟩) 2 2, .string ⟨#[98]⟩, .int .i64 2, .slice none 0 0, .slice none 0 0] 39)).alloc (.cells #[.string ⟨#[108]⟩, .string ⟨#[97]⟩, .string ⟨#[98]⟩, .int .i64 5, .int .i64 1] 50)) (.cells #[.string ⟨#[97]⟩, .int .i64 1, .int .i64 7] 52)
    simp only [World.size_alloc] at h9
    exact h9
  exact ⟨_, rfl, Nat.le_refl _, ⟨h1, h2, h3, h4, h5⟩, ((((((Kept.refl Nil w).alloc _).alloc _).alloc _).alloc _).alloc _).alloc _⟩
theorem smp_ok (b : Nat) : mdCheck (smpM b ⟨#[97]⟩) = (0, 0) := by kernel_rfl
theorem smp_bad (b : Nat) : mdCheck (smpM b ⟨#[99]⟩) = (4, 4) := by kernel_rfl
theorem smp_names (b : Nat) (t : ByteArray) : (mdNames (smpM b t)).take (99 : Int).toNat = [⟨#[97]⟩, ⟨#[120]⟩, ⟨#[98]⟩, ⟨#[108]⟩] := by simp [mdNames, smpM, prNames]
theorem smp_sz (b : Nat) (t : ByteArray) (ht : t.size ≤ maxLen) : SzM (smpM b t) := by
  refine ⟨fun p hp => ?_, fun l hl => ?_, fun l hl => ?_, fun l hl => ?_, fun e he => ?_⟩
  · simp [smpM] at hp
    rcases hp with rfl | rfl
    · refine ⟨show (ByteArray.mk #[97]).size ≤ maxLen by decide, fun v hv => ?_, fun s hs => ?_⟩
      · simp at hv; subst hv; decide
      · simp at hs; rcases hs with rfl | rfl <;> decide
    · exact ⟨show (ByteArray.mk #[98]).size ≤ maxLen by decide, by simp, by simp⟩
  · simp [smpM] at hl; subst hl; decide
  · simp [smpM] at hl; subst hl; decide
  · simp [smpM] at hl; subst hl; decide
  · simp [smpM] at he; subst he; exact ht
end Go.Proofs.Ytehecolejeonaaa.Mo
