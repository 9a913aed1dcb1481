/- The walk of sandtablelaw05.alive. -/
import Derived.Test.YtmamegpkpkkkaaaDoorFreshR
import Derived.Test.YtmamegpkpkkkaaaDoorSortW
import Derived.Test.YtmamegpkpkkkaaaDoorDistC
namespace Go.Proofs.YtmamegpkpkkkaaaDoor.Mo
open Go Go.RowKit Go.Proofs.YtmamegpkpkkkaaaDoor.Lb
set_option linter.unusedVariables false
set_option linter.unusedSimpArgs false
theorem lit_strs {W : World} {b : Nat} {l : List ByteArray} {t : TypeId} (h : W.heap[b]? = some (.cells (l.map Value.string).toArray t (0, 0))) : RStrs W (some ⟨b, 0, none⟩) l :=
  .inr ⟨b, 0, rfl, fun j s hj => by rw [cell_of h, Nat.zero_add]; simp [hj]⟩
theorem Fresh_ab (b : Nat) (w : World) (h : w.heap[b]? = some (.cells #[.string ⟨#[97]⟩, .string ⟨#[98]⟩] 9 (0, 0))) : Calls Tryd.prog 8 #[.slice (some ⟨b, 0, none⟩) 2 2, .string ⟨#[97]⟩] w fun e w' => e = .returned (.tuple #[.string ⟨#[97, 95, 50]⟩, .int .i64 0]) ∧ Kept Nil w w' := by
  have h9 := Fresh_is [⟨#[97]⟩, ⟨#[98]⟩] (some ⟨b, 0, none⟩) 2 ⟨#[97]⟩ w (lit_strs h) (by decide) (by decide)
  rw [show freshS [⟨#[97]⟩, ⟨#[98]⟩] ⟨#[97]⟩ = ⟨#[97, 95, 50]⟩ by kernel_rfl, show freshE [⟨#[97]⟩, ⟨#[98]⟩] ⟨#[97]⟩ = 0 by kernel_rfl] at h9
  exact h9
theorem Fresh_na (w : World) : Calls Tryd.prog 8 #[.slice none 0 0, .string ⟨#[97]⟩] w fun e w' => e = .returned (.tuple #[.string ⟨#[97]⟩, .int .i64 0]) ∧ Kept Nil w w' := by
  have h9 := Fresh_is [] none 0 ⟨#[97]⟩ w (.inl rfl) (by decide) (by decide)
  rw [show freshS [] ⟨#[97]⟩ = ⟨#[97]⟩ by kernel_rfl, show freshE [] ⟨#[97]⟩ = 0 by kernel_rfl] at h9
  exact h9
theorem Fresh_nA (w : World) : Calls Tryd.prog 8 #[.slice none 0 0, .string ⟨#[65]⟩] w fun e w' => e = .returned (.tuple #[.string ⟨#[]⟩, .int .i64 40]) ∧ Kept Nil w w' := by
  have h9 := Fresh_is [] none 0 ⟨#[65]⟩ w (.inl rfl) (by decide) (by decide)
  rw [show freshS [] ⟨#[65]⟩ = ⟨#[]⟩ by kernel_rfl, show freshE [] ⟨#[65]⟩ = 40 by kernel_rfl] at h9
  exact h9
theorem Check_a1 (w : World) : Calls Tryd.prog 12 #[.string ⟨#[97, 95, 49]⟩] w fun e w' => e = .returned (.int .i64 0) ∧ w = w' := by
  have h9 := Check_is ⟨#[97, 95, 49]⟩ w (by decide)
  rw [show nameC ⟨#[97, 95, 49]⟩ = 0 by kernel_rfl] at h9
  exact h9
theorem Check_1a (w : World) : Calls Tryd.prog 12 #[.string ⟨#[49, 97]⟩] w fun e w' => e = .returned (.int .i64 40) ∧ w = w' := by
  have h9 := Check_is ⟨#[49, 97]⟩ w (by decide)
  rw [show nameC ⟨#[49, 97]⟩ = 40 by kernel_rfl] at h9
  exact h9
theorem Sorted_ab (b : Nat) (w : World) (h : w.heap[b]? = some (.cells #[.string ⟨#[97]⟩, .string ⟨#[98]⟩] 9 (0, 0))) : Calls Tryd.prog 14 #[.slice (some ⟨b, 0, none⟩) 2 2] w fun e w' => e = .returned (.bool true) ∧ Kept Nil w w' := by
  have h9 := Sorted_is [⟨#[97]⟩, ⟨#[98]⟩] (some ⟨b, 0, none⟩) 2 w (lit_strs h) (by decide)
  rw [show sortB [⟨#[97]⟩, ⟨#[98]⟩] = true by kernel_rfl] at h9
  exact h9
theorem Sorted_aa (b : Nat) (w : World) (h : w.heap[b]? = some (.cells #[.string ⟨#[97]⟩, .string ⟨#[97]⟩] 9 (0, 0))) : Calls Tryd.prog 14 #[.slice (some ⟨b, 0, none⟩) 2 2] w fun e w' => e = .returned (.bool false) ∧ Kept Nil w w' := by
  have h9 := Sorted_is [⟨#[97]⟩, ⟨#[97]⟩] (some ⟨b, 0, none⟩) 2 w (lit_strs h) (by decide)
  rw [show sortB [⟨#[97]⟩, ⟨#[97]⟩] = false by kernel_rfl] at h9
  exact h9
theorem Find_xy (b : Nat) (w : World) (h : w.heap[b]? = some (.cells #[.string ⟨#[120]⟩, .string ⟨#[121]⟩] 9 (0, 0))) : Calls Tryd.prog 16 #[.slice (some ⟨b, 0, none⟩) 2 2, .string ⟨#[121]⟩] w fun e w' => e = .returned (.int .i64 1) ∧ w = w' := by
  have h9 := FindI_is [⟨#[120]⟩, ⟨#[121]⟩] (some ⟨b, 0, none⟩) 2 ⟨#[121]⟩ w (lit_strs h) (by decide)
  rw [show findI [⟨#[120]⟩, ⟨#[121]⟩] ⟨#[121]⟩ = 1 by kernel_rfl] at h9
  exact h9
theorem distinct_bab (b : Nat) (w : World) (h : w.heap[b]? = some (.cells #[.string ⟨#[98]⟩, .string ⟨#[97]⟩, .string ⟨#[98]⟩] 9 (0, 0))) : Calls Tryd.prog 19 #[.slice (some ⟨b, 0, none⟩) 3 3, .int .i64 9] w fun e w' => ∃ A cap, e = .returned (.slice A 2 cap) ∧ Kept Nil w w' := by
  refine (distinct_is [⟨#[98]⟩, ⟨#[97]⟩, ⟨#[98]⟩] (some ⟨b, 0, none⟩) 3 9 w (lit_strs h) (by decide) (fun s hs => by simp only [List.mem_cons, List.not_mem_nil, or_false] at hs; rcases hs with rfl | rfl | rfl <;> decide) (by decide)).mono ?_
  rintro e w' ⟨v, rfl, ho, hk⟩
  rw [show (dist [⟨#[98]⟩, ⟨#[97]⟩, ⟨#[98]⟩]).take (9 : Int).toNat = [⟨#[98]⟩, ⟨#[97]⟩] by kernel_rfl] at ho
  obtain ⟨A, cap, rfl⟩ := own_slice ho
  exact ⟨A, cap, rfl, hk⟩
set_option maxHeartbeats 8000000 in
theorem alive_is (w : World) : Calls Tryd.prog 7 #[] w fun e w' => e = .returned (.bool true) ∧ Kept Nil w w' := by
  go_enter Tryd.func7, Tryd.ntmps7
  go_wp2_with (first | (go_at_call 8; (with_reducible refine (Fresh_ab _ _ ?_).mono ?_); exact heap_new _ _; rintro e w1 ⟨rfl, hk1⟩) | (go_at_call 8; (with_reducible refine (Fresh_na _).mono ?_); rintro e w2 ⟨rfl, hk2⟩) | (go_at_call 8; (with_reducible refine (Fresh_nA _).mono ?_); rintro e w3 ⟨rfl, hk3⟩) | (go_at_call 12; (with_reducible refine (Check_a1 _).mono ?_); rintro e w4 ⟨rfl, rfl⟩) | (go_at_call 12; (with_reducible refine (Check_1a _).mono ?_); rintro e w5 ⟨rfl, rfl⟩) | (go_at_call 14; (with_reducible refine (Sorted_ab _ _ ?_).mono ?_); exact heap_new _ _; rintro e w6 ⟨rfl, hk6⟩) | (go_at_call 14; (with_reducible refine (Sorted_aa _ _ ?_).mono ?_); exact heap_new _ _; rintro e w7 ⟨rfl, hk7⟩) | (go_at_call 16; (with_reducible refine (Find_xy _ _ ?_).mono ?_); exact heap_new _ _; rintro e w8 ⟨rfl, rfl⟩) | (go_at_call 19; (with_reducible refine (distinct_bab _ _ ?_).mono ?_); (have h9 := heap_new (w7.alloc (.cells #[.string ⟨#[120]⟩, .string ⟨#[121]⟩] 9)) (.cells #[.string ⟨#[98]⟩, .string ⟨#[97]⟩, .string ⟨#[98]⟩] 9); rw [World.size_alloc] at h9; exact h9); rintro e w9 ⟨A9, c9, rfl, hk9⟩))
  go_ret
  exact ⟨rfl, (by repeat (first | exact Kept.refl _ _ | assumption | refine Kept.drew ?_ | refine Kept.drewN ?_ _ | refine Kept.alloc ?_ _ | refine Kept.step ?_ (by assumption)))⟩
end Go.Proofs.YtmamegpkpkkkaaaDoor.Mo
