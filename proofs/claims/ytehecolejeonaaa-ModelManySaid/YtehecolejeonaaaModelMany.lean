/- The walk of the statement ModelMany. -/
import Derived.Test.YtehecolejeonaaaManyS
import Derived.Test.YtehecolejeonaaaMask
namespace Go.Proofs.Ytehecolejeonaaa.Mo
open Go Go.RowKit Go.Proofs.Ytehecolejeonaaa.Lb
set_option linter.unusedVariables false
set_option linter.unusedSimpArgs false

theorem i64_and3 (n : Int) : bits .and .i64 n 3 = n % 4 := i64_low n 3 2 (by decide) (by decide)
theorem i64_and1 (n : Int) : bits .and .i64 n 1 = n % 2 := i64_low n 1 1 (by decide) (by decide)
set_option maxRecDepth 4000 in
set_option maxHeartbeats 16000000 in
theorem ModelMany_calls (kind over : Int) (w : World) (hk : Sc.I64 kind) (ho : Sc.I64 over) :
    Calls Try.prog 4 #[.int .i64 kind, .int .i64 over] w fun e w' => e = .returned (.bool true) ∧ Kept Nil w w' := by
  clear hk ho
  obtain ⟨k, hkk⟩ : ∃ k : Int, bits .and .i64 kind 3 = k := ⟨_, rfl⟩
  obtain ⟨o, hoo⟩ : ∃ o : Int, bits .and .i64 over 1 = o := ⟨_, rfl⟩
  have hk4 : k = 0 ∨ k = 1 ∨ k = 2 ∨ k = 3 := by rw [i64_and3] at hkk; omega
  have ho2 : o = 0 ∨ o = 1 := by rw [i64_and1] at hoo; omega
  go_enter Try.func4, Try.ntmps4
  go_wp2_with fail
  refine (alive_is w).mono ?_
  rintro e w1 ⟨rfl, hk1⟩
  rcases hk4 with rfl | rfl | rfl | rfl
  · rcases ho2 with rfl | rfl
    · obtain ⟨cur, hcur⟩ : ∃ cur, madeCells #[.string ⟨#[]⟩, .int .i64 0, .slice none 0 0, .slice none 0 0] (4096 * 4) = cur := ⟨_, rfl⟩
      have hmk : ∀ w : World, (Instr.makeSlice 22 (.int .i64 4096) (.int .i64 4096)).run Try.prog w = .ok (.slice (some ⟨w.heap.size, 0, none⟩) 4096 4096) (w.alloc (.cells cur 39)) := fun w => by rw [← hcur]; exact mk_P 4096 (by decide) w
      have HCUR := Lib.hid hcur
      clear hcur
      go_wp2_with fail
      refine (CheckZP_at (w1.heap.size + 1) 4096 40 1 (by simp) (by decide) (by decide) _ (RProcs_zero (t := 39) (by rw [HCUR.out]; have h9 := heap_new (w1.alloc (.cells #[.int .i64 3, .slice (some ⟨w1.heap.size + 1, 0, none⟩) 4096 4096, .slice none 0 0, .slice none 0 0] 26)) (.cells cur 39); rw [World.size_alloc] at h9; exact h9))).mono ?_
      rintro e w2 ⟨rfl, hk2⟩
      go_wp2_with fail
      go_ret
      exact ⟨rfl, (by repeat (first | exact Kept.refl _ _ | assumption | refine Kept.drew ?_ | refine Kept.drewN ?_ _ | refine Kept.alloc ?_ _ | refine Kept.step ?_ (by assumption)))⟩
    · obtain ⟨cur, hcur⟩ : ∃ cur, madeCells #[.string ⟨#[]⟩, .int .i64 0, .slice none 0 0, .slice none 0 0] (4097 * 4) = cur := ⟨_, rfl⟩
      have hmk : ∀ w : World, (Instr.makeSlice 22 (.int .i64 4097) (.int .i64 4097)).run Try.prog w = .ok (.slice (some ⟨w.heap.size, 0, none⟩) 4097 4097) (w.alloc (.cells cur 39)) := fun w => by rw [← hcur]; exact mk_P 4097 (by decide) w
      have HCUR := Lib.hid hcur
      clear hcur
      go_wp2_with fail
      refine (CheckZP_at (w1.heap.size + 1) 4097 3 0 (by simp) (by decide) (by decide) _ (RProcs_zero (t := 39) (by rw [HCUR.out]; have h9 := heap_new (w1.alloc (.cells #[.int .i64 3, .slice (some ⟨w1.heap.size + 1, 0, none⟩) 4097 4097, .slice none 0 0, .slice none 0 0] 26)) (.cells cur 39); rw [World.size_alloc] at h9; exact h9))).mono ?_
      rintro e w2 ⟨rfl, hk2⟩
      go_wp2_with fail
      go_ret
      exact ⟨rfl, (by repeat (first | exact Kept.refl _ _ | assumption | refine Kept.drew ?_ | refine Kept.drewN ?_ _ | refine Kept.alloc ?_ _ | refine Kept.step ?_ (by assumption)))⟩
  · rcases ho2 with rfl | rfl
    · obtain ⟨cur, hcur⟩ : ∃ cur, madeCells #[.string ⟨#[]⟩, .string ⟨#[]⟩, .string ⟨#[]⟩, .int .i64 0, .int .i64 0] (16384 * 5) = cur := ⟨_, rfl⟩
      have hmk : ∀ w : World, (Instr.makeSlice 23 (.int .i64 16384) (.int .i64 16384)).run Try.prog w = .ok (.slice (some ⟨w.heap.size, 0, none⟩) 16384 16384) (w.alloc (.cells cur 50)) := fun w => by rw [← hcur]; exact mk_L 16384 (by decide) w
      have HCUR := Lib.hid hcur
      clear hcur
      go_wp2_with fail
      refine (CheckZL_at (w1.heap.size + 1) 16384 40 1 (by simp) (by decide) (by decide) _ (RLinks_zero (t := 50) (by rw [HCUR.out]; have h9 := heap_new (w1.alloc (.cells #[.int .i64 3, .slice none 0 0, .slice (some ⟨w1.heap.size + 1, 0, none⟩) 16384 16384, .slice none 0 0] 26)) (.cells cur 50); rw [World.size_alloc] at h9; exact h9))).mono ?_
      rintro e w2 ⟨rfl, hk2⟩
      go_wp2_with fail
      go_ret
      exact ⟨rfl, (by repeat (first | exact Kept.refl _ _ | assumption | refine Kept.drew ?_ | refine Kept.drewN ?_ _ | refine Kept.alloc ?_ _ | refine Kept.step ?_ (by assumption)))⟩
    · obtain ⟨cur, hcur⟩ : ∃ cur, madeCells #[.string ⟨#[]⟩, .string ⟨#[]⟩, .string ⟨#[]⟩, .int .i64 0, .int .i64 0] (16385 * 5) = cur := ⟨_, rfl⟩
      have hmk : ∀ w : World, (Instr.makeSlice 23 (.int .i64 16385) (.int .i64 16385)).run Try.prog w = .ok (.slice (some ⟨w.heap.size, 0, none⟩) 16385 16385) (w.alloc (.cells cur 50)) := fun w => by rw [← hcur]; exact mk_L 16385 (by decide) w
      have HCUR := Lib.hid hcur
      clear hcur
      go_wp2_with fail
      refine (CheckZL_at (w1.heap.size + 1) 16385 3 0 (by simp) (by decide) (by decide) _ (RLinks_zero (t := 50) (by rw [HCUR.out]; have h9 := heap_new (w1.alloc (.cells #[.int .i64 3, .slice none 0 0, .slice (some ⟨w1.heap.size + 1, 0, none⟩) 16385 16385, .slice none 0 0] 26)) (.cells cur 50); rw [World.size_alloc] at h9; exact h9))).mono ?_
      rintro e w2 ⟨rfl, hk2⟩
      go_wp2_with fail
      go_ret
      exact ⟨rfl, (by repeat (first | exact Kept.refl _ _ | assumption | refine Kept.drew ?_ | refine Kept.drewN ?_ _ | refine Kept.alloc ?_ _ | refine Kept.step ?_ (by assumption)))⟩
  · rcases ho2 with rfl | rfl
    · obtain ⟨cur, hcur⟩ : ∃ cur, madeCells #[.string ⟨#[]⟩, .int .i64 0, .int .i64 0] (16384 * 3) = cur := ⟨_, rfl⟩
      have hmk : ∀ w : World, (Instr.makeSlice 24 (.int .i64 16384) (.int .i64 16384)).run Try.prog w = .ok (.slice (some ⟨w.heap.size, 0, none⟩) 16384 16384) (w.alloc (.cells cur 52)) := fun w => by rw [← hcur]; exact mk_E 16384 (by decide) w
      have HCUR := Lib.hid hcur
      clear hcur
      go_wp2_with fail
      refine (CheckZE_at (w1.heap.size + 1) 16384 4 1 (by simp) (by decide) (by decide) _ (REvents_zero (t := 52) (by rw [HCUR.out]; have h9 := heap_new (w1.alloc (.cells #[.int .i64 3, .slice none 0 0, .slice none 0 0, .slice (some ⟨w1.heap.size + 1, 0, none⟩) 16384 16384] 26)) (.cells cur 52); rw [World.size_alloc] at h9; exact h9))).mono ?_
      rintro e w2 ⟨rfl, hk2⟩
      go_wp2_with fail
      go_ret
      exact ⟨rfl, (by repeat (first | exact Kept.refl _ _ | assumption | refine Kept.drew ?_ | refine Kept.drewN ?_ _ | refine Kept.alloc ?_ _ | refine Kept.step ?_ (by assumption)))⟩
    · obtain ⟨cur, hcur⟩ : ∃ cur, madeCells #[.string ⟨#[]⟩, .int .i64 0, .int .i64 0] (16385 * 3) = cur := ⟨_, rfl⟩
      have hmk : ∀ w : World, (Instr.makeSlice 24 (.int .i64 16385) (.int .i64 16385)).run Try.prog w = .ok (.slice (some ⟨w.heap.size, 0, none⟩) 16385 16385) (w.alloc (.cells cur 52)) := fun w => by rw [← hcur]; exact mk_E 16385 (by decide) w
      have HCUR := Lib.hid hcur
      clear hcur
      go_wp2_with fail
      refine (CheckZE_at (w1.heap.size + 1) 16385 3 0 (by simp) (by decide) (by decide) _ (REvents_zero (t := 52) (by rw [HCUR.out]; have h9 := heap_new (w1.alloc (.cells #[.int .i64 3, .slice none 0 0, .slice none 0 0, .slice (some ⟨w1.heap.size + 1, 0, none⟩) 16385 16385] 26)) (.cells cur 52); rw [World.size_alloc] at h9; exact h9))).mono ?_
      rintro e w2 ⟨rfl, hk2⟩
      go_wp2_with fail
      go_ret
      exact ⟨rfl, (by repeat (first | exact Kept.refl _ _ | assumption | refine Kept.drew ?_ | refine Kept.drewN ?_ _ | refine Kept.alloc ?_ _ | refine Kept.step ?_ (by assumption)))⟩
  · rcases ho2 with rfl | rfl
    · obtain ⟨cur, hcur⟩ : ∃ cur, madeCells #[.string ⟨#[]⟩, .int .i64 0] (64 * 2) = cur := ⟨_, rfl⟩
      have hmk : ∀ w : World, (Instr.makeSlice 36 (.int .i64 64) (.int .i64 64)).run Try.prog w = .ok (.slice (some ⟨w.heap.size, 0, none⟩) 64 64) (w.alloc (.cells cur 73)) := fun w => by rw [← hcur]; exact mk_V 64 (by decide) w
      have HCUR := Lib.hid hcur
      clear hcur
      go_wp2_with fail
      have hv9 := heap_new (w1.alloc (.cells #[.int .i64 3, .slice (some ⟨w1.heap.size + 1 + 1, 0, none⟩) 1 1, .slice none 0 0, .slice none 0 0] 26)) (.cells cur 73)
      rw [World.size_alloc] at hv9
      have hp9 := heap_new ((w1.alloc (.cells #[.int .i64 3, .slice (some ⟨w1.heap.size + 1 + 1, 0, none⟩) 1 1, .slice none 0 0, .slice none 0 0] 26)).alloc (.cells cur 73)) (.cells #[.string ⟨#[97]⟩, .int .i64 1, .slice (some ⟨w1.heap.size + 1, 0, none⟩) 64 64, .slice none 0 0] 39)
      simp only [World.size_alloc] at hp9
      refine (CheckZV_at (w1.heap.size + 1 + 1) (w1.heap.size + 1) 64 40 (by simp) (by decide) (by decide) _ (RVars_zero (t := 73) (by rw [HCUR.out]; exact (heap_old _ _ (by simp)).trans hv9)) hp9).mono ?_
      clear hv9 hp9
      rintro e w2 ⟨rfl, hk2⟩
      go_wp2_with fail
      go_ret
      exact ⟨rfl, (by repeat (first | exact Kept.refl _ _ | assumption | refine Kept.drew ?_ | refine Kept.drewN ?_ _ | refine Kept.alloc ?_ _ | refine Kept.step ?_ (by assumption)))⟩
    · obtain ⟨cur, hcur⟩ : ∃ cur, madeCells #[.string ⟨#[]⟩, .int .i64 0] (65 * 2) = cur := ⟨_, rfl⟩
      have hmk : ∀ w : World, (Instr.makeSlice 36 (.int .i64 65) (.int .i64 65)).run Try.prog w = .ok (.slice (some ⟨w.heap.size, 0, none⟩) 65 65) (w.alloc (.cells cur 73)) := fun w => by rw [← hcur]; exact mk_V 65 (by decide) w
      have HCUR := Lib.hid hcur
      clear hcur
      go_wp2_with fail
      have hv9 := heap_new (w1.alloc (.cells #[.int .i64 3, .slice (some ⟨w1.heap.size + 1 + 1, 0, none⟩) 1 1, .slice none 0 0, .slice none 0 0] 26)) (.cells cur 73)
      rw [World.size_alloc] at hv9
      have hp9 := heap_new ((w1.alloc (.cells #[.int .i64 3, .slice (some ⟨w1.heap.size + 1 + 1, 0, none⟩) 1 1, .slice none 0 0, .slice none 0 0] 26)).alloc (.cells cur 73)) (.cells #[.string ⟨#[97]⟩, .int .i64 1, .slice (some ⟨w1.heap.size + 1, 0, none⟩) 65 65, .slice none 0 0] 39)
      simp only [World.size_alloc] at hp9
      refine (CheckZV_at (w1.heap.size + 1 + 1) (w1.heap.size + 1) 65 3 (by simp) (by decide) (by decide) _ (RVars_zero (t := 73) (by rw [HCUR.out]; exact (heap_old _ _ (by simp)).trans hv9)) hp9).mono ?_
      clear hv9 hp9
      rintro e w2 ⟨rfl, hk2⟩
      go_wp2_with fail
      go_ret
      exact ⟨rfl, (by repeat (first | exact Kept.refl _ _ | assumption | refine Kept.drew ?_ | refine Kept.drewN ?_ _ | refine Kept.alloc ?_ _ | refine Kept.step ?_ (by assumption)))⟩
end Go.Proofs.Ytehecolejeonaaa.Mo
