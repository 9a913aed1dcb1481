/- The walk of sandtablelaw15.alive. -/
import Derived.Test.YtehecolejeonaaaModelS
import Derived.Test.YtehecolejeonaaaPlaces
namespace Go.Proofs.Ytehecolejeonaaa.Mo
open Go Go.RowKit Go.Proofs.Ytehecolejeonaaa.Lb
set_option linter.unusedVariables false
set_option linter.unusedSimpArgs false

theorem CheckSmp_at (b : Nat) (w : World) (h : SmpAt w b ⟨#[97]⟩) : Calls Try.prog 11 #[.agg #[.int .i64 3, .slice (some ⟨b + 1 + 1 + 1, 0, none⟩) 2 2, .slice (some ⟨b + 1 + 1 + 1 + 1, 0, none⟩) 1 1, .slice (some ⟨b + 1 + 1 + 1 + 1 + 1, 0, none⟩) 1 1]] w fun e w' => e = .returned (.agg #[.int .i64 0, .int .i64 0]) ∧ Kept Nil w w' := by
  have h9 := CheckM_is (smpM b ⟨#[97]⟩) w h.model (smp_sz b _ (by decide)) (fun p hp => by simp [smpM] at hp; rcases hp with rfl | rfl <;> simp)
  rw [smp_ok] at h9
  exact h9
theorem CheckBad_at (b : Nat) (w : World) (h : SmpAt w b ⟨#[99]⟩) : Calls Try.prog 11 #[.agg #[.int .i64 3, .slice (some ⟨b + 1 + 1 + 1, 0, none⟩) 2 2, .slice (some ⟨b + 1 + 1 + 1 + 1, 0, none⟩) 1 1, .slice (some ⟨b + 1 + 1 + 1 + 1 + 1, 0, none⟩) 1 1]] w fun e w' => e = .returned (.agg #[.int .i64 4, .int .i64 4]) ∧ Kept Nil w w' := by
  have h9 := CheckM_is (smpM b ⟨#[99]⟩) w h.model (smp_sz b _ (by decide)) (fun p hp => by simp [smpM] at hp; rcases hp with rfl | rfl <;> simp)
  rw [smp_bad] at h9
  exact h9
theorem nil_model (v : Int) (w : World) : RModel w ⟨v, none, [], 0, none, [], 0, none, [], 0⟩ := ⟨.inl rfl, by simp, .inl rfl, .inl rfl, by simp [maxLen], by simp [maxLen], by simp [maxLen]⟩
theorem nil_sz (v : Int) : SzM ⟨v, none, [], 0, none, [], 0, none, [], 0⟩ := ⟨by simp, by simp, by simp, by simp, by simp⟩
theorem CheckNil3_at (w : World) : Calls Try.prog 11 #[.agg #[.int .i64 3, .slice none 0 0, .slice none 0 0, .slice none 0 0]] w fun e w' => e = .returned (.agg #[.int .i64 0, .int .i64 0]) ∧ Kept Nil w w' :=
  CheckM_is ⟨3, none, [], 0, none, [], 0, none, [], 0⟩ w (nil_model _ _) (nil_sz _) (by simp)
theorem CheckNil0_at (w : World) : Calls Try.prog 11 #[.agg #[.int .i64 0, .slice none 0 0, .slice none 0 0, .slice none 0 0]] w fun e w' => e = .returned (.agg #[.int .i64 43, .int .i64 0]) ∧ Kept Nil w w' :=
  CheckM_is ⟨0, none, [], 0, none, [], 0, none, [], 0⟩ w (nil_model _ _) (nil_sz _) (by simp)
theorem ProcSmp_at (b : Nat) (w : World) (h : SmpAt w b ⟨#[97]⟩) : Calls Try.prog 16 #[.agg #[.int .i64 3, .slice (some ⟨b + 1 + 1 + 1, 0, none⟩) 2 2, .slice (some ⟨b + 1 + 1 + 1 + 1, 0, none⟩) 1 1, .slice (some ⟨b + 1 + 1 + 1 + 1 + 1, 0, none⟩) 1 1], .string ⟨#[98]⟩] w fun e w' => e = .returned (.int .i64 1) ∧ Kept Nil w w' := by
  have h9 := Proc_is (smpM b ⟨#[97]⟩) ⟨#[98]⟩ w h.model
  rw [show findI ((smpM b ⟨#[97]⟩).ps.map Pr.name) ⟨#[98]⟩ = 1 by kernel_rfl] at h9
  exact h9
theorem LinkSmp_at (b : Nat) (w : World) (h : SmpAt w b ⟨#[97]⟩) : Calls Try.prog 18 #[.agg #[.int .i64 3, .slice (some ⟨b + 1 + 1 + 1, 0, none⟩) 2 2, .slice (some ⟨b + 1 + 1 + 1 + 1, 0, none⟩) 1 1, .slice (some ⟨b + 1 + 1 + 1 + 1 + 1, 0, none⟩) 1 1], .string ⟨#[120]⟩] w fun e w' => e = .returned (.int .i64 (-1)) ∧ Kept Nil w w' := by
  have h9 := Link_is (smpM b ⟨#[97]⟩) ⟨#[120]⟩ w h.model
  rw [show findI ((smpM b ⟨#[97]⟩).ls.map Lk.name) ⟨#[120]⟩ = -1 by kernel_rfl] at h9
  exact h9
theorem VarSmp_at (b : Nat) (w : World) (h : SmpAt w b ⟨#[97]⟩) : Calls Try.prog 12 #[.agg #[.string ⟨#[97]⟩, .int .i64 1, .slice (some ⟨b + 1, 0, none⟩) 1 1, .slice (some ⟨b + 1 + 1, 0, none⟩) 2 2], .string ⟨#[120]⟩] w fun e w' => e = .returned (.int .i64 0) ∧ Kept Nil w w' := by
  have h9 := Var_is ⟨⟨#[97]⟩, 1, some ⟨b + 1, 0, none⟩, [⟨⟨#[120]⟩, 0⟩], 1, some ⟨b + 1 + 1, 0, none⟩, [⟨1, ⟨#[120]⟩, 2, 0, ⟨#[]⟩⟩, ⟨4, ⟨#[108]⟩, 1, 0, ⟨#[120]⟩⟩], 2⟩ ⟨#[120]⟩ w (h.model.pp _ (by simp [smpM]))
  rw [show varIx [⟨⟨#[120]⟩, 0⟩] ⟨#[120]⟩ = 0 by kernel_rfl] at h9
  exact h9
theorem namesSmp_at (b : Nat) (w : World) (h : SmpAt w b ⟨#[97]⟩) : Calls Try.prog 21 #[.agg #[.int .i64 3, .slice (some ⟨b + 1 + 1 + 1, 0, none⟩) 2 2, .slice (some ⟨b + 1 + 1 + 1 + 1, 0, none⟩) 1 1, .slice (some ⟨b + 1 + 1 + 1 + 1 + 1, 0, none⟩) 1 1], .int .i64 99] w fun e w' => ∃ A cap, e = .returned (.slice A 4 cap) ∧ Kept Nil w w' := by
  refine (names_is (smpM b ⟨#[97]⟩) 99 w h.model (by simp [smpM]) (by simp [smpM]) (fun p hp => by simp [smpM] at hp; rcases hp with rfl | rfl <;> simp) (by simp [mdNames, smpM, prNames])).mono ?_
  rintro e w' ⟨v, rfl, ho, hk⟩
  rw [smp_names] at ho
  obtain ⟨A, cap, rfl⟩ := own_slice ho
  exact ⟨A, cap, rfl, hk⟩
set_option maxRecDepth 4000 in
set_option maxHeartbeats 16000000 in
theorem alive_is (w : World) : Calls Try.prog 8 #[] w fun e w' => e = .returned (.bool true) ∧ Kept Nil w w' := by
  go_enter Try.func8, Try.ntmps8
  go_wp2_with fail
  refine (sample_is w).mono ?_
  rintro e w1 ⟨b, rfl, hb1, hS1, hk1⟩
  have HS1 := Lib.hid hS1
  have HK1 := Lib.hid hk1
  clear hS1 hk1
  obtain ⟨WA, hW⟩ : ∃ W, (w1.alloc (.cells #[.int .i64 3, .slice (some ⟨b + 1 + 1 + 1, 0, none⟩) 2 2, .slice (some ⟨b + 1 + 1 + 1 + 1, 0, none⟩) 1 1, .slice (some ⟨b + 1 + 1 + 1 + 1 + 1, 0, none⟩) 1 1] 26)) = W := ⟨_, rfl⟩
  have hk : Kept Nil w1 WA := by rw [← hW]; exact ((Kept.refl Nil w1).alloc _)
  have hsz : WA.heap.size = w1.heap.size + 1 := by rw [← hW]; simp
  have hb : WA.heap[w1.heap.size]? = some (.cells #[.int .i64 3, .slice (some ⟨b + 1 + 1 + 1, 0, none⟩) 2 2, .slice (some ⟨b + 1 + 1 + 1 + 1, 0, none⟩) 1 1, .slice (some ⟨b + 1 + 1 + 1 + 1 + 1, 0, none⟩) 1 1] 26 (0, 0)) := by
    rw [← hW]
    have h9 := heap_new w1 (.cells #[.int .i64 3, .slice (some ⟨b + 1 + 1 + 1, 0, none⟩) 2 2, .slice (some ⟨b + 1 + 1 + 1 + 1, 0, none⟩) 1 1, .slice (some ⟨b + 1 + 1 + 1 + 1 + 1, 0, none⟩) 1 1] 26)
    exact h9
  have G0 := Lib.hid (show WA.cell? ⟨w1.heap.size, 0, none⟩ = some (.int .i64 3) by rw [cell_of hb]; rfl)
  have G1 := Lib.hid (show WA.cell? ⟨w1.heap.size, 1, none⟩ = some (.slice (some ⟨b + 1 + 1 + 1, 0, none⟩) 2 2) by rw [cell_of hb]; rfl)
  have G2 := Lib.hid (show WA.cell? ⟨w1.heap.size, 2, none⟩ = some (.slice (some ⟨b + 1 + 1 + 1 + 1, 0, none⟩) 1 1) by rw [cell_of hb]; rfl)
  have G3 := Lib.hid (show WA.cell? ⟨w1.heap.size, 3, none⟩ = some (.slice (some ⟨b + 1 + 1 + 1 + 1 + 1, 0, none⟩) 1 1) by rw [cell_of hb]; rfl)
  have GB := Lib.hid hb
  have hzg : w1.heap.size < WA.heap.size := by omega
  clear hb
  have HWA := Lib.hid hW
  have HKA := Lib.hid hk
  have HSZA := Lib.hid hsz
  clear hW hk hsz
  go_wp2_with fail
  rw [HWA.out]
  refine (sample_is WA).mono ?_
  rintro e w2 ⟨b2, rfl, hb2, hS2, hk2⟩
  have HS2 := Lib.hid hS2
  have HK2 := Lib.hid hk2
  have e0 : w2.cell? ⟨b2 + 1 + 1 + 1 + 1 + 1, 0, none⟩ = some (.string ⟨#[97]⟩) := by rw [cell_of hS2.e]; rfl
  have f0 : w2.frozen? ⟨b2 + 1 + 1 + 1 + 1 + 1, 0, none⟩ = false := frozen_of hS2.e 0
  have hlt : b2 + 1 + 1 + 1 + 1 + 1 < w2.heap.size := (Array.getElem?_eq_some_iff.1 hS2.e).1
  clear hS2 hk2
  go_wp2_with fail
  clear e0 f0
  refine (CheckBad_at b2 _ ((HS2.out.turn ⟨#[99]⟩).nil ((Kept.refl Nil _).alloc _))).mono ?_
  rintro e w3 ⟨rfl, hk3⟩
  have hz9 : WA.heap.size ≤ b2 := hb2
  have HK3 := Lib.hid (show Kept Nil WA w3 from ((HK2.out.setCell (.inr (by simp only; omega)) _).alloc _).step hk3)
  have HS3 := Lib.hid ((HS1.out.nil HKA.out).nil HK3.out)
  have hz3 := HK3.out.size
  have hz1 := HK1.out.size
  have hb3 : b + 1 + 1 + 1 + 1 + 1 < w3.heap.size := (Array.getElem?_eq_some_iff.1 HS3.out.e).1
  clear hk3
  have g0 := (HK3.out).cell G0.out (fun h => h)
  have g1 := (HK3.out).cell G1.out (fun h => h)
  have g2 := (HK3.out).cell G2.out (fun h => h)
  have g3 := (HK3.out).cell G3.out (fun h => h)
  have p0 : w3.cell? ⟨b + 1 + 1 + 1, 0, none⟩ = some (.string ⟨#[97]⟩) := by rw [cell_of HS3.out.p]; rfl
  have P0 := Lib.hid p0
  have p1 : w3.cell? ⟨b + 1 + 1 + 1, 1, none⟩ = some (.int .i64 1) := by rw [cell_of HS3.out.p]; rfl
  have P1 := Lib.hid p1
  have p2 : w3.cell? ⟨b + 1 + 1 + 1, 2, none⟩ = some (.slice (some ⟨b + 1, 0, none⟩) 1 1) := by rw [cell_of HS3.out.p]; rfl
  have P2 := Lib.hid p2
  have p3 : w3.cell? ⟨b + 1 + 1 + 1, 3, none⟩ = some (.slice (some ⟨b + 1 + 1, 0, none⟩) 2 2) := by rw [cell_of HS3.out.p]; rfl
  have P3 := Lib.hid p3
  go_wp2_with (first
    | (go_at_call 11
       with_reducible refine (CheckSmp_at b _ ?_).mono ?_
       · exact HS3.out.nil (by repeat (first | exact Kept.refl _ _ | assumption | refine Kept.drew ?_ | refine Kept.drewN ?_ _ | refine Kept.alloc ?_ _ | refine Kept.step ?_ (by assumption)))
       rintro e w14 ⟨rfl, hk14⟩
       have hz : Kept Nil w3 w14 := (by repeat (first | exact Kept.refl _ _ | assumption | refine Kept.drew ?_ | refine Kept.drewN ?_ _ | refine Kept.alloc ?_ _ | refine Kept.step ?_ (by assumption)))
       have w14_0 := (HK3.out.step hz).cell G0.out (fun h => h)
       have w14_1 := (HK3.out.step hz).cell G1.out (fun h => h)
       have w14_2 := (HK3.out.step hz).cell G2.out (fun h => h)
       have w14_3 := (HK3.out.step hz).cell G3.out (fun h => h)
       have w14_p0 := hz.cell P0.out (fun h => h)
       have w14_p1 := hz.cell P1.out (fun h => h)
       have w14_p2 := hz.cell P2.out (fun h => h)
       have w14_p3 := hz.cell P3.out (fun h => h)
       clear hz)
    | (go_at_call 11
       with_reducible refine (CheckNil3_at _).mono ?_
       rintro e w19 ⟨rfl, hk19⟩
       have hz : Kept Nil w3 w19 := (by repeat (first | exact Kept.refl _ _ | assumption | refine Kept.drew ?_ | refine Kept.drewN ?_ _ | refine Kept.alloc ?_ _ | refine Kept.step ?_ (by assumption)))
       have w19_0 := (HK3.out.step hz).cell G0.out (fun h => h)
       have w19_1 := (HK3.out.step hz).cell G1.out (fun h => h)
       have w19_2 := (HK3.out.step hz).cell G2.out (fun h => h)
       have w19_3 := (HK3.out.step hz).cell G3.out (fun h => h)
       have w19_p0 := hz.cell P0.out (fun h => h)
       have w19_p1 := hz.cell P1.out (fun h => h)
       have w19_p2 := hz.cell P2.out (fun h => h)
       have w19_p3 := hz.cell P3.out (fun h => h)
       clear hz)
    | (go_at_call 11
       with_reducible refine (CheckNil0_at _).mono ?_
       rintro e w25 ⟨rfl, hk25⟩
       have hz : Kept Nil w3 w25 := (by repeat (first | exact Kept.refl _ _ | assumption | refine Kept.drew ?_ | refine Kept.drewN ?_ _ | refine Kept.alloc ?_ _ | refine Kept.step ?_ (by assumption)))
       have w25_0 := (HK3.out.step hz).cell G0.out (fun h => h)
       have w25_1 := (HK3.out.step hz).cell G1.out (fun h => h)
       have w25_2 := (HK3.out.step hz).cell G2.out (fun h => h)
       have w25_3 := (HK3.out.step hz).cell G3.out (fun h => h)
       have w25_p0 := hz.cell P0.out (fun h => h)
       have w25_p1 := hz.cell P1.out (fun h => h)
       have w25_p2 := hz.cell P2.out (fun h => h)
       have w25_p3 := hz.cell P3.out (fun h => h)
       clear hz)
    | (go_at_call 16
       with_reducible refine (ProcSmp_at b _ ?_).mono ?_
       · exact HS3.out.nil (by repeat (first | exact Kept.refl _ _ | assumption | refine Kept.drew ?_ | refine Kept.drewN ?_ _ | refine Kept.alloc ?_ _ | refine Kept.step ?_ (by assumption)))
       rintro e w31 ⟨rfl, hk31⟩
       have hz : Kept Nil w3 w31 := (by repeat (first | exact Kept.refl _ _ | assumption | refine Kept.drew ?_ | refine Kept.drewN ?_ _ | refine Kept.alloc ?_ _ | refine Kept.step ?_ (by assumption)))
       have w31_0 := (HK3.out.step hz).cell G0.out (fun h => h)
       have w31_1 := (HK3.out.step hz).cell G1.out (fun h => h)
       have w31_2 := (HK3.out.step hz).cell G2.out (fun h => h)
       have w31_3 := (HK3.out.step hz).cell G3.out (fun h => h)
       have w31_p0 := hz.cell P0.out (fun h => h)
       have w31_p1 := hz.cell P1.out (fun h => h)
       have w31_p2 := hz.cell P2.out (fun h => h)
       have w31_p3 := hz.cell P3.out (fun h => h)
       clear hz)
    | (go_at_call 18
       with_reducible refine (LinkSmp_at b _ ?_).mono ?_
       · exact HS3.out.nil (by repeat (first | exact Kept.refl _ _ | assumption | refine Kept.drew ?_ | refine Kept.drewN ?_ _ | refine Kept.alloc ?_ _ | refine Kept.step ?_ (by assumption)))
       rintro e w36 ⟨rfl, hk36⟩
       have hz : Kept Nil w3 w36 := (by repeat (first | exact Kept.refl _ _ | assumption | refine Kept.drew ?_ | refine Kept.drewN ?_ _ | refine Kept.alloc ?_ _ | refine Kept.step ?_ (by assumption)))
       have w36_0 := (HK3.out.step hz).cell G0.out (fun h => h)
       have w36_1 := (HK3.out.step hz).cell G1.out (fun h => h)
       have w36_2 := (HK3.out.step hz).cell G2.out (fun h => h)
       have w36_3 := (HK3.out.step hz).cell G3.out (fun h => h)
       have w36_p0 := hz.cell P0.out (fun h => h)
       have w36_p1 := hz.cell P1.out (fun h => h)
       have w36_p2 := hz.cell P2.out (fun h => h)
       have w36_p3 := hz.cell P3.out (fun h => h)
       clear hz)
    | (go_at_call 12
       with_reducible refine (VarSmp_at b _ ?_).mono ?_
       · exact HS3.out.nil (by repeat (first | exact Kept.refl _ _ | assumption | refine Kept.drew ?_ | refine Kept.drewN ?_ _ | refine Kept.alloc ?_ _ | refine Kept.step ?_ (by assumption)))
       rintro e w44 ⟨rfl, hk44⟩
       have hz : Kept Nil w3 w44 := (by repeat (first | exact Kept.refl _ _ | assumption | refine Kept.drew ?_ | refine Kept.drewN ?_ _ | refine Kept.alloc ?_ _ | refine Kept.step ?_ (by assumption)))
       have w44_0 := (HK3.out.step hz).cell G0.out (fun h => h)
       have w44_1 := (HK3.out.step hz).cell G1.out (fun h => h)
       have w44_2 := (HK3.out.step hz).cell G2.out (fun h => h)
       have w44_3 := (HK3.out.step hz).cell G3.out (fun h => h)
       have w44_p0 := hz.cell P0.out (fun h => h)
       have w44_p1 := hz.cell P1.out (fun h => h)
       have w44_p2 := hz.cell P2.out (fun h => h)
       have w44_p3 := hz.cell P3.out (fun h => h)
       clear hz)
    | (go_at_call 21
       with_reducible refine (namesSmp_at b _ ?_).mono ?_
       · exact HS3.out.nil (by repeat (first | exact Kept.refl _ _ | assumption | refine Kept.drew ?_ | refine Kept.drewN ?_ _ | refine Kept.alloc ?_ _ | refine Kept.step ?_ (by assumption)))
       rintro e w49 ⟨A49, c49, rfl, hk49⟩
       have hz : Kept Nil w3 w49 := (by repeat (first | exact Kept.refl _ _ | assumption | refine Kept.drew ?_ | refine Kept.drewN ?_ _ | refine Kept.alloc ?_ _ | refine Kept.step ?_ (by assumption)))
       have w49_0 := (HK3.out.step hz).cell G0.out (fun h => h)
       have w49_1 := (HK3.out.step hz).cell G1.out (fun h => h)
       have w49_2 := (HK3.out.step hz).cell G2.out (fun h => h)
       have w49_3 := (HK3.out.step hz).cell G3.out (fun h => h)
       have w49_p0 := hz.cell P0.out (fun h => h)
       have w49_p1 := hz.cell P1.out (fun h => h)
       have w49_p2 := hz.cell P2.out (fun h => h)
       have w49_p3 := hz.cell P3.out (fun h => h)
       clear hz)
    )
  go_ret
  exact ⟨rfl, ((HK1.out.step HKA.out).step HK3.out).step (by repeat (first | exact Kept.refl _ _ | assumption | refine Kept.drew ?_ | refine Kept.drewN ?_ _ | refine Kept.alloc ?_ _ | refine Kept.step ?_ (by assumption)))⟩
end Go.Proofs.Ytehecolejeonaaa.Mo
