/- The walks of rule.right and sandtableref26.right. -/
import Derived.Test.YtnohhpinigkccaaVar
namespace Go.Proofs.Ytnohhpinigkccaa.Mo
open Go Go.RowKit Go.Proofs.Ytnohhpinigkccaa.Lb
set_option linter.unusedVariables false
set_option linter.unusedSimpArgs false

/-- Can a step be run? -/
def rightB (vs : List V) (s : S) : Bool :=
  decide (1 ≤ s.kind ∧ s.kind ≤ 4 ∧ 0 ≤ s.ak ∧ s.ak ≤ 2 ∧ (s.kind = 4 ∨ 0 ≤ varIx vs s.name) ∧ (s.ak ≠ 1 ∨ 0 ≤ varIx vs s.as_))
theorem varIx_cases (vs : List V) (s : ByteArray) : varIx vs s = -1 ∨ ∃ j : Nat, ix? vs s = some j ∧ varIx vs s = j ∧ j < vs.length := by
  unfold varIx
  cases h : ix? vs s with
  | none => exact .inl rfl
  | some j => exact .inr ⟨j, rfl, rfl, (ix_lt h).1⟩
set_option maxHeartbeats 2000000 in
theorem right_is (p : Pr) (s : S) (w : World) (hr : RProc w p) : Calls Try.prog 22 #[p.val, s.val] w fun e w' => e = .returned (.bool (rightB p.vs s)) ∧ Kept Nil w w' := by
  have HR := Lib.hid hr
  clear hr
  obtain ⟨b, hb⟩ : ∃ b, rightB p.vs s = b := ⟨_, rfl⟩
  rw [hb]
  have HB0 := Lib.hid hb
  clear hb
  obtain ⟨k, nm, ak, an, as_⟩ := s
  obtain ⟨name, weight, va, vs, vc, sa, ss, sc⟩ := p
  have hk0 : Kept Nil w ((w.alloc (.cells #[.string name, .int .i64 weight, .slice va vs.length vc, .slice sa ss.length sc] 25)).alloc (.cells #[.int .i64 k, .string nm, .int .i64 ak, .int .i64 an, .string as_] 47)) := ((Kept.refl Nil w).alloc _).alloc _
  have HK0 := Lib.hid hk0
  have HR0 := Lib.hid (HR.out.nil hk0)
  clear hk0
  replace HB0 := Lib.hid (by have h9 := HB0.out; unfold rightB at h9; exact h9 : decide (1 ≤ k ∧ k ≤ 4 ∧ 0 ≤ ak ∧ ak ≤ 2 ∧ (k = 4 ∨ 0 ≤ varIx vs nm) ∧ (ak ≠ 1 ∨ 0 ≤ varIx vs as_)) = b)
  have hc1 := varIx_cases vs nm
  have hc2 := varIx_cases vs as_
  obtain ⟨x1, hx1⟩ : ∃ x, varIx vs nm = x := ⟨_, rfl⟩
  obtain ⟨x2, hx2⟩ : ∃ x, varIx vs as_ = x := ⟨_, rfl⟩
  rw [hx1] at hc1 HB0
  rw [hx2] at hc2 HB0
  have HX1 := Lib.hid hx1
  have HX2 := Lib.hid hx2
  have HC1 := Lib.hid hc1
  have HC2 := Lib.hid hc2
  clear hx1 hx2 hc1 hc2
  unfold Pr.val S.val
  simp only
  by_cases h0 : k < 1
  · obtain rfl : b = false := by rw [← HB0.out]; exact decide_eq_false (by omega)
    go_enter Try.func22, Try.ntmps22
    go_wp2_with fail
    go_ret
    exact ⟨rfl, HK0.out⟩
  by_cases h1 : 4 < k
  · obtain rfl : b = false := by rw [← HB0.out]; exact decide_eq_false (by omega)
    go_enter Try.func22, Try.ntmps22
    go_wp2_with fail
    go_ret
    exact ⟨rfl, HK0.out⟩
  by_cases h2 : ak < 0
  · obtain rfl : b = false := by rw [← HB0.out]; exact decide_eq_false (by omega)
    go_enter Try.func22, Try.ntmps22
    go_wp2_with fail
    go_ret
    exact ⟨rfl, HK0.out⟩
  by_cases h3 : 2 < ak
  · obtain rfl : b = false := by rw [← HB0.out]; exact decide_eq_false (by omega)
    go_enter Try.func22, Try.ntmps22
    go_wp2_with fail
    go_ret
    exact ⟨rfl, HK0.out⟩
  have g0 : 1 ≤ k := by omega
  have g1 : k ≤ 4 := by omega
  have g2 : 0 ≤ ak := by omega
  have g3 : ak ≤ 2 := by omega
  go_enter Try.func22, Try.ntmps22
  by_cases h4 : k = 4
  · subst h4
    by_cases ha : ak = 1
    · subst ha
      go_wp2_with fail
      refine (Var_is ⟨name, weight, va, vs, vc, sa, ss, sc⟩ as_ _ (HR0.out.nil (Kept.refl Nil _))).mono ?_
      rintro e w3 ⟨rfl, hk3⟩
      have HK3 := Lib.hid ((HK0.out.step (Kept.refl Nil _)).step hk3)
      clear hk3
      rw [show varIx _ _ = _ from HX2.out]
      rcases HC2.out with hx | ⟨j, _, hx, _⟩
      · obtain rfl : b = false := by rw [← HB0.out]; exact decide_eq_false (by omega)
        subst hx
        go_wp2_with fail
        go_ret
        exact ⟨rfl, HK3.out⟩
      · obtain rfl : b = true := by rw [← HB0.out]; exact decide_eq_true (by first | omega | (refine ⟨by omega, by omega, by omega, by omega, .inl (by trivial), ?_⟩; omega))
        subst hx
        go_wp2_with fail
        go_ret
        exact ⟨rfl, HK3.out⟩
    · obtain rfl : b = true := by rw [← HB0.out]; exact decide_eq_true (by first | omega | (refine ⟨by omega, by omega, by omega, by omega, .inl (by trivial), ?_⟩; omega))
      have ha2 : (ak != 1) = true := by simp [ha]
      go_wp2_with fail
      go_ret
      exact ⟨rfl, HK0.out.step (Kept.refl Nil _)⟩
  · have h4b : (k != 4) = true := by simp [h4]
    have h4c : k < 4 := by omega
    go_wp2_with fail
    refine (Var_is ⟨name, weight, va, vs, vc, sa, ss, sc⟩ nm _ (HR0.out.nil (Kept.refl Nil _))).mono ?_
    rintro e w2 ⟨rfl, hk2⟩
    have HK2 := Lib.hid hk2
    have hs2 := hk2.size
    have p0 := hk2.cell (p := ⟨w.heap.size, 0, none⟩) (v := .string name) (by simp) (fun h => h)
    have p1 := hk2.cell (p := ⟨w.heap.size, 1, none⟩) (v := .int .i64 weight) (by simp) (fun h => h)
    have p2 := hk2.cell (p := ⟨w.heap.size, 2, none⟩) (v := .slice va vs.length vc) (by simp) (fun h => h)
    have p3 := hk2.cell (p := ⟨w.heap.size, 3, none⟩) (v := .slice sa ss.length sc) (by simp) (fun h => h)
    have q0 := hk2.cell (p := ⟨w.heap.size + 1, 0, none⟩) (v := .int .i64 k) (by simp) (fun h => h)
    have q1 := hk2.cell (p := ⟨w.heap.size + 1, 1, none⟩) (v := .string nm) (by simp) (fun h => h)
    have q2 := hk2.cell (p := ⟨w.heap.size + 1, 2, none⟩) (v := .int .i64 ak) (by simp) (fun h => h)
    have q3 := hk2.cell (p := ⟨w.heap.size + 1, 3, none⟩) (v := .int .i64 an) (by simp) (fun h => h)
    have q4 := hk2.cell (p := ⟨w.heap.size + 1, 4, none⟩) (v := .string as_) (by simp) (fun h => h)
    clear hk2
    rw [show varIx _ _ = _ from HX1.out]
    rcases HC1.out with hx | ⟨j, _, hx, _⟩
    · obtain rfl : b = false := by rw [← HB0.out]; exact decide_eq_false (by omega)
      subst hx
      go_wp2_with fail
      go_ret
      exact ⟨rfl, HK0.out.step HK2.out⟩
    · subst hx
      have hjn : ((j : Int) == -1) = false := by simp <;> omega
      by_cases ha : ak = 1
      · subst ha
        go_wp2_with fail
        refine (Var_is ⟨name, weight, va, vs, vc, sa, ss, sc⟩ as_ _ (HR0.out.nil HK2.out)).mono ?_
        rintro e w3 ⟨rfl, hk3⟩
        have HK3 := Lib.hid ((HK0.out.step HK2.out).step hk3)
        clear hk3
        rw [show varIx _ _ = _ from HX2.out]
        rcases HC2.out with hx | ⟨j, _, hx, _⟩
        · obtain rfl : b = false := by rw [← HB0.out]; exact decide_eq_false (by omega)
          subst hx
          go_wp2_with fail
          go_ret
          exact ⟨rfl, HK3.out⟩
        · obtain rfl : b = true := by rw [← HB0.out]; exact decide_eq_true (by first | omega | (refine ⟨by omega, by omega, by omega, by omega, .inl (by trivial), ?_⟩; omega))
          subst hx
          go_wp2_with fail
          go_ret
          exact ⟨rfl, HK3.out⟩
      · obtain rfl : b = true := by rw [← HB0.out]; exact decide_eq_true (by first | omega | (refine ⟨by omega, by omega, by omega, by omega, .inl (by trivial), ?_⟩; omega))
        have ha2 : (ak != 1) = true := by simp [ha]
        go_wp2_with fail
        go_ret
        exact ⟨rfl, HK0.out.step HK2.out⟩
set_option maxHeartbeats 2000000 in
theorem RefRight_is (p : Pr) (s : S) (w : World) (hr : RProc w p) : Calls Try.prog 24 #[p.val, s.val] w fun e w' => e = .returned (.bool (rightB p.vs s)) ∧ Kept Nil w w' := by
  have HR := Lib.hid hr
  clear hr
  obtain ⟨b, hb⟩ : ∃ b, rightB p.vs s = b := ⟨_, rfl⟩
  rw [hb]
  have HB0 := Lib.hid hb
  clear hb
  obtain ⟨k, nm, ak, an, as_⟩ := s
  obtain ⟨name, weight, va, vs, vc, sa, ss, sc⟩ := p
  have hk0 : Kept Nil w ((w.alloc (.cells #[.string name, .int .i64 weight, .slice va vs.length vc, .slice sa ss.length sc] 25)).alloc (.cells #[.int .i64 k, .string nm, .int .i64 ak, .int .i64 an, .string as_] 47)) := ((Kept.refl Nil w).alloc _).alloc _
  have HK0 := Lib.hid hk0
  have HR0 := Lib.hid (HR.out.nil hk0)
  clear hk0
  replace HB0 := Lib.hid (by have h9 := HB0.out; unfold rightB at h9; exact h9 : decide (1 ≤ k ∧ k ≤ 4 ∧ 0 ≤ ak ∧ ak ≤ 2 ∧ (k = 4 ∨ 0 ≤ varIx vs nm) ∧ (ak ≠ 1 ∨ 0 ≤ varIx vs as_)) = b)
  have hc1 := varIx_cases vs nm
  have hc2 := varIx_cases vs as_
  obtain ⟨x1, hx1⟩ : ∃ x, varIx vs nm = x := ⟨_, rfl⟩
  obtain ⟨x2, hx2⟩ : ∃ x, varIx vs as_ = x := ⟨_, rfl⟩
  rw [hx1] at hc1 HB0
  rw [hx2] at hc2 HB0
  have HX1 := Lib.hid hx1
  have HX2 := Lib.hid hx2
  have HC1 := Lib.hid hc1
  have HC2 := Lib.hid hc2
  clear hx1 hx2 hc1 hc2
  unfold Pr.val S.val
  simp only
  by_cases h0 : k < 1
  · obtain rfl : b = false := by rw [← HB0.out]; exact decide_eq_false (by omega)
    go_enter Try.func24, Try.ntmps24
    go_wp2_with fail
    go_ret
    exact ⟨rfl, HK0.out⟩
  by_cases h1 : 4 < k
  · obtain rfl : b = false := by rw [← HB0.out]; exact decide_eq_false (by omega)
    go_enter Try.func24, Try.ntmps24
    go_wp2_with fail
    go_ret
    exact ⟨rfl, HK0.out⟩
  by_cases h2 : ak < 0
  · obtain rfl : b = false := by rw [← HB0.out]; exact decide_eq_false (by omega)
    go_enter Try.func24, Try.ntmps24
    go_wp2_with fail
    go_ret
    exact ⟨rfl, HK0.out⟩
  by_cases h3 : 2 < ak
  · obtain rfl : b = false := by rw [← HB0.out]; exact decide_eq_false (by omega)
    go_enter Try.func24, Try.ntmps24
    go_wp2_with fail
    go_ret
    exact ⟨rfl, HK0.out⟩
  have g0 : 1 ≤ k := by omega
  have g1 : k ≤ 4 := by omega
  have g2 : 0 ≤ ak := by omega
  have g3 : ak ≤ 2 := by omega
  go_enter Try.func24, Try.ntmps24
  by_cases h4 : k = 4
  · subst h4
    by_cases ha : ak = 1
    · subst ha
      go_wp2_with fail
      refine (RefVar_is ⟨name, weight, va, vs, vc, sa, ss, sc⟩ as_ _ (HR0.out.nil (Kept.refl Nil _))).mono ?_
      rintro e w3 ⟨rfl, hk3⟩
      have HK3 := Lib.hid ((HK0.out.step (Kept.refl Nil _)).step hk3)
      clear hk3
      rw [show varIx _ _ = _ from HX2.out]
      rcases HC2.out with hx | ⟨j, _, hx, _⟩
      · obtain rfl : b = false := by rw [← HB0.out]; exact decide_eq_false (by omega)
        subst hx
        go_wp2_with fail
        go_ret
        exact ⟨rfl, HK3.out⟩
      · obtain rfl : b = true := by rw [← HB0.out]; exact decide_eq_true (by first | omega | (refine ⟨by omega, by omega, by omega, by omega, .inl (by trivial), ?_⟩; omega))
        subst hx
        go_wp2_with fail
        go_ret
        exact ⟨rfl, HK3.out⟩
    · obtain rfl : b = true := by rw [← HB0.out]; exact decide_eq_true (by first | omega | (refine ⟨by omega, by omega, by omega, by omega, .inl (by trivial), ?_⟩; omega))
      have ha2 : (ak != 1) = true := by simp [ha]
      go_wp2_with fail
      go_ret
      exact ⟨rfl, HK0.out.step (Kept.refl Nil _)⟩
  · have h4b : (k != 4) = true := by simp [h4]
    have h4c : k < 4 := by omega
    go_wp2_with fail
    refine (RefVar_is ⟨name, weight, va, vs, vc, sa, ss, sc⟩ nm _ (HR0.out.nil (Kept.refl Nil _))).mono ?_
    rintro e w2 ⟨rfl, hk2⟩
    have HK2 := Lib.hid hk2
    have hs2 := hk2.size
    have p0 := hk2.cell (p := ⟨w.heap.size, 0, none⟩) (v := .string name) (by simp) (fun h => h)
    have p1 := hk2.cell (p := ⟨w.heap.size, 1, none⟩) (v := .int .i64 weight) (by simp) (fun h => h)
    have p2 := hk2.cell (p := ⟨w.heap.size, 2, none⟩) (v := .slice va vs.length vc) (by simp) (fun h => h)
    have p3 := hk2.cell (p := ⟨w.heap.size, 3, none⟩) (v := .slice sa ss.length sc) (by simp) (fun h => h)
    have q0 := hk2.cell (p := ⟨w.heap.size + 1, 0, none⟩) (v := .int .i64 k) (by simp) (fun h => h)
    have q1 := hk2.cell (p := ⟨w.heap.size + 1, 1, none⟩) (v := .string nm) (by simp) (fun h => h)
    have q2 := hk2.cell (p := ⟨w.heap.size + 1, 2, none⟩) (v := .int .i64 ak) (by simp) (fun h => h)
    have q3 := hk2.cell (p := ⟨w.heap.size + 1, 3, none⟩) (v := .int .i64 an) (by simp) (fun h => h)
    have q4 := hk2.cell (p := ⟨w.heap.size + 1, 4, none⟩) (v := .string as_) (by simp) (fun h => h)
    clear hk2
    rw [show varIx _ _ = _ from HX1.out]
    rcases HC1.out with hx | ⟨j, _, hx, _⟩
    · obtain rfl : b = false := by rw [← HB0.out]; exact decide_eq_false (by omega)
      subst hx
      go_wp2_with fail
      go_ret
      exact ⟨rfl, HK0.out.step HK2.out⟩
    · subst hx
      have hjn : ((j : Int) == -1) = false := by simp <;> omega
      by_cases ha : ak = 1
      · subst ha
        go_wp2_with fail
        refine (RefVar_is ⟨name, weight, va, vs, vc, sa, ss, sc⟩ as_ _ (HR0.out.nil HK2.out)).mono ?_
        rintro e w3 ⟨rfl, hk3⟩
        have HK3 := Lib.hid ((HK0.out.step HK2.out).step hk3)
        clear hk3
        rw [show varIx _ _ = _ from HX2.out]
        rcases HC2.out with hx | ⟨j, _, hx, _⟩
        · obtain rfl : b = false := by rw [← HB0.out]; exact decide_eq_false (by omega)
          subst hx
          go_wp2_with fail
          go_ret
          exact ⟨rfl, HK3.out⟩
        · obtain rfl : b = true := by rw [← HB0.out]; exact decide_eq_true (by first | omega | (refine ⟨by omega, by omega, by omega, by omega, .inl (by trivial), ?_⟩; omega))
          subst hx
          go_wp2_with fail
          go_ret
          exact ⟨rfl, HK3.out⟩
      · obtain rfl : b = true := by rw [← HB0.out]; exact decide_eq_true (by first | omega | (refine ⟨by omega, by omega, by omega, by omega, .inl (by trivial), ?_⟩; omega))
        have ha2 : (ak != 1) = true := by simp [ha]
        go_wp2_with fail
        go_ret
        exact ⟨rfl, HK0.out.step HK2.out⟩
end Go.Proofs.Ytnohhpinigkccaa.Mo
