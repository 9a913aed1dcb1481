/- The walks of the reference of layer 6. -/
import Derived.Test.YtfkhnhpphcpmmaaRef06P
import Derived.Deep.RegionLaw
namespace Go.Proofs.Ytfkhnhpphcpmmaa.Ref06
open Go Go.RowKit Go.Proofs.Ytfkhnhpphcpmmaa.Lb Go.Proofs.Ytfkhnhpphcpmmaa.HpPure Go.Proofs.Ytfkhnhpphcpmmaa.HpItem
set_option linter.unusedVariables false
set_option linter.unusedSimpArgs false

set_option maxHeartbeats 2000000 in
theorem First_is (xs : List It) (A : Option Addr) (cap : Nat) (w : World) (hr : Row w A xs) (hn : xs.length ≤ 4294967296) :
    Calls Try.prog 11 #[.slice A xs.length cap] w fun e w' => e = .returned (.int .i64 (atOf (firstGo xs xs.length))) ∧ Kept Nil w w' := by
  have HR := Lib.hid hr
  clear hr
  go_enter Try.func11, Try.ntmps11
  go_wp2
  go_loopw [3, 4] (fun o i wr => ∃ k : Nat, k ≤ xs.length ∧ i = .int .i64 k ∧ o = .int .i64 (atOf (firstGo xs k)) ∧ Kept Nil w wr) (fun _ i _ => xs.length - (intOf i).toNat)
  case atStart => exact ⟨0, Nat.zero_le _, rfl, rfl, Kept.refl _ _⟩
  case round =>
    obtain ⟨k, hk, rfl, rfl, hK⟩ := hrel
    have HK := Lib.hid hK
    have HR1 := Lib.hid (HR.out.kept hK (fun _ _ h => h))
    clear hK
    by_cases hlt : k < xs.length
    · cases hfk : firstGo xs k with
      | none =>
        have HF := Lib.hid (show firstGo xs (k + 1) = some k by rw [firstGo, hfk])
        obtain rfl : k = 0 := (firstGo_none xs k).1 hfk
        clear hfk
        simp only [atOf] at *
        go_wp2_with fail
        go_region
        all_goals
          go_wp2_with fail
          go_round
          case rel => exact ⟨1, by omega, rfl, by rw [HF.out], (by repeat (first | exact HK.out | refine Kept.drew ?_ | refine Kept.alloc ?_ _))⟩
          case measure => simp [intOf] <;> omega
      | some a =>
        have hak : a < k := firstGo_lt xs k a hfk
        have hal : a < xs.length := by omega
        obtain ⟨⟨a0, a1⟩, ea⟩ : ∃ x, xs[a]? = some x := ⟨_, List.getElem?_eq_getElem (by omega)⟩
        obtain ⟨⟨b0, b1⟩, eb⟩ : ∃ x, xs[k]? = some x := ⟨_, List.getElem?_eq_getElem hlt⟩
        obtain ⟨b, off, rfl, ca0, ca1, cb0, cb1⟩ : ∃ b off, A = some ⟨b, off, none⟩ ∧ wr.cell? ⟨b, off + a * 2, none⟩ = some (.int .i64 a0) ∧ wr.cell? ⟨b, off + a * 2 + 1, none⟩ = some (.int .i64 a1) ∧ wr.cell? ⟨b, off + k * 2, none⟩ = some (.int .i64 b0) ∧ wr.cell? ⟨b, off + k * 2 + 1, none⟩ = some (.int .i64 b1) := by
          rcases HR1.out with rfl | ⟨b, off, h, hc⟩
          · simp at hlt
          · have h1 := hc a _ ea
            have h2 := hc k _ eb
            exact ⟨b, off, h, h1.1, h1.2, h2.1, h2.2⟩
        have hf : firstGo xs (k + 1) = if b0 < a0 then some k else some a := by rw [firstGo, hfk]; simp [ea, eb]
        simp only [atOf] at *
        clear ea eb hfk
        by_cases hlt2 : b0 < a0
        · have HF := Lib.hid (hf.trans (if_pos hlt2))
          clear hf
          go_wp2_with fail
          refine region_still (by kernel_rfl) (by kernel_rfl) ?_
          repeat still_step
          refine wpStill_nil ?_
          go_wp2_with fail
          go_round
          case rel => exact ⟨k + 1, by omega, by go_num, by rw [HF.out], (by repeat (first | exact HK.out | refine Kept.drew ?_ | refine Kept.alloc ?_ _))⟩
          case measure => (simp [intOf] <;> omega)
        · have HF := Lib.hid (hf.trans (if_neg hlt2))
          clear hf
          go_wp2_with fail
          refine region_still (by kernel_rfl) (by kernel_rfl) ?_
          repeat still_step
          refine wpStill_nil ?_
          go_wp2_with fail
          go_round
          case rel => exact ⟨k + 1, by omega, by go_num, by rw [HF.out], (by repeat (first | exact HK.out | refine Kept.drew ?_ | refine Kept.alloc ?_ _))⟩
          case measure => (simp [intOf] <;> omega)
    · obtain rfl : k = xs.length := by omega
      go_wp2
      go_ret
      exact ⟨rfl, HK.out⟩

theorem info2 : (Try.prog.info? 27).map (fun i => (i.zero, i.size, i.bytes)) = some (some (.agg #[.int .i64 0, .int .i64 0]), 2, 16) := by kernel_rfl
/-- A place in a row. -/
theorem Row.at {w : World} {A : Option Addr} {xs : List It} (h : Row w A xs) {k : Nat} {a0 a1 : Int} (hx : xs[k]? = some ⟨a0, a1⟩) :
    ∃ b off, A = some ⟨b, off, none⟩ ∧ w.cell? ⟨b, off + k * 2, none⟩ = some (.int .i64 a0) ∧ w.cell? ⟨b, off + k * 2 + 1, none⟩ = some (.int .i64 a1) := by
  rcases h with rfl | ⟨b, off, h, hc⟩
  · simp at hx
  · exact ⟨b, off, h, (hc k _ hx).1, (hc k _ hx).2⟩

set_option maxHeartbeats 2000000 in
theorem Without_is (xs : List It) (A : Option Addr) (cap : Nat) (at_ : Int) (w : World) (hr : Row w A xs) (hb : ∀ b off, A = some ⟨b, off, none⟩ → b < w.heap.size) (hn : xs.length ≤ 4294967296) :
    Calls Try.prog 14 #[.slice A xs.length cap, .int .i64 at_] w fun e w' => ∃ v, e = .returned v ∧ w'.ownsRow w.heap.size 27 2 v (wo xs at_).length ((wo xs at_).flatMap It.cells) ∧ Kept Nil w w' := by
  obtain ⟨i0, hinf, hz0, hz1, hz2⟩ := info_parts info2
  have HR := Lib.hid hr
  have HB := Lib.hid hb
  clear hr hb
  go_enter Try.func14, Try.ntmps14
  go_wp2
  go_loopw [5, 6] (fun o i wr => ∃ k : Nat, k ≤ xs.length ∧ i = .int .i64 k ∧ wr.ownsRow w.heap.size 27 2 o (wo (xs.take k) at_).length ((wo (xs.take k) at_).flatMap It.cells) ∧ Kept Nil w wr) (fun _ i _ => xs.length - (intOf i).toNat)
  case atStart =>
    refine ⟨0, Nat.zero_le _, rfl, ?_, (Kept.refl _ _).alloc _⟩
    have e : wo (xs.take 0) at_ = [] := by unfold wo; split <;> rfl
    rw [e]
    exact World.ownsRow_lit w #[] 0 (Nat.le_refl _) (by decide) rfl
  case round =>
    obtain ⟨k, hk, rfl, hO, hK⟩ := hrel
    have HK := Lib.hid hK
    have HR1 := Lib.hid (HR.out.kept hK (fun _ _ h => h))
    have HO := Lib.hid hO
    have hzz := hK.size
    clear hK hO
    by_cases hlt : k < xs.length
    · obtain ⟨⟨a0, a1⟩, ea⟩ : ∃ x, xs[k]? = some x := ⟨_, List.getElem?_eq_getElem hlt⟩
      obtain ⟨b, off, rfl, c0, c1⟩ := Row.at HR1.out ea
      have et : xs.take (k + 1) = xs.take k ++ [⟨a0, a1⟩] := by rw [List.take_add_one, ea]; rfl
      have e1 := wo_snoc (xs.take k) ⟨a0, a1⟩ at_
      rw [← et, List.length_take, Nat.min_eq_left hk] at e1
      clear ea et
      by_cases hat : (k : Int) = at_
      · rw [if_pos hat] at e1
        have HE := Lib.hid e1
        clear e1
        subst hat
        go_wp2_with fail
        go_round
        case rel => exact ⟨k + 1, by omega, by go_num, by rw [HE.out]; exact HO.out, HK.out⟩
        case measure => (simp [intOf] <;> omega)
      · rw [if_neg hat] at e1
        have HE := Lib.hid e1
        have hlw : (wo (xs.take k) at_).length ≤ 4294967296 := Nat.le_trans (wo_len_le _ _) (by rw [List.length_take]; omega)
        clear e1
        go_wp2_with (at_builtin; refine wpList_append_own _ rfl _ _ 29 rfl w.heap.size 27 i0 (.agg #[.int .i64 0, .int .i64 0]) 2 16 Try.underlying29 hinf hz0 hz1 hz2 rfl (by decide) _ (wo (xs.take k) at_).length ((wo (xs.take k) at_).flatMap It.cells) rfl (HO.out.alloc _) ⟨wr.heap.size, 0, none⟩ 1 1 [.int .i64 a0, .int .i64 a1] rfl rfl (cells_new _ _ _) (by simp [Value.oneCell']) (by unfold maxLen; omega) (by omega) (by simp; omega) ?_; intro vo' w3 hown' hgrow _)
        refine ⟨⟨k + 1, by omega, by go_num, ?_, ?_⟩, by simp [intOf] <;> omega⟩
        · rw [HE.out]; simpa [It.cells] using hown'
        · exact (HK.out.alloc _).grown hgrow (fun j e => .inr (HO.out.lt j e).1)
    · obtain rfl : k = xs.length := by omega
      rw [List.take_length] at HO
      go_wp2
      go_ret
      exact ⟨_, rfl, HO.out, HK.out⟩

def lenV : Value → Nat
  | .slice _ n _ => n
  | _ => 0
set_option maxHeartbeats 2000000 in
theorem Sorted_is (xs : List It) (A : Option Addr) (cap : Nat) (w : World) (hr : Row w A xs) (hb : ∀ b off, A = some ⟨b, off, none⟩ → b < w.heap.size) (hn : xs.length ≤ 4294967296) :
    Calls Try.prog 16 #[.slice A xs.length cap] w fun e w' => ∃ v, e = .returned v ∧ w'.ownsRow w.heap.size 27 2 v (sortRef xs).length ((sortRef xs).flatMap It.cells) ∧ Kept Nil w w' := by
  obtain ⟨i0, hinf, hz0, hz1, hz2⟩ := info_parts info2
  have HR := Lib.hid hr
  have HB := Lib.hid hb
  clear hr hb
  go_enter Try.func16, Try.ntmps16
  go_wp2
  go_loopw [0, 3] (fun r o wr => ∃ (A1 : Option Addr) (cap1 : Nat) (ys out : List It), r = .slice A1 ys.length cap1 ∧ Row wr A1 ys ∧ (∀ b off, A1 = some ⟨b, off, none⟩ → b < wr.heap.size ∧ o.ownBlock ≠ some b) ∧ wr.ownsRow w.heap.size 27 2 o out.length (out.flatMap It.cells) ∧ sortRef xs = out ++ sortRef ys ∧ out.length + ys.length ≤ xs.length ∧ Kept Nil w wr) (fun r _ _ => lenV r)
  case atStart =>
    refine ⟨A, cap, xs, [], rfl, HR.out.kept ((Kept.refl Nil w).alloc _) (fun _ _ h => h), fun b off e => ⟨by have := HB.out b off e; simp; omega, ?_⟩, World.ownsRow_lit w #[] 0 (Nat.le_refl _) (by decide) rfl, rfl, by simp, (Kept.refl _ _).alloc _⟩
    have := HB.out b off e
    simp [Value.ownBlock]; omega
  case round =>
    obtain ⟨A1, cap1, ys, out, rfl, hR, hB, hO, hS, hL, hK⟩ := hrel
    have HK := Lib.hid hK
    have HR1 := Lib.hid hR
    have HB1 := Lib.hid hB
    have HS := Lib.hid hS
    have HO := Lib.hid hO
    have hzz := hK.size
    clear hK hO hB hR hS
    cases hf : firstGo ys ys.length with
    | none =>
      have hnil : ys = [] := by
        have := (firstGo_none ys ys.length).1 hf
        exact List.eq_nil_of_length_eq_zero this
      subst hnil
      clear hf
      go_wp2
      go_ret
      have e := HS.out
      rw [sortRef_nil, List.append_nil] at e
      rw [e]
      exact ⟨_, rfl, HO.out, HK.out⟩
    | some a =>
      have hal : a < ys.length := firstGo_lt ys _ a hf
      have hpos : 0 < ys.length := by omega
      obtain ⟨⟨a0, a1⟩, ea⟩ : ∃ x, ys[a]? = some x := ⟨_, List.getElem?_eq_getElem hal⟩
      have hsc := sortRef_cons ys a hf
      rw [ea] at hsc
      have HSC := Lib.hid hsc
      have HEA := Lib.hid ea
      have FI := First_is ys A1 cap1 wr HR1.out (by omega)
      rw [hf] at FI
      have HFI := Lib.hid FI
      obtain ⟨b, off, rfl, d0, d1⟩ := Row.at HR1.out ea
      clear FI hf hsc ea d0 d1
      go_wp2_with fail
      refine HFI.out.mono ?_
      rintro e w1 ⟨rfl, hk1⟩
      have HR2 := Lib.hid (HR1.out.kept hk1 (fun _ _ h => h))
      obtain ⟨_, _, e9, c0, c1⟩ := Row.at HR2.out HEA.out
      cases e9
      have HO2 := Lib.hid (hk1.own HO.out (fun _ _ h => h))
      have HK1 := Lib.hid hk1
      have hw1 := hk1.size
      clear hk1
      simp only [atOf]
      go_wp2_with (at_builtin; refine wpList_append_own _ rfl _ _ 29 rfl w.heap.size 27 i0 (.agg #[.int .i64 0, .int .i64 0]) 2 16 Try.underlying29 hinf hz0 hz1 hz2 rfl (by decide) _ out.length (out.flatMap It.cells) rfl (HO2.out.alloc _) ⟨w1.heap.size, 0, none⟩ 1 1 [.int .i64 a0, .int .i64 a1] rfl rfl (cells_new _ _ _) (by simp [Value.oneCell']) (by unfold maxLen; omega) (by omega) (by simp; omega) ?_; intro vo' w3 hown' hgrow _)
      have hgrow : (w1.alloc (.cells #[.int .i64 a0, .int .i64 a1] 27)).grownBy w3 _ := hgrow
      have hk3 : Kept Nil w w3 := ((HK.out.step HK1.out).alloc _).grown hgrow (fun j e => .inr (HO.out.lt j e).1)
      have hs3 := hgrow.size
      simp only [World.size_alloc] at hs3
      have hr3 := HR2.out.kept (S := fun j => _ = some j) (((Kept.refl _ w1).alloc _).grown hgrow (fun j e => .inl e)) (fun b' ⟨off', e⟩ hs => (HB1.out b' off' e).2 hs)
      have HR3 := Lib.hid hr3
      have HK3 := Lib.hid hk3
      have HO3 := Lib.hid hown'
      have hw3 := hk3.size
      clear hgrow hr3 hk3 hown'
      refine (Without_is ys _ cap1 a w3 HR3.out (fun b' off' e => by have := (HB1.out b' off' e).1; omega) (by omega)).mono ?_
      rintro e w4 ⟨v4, rfl, hO4, hk4⟩
      obtain ⟨_, A4, cap4, rfl, hR4, hA4⟩ := row_of_own hO4
      have HR4 := Lib.hid hR4
      have HA4 := Lib.hid hA4
      have HK4 := Lib.hid hk4
      clear hO4 hR4 hA4 hk4
      have hlw := wo_len ys a hal
      have HLW := Lib.hid hlw
      clear hlw
      go_wp2_with fail
      go_roundw
      case rel =>
        refine ⟨A4, cap4, wo ys a, out ++ [⟨a0, a1⟩], rfl, HR4.out, fun b' off' e => ⟨(HA4.out b' off' e).2.1, fun e2 => ?_⟩, ?_, ?_, ?_, HK3.out.step HK4.out⟩
        · have h1 := (HA4.out b' off' e).1
          have h2 := (HO3.out.lt b' e2).2
          omega
        · simpa [It.cells] using HK4.out.own HO3.out (fun _ _ h => h)
        · rw [HS.out, HSC.out]; simp
        · rw [HLW.out]; simp; omega
      case measure =>
        simp only [lenV, HLW.out]
        omega

set_option maxHeartbeats 2000000 in
theorem Same_is (xs : List It) (A B : Option Addr) (capA capB : Nat) (w : World) (hr : Row w A xs) (hr2 : Row w B xs) (hn : xs.length ≤ 4294967296) :
    Calls Try.prog 17 #[.slice A xs.length capA, .slice B xs.length capB] w fun e w' => e = .returned (.bool true) ∧ Kept Nil w w' := by
  have HR := Lib.hid hr
  have HR2 := Lib.hid hr2
  clear hr hr2
  go_enter Try.func17, Try.ntmps17
  go_wp2
  go_loopw [5] (fun i wr => ∃ k : Nat, k ≤ xs.length ∧ i = .int .i64 k ∧ Kept Nil w wr) (fun i _ => xs.length - (intOf i).toNat)
  case atStart => exact ⟨0, Nat.zero_le _, rfl, Kept.refl _ _⟩
  case round =>
    obtain ⟨k, hk, rfl, hK⟩ := hrel
    have HK := Lib.hid hK
    have HR1 := Lib.hid (HR.out.kept hK (fun _ _ h => h))
    have HR3 := Lib.hid (HR2.out.kept hK (fun _ _ h => h))
    clear hK
    by_cases hlt : k < xs.length
    · obtain ⟨⟨a0, a1⟩, ea⟩ : ∃ x, xs[k]? = some x := ⟨_, List.getElem?_eq_getElem hlt⟩
      obtain ⟨b, off, rfl, c0, c1⟩ := Row.at HR1.out ea
      obtain ⟨b2, off2, rfl, d0, d1⟩ := Row.at HR3.out ea
      clear ea
      go_wp2_with fail
      refine region_still (by kernel_rfl) (by kernel_rfl) ?_
      repeat still_step
      refine wpStill_nil ?_
      go_wp2_with fail
      go_round
      case rel => exact ⟨k + 1, by omega, by go_num, HK.out.drew⟩
      case measure => (simp [intOf] <;> omega)
    · obtain rfl : k = xs.length := by omega
      go_wp2
      go_ret
      exact ⟨rfl, HK.out⟩
end Go.Proofs.Ytfkhnhpphcpmmaa.Ref06
