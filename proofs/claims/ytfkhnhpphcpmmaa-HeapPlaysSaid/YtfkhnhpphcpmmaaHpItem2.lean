/- The walks of package heap at the element type sandtable/sandtableref06.Item, second part: what rises and sinks, what is put in and taken out. Conditions: 'less' answers an order and turns nothing. -/
import Derived.Test.YtfkhnhpphcpmmaaHpItem
namespace Go.Proofs.Ytfkhnhpphcpmmaa.HpItem
open Go Go.RowKit Go.Proofs.Ytfkhnhpphcpmmaa.Lb Go.Proofs.Ytfkhnhpphcpmmaa.HpPure
set_option linter.unusedVariables false
set_option linter.unusedSimpArgs false

theorem own_sub {h : Nat} {v : Value} {base : Nat} {w w' : World} (hk : Kept (Own h v) w w') (hb : ∀ k, Own h v k → base ≤ k) : Kept (fun k => base ≤ k) w w' := hk.mono (fun i _ hi => hb i hi)

set_option maxHeartbeats 1000000 in
theorem up_is {lt : It → It → Bool} {Inv : World → Prop} {w : World} {base h lf : Nat} {lcap : Array Value} {v : Value} {xs : List (It × Int)} {seq : Int} (L : Less lt lf lcap base Inv) (H : IsHeap w base h lf lcap v xs seq) (hI : Inv w) (i : Nat) (hi : i < xs.length) :
    Calls Try.prog 24 #[.pointer (some ⟨h, 0, none⟩), .int .i64 i] w fun e w' => e = .returned (.tuple #[]) ∧ IsHeap w' base h lf lcap v (up lt xs i) seq ∧ Kept (Own h v) w w' := by
  have hob := Lib.hid H.own_base
  have hfew := H.few
  have LL := Lib.hid L
  clear L
  go_enter Try.func24, Try.ntmps24
  go_wp2
  go_loopw [1] (fun a wr => ∃ (k : Nat) (ys : List (It × Int)), a = .int .i64 k ∧ k < ys.length ∧ ys.length = xs.length ∧ IsHeap wr base h lf lcap v ys seq ∧ up lt ys k = up lt xs i ∧ Inv wr ∧ Kept (Own h v) w wr) (fun a _ => (intOf a).toNat)
  case atStart => exact ⟨i, xs, rfl, hi, rfl, H, rfl, hI, Kept.refl _ _⟩
  case round =>
    clear H hI
    obtain ⟨k, ys, rfl, hk, hl, H, he, hI, hK⟩ := hrel
    have hk2 : k < 4294967296 := by omega
    by_cases h0 : 0 < k
    · have hp : (((k : Int) - 1) / 2) = (((k - 1) / 2 : Nat) : Int) := by omega
      have hpl : (k - 1) / 2 < ys.length := by omega
      have A1 := Lib.hid (ahead_is LL.out H hI k ((k - 1) / 2) hk hpl)
      cases ha : aheadB lt ys k ((k - 1) / 2)
      · rw [ha] at A1
        have hup : up lt ys k = ys := by rw [up.eq_def, dif_pos h0, ha]; rfl
        have HU := Lib.hid (hup.symm.trans he)
        have HP := Lib.hid hp
        have HK := Lib.hid hK
        have HL := Lib.hid hl
        clear ha hup hp he hK hl
        go_wp2_with fail
        rw [HP.out]
        refine A1.out.mono ?_
        rintro e w1 ⟨rfl, hk1⟩
        go_wp2
        refine bodyPost_ret (results_none rfl _ _ _) rfl ?_
        exact ⟨rfl, by rw [← HU.out]; exact H.nil hk1, HK.out.step hk1⟩
      · rw [ha] at A1
        have hup : up lt ys k = up lt (swap ys k ((k - 1) / 2)) ((k - 1) / 2) := by rw [up.eq_def, dif_pos h0, if_pos ha]
        have HU := Lib.hid (hup.symm.trans he)
        have HP := Lib.hid hp
        have HK := Lib.hid hK
        have HL := Lib.hid hl
        clear ha hup hp he hK hl
        go_wp2_with fail
        rw [HP.out]
        refine A1.out.mono ?_
        rintro e w1 ⟨rfl, hk1⟩
        have S1 := Lib.hid (swap_is (H.nil hk1) k ((k - 1) / 2) hk hpl)
        go_wp2_with fail
        refine S1.out.mono ?_
        rintro e w2 ⟨rfl, H2, hk2'⟩
        go_wp2
        go_roundw
        case rel =>
          have hK2 : Kept (Own h v) w w2 := (HK.out.step hk1).trans hk2' (fun i hi => .inl hi)
          exact ⟨(k - 1) / 2, _, rfl, by rw [swap_length]; exact hpl, by rw [swap_length]; exact HL.out, H2, HU.out, LL.out.stable _ _ hI (own_sub ((hk1.any).trans hk2' (fun i hi => .inl hi)) hob.out), hK2⟩
        case measure => simp [intOf]; omega
    · obtain rfl : k = 0 := by omega
      have hup : up lt ys 0 = ys := by rw [up.eq_def, dif_neg (by omega)]
      have HU := Lib.hid (hup.symm.trans he)
      clear hup he hl
      go_wp2
      go_end0
      exact ⟨rfl, by rw [← HU.out]; exact H, hK⟩

theorem idx0 (a b : Int) (w : World) : (Instr.index 67 (.agg #[.int .i64 a, .int .i64 b]) (.int .i64 0)).run Try.prog w = .ok (.int .i64 a) w := by kernel_rfl
theorem idx1 (a b : Int) (w : World) : (Instr.index 67 (.agg #[.int .i64 a, .int .i64 b]) (.int .i64 1)).run Try.prog w = .ok (.int .i64 b) w := by kernel_rfl
attribute [local go_sem] idx0 idx1

set_option maxHeartbeats 2000000 in
theorem down_is {lt : It → It → Bool} {Inv : World → Prop} {w : World} {base h lf : Nat} {lcap : Array Value} {v : Value} {xs : List (It × Int)} {seq : Int} (L : Less lt lf lcap base Inv) (H : IsHeap w base h lf lcap v xs seq) (hI : Inv w) (i : Nat) (hi : i ≤ xs.length) :
    Calls Try.prog 26 #[.pointer (some ⟨h, 0, none⟩), .int .i64 i] w fun e w' => e = .returned (.tuple #[]) ∧ IsHeap w' base h lf lcap v (down lt xs i) seq ∧ Kept (Own h v) w w' := by
  have hob := Lib.hid H.own_base
  have hfew := H.few
  have LL := Lib.hid L
  clear L
  go_enter Try.func26, Try.ntmps26
  go_wp2
  go_loopw [1] (fun a wr => ∃ (k : Nat) (ys : List (It × Int)), a = .int .i64 k ∧ k ≤ ys.length ∧ ys.length = xs.length ∧ IsHeap wr base h lf lcap v ys seq ∧ down lt ys k = down lt xs i ∧ Inv wr ∧ Kept (Own h v) w wr) (fun a _ => xs.length - (intOf a).toNat)
  case atStart => exact ⟨i, xs, rfl, hi, rfl, H, rfl, hI, Kept.refl _ _⟩
  case round =>
    clear H hI
    obtain ⟨k, ys, rfl, hk, hl, H, he, hI, hK⟩ := hrel
    have hk2 : k ≤ 4294967296 := by omega
    have HK := Lib.hid hK
    have HE := Lib.hid he
    have HL := Lib.hid hl
    have hyl : ys.length ≤ 4294967296 := by omega
    clear hK he hl hfew hi
    go_wp2_with fail
    obtain ⟨wo, hwo⟩ : ∃ wo : World, wo = wr := ⟨_, rfl⟩
    have HWO := Lib.hid hwo
    have K0 : Kept Nil wo wr := by rw [hwo]; exact Kept.refl _ _
    clear hwo
    go_loopw [4, 15] (fun a c wr2 => ∃ (q : Nat), q ≤ 2 ∧ c = .int .i64 q ∧ a = .int .i64 ((if q = 0 then k else if q = 1 then least1 lt ys k else least lt ys k : Nat) : Int) ∧ IsHeap wr2 base h lf lcap v ys seq ∧ Inv wr2 ∧ Kept Nil wo wr2) (fun _ c _ => 2 - (intOf c).toNat)
    case atStart => exact ⟨0, by omega, rfl, rfl, H, hI, K0⟩
    case round =>
      clear H hI K0
      obtain ⟨q, hq, rfl, rfl, H, hI, K0⟩ := hrel
      obtain ⟨c0, c1, c2, cf, hh⟩ := H.cells
      obtain ⟨A, cap, hv⟩ := H.slice
      rw [hv] at c1
      clear hv
      have hq3 : q = 0 ∨ q = 1 ∨ q = 2 := by omega
      rcases hq3 with rfl | rfl | rfl
      · by_cases hc : 2 * k + 1 < ys.length
        · have hlp : k < ys.length := by omega
          have hn : ((2 : Int) * (k : Int) + 1) = ((2 * k + 1 : Nat) : Int) := by omega
          have A1 := ahead_is LL.out H hI (2 * k + 1) k hc hlp
          have A1' : Calls Try.prog 31 #[.pointer (some ⟨h, 0, none⟩), .int .i64 (2 * (k : Int) + 1), .int .i64 k] wr fun e w' => e = .returned (.bool (aheadB lt ys (2 * k + 1) k)) ∧ Kept Nil wr w' := by rw [hn]; exact A1
          cases ha : aheadB lt ys (2 * k + 1) k
          · rw [ha] at A1'
            have hl1 : least1 lt ys k = k := by unfold least1; rw [if_neg (by simp [ha])]
            have HA := Lib.hid A1'
            have HL1 := Lib.hid hl1
            clear A1 A1' ha hl1 hn
            go_wp2_with fail
            refine HA.out.mono ?_
            rintro e w1 ⟨rfl, hk1⟩
            go_wp2
            go_roundw
            case rel => exact ⟨1, by omega, rfl, by rw [if_neg (by omega), if_pos rfl, HL1.out], H.nil hk1, LL.out.stable _ _ hI hk1.any, K0.step hk1⟩
            case measure => simp [intOf]
          · rw [ha] at A1'
            have hl1 : least1 lt ys k = 2 * k + 1 := by unfold least1; rw [if_pos ⟨hc, ha⟩]
            have HA := Lib.hid A1'
            have HL1 := Lib.hid hl1
            clear A1 A1' ha hl1 hn
            go_wp2_with fail
            refine HA.out.mono ?_
            rintro e w1 ⟨rfl, hk1⟩
            go_wp2
            go_roundw
            case rel => exact ⟨1, by omega, rfl, by rw [if_neg (by omega), if_pos rfl, HL1.out]; push_cast; rfl, H.nil hk1, LL.out.stable _ _ hI hk1.any, K0.step hk1⟩
            case measure => simp [intOf]
        · have hl1 : least1 lt ys k = k := by unfold least1; rw [if_neg (by omega)]
          have HL1 := Lib.hid hl1
          clear hl1
          go_wp2
          go_roundw
          case rel => exact ⟨1, by omega, rfl, by rw [if_neg (by omega), if_pos rfl, HL1.out], H, hI, K0⟩
          case measure => simp [intOf]
      · have hl1b : least1 lt ys k < 4294967298 := by unfold least1; split <;> omega
        by_cases hc : 2 * k + 2 < ys.length
        · have hlp : least1 lt ys k < ys.length := by unfold least1; split <;> omega
          have hn : ((2 : Int) * (k : Int) + 2) = ((2 * k + 2 : Nat) : Int) := by omega
          have A1 := ahead_is LL.out H hI (2 * k + 2) (least1 lt ys k) hc hlp
          have A1' : Calls Try.prog 31 #[.pointer (some ⟨h, 0, none⟩), .int .i64 (2 * (k : Int) + 2), .int .i64 (least1 lt ys k : Nat)] wr fun e w' => e = .returned (.bool (aheadB lt ys (2 * k + 2) (least1 lt ys k))) ∧ Kept Nil wr w' := by rw [hn]; exact A1
          simp only [if_neg (show ¬ (1 = 0) by omega), if_pos (show 1 = 1 from rfl)]
          cases ha : aheadB lt ys (2 * k + 2) (least1 lt ys k)
          · rw [ha] at A1'
            have hl1 : least lt ys k = least1 lt ys k := by unfold least; rw [if_neg (by simp [ha])]
            have HA := Lib.hid A1'
            have HL1 := Lib.hid hl1
            clear A1 A1' ha hl1 hn
            generalize least1 lt ys k = m at *
            go_wp2_with fail
            refine HA.out.mono ?_
            rintro e w1 ⟨rfl, hk1⟩
            go_wp2
            go_roundw
            case rel => exact ⟨2, by omega, rfl, by rw [if_neg (by omega), if_neg (by omega), HL1.out], H.nil hk1, LL.out.stable _ _ hI hk1.any, K0.step hk1⟩
            case measure => simp [intOf]
          · rw [ha] at A1'
            have hl1 : least lt ys k = 2 * k + 2 := by unfold least; rw [if_pos ⟨hc, ha⟩]
            have HA := Lib.hid A1'
            have HL1 := Lib.hid hl1
            clear A1 A1' ha hl1 hn
            generalize least1 lt ys k = m at *
            go_wp2_with fail
            refine HA.out.mono ?_
            rintro e w1 ⟨rfl, hk1⟩
            go_wp2
            go_roundw
            case rel => exact ⟨2, by omega, rfl, by rw [if_neg (by omega), if_neg (by omega), HL1.out]; push_cast; rfl, H.nil hk1, LL.out.stable _ _ hI hk1.any, K0.step hk1⟩
            case measure => simp [intOf]
        · have hl1 : least lt ys k = least1 lt ys k := by unfold least; rw [if_neg (by omega)]
          have HL1 := Lib.hid hl1
          clear hl1
          simp only [if_neg (show ¬ (1 = 0) by omega), if_pos (show 1 = 1 from rfl)]
          generalize least1 lt ys k = m at *
          go_wp2
          go_roundw
          case rel => exact ⟨2, by omega, rfl, by rw [if_neg (by omega), if_neg (by omega), HL1.out], H, hI, K0⟩
          case measure => simp [intOf]
      · simp only [if_neg (show ¬ (2 = 0) by omega), if_neg (show ¬ (2 = 1) by omega)]
        have hcs := least_cases lt ys k
        have K1 : Kept (Own h v) w wr := HK.out.step (by rw [← HWO.out]; exact K0)
        by_cases hm : least lt ys k = k
        · have hd : down lt ys k = ys := by rw [down.eq_def, dif_pos hm]
          have HD := Lib.hid (hd.symm.trans HE.out)
          rw [hm]
          clear hm hd hcs
          go_wp2
          refine bodyPost_ret (results_none rfl _ _ _) rfl ?_
          exact ⟨rfl, by rw [← HD.out]; exact H, K1⟩
        · have hd : down lt ys k = down lt (swap ys k (least lt ys k)) (least lt ys k) := by rw [down.eq_def, dif_neg hm]
          have HD := Lib.hid (hd.symm.trans HE.out)
          have hmb : (((least lt ys k : Nat) : Int) == (k : Int)) = false := beq_eq_false_iff_ne.2 (by omega)
          have hml : least lt ys k < ys.length := by omega
          have hkl : k < ys.length := by omega
          have hgt : k < least lt ys k := by omega
          have S1 := Lib.hid (swap_is H k (least lt ys k) hkl hml)
          have HN := Lib.hid hgt
          generalize least lt ys k = m at *
          clear hd hcs hm
          go_wp2_with fail
          refine S1.out.mono ?_
          rintro e w2 ⟨rfl, H2, hk2'⟩
          go_wp2
          go_roundw
          case rel =>
            exact ⟨m, _, rfl, by rw [swap_length]; omega, by rw [swap_length]; exact HL.out, H2, HD.out, LL.out.stable _ _ hI (own_sub hk2' hob.out), K1.trans hk2' (fun i hi => .inl hi)⟩
          case measure => have := HL.out; have := HN.out; simp [intOf]; omega

end Go.Proofs.Ytfkhnhpphcpmmaa.HpItem
