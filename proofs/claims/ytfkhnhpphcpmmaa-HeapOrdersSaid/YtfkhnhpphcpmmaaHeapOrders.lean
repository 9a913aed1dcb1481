/- The walk of the statement HeapOrders. -/
import Derived.Test.YtfkhnhpphcpmmaaHeapOrdP
import Derived.Test.YtfkhnhpphcpmmaaSeen
import Derived.Deep.QuietTactic
import Derived.BigQuiet
import Derived.Test.YtfkhnhpphcpmmaaReads
namespace Go.Proofs.Ytfkhnhpphcpmmaa.HpItem
open Go Go.RowKit Go.Shelf Go.Maps Go.Proofs.Ytfkhnhpphcpmmaa.Lb Go.Proofs.Ytfkhnhpphcpmmaa.HpPure Go.Proofs.Ytfkhnhpphcpmmaa.Ref06
set_option linter.unusedVariables false
set_option linter.unusedSimpArgs false

set_option maxRecDepth 4000 in
set_option maxHeartbeats 8000000 in
theorem HeapOrders_calls (zs : List Int) (A : Option Addr) (cap : Nat) (w : World) (hm : zs.length ≤ maxLen) (hw : ∀ z ∈ zs, Sc.I64 z) (hr : Sc.Reads w .i64 A zs) :
    Calls Try.prog 5 #[.slice A zs.length cap] w fun e w' => e = .returned (.bool true) ∧ Below w.heap.size w w' := by
  obtain ⟨i0, hinf, hz0, hz1, hz2⟩ := info_parts info2
  have HR := Lib.hid hr
  clear hr hw
  unfold maxLen at hm
  by_cases h200 : 200 < zs.length
  · go_enter Try.func5, Try.ntmps5
    go_wp2_with fail
    refine (alive_is w).mono ?_
    rintro e w1 ⟨rfl, hk1⟩
    have HK := Lib.hid hk1
    clear hk1
    go_wp2
    go_ret
    exact ⟨rfl, HK.out.toBelow⟩
  · go_enter Try.func5, Try.ntmps5
    go_wp2_with fail
    refine (alive_is w).mono ?_
    rintro e w1 ⟨rfl, hk1⟩
    have HK := Lib.hid hk1
    have hw1 := hk1.size
    clear hk1
    go_wp2_with fail
    go_loopw [3, 20] (fun r i wr => ∃ k : Nat, k ≤ zs.length ∧ i = .int .i64 k ∧ wr.ownsRow w.heap.size 27 2 r (itemsOf (zs.take k)).length ((itemsOf (zs.take k)).flatMap It.cells) ∧ Kept Nil w wr) (fun _ i _ => zs.length - (intOf i).toNat)
    case atStart => exact ⟨0, Nat.zero_le _, rfl, World.ownsRow_lit w1 #[] 0 hw1 (by decide) rfl, HK.out.alloc _⟩
    case round =>
      obtain ⟨k, hk, rfl, hO, hK⟩ := hrel
      have HKr := Lib.hid hK
      have HO := Lib.hid hO
      have hzz := hK.size
      have hrd : zs.length ≤ k ∨ ∃ b off z, A = some ⟨b, off, none⟩ ∧ zs[k]? = some z ∧ wr.cell? ⟨b, off + k, none⟩ = some (.int .i64 z) := by
        by_cases hlt : k < zs.length
        · rcases HR.out with rfl | ⟨b, off, h, hc⟩
          · simp at hlt
          · have := hc k hlt
            rw [List.getElem?_eq_getElem hlt] at this
            exact .inr ⟨b, off, _, h, List.getElem?_eq_getElem hlt, hK.cell this (fun h => h)⟩
        · exact .inl (by omega)
      clear hO hK
      rcases hrd with hge | ⟨b, off, z, rfl, hz, hc⟩
      · obtain rfl : k = zs.length := by omega
        rw [List.take_length] at HO
        have OF := row_of_own HO.out
        obtain ⟨A1, c1, e1, R1, B1⟩ := OF.2
        have HR1 := Lib.hid R1
        have HB1 := Lib.hid B1
        subst e1
        have hil := itemsOf_len zs
        have hil2 : (itemsOf zs).length ≤ 200 := by omega
        have HIL := Lib.hid hil
        clear OF R1 B1 hil
        go_wp2_with fail
        refine (Sort_is less_is trivial (Nat.zero_le _) A1 c1 (itemsOf zs) HR1.out (by omega)).mono ?_
        rintro e w3 ⟨v3, rfl, O3, k3⟩
        have hlen3 : (sortedBy ltK (itemsOf zs)).length = (itemsOf zs).length := sortedBy_length _ _
        have hin := fun x (hx : x ∈ sortedBy ltK (itemsOf zs)) => sorted_in hx
        have hnd := sorted_tags zs
        have hri := sorted_rises zs
        have hbk := back_keys (itemsOf zs)
        have hag := sorted_again (itemsOf zs)
        obtain ⟨s, hs⟩ : ∃ s, sortedBy ltK (itemsOf zs) = s := ⟨_, rfl⟩
        rw [hs] at O3 hlen3 hin hnd hri hbk hag
        obtain ⟨hn3, A3, c3, rfl, R3, B3⟩ := row_of_own O3
        have HIN := Lib.hid hin
        have HND := Lib.hid hnd
        have HRI := Lib.hid hri
        have HBK := Lib.hid hbk
        have HAG := Lib.hid hag
        have HR3 := Lib.hid R3
        have HB3 := Lib.hid B3
        have HK3 := Lib.hid k3
        have HLN := Lib.hid hlen3
        have hz3 := k3.size
        have hsl : s.length ≤ 200 := by omega
        have hne3 : ((s.length : Int) != ((itemsOf zs).length : Int)) = false := by simp [hlen3]
        clear hin hnd hri hbk hag R3 B3 k3 hlen3 hs O3 hn3
        have hmm := @run_makeMap Try.prog
        go_wp2_with fail
        obtain ⟨wa, hwa⟩ : ∃ x, x = wr := ⟨_, rfl⟩
        subst hwa
        obtain ⟨W4, hW4⟩ : ∃ W4, w3.alloc (.map #[] 0) = W4 := ⟨_, rfl⟩
        have hS0 : Seen Try.prog 3 4 w3.heap.size [] W4 := by rw [← hW4]; exact Seen.made w3 _ _ _
        have hk4 : Kept Nil w3 W4 := by rw [← hW4]; exact (Kept.refl Nil w3).alloc _
        have hsz4 : w3.heap.size < W4.heap.size := hS0.lt
        rw [hW4]
        have HS0 := Lib.hid hS0
        have HK4 := Lib.hid hk4
        have HR3b := Lib.hid (HR3.out.kept hk4 (fun _ _ h => h))
        have HR1b := Lib.hid ((HR1.out.kept HK3.out (fun _ _ h => h)).kept hk4 (fun _ _ h => h))
        clear hW4 hS0 hk4
        go_loopw [42] (fun i wr => ∃ k : Nat, k ≤ s.length ∧ i = .int .i64 k ∧ Seen Try.prog 3 4 w3.heap.size ((s.take k).map It.f1) wr ∧ Kept (fun i => i = w3.heap.size) W4 wr) (fun i _ => s.length - (intOf i).toNat)
        case atStart => exact ⟨0, Nat.zero_le _, rfl, HS0.out, Kept.refl _ _⟩
        case round =>
          obtain ⟨k, hk, rfl, hS, hK⟩ := hrel
          have HS := Lib.hid hS
          have HKc := Lib.hid hK
          have hzc := hK.size
          clear hS hK
          by_cases hlt : k < s.length
          · obtain ⟨⟨x0, x1⟩, ex⟩ : ∃ x, s[k]? = some x := ⟨_, List.getElem?_eq_getElem hlt⟩
            obtain ⟨t, rfl, ht, ext⟩ := HIN.out _ (List.mem_of_getElem? ex)
            have hA : A1 = some ⟨(A1.getD ⟨0, 0, none⟩).block, (A1.getD ⟨0, 0, none⟩).off, none⟩ := by
              obtain ⟨b, off, e, _⟩ := Row.at HR1b.out ext
              rw [e]; rfl
            have hmb1 : ∀ b, (∃ off, A1 = some ⟨b, off, none⟩) → ¬ b = w3.heap.size := fun b ⟨off, e⟩ h => by have := (HB1.out b off e).2.1; omega
            have hmb3 : ∀ b, (∃ off, A3 = some ⟨b, off, none⟩) → ¬ b = w3.heap.size := fun b ⟨off, e⟩ h => by have := (HB3.out b off e).2.1; omega
            have R1c := HR1b.out.kept HKc.out hmb1
            have R3c := HR3b.out.kept HKc.out hmb3
            obtain ⟨b1, o1, e1, q0, q1⟩ := Row.at R1c ext
            obtain ⟨b3, o3, e3, p0, p1⟩ := Row.at R3c ex
            have hnotin : decide ((t : Int) ∈ (s.take k).map It.f1) = false := by
              refine decide_eq_false fun hmem => ?_
              obtain ⟨y, hy, hyt⟩ := List.mem_map.1 hmem
              obtain ⟨j, hj, rfl⟩ := List.mem_iff_getElem.1 hy
              rw [List.length_take] at hj
              have hjk : j < k := by omega
              have hnd := HND.out
              rw [List.nodup_iff_pairwise_ne, List.pairwise_map] at hnd
              have h9 := List.pairwise_iff_getElem.1 hnd j k (by omega) hlt hjk
              apply h9
              rw [List.getElem_take] at hyt
              rw [hyt]
              rw [List.getElem?_eq_getElem hlt] at ex
              rw [Option.some.inj ex]
            have hwf : (Lit.int .i64 (t : Int)).wf = true := WalkArith.wf_i64 (by omega)
            obtain ⟨Wx, hWx⟩ : ∃ Wx, wr.alloc (.cells #[.int .i64 x0, .int .i64 t] 27) = Wx := ⟨_, rfl⟩
            have hkx : Kept Nil wr Wx := by rw [← hWx]; exact (Kept.refl Nil wr).alloc _
            have r0 : Wx.cell? ⟨wr.heap.size, 0, none⟩ = some (.int .i64 x0) := by rw [← hWx]; simp
            have r1 : Wx.cell? ⟨wr.heap.size, 1, none⟩ = some (.int .i64 t) := by rw [← hWx]; simp
            have HSx := HS.out.kept hkx (fun h => h)
            have hlook := fun nq => (HSx.kept (S := Nil) ((Kept.refl Nil Wx).drewN nq) (fun h => h)).look (T := 45) Try.underlying3 Try.underlying4 Try.underlying45 (fun w => by kernel_rfl) t hwf
            rw [hnotin] at hlook
            obtain ⟨nM, DM, hnM, hoM, hDM⟩ := HSx.own
            have HLK := Lib.hid hlook
            have HOM := Lib.hid hoM
            have HDM := Lib.hid hDM
            have HKD := Lib.hid hnM
            have HEX := Lib.hid ex
            have htl : (t : Int) < (itemsOf zs).length := by rw [HIL.out]; omega
            have hd1 : decide ((t : Int) < 0) = false := by simp
            have hd2 : decide (((itemsOf zs).length : Int) ≤ (t : Int)) = false := by rw [HIL.out]; simp; omega
            have hb1 : b1 < wr.heap.size := World.block_lt_of_cell? _ _ q0
            have hb3 : b3 < wr.heap.size := World.block_lt_of_cell? _ _ p0
            have Q0 := Lib.hid (hkx.cell q0 (fun h => h))
            have Q1 := Lib.hid (hkx.cell q1 (fun h => h))
            have HWX := Lib.hid hWx
            have HKX := Lib.hid hkx
            have HR3x := Lib.hid (R3c.kept hkx (fun _ _ h => h))
            have H0 := Lib.hid r0
            have H1 := Lib.hid r1
            have HTL := Lib.hid htl
            have HTN := Lib.hid (show t < (itemsOf zs).length by rw [HIL.out]; omega)
            have HD1 := Lib.hid hd1
            have HD2 := Lib.hid hd2
            have HWF := Lib.hid hwf
            have hszx : Wx.heap.size = wr.heap.size + 1 := by rw [← hWx]; simp
            have HSZ := Lib.hid hszx
            clear hA hmb1 hmb3 R1c R3c hnotin hoM hDM hlook hnM hWx hkx r0 r1 HSx q0 q1 htl hd1 hd2 hwf hszx
            subst e1 e3

            rcases Nat.eq_zero_or_pos k with hk0 | hkp
            · subst hk0
              simp only [Nat.zero_mul, Nat.add_zero] at p0 p1
              clear ex
              go_wp2_with fail
              rw [HWX.out]
              have r0 := H0.out
              have r1 := H1.out
              have q0 := Q0.out
              have q1 := Q1.out
              have hlook := HLK.out
              have hd1 := HD1.out
              have hd2 := HD2.out
              have htl := HTL.out
              have htn := HTN.out
              have hd3 : decide ((itemsOf zs).length ≤ t) = false := decide_eq_false (by omega)
              go_big_quiet (fail)
              clear r0 q0 q1 hlook hd1 hd2 hd3
              go_wp2_with (at_mapUpdate; refine wpList_mapUpdate_own _ rfl _ _ _ 45 rfl 3 4 (int_keyed Try.underlying3) Try.underlying45 _ w3.heap.size nM DM rfl HOM.out (by have h1 := HKD.out; simp at h1; unfold maxLen; omega) _ _ _ rfl rfl (keyOf_int_mk Try.underlying3 HWF.out) _ [] (plainElem_bool Try.underlying4 true) ?_; intro w5 hown5 hgrow5)
              go_round
              case measure => (simp [intOf] <;> omega)
              refine ⟨0 + 1, by omega, by go_num, ?_, ?_⟩
              · have := Seen.add (W := Wx) HKD.out HDM.out (t : Int) HOM.out.isMap hown5
                rw [List.take_add_one, HEX.out, Option.toList_some, List.map_append]
                exact this
              · exact ((HKc.out.trans HKX.out (fun _ h => h.elim)).drewN _).grown hgrow5 (fun j e => .inl (by cases e; rfl))
            · obtain ⟨j, hj⟩ : ∃ j : Nat, k = j + 1 := ⟨k - 1, by omega⟩
              have hkj : ((k : Int) - 1) = (j : Int) := by omega
              have hk0 : decide ((0 : Int) < (k : Int)) = true := by simp; omega
              have hk1 : decide (0 < k) = true := decide_eq_true hkp
              have hjl : j < s.length := by omega
              obtain ⟨⟨y0, y1⟩, ey⟩ : ∃ y, s[j]? = some y := ⟨_, List.getElem?_eq_getElem hjl⟩
              have hor : ¬ x0 < y0 ∧ ¬ (y0 = x0 ∧ (t : Int) < y1) := by
                have h9 := List.pairwise_iff_getElem.1 HRI.out j k hjl hlt (by omega)
                rw [List.getElem?_eq_getElem hlt] at ex
                rw [List.getElem?_eq_getElem hjl] at ey
                rw [Option.some.inj ex, Option.some.inj ey] at h9
                simp only at h9
                exact ⟨by omega, h9.2⟩
              obtain ⟨b4, o4, e4, z0, z1⟩ := Row.at HR3x.out ey
              cases e4
              have hjI : (0 : Int) ≤ (j : Int) := by omega
              have hjI2 : (j : Int) < (s.length : Int) := by omega
              have hc1 : decide (x0 < y0) = false := by simp; omega
              clear hj ey ex
              by_cases hy : y0 = x0
              · have hc2 : decide ((t : Int) < y1) = false := by simp; omega
                have hc3 : (y0 == x0) = true := by simp [hy]
                clear hor hy
                go_wp2_with fail
                rw [HWX.out]
                have r0 := H0.out
                have r1 := H1.out
                have q0 := Q0.out
                have q1 := Q1.out
                have hlook := HLK.out
                have hd1 := HD1.out
                have hd2 := HD2.out
                have htl := HTL.out
                have htn := HTN.out
                have hd3 : decide ((itemsOf zs).length ≤ t) = false := decide_eq_false (by omega)
                go_big_quiet (fail)
                clear r0 q0 q1 hlook hd1 hd2 hd3
                go_wp2_with (at_mapUpdate; refine wpList_mapUpdate_own _ rfl _ _ _ 45 rfl 3 4 (int_keyed Try.underlying3) Try.underlying45 _ w3.heap.size nM DM rfl HOM.out (by have h1 := HKD.out; simp at h1; unfold maxLen; omega) _ _ _ rfl rfl (keyOf_int_mk Try.underlying3 HWF.out) _ [] (plainElem_bool Try.underlying4 true) ?_; intro w5 hown5 hgrow5)
                go_round
                case measure => (simp [intOf] <;> omega)
                refine ⟨k + 1, by omega, by go_num, ?_, ?_⟩
                · have := Seen.add (W := Wx) HKD.out HDM.out (t : Int) HOM.out.isMap hown5
                  rw [List.take_add_one, HEX.out, Option.toList_some, List.map_append]
                  exact this
                · exact ((HKc.out.trans HKX.out (fun _ h => h.elim)).drewN _).grown hgrow5 (fun j e => .inl (by cases e; rfl))
              · have hc3 : (y0 == x0) = false := by simp [hy]
                clear hor hy
                go_wp2_with fail
                rw [HWX.out]
                have r0 := H0.out
                have r1 := H1.out
                have q0 := Q0.out
                have q1 := Q1.out
                have hlook := HLK.out
                have hd1 := HD1.out
                have hd2 := HD2.out
                have htl := HTL.out
                have htn := HTN.out
                have hd3 : decide ((itemsOf zs).length ≤ t) = false := decide_eq_false (by omega)
                go_big_quiet (fail)
                clear r0 q0 q1 hlook hd1 hd2 hd3
                go_wp2_with (at_mapUpdate; refine wpList_mapUpdate_own _ rfl _ _ _ 45 rfl 3 4 (int_keyed Try.underlying3) Try.underlying45 _ w3.heap.size nM DM rfl HOM.out (by have h1 := HKD.out; simp at h1; unfold maxLen; omega) _ _ _ rfl rfl (keyOf_int_mk Try.underlying3 HWF.out) _ [] (plainElem_bool Try.underlying4 true) ?_; intro w5 hown5 hgrow5)
                go_round
                case measure => (simp [intOf] <;> omega)
                refine ⟨k + 1, by omega, by go_num, ?_, ?_⟩
                · have := Seen.add (W := Wx) HKD.out HDM.out (t : Int) HOM.out.isMap hown5
                  rw [List.take_add_one, HEX.out, Option.toList_some, List.map_append]
                  exact this
                · exact ((HKc.out.trans HKX.out (fun _ h => h.elim)).drewN _).grown hgrow5 (fun j e => .inl (by cases e; rfl))
          · obtain rfl : k = s.length := by omega
            clear hlt hk
            have hmb1 : ∀ b, (∃ off, A1 = some ⟨b, off, none⟩) → ¬ b = w3.heap.size := fun b ⟨off, e⟩ h => by have := (HB1.out b off e).2.1; omega
            have hmb3 : ∀ b, (∃ off, A3 = some ⟨b, off, none⟩) → ¬ b = w3.heap.size := fun b ⟨off, e⟩ h => by have := (HB3.out b off e).2.1; omega
            have R1c := HR1b.out.kept HKc.out hmb1
            have R3c := Lib.hid (HR3b.out.kept HKc.out hmb3)
            have HMB3 := Lib.hid hmb3
            clear hmb1 hmb3
            go_wp2_with fail
            refine (Sort_is greater_is trivial (Nat.zero_le _) A1 c1 (itemsOf zs) R1c (by omega)).mono ?_
            rintro e w5 ⟨v5, rfl, O5, k5⟩
            have hlen5 : (sortedBy gtK (itemsOf zs)).length = (itemsOf zs).length := sortedBy_length _ _
            have hbk := HBK.out
            obtain ⟨bk, hbk0⟩ : ∃ bk, sortedBy gtK (itemsOf zs) = bk := ⟨_, rfl⟩
            rw [hbk0] at O5 hlen5 hbk
            obtain ⟨hn5, A5, c5, rfl, R5, B5⟩ := row_of_own O5
            have HR5 := Lib.hid R5
            have HK5 := Lib.hid k5
            have hle : bk.length = s.length := by rw [hlen5, HLN.out]
            have HLE := Lib.hid hle
            have hbl : bk.length ≤ 200 := by omega
            have HBK5 := Lib.hid hbk
            have HR3d := Lib.hid (R3c.out.kept k5 (fun _ _ h => h))
            clear hbk R1c O5 R5 k5 hlen5 hbk0 hn5 B5 hle
            go_wp2_with fail
            obtain ⟨wb, hwb⟩ : ∃ x, x = wr := ⟨_, rfl⟩
            subst hwb
            go_loopw [117] (fun i wr => ∃ k : Nat, k ≤ bk.length ∧ i = .int .i64 k ∧ Kept Nil w5 wr) (fun i _ => bk.length - (intOf i).toNat)
            case atStart => exact ⟨0, Nat.zero_le _, rfl, Kept.refl _ _⟩
            case round =>
              obtain ⟨k, hk, rfl, hK⟩ := hrel
              have HKe := Lib.hid hK
              have HR5e := Lib.hid (HR5.out.kept hK (fun _ _ h => h))
              have HR3e := Lib.hid (HR3d.out.kept hK (fun _ _ h => h))
              clear hK
              by_cases hlt : k < bk.length
              · obtain ⟨m, hm2⟩ : ∃ m : Nat, s.length = m + 1 + k := ⟨s.length - 1 - k, by have := HLE.out; omega⟩
                obtain ⟨⟨b0, b1⟩, eb⟩ : ∃ x, bk[k]? = some x := ⟨_, List.getElem?_eq_getElem hlt⟩
                have hms : m < s.length := by omega
                obtain ⟨⟨c0, d1⟩, ec⟩ : ∃ x, s[m]? = some x := ⟨_, List.getElem?_eq_getElem hms⟩
                have hbc : b0 = c0 := by
                  have h8 : (bk.map It.f0)[k]? = some b0 := by rw [List.getElem?_map, eb]; rfl
                  rw [HBK5.out, List.getElem?_reverse (by simp; omega)] at h8
                  have h7 : (s.map It.f0).length - 1 - k = m := by rw [List.length_map]; omega
                  rw [h7, List.getElem?_map, ec] at h8
                  exact (Option.some.inj h8).symm
                subst hbc
                have hix1 : IntKind.i64.wrap ((s.length : Int) - 1) = ((m + k : Nat) : Int) := by rw [IntWalk.i64_in _ (by omega)]; omega
                have hix2 : IntKind.i64.wrap (((m + k : Nat) : Int) - (k : Int)) = (m : Int) := by rw [IntWalk.i64_in _ (by omega)]; omega
                obtain ⟨b5, o5, e5, p0, p1⟩ := Row.at HR5e.out eb
                obtain ⟨b6, o6, e6, q0, q1⟩ := Row.at HR3e.out ec
                subst e5 e6
                clear eb ec hm2
                go_wp2_with fail
                go_big_quiet (fail)
                clear hix1 hix2 p0 p1 q0 q1
                go_wp2_with fail
                go_round
                case rel => exact ⟨k + 1, by omega, by go_num, HKe.out.drewN _⟩
                case measure => (simp [intOf] <;> omega)
              · obtain rfl : k = bk.length := by omega
                have hle2 : ((bk.length : Int) == (s.length : Int)) = true := by rw [HLE.out]; simp
                have hll : s.length ≤ 200 := hsl
                clear hlt hk
                go_wp2_with fail
                refine (Sort_is less_is trivial (Nat.zero_le _) A3 c3 s HR3e.out (by omega)).mono ?_
                rintro e w6 ⟨v6, rfl, O6, k6⟩
                rw [HAG.out] at O6
                obtain ⟨hn6, A6, c6, rfl, R6, B6⟩ := row_of_own O6
                have HR6 := Lib.hid R6
                have HR3f := Lib.hid (HR3e.out.kept k6 (fun _ _ h => h))
                have HK6 := Lib.hid k6
                clear O6 R6 B6 k6 hn6
                go_wp2_with fail
                refine (Same_is s A6 A3 c6 c3 w6 HR6.out HR3f.out (by omega)).mono ?_
                rintro e w7 ⟨rfl, k7⟩
                have HK7 := Lib.hid k7
                clear k7
                go_wp2_with fail
                go_ret
                refine ⟨rfl, ?_⟩
                have h1 : Kept Nil w w3 := HKr.out.step HK3.out
                have h2 : Kept (fun i => i = w3.heap.size) w wb := (Kept.any (h1.step HK4.out)).trans HKc.out (fun i h => .inl h)
                have h4 := (((h2.step HK5.out).step HKe.out).step HK6.out).step HK7.out
                exact h4.below (Nat.le_refl _) (fun i h => by have := h1.size; omega)
      · have hlt : k < zs.length := (List.getElem?_eq_some_iff.1 hz).1
        have hmk := itemsOf_take zs hz
        have hl : (itemsOf (zs.take k)).length = k := by rw [itemsOf_len, List.length_take, Nat.min_eq_left (Nat.le_of_lt hlt)]
        have HMK := Lib.hid hmk
        have HL := Lib.hid hl
        clear hmk hz hl
        go_wp2_with (at_builtin; refine wpList_append_own _ rfl _ _ 29 rfl w.heap.size 27 i0 (.agg #[.int .i64 0, .int .i64 0]) 2 16 Try.underlying29 hinf hz0 hz1 hz2 rfl (by decide) _ _ _ rfl (HO.out.alloc _) ⟨wr.heap.size, 0, none⟩ 1 1 [.int .i64 z, .int .i64 k] rfl rfl (cells_new _ _ _) (by simp [Value.oneCell']) (by rw [HL.out]; unfold maxLen; omega) (by rw [HL.out]; omega) (by simp; omega) ?_; intro r' w3 hown' hgrow _)
        refine ⟨⟨k + 1, by omega, by go_num, ?_, (HKr.out.alloc _).grown hgrow (fun j e => .inr (HO.out.lt j e).1)⟩, by simp [intOf] <;> omega⟩
        rw [HMK.out]; simpa [It.cells] using hown'
end Go.Proofs.Ytfkhnhpphcpmmaa.HpItem
