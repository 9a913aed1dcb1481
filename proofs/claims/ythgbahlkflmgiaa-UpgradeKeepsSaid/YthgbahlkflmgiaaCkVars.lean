/- The walk of model.vars. -/
import Derived.Test.YthgbahlkflmgiaaCkMap
import Derived.Test.YthgbahlkflmgiaaSeenS
namespace Go.Proofs.Ythgbahlkflmgiaa.Mo
open Go Go.RowKit Go.Maps Go.Proofs.Ythgbahlkflmgiaa.Lb
set_option linter.unusedVariables false
set_option linter.unusedSimpArgs false

def vky (v : V) : List UInt8 := ky v.name
theorem seen_first {vs : List V} {k : Nat} {v : V} (hk : vs[k]? = some v) : vky v ∈ (vs.take k).map vky ↔ varIx vs v.name ≠ (k : Int) := by
  rw [varIx_find]
  rcases findI_cases (vs.map V.name) v.name with ⟨_, h2⟩ | ⟨i, t, h1, h2, h3, h4⟩
  · exact absurd rfl (h2 v.name (List.mem_map.2 ⟨v, List.mem_of_getElem? hk, rfl⟩))
  · rw [h1]
    have hik : ¬ k < i := fun h => h4 k v.name h (by rw [List.getElem?_map, hk]; rfl) rfl
    constructor
    · intro hm e
      have : i = k := by omega
      subst this
      obtain ⟨u, hu, e2⟩ := List.mem_map.1 hm
      obtain ⟨j, hj⟩ := List.mem_iff_getElem?.1 hu
      rw [List.getElem?_take] at hj
      split at hj
      · rename_i hlt
        exact h4 j u.name hlt (by rw [List.getElem?_map, hj]; rfl) (by rw [ky_list, ky_list]; exact e2)
      · cases hj
    · intro hne
      have hlt : i < k := by omega
      rw [List.getElem?_map] at h2
      obtain ⟨u, hu, e⟩ := Option.map_eq_some_iff.1 h2
      subst e
      refine List.mem_map.2 ⟨u, List.mem_of_getElem? (by rw [List.getElem?_take, if_pos hlt]; exact hu), ?_⟩
      have := h3
      rw [ky_list, ky_list] at this
      exact this
set_option maxRecDepth 4000 in
set_option maxHeartbeats 8000000 in
theorem Vars_is (p : Pr) (w : World) (hr : RProc w p) (hz : SzP p) (hl : p.vs.length ≤ 100000) : Calls Try.prog 55 #[p.val] w fun e w' => e = .returned (.int .i64 (varsC p.vs)) ∧ Kept Nil w w' := by
  obtain ⟨r, hrr⟩ : ∃ r, varsC p.vs = r := ⟨_, rfl⟩
  rw [hrr]
  have HRR := Lib.hid hrr
  have HP := Lib.hid hr
  have HZ := Lib.hid hz
  clear hr hz hrr
  obtain ⟨pn, pw, va, vs, vc, sa, ss, pc_⟩ := p
  unfold Pr.val
  simp only at *
  obtain ⟨W1, hW⟩ : ∃ W, (w.alloc (.cells #[.string pn, .int .i64 pw, .slice va vs.length vc, .slice sa ss.length pc_] 52)) = W := ⟨_, rfl⟩
  have hk : Kept Nil w W1 := by rw [← hW]; exact ((Kept.refl Nil w).alloc _)
  have hsz : W1.heap.size = w.heap.size + 1 := by rw [← hW]; simp
  have hb : W1.heap[w.heap.size]? = some (.cells #[.string pn, .int .i64 pw, .slice va vs.length vc, .slice sa ss.length pc_] 52 (0, 0)) := by
    rw [← hW]
    have h9 := heap_new w (.cells #[.string pn, .int .i64 pw, .slice va vs.length vc, .slice sa ss.length pc_] 52)
    exact h9
  have G0 := Lib.hid (show W1.cell? ⟨w.heap.size, 0, none⟩ = some (.string pn) by rw [cell_of hb]; rfl)
  have G1 := Lib.hid (show W1.cell? ⟨w.heap.size, 1, none⟩ = some (.int .i64 pw) by rw [cell_of hb]; rfl)
  have G2 := Lib.hid (show W1.cell? ⟨w.heap.size, 2, none⟩ = some (.slice va vs.length vc) by rw [cell_of hb]; rfl)
  have G3 := Lib.hid (show W1.cell? ⟨w.heap.size, 3, none⟩ = some (.slice sa ss.length pc_) by rw [cell_of hb]; rfl)
  have GB := Lib.hid hb
  have hzg : w.heap.size < W1.heap.size := by omega
  clear hb
  have HW := Lib.hid hW
  have HK := Lib.hid hk
  have HSZ := Lib.hid hsz
  clear hW hk hsz
  have hmm := @run_makeMap Try.prog
  go_enter Try.func55, Try.ntmps55
  go_wp2_with fail
  rw [HW.out]
  have hS0 : SeenS Try.prog 9 4 (w.heap.size + 1) 0 [] (W1.alloc (.map #[] 0)) := by rw [← HSZ.out]; exact SeenS.made W1 _ _ _
  have HS0 := Lib.hid hS0
  clear hS0 hmm
  go_loopw [10] (fun i wr => ∃ k : Nat, k ≤ vs.length ∧ i = .int .i64 k ∧ (∀ (j : Nat) (v : V), j < k → vs[j]? = some v → varC vs j v = 0) ∧ SeenS Try.prog 9 4 (w.heap.size + 1) k ((vs.take k).map vky) wr ∧ Kept Nil W1 wr) (fun i _ => vs.length - (intOf i).toNat)
  case atStart => exact ⟨0, Nat.zero_le _, rfl, fun j v h => by omega, HS0.out, (Kept.refl Nil W1).alloc _⟩
  case round =>
    obtain ⟨k, hk, rfl, hall, hS, hK⟩ := hrel
    have HALL := Lib.hid hall
    have HSe := Lib.hid hS
    have HKr := Lib.hid hK
    have hzr := hK.size
    clear hall hS hK
    by_cases hlt : k < vs.length
    · obtain ⟨⟨vn, vi⟩, ev⟩ : ∃ v, vs[k]? = some v := ⟨_, List.getElem?_eq_getElem hlt⟩
      obtain ⟨b2, off2, e1, d0, d1⟩ := (HP.out.nil (HK.out.step HKr.out)).v.at ev
      simp only at e1
      subst e1
      have hbv : b2 < wr.heap.size := World.block_lt_of_cell? _ _ d0
      have hsv := HZ.out.v _ (List.mem_of_getElem? ev)
      simp only at hsv
      have HVS := Lib.hid hsv
      have hse := seen_first ev
      have hSv : SeenS Try.prog 9 4 (w.heap.size + 1) k ((vs.take k).map vky) (wr.alloc (.cells #[.string vn, .int .i64 vi] 80)) := by
        obtain ⟨es, clk, hmb⟩ := HSe.out.block
        exact HSe.out.same (heap_old _ _ (Array.getElem?_eq_some_iff.1 hmb).1)
      have hlook := hSv.look (T := 107) Try.underlying9 Try.underlying4 Try.underlying107 (fun w => by kernel_rfl) vn hsv
      obtain ⟨D, hD, hE⟩ := hSv.own
      have htk : vs.take (k + 1) = vs.take k ++ [⟨vn, vi⟩] := by rw [List.take_add_one, ev, Option.toList_some]
      have HTK := Lib.hid htk
      have HSE := Lib.hid hse
      have HD := Lib.hid hD
      have HE := Lib.hid hE
      have HEV := Lib.hid ev
      have hkb : w.heap.size + 1 < wr.heap.size := by obtain ⟨es, clk, hmb⟩ := HSe.out.block; exact (Array.getElem?_eq_some_iff.1 hmb).1
      obtain ⟨x, hx⟩ : ∃ x, varIx vs vn = x := ⟨_, rfl⟩
      have HX := Lib.hid hx
      obtain ⟨cv, hcv⟩ : ∃ cv, nameC vn = cv := ⟨_, rfl⟩
      have HCV := Lib.hid hcv
      have HLK := Lib.hid hlook
      clear ev hx hcv hsv hse htk hSv hD hE hlook
      have hkr := HKr.out
      by_cases hq1 : rightName vn = true
      · skip
        obtain rfl : cv = 0 := by rw [← HCV.out]; exact nameC_yes (by assumption)
        by_cases hq2 : vn.toList = [118, 97, 108, 117, 101]
        · skip
          have fq2_0y : (vn.toList == [118, 97, 108, 117, 101]) = true := by first | (simp [hq2]; done) | (simp; omega) | (simp at hq2 ⊢; exact hq2) | exact hq2
          have fq2_1y : (vn.toList == reservedL) = true := by first | (simp [hq2]; done) | (simp; omega) | (simp at hq2 ⊢; exact hq2) | exact hq2
          have hres : vn.toList = reservedL := by assumption
          have HN := Lib.hid (show r = 40 by exact HRR.out.symm.trans (varsC_bad HALL.out HEV.out (show varC vs k ⟨vn, vi⟩ = _ by unfold varC; simp only; simp [HX.out, reservedL, *]; done) (by decide)))
          clear hq1 hq2 hres
          go_wp2_with (first | (go_at_call 53; refine (Check_is vn _ HVS.out).mono ?_; rintro e w5 ⟨rfl, rfl⟩; rw [HCV.out]) | (go_at_call 59; refine (number_is vi _).mono ?_; rintro e w5 ⟨rfl, rfl⟩) | (at_mapUpdate; refine wpList_mapUpdate_own _ rfl _ _ _ 107 rfl 9 4 (string_keyed Try.underlying9) Try.underlying107 _ (w.heap.size + 1) k D rfl HD.out (by unfold maxLen; omega) _ _ _ rfl rfl (show keyOf Try.prog 9 (.string vn) = some (.string vn.data.toList) by simp [keyOf, Try.underlying9, mapKey, HVS.out]) _ [] (plainElem_bool Try.underlying4 true) ?_; intro w5 hown5 hgrow5))
          go_ret
          exact ⟨by rw [HN.out]; rfl, HK.out.step (by repeat (first | exact Kept.refl _ _ | assumption | refine Kept.drew ?_ | refine Kept.drewN ?_ _ | refine Kept.alloc ?_ _ | refine Kept.step ?_ (by assumption)))⟩
        · skip
          have fq2_0n : (vn.toList == [118, 97, 108, 117, 101]) = false := by first | (simp [hq2]; done) | (simp; omega) | (simp at hq2 ⊢; exact hq2) | exact hq2
          have fq2_1n : (vn.toList == reservedL) = false := by first | (simp [hq2]; done) | (simp; omega) | (simp at hq2 ⊢; exact hq2) | exact hq2
          have hres : ¬ vn.toList = reservedL := by assumption
          by_cases hq3 : x = (k : Int)
          · skip
            have hlook : (Instr.lookup 107 (.map (some (w.heap.size + 1))) (.string vn) false).run Try.prog (wr.alloc (.cells #[.string vn, .int .i64 vi] 80)) = .ok (.bool false) (wr.alloc (.cells #[.string vn, .int .i64 vi] 80)) := by rw [HLK.out, show decide (vn.data.toList ∈ List.map vky (List.take k vs)) = false from decide_eq_false (fun h => HSE.out.1 h (by rw [show varIx _ _ = _ from HX.out]; assumption))]
            by_cases hq4 : numB vi = true
            · skip
              have fq4_0y : numB vi = true := by first | (simp [hq4]; done) | (simp; omega) | (simp at hq4 ⊢; exact hq4) | exact hq4
              have HN2 := Lib.hid (show ∀ (j : Nat) (v : V), j < k + 1 → vs[j]? = some v → varC vs j v = 0 from fun j v hj hv => by
                by_cases e : j = k
                · subst e; rw [HEV.out] at hv; cases hv; unfold varC; simp only; simp [HX.out, *]
                · exact HALL.out j v (by omega) hv)
              have HN := Lib.hid (show r = r by rfl)
              clear hq1 hq2 hres hq3 hq4
              go_wp2_with (first | (go_at_call 53; refine (Check_is vn _ HVS.out).mono ?_; rintro e w5 ⟨rfl, rfl⟩; rw [HCV.out]) | (go_at_call 59; refine (number_is vi _).mono ?_; rintro e w5 ⟨rfl, rfl⟩) | (at_mapUpdate; refine wpList_mapUpdate_own _ rfl _ _ _ 107 rfl 9 4 (string_keyed Try.underlying9) Try.underlying107 _ (w.heap.size + 1) k D rfl HD.out (by unfold maxLen; omega) _ _ _ rfl rfl (show keyOf Try.prog 9 (.string vn) = some (.string vn.data.toList) by simp [keyOf, Try.underlying9, mapKey, HVS.out]) _ [] (plainElem_bool Try.underlying4 true) ?_; intro w5 hown5 hgrow5))
              have hk5 : Kept Nil W1 w5 := Kept.grown ((by repeat (first | exact Kept.refl _ _ | assumption | refine Kept.drew ?_ | refine Kept.drewN ?_ _ | refine Kept.alloc ?_ _ | refine Kept.step ?_ (by assumption)))) hgrow5 (fun j e => .inr (by cases e; have := HSZ.out; omega))
              have HS5 := Lib.hid (show SeenS Try.prog 9 4 (w.heap.size + 1) (k + 1) ((vs.take (k + 1)).map vky) w5 by rw [HTK.out, List.map_append]; exact SeenS.put HD.out.isMap HE.out _ hown5)
              have HK5 := Lib.hid hk5
              clear hown5 hgrow5 hk5
              go_round
              case measure => (simp [intOf] <;> omega)
              exact ⟨k + 1, by omega, by go_num, HN2.out, HS5.out, HK5.out⟩
            · skip
              have fq4_0n : numB vi = false := by first | (simp [hq4]; done) | (simp; omega) | (simp at hq4 ⊢; exact hq4) | exact hq4
              have HN := Lib.hid (show r = 23 by exact HRR.out.symm.trans (varsC_bad HALL.out HEV.out (show varC vs k ⟨vn, vi⟩ = _ by unfold varC; simp only; simp [HX.out, reservedL, *]; done) (by decide)))
              clear hq1 hq2 hres hq3 hq4
              go_wp2_with (first | (go_at_call 53; refine (Check_is vn _ HVS.out).mono ?_; rintro e w5 ⟨rfl, rfl⟩; rw [HCV.out]) | (go_at_call 59; refine (number_is vi _).mono ?_; rintro e w5 ⟨rfl, rfl⟩) | (at_mapUpdate; refine wpList_mapUpdate_own _ rfl _ _ _ 107 rfl 9 4 (string_keyed Try.underlying9) Try.underlying107 _ (w.heap.size + 1) k D rfl HD.out (by unfold maxLen; omega) _ _ _ rfl rfl (show keyOf Try.prog 9 (.string vn) = some (.string vn.data.toList) by simp [keyOf, Try.underlying9, mapKey, HVS.out]) _ [] (plainElem_bool Try.underlying4 true) ?_; intro w5 hown5 hgrow5))
              go_ret
              exact ⟨by rw [HN.out]; rfl, HK.out.step (by repeat (first | exact Kept.refl _ _ | assumption | refine Kept.drew ?_ | refine Kept.drewN ?_ _ | refine Kept.alloc ?_ _ | refine Kept.step ?_ (by assumption)))⟩
          · skip
            have hlook : (Instr.lookup 107 (.map (some (w.heap.size + 1))) (.string vn) false).run Try.prog (wr.alloc (.cells #[.string vn, .int .i64 vi] 80)) = .ok (.bool true) (wr.alloc (.cells #[.string vn, .int .i64 vi] 80)) := by rw [HLK.out, show decide (vn.data.toList ∈ List.map vky (List.take k vs)) = true from decide_eq_true (HSE.out.2 (by rw [show varIx _ _ = _ from HX.out]; assumption))]
            have HN := Lib.hid (show r = 5 by exact HRR.out.symm.trans (varsC_bad HALL.out HEV.out (show varC vs k ⟨vn, vi⟩ = _ by unfold varC; simp only; simp [HX.out, reservedL, *]; done) (by decide)))
            clear hq1 hq2 hres hq3
            go_wp2_with (first | (go_at_call 53; refine (Check_is vn _ HVS.out).mono ?_; rintro e w5 ⟨rfl, rfl⟩; rw [HCV.out]) | (go_at_call 59; refine (number_is vi _).mono ?_; rintro e w5 ⟨rfl, rfl⟩) | (at_mapUpdate; refine wpList_mapUpdate_own _ rfl _ _ _ 107 rfl 9 4 (string_keyed Try.underlying9) Try.underlying107 _ (w.heap.size + 1) k D rfl HD.out (by unfold maxLen; omega) _ _ _ rfl rfl (show keyOf Try.prog 9 (.string vn) = some (.string vn.data.toList) by simp [keyOf, Try.underlying9, mapKey, HVS.out]) _ [] (plainElem_bool Try.underlying4 true) ?_; intro w5 hown5 hgrow5))
            go_ret
            exact ⟨by rw [HN.out]; rfl, HK.out.step (by repeat (first | exact Kept.refl _ _ | assumption | refine Kept.drew ?_ | refine Kept.drewN ?_ _ | refine Kept.alloc ?_ _ | refine Kept.step ?_ (by assumption)))⟩
      · skip
        have hnf : rightName vn = false := by first | assumption | (simp_all; done)
        obtain rfl : cv = 40 := by rw [← HCV.out]; exact nameC_no hnf
        have HN := Lib.hid (show r = 40 by exact HRR.out.symm.trans (varsC_bad HALL.out HEV.out (show varC vs k ⟨vn, vi⟩ = _ by unfold varC; simp only; simp [HX.out, reservedL, *]; done) (by decide)))
        clear hq1 hnf
        go_wp2_with (first | (go_at_call 53; refine (Check_is vn _ HVS.out).mono ?_; rintro e w5 ⟨rfl, rfl⟩; rw [HCV.out]) | (go_at_call 59; refine (number_is vi _).mono ?_; rintro e w5 ⟨rfl, rfl⟩) | (at_mapUpdate; refine wpList_mapUpdate_own _ rfl _ _ _ 107 rfl 9 4 (string_keyed Try.underlying9) Try.underlying107 _ (w.heap.size + 1) k D rfl HD.out (by unfold maxLen; omega) _ _ _ rfl rfl (show keyOf Try.prog 9 (.string vn) = some (.string vn.data.toList) by simp [keyOf, Try.underlying9, mapKey, HVS.out]) _ [] (plainElem_bool Try.underlying4 true) ?_; intro w5 hown5 hgrow5))
        go_ret
        exact ⟨by rw [HN.out]; rfl, HK.out.step (by repeat (first | exact Kept.refl _ _ | assumption | refine Kept.drew ?_ | refine Kept.drewN ?_ _ | refine Kept.alloc ?_ _ | refine Kept.step ?_ (by assumption)))⟩
    · obtain rfl : k = vs.length := by omega
      have HN := Lib.hid (show r = 0 from HRR.out.symm.trans (varsC_ok HALL.out))
      go_wp2_with fail
      go_ret
      exact ⟨by rw [HN.out]; rfl, HK.out.step HKr.out⟩
end Go.Proofs.Ythgbahlkflmgiaa.Mo
