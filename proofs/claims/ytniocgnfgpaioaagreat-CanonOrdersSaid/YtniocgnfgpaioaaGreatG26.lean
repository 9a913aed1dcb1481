/- The walk of model.vars; The walk of the checker's proc. -/
import Derived.Test.YtniocgnfgpaioaaGreatG25
import Derived.Test.YtniocgnfgpaioaaGreatG2
set_option linter.unusedVariables false
set_option linter.unusedSimpArgs false
section
namespace Go.Proofs.YtniocgnfgpaioaaGreat.Mo
open Go Go.RowKit Go.Maps Go.Proofs.YtniocgnfgpaioaaGreat.Lb

def vky (v : V) : List UInt8 := ky v.name
theorem seen_first {vs : List V} {k : Nat} {v : V} (hk : vs[k]? = some v) : vky v ∈ (vs.take k).map vky ↔ varIx vs v.name ≠ (k : Int) := by
 rw [varIx_find]
 rcases findI_cases (vs.map V.name) v.name with ⟨_, h2⟩ | ⟨i, t, h1, h2, h3, h4⟩
 ·exact absurd rfl (h2 v.name (List.mem_map.2 ⟨v, List.mem_of_getElem? hk, rfl⟩))
 ·rw [h1]
  have hik : ¬ k < i := fun h => h4 k v.name h (by rw [List.getElem?_map, hk]; rfl) rfl
  constructor
  ·intro hm e
   have : i = k := by omega
   subst this
   obtain ⟨u, hu, e2⟩ := List.mem_map.1 hm
   obtain ⟨j, hj⟩ := List.mem_iff_getElem?.1 hu
   rw [List.getElem?_take] at hj
   split at hj
   ·rename_i hlt
    exact h4 j u.name hlt (by rw [List.getElem?_map, hj]; rfl) (by rw [ky_list, ky_list]; exact e2)
   ·cases hj
  ·intro hne
   have hlt : i < k := by omega
   rw [List.getElem?_map] at h2
   obtain ⟨u, hu, e⟩ := Option.map_eq_some_iff.1 h2
   subst e
   refine List.mem_map.2 ⟨u, List.mem_of_getElem? (by rw [List.getElem?_take, if_pos hlt]; exact hu), ?_⟩
   have := h3
   rw [ky_list, ky_list] at this
   exact this
set_option maxRecDepth 4000 in
set_option maxHeartbeats 8000000 in
theorem Vars_is (p : Pr) (w : World) (hr : RProc w p) (hz : SzP p) (hl : p.vs.length ≤ 100000) : Calls Tryz.prog 86 #[p.val] w fun e w' => e = .returned (.int .i64 (varsC p.vs)) ∧ Kept Nil w w' := by
 obtain ⟨r, hrr⟩ : ∃ r, varsC p.vs = r := ⟨_, rfl⟩
 rw [hrr]
 have HRR := Lib.hid hrr
 have HP := Lib.hid hr
 have HZ := Lib.hid hz
 clear hr hz hrr
 obtain ⟨pn, pw, va, vs, vc, sa, ss, pc_⟩ := p
 unfold Pr.val
 simp only at *
 obtain ⟨W1, hW⟩ : ∃ W, (w.alloc (.cells #[.string pn, .int .i64 pw, .slice va vs.length vc, .slice sa ss.length pc_] 34)) = W := ⟨_, rfl⟩
 have hk : Kept Nil w W1 := by rw [← hW]; exact ((Kept.refl Nil w).alloc _)
 have hsz : W1.heap.size = w.heap.size + 1 := by rw [← hW]; simp
 have hb : W1.heap[w.heap.size]? = some (.cells #[.string pn, .int .i64 pw, .slice va vs.length vc, .slice sa ss.length pc_] 34 (0, 0)) := by
  rw [← hW]
  have h9 := heap_new w (.cells #[.string pn, .int .i64 pw, .slice va vs.length vc, .slice sa ss.length pc_] 34)
  exact h9
 have G0 := Lib.hid (show W1.cell? ⟨w.heap.size, 0, none⟩ = some (.string pn) by rw [cell_of hb]; rfl)
 have G1 := Lib.hid (show W1.cell? ⟨w.heap.size, 1, none⟩ = some (.int .i64 pw) by rw [cell_of hb]; rfl)
 have G2 := Lib.hid (show W1.cell? ⟨w.heap.size, 2, none⟩ = some (.slice va vs.length vc) by rw [cell_of hb]; rfl)
 have G3 := Lib.hid (show W1.cell? ⟨w.heap.size, 3, none⟩ = some (.slice sa ss.length pc_) by rw [cell_of hb]; rfl)
 have GB := Lib.hid hb
 have hzg : w.heap.size < W1.heap.size := by omega
 clear hb
 have HW := Lib.hid hW
 have HK := Lib.hid hk
 have HSZ := Lib.hid hsz
 clear hW hk hsz
 have hmm := @run_makeMap Tryz.prog
 go_enter Tryz.func86, Tryz.ntmps86
 go_wp2_with fail
 rw [HW.out]
 have hS0 : SeenS Tryz.prog 9 4 (w.heap.size + 1) 0 [] (W1.alloc (.map #[] 0)) := by rw [← HSZ.out]; exact SeenS.made W1 _ _ _
 have HS0 := Lib.hid hS0
 clear hS0 hmm
 go_loopw [10] (fun i wr => ∃ k : Nat, k ≤ vs.length ∧ i = .int .i64 k ∧ (∀ (j : Nat) (v : V), j < k → vs[j]? = some v → varC vs j v = 0) ∧ SeenS Tryz.prog 9 4 (w.heap.size + 1) k ((vs.take k).map vky) wr ∧ Kept Nil W1 wr) (fun i _ => vs.length - (intOf i).toNat)
 case atStart => exact ⟨0, Nat.zero_le _, rfl, fun j v h => by omega, HS0.out, (Kept.refl Nil W1).alloc _⟩
 case round =>
  obtain ⟨k, hk, rfl, hall, hS, hK⟩ := hrel
  have HALL := Lib.hid hall
  have HSe := Lib.hid hS
  have HKr := Lib.hid hK
  have hzr := hK.size
  clear hall hS hK
  by_cases hlt : k < vs.length
  ·obtain ⟨⟨vn, vi⟩, ev⟩ : ∃ v, vs[k]? = some v := ⟨_, List.getElem?_eq_getElem hlt⟩
   obtain ⟨b2, off2, e1, d0, d1⟩ := (HP.out.nil (HK.out.step HKr.out)).v.at ev
   simp only at e1
   subst e1
   have hbv : b2 < wr.heap.size := World.block_lt_of_cell? _ _ d0
   have hsv := HZ.out.v _ (List.mem_of_getElem? ev)
   simp only at hsv
   have HVS := Lib.hid hsv
   have hse := seen_first ev
   have hSv : SeenS Tryz.prog 9 4 (w.heap.size + 1) k ((vs.take k).map vky) (wr.alloc (.cells #[.string vn, .int .i64 vi] 40)) := by
    obtain ⟨es, clk, hmb⟩ := HSe.out.block
    exact HSe.out.same (heap_old _ _ (Array.getElem?_eq_some_iff.1 hmb).1)
   have hlook := hSv.look (T := 179) Tryz.underlying9 Tryz.underlying4 Tryz.underlying179 (fun w => by kernel_rfl) vn hsv
   obtain ⟨D, hD, hE⟩ := hSv.own
   have htk : vs.take (k + 1) = vs.take k ++ [⟨vn, vi⟩] := by rw [List.take_add_one, ev, Option.toList_some]
   have HTK := Lib.hid htk
   have HSE := Lib.hid hse
   have HD := Lib.hid hD
   have HE := Lib.hid hE
   have HEV := Lib.hid ev
   have hkb : w.heap.size + 1 < wr.heap.size := by obtain ⟨es, clk, hmb⟩ := HSe.out.block; exact (Array.getElem?_eq_some_iff.1 hmb).1
   obtain ⟨x, hx⟩ : ∃ x, varIx vs vn = x := ⟨_, rfl⟩
   have HX := Lib.hid hx
   obtain ⟨cv, hcv⟩ : ∃ cv, nameC vn = cv := ⟨_, rfl⟩
   have HCV := Lib.hid hcv
   have HLK := Lib.hid hlook
   clear ev hx hcv hsv hse htk hSv hD hE hlook
   have hkr := HKr.out
   by_cases hq1 : rightName vn = true
   ·skip
    obtain rfl : cv = 0 := by rw [← HCV.out]; exact nameC_yes (by assumption)
    by_cases hq2 : vn.toList = [118, 97, 108, 117, 101]
    ·skip
     have fq2_0y : (vn.toList == [118, 97, 108, 117, 101]) = true := by first | (simp [hq2]; done) | (simp; omega) | (simp at hq2 ⊢; exact hq2) | exact hq2
     have fq2_1y : (vn.toList == reservedL) = true := by first | (simp [hq2]; done) | (simp; omega) | (simp at hq2 ⊢; exact hq2) | exact hq2
     have hres : vn.toList = reservedL := by assumption
     have HN := Lib.hid (show r = 40 by exact HRR.out.symm.trans (varsC_bad HALL.out HEV.out (show varC vs k ⟨vn, vi⟩ = _ by unfold varC; simp only; simp [HX.out, reservedL, *]; done) (by decide)))
     clear hq1 hq2 hres
     go_wp2_with (first | (go_at_call 84; refine (Check_is vn _ HVS.out).mono ?_; rintro e w5 ⟨rfl, rfl⟩; rw [HCV.out]) | (go_at_call 90; refine (number_is vi _).mono ?_; rintro e w5 ⟨rfl, rfl⟩) | (at_mapUpdate; refine wpList_mapUpdate_own _ rfl _ _ _ 179 rfl 9 4 (string_keyed Tryz.underlying9) Tryz.underlying179 _ (w.heap.size + 1) k D rfl HD.out (by unfold maxLen; omega) _ _ _ rfl rfl (show keyOf Tryz.prog 9 (.string vn) = some (.string vn.data.toList) by simp [keyOf, Tryz.underlying9, mapKey, HVS.out]) _ [] (plainElem_bool Tryz.underlying4 true) ?_; intro w5 hown5 hgrow5))
     go_ret
     exact ⟨by rw [HN.out]; rfl, HK.out.step (by repeat (first | exact kzr _ _ | assumption | refine kzd ?_ | refine kzn ?_ _ | refine kza ?_ _ | refine kzs ?_ (by assumption)))⟩
    ·skip
     have fq2_0n : (vn.toList == [118, 97, 108, 117, 101]) = false := by first | (simp [hq2]; done) | (simp; omega) | (simp at hq2 ⊢; exact hq2) | exact hq2
     have fq2_1n : (vn.toList == reservedL) = false := by first | (simp [hq2]; done) | (simp; omega) | (simp at hq2 ⊢; exact hq2) | exact hq2
     have hres : ¬ vn.toList = reservedL := by assumption
     by_cases hq3 : x = (k : Int)
     ·skip
      have hlook : (Instr.lookup 179 (.map (some (w.heap.size + 1))) (.string vn) false).run Tryz.prog (wr.alloc (.cells #[.string vn, .int .i64 vi] 40)) = .ok (.bool false) (wr.alloc (.cells #[.string vn, .int .i64 vi] 40)) := by rw [HLK.out, show decide (vn.data.toList ∈ List.map vky (List.take k vs)) = false from decide_eq_false (fun h => HSE.out.1 h (by rw [show varIx _ _ = _ from HX.out]; assumption))]
      by_cases hq4 : numB vi = true
      ·skip
       have fq4_0y : numB vi = true := by first | (simp [hq4]; done) | (simp; omega) | (simp at hq4 ⊢; exact hq4) | exact hq4
       have HN2 := Lib.hid (show ∀ (j : Nat) (v : V), j < k + 1 → vs[j]? = some v → varC vs j v = 0 from fun j v hj hv => by
        by_cases e : j = k
        ·subst e; rw [HEV.out] at hv; cases hv; unfold varC; simp only; simp [HX.out, *]
        ·exact HALL.out j v (by omega) hv)
       have HN := Lib.hid (show r = r by rfl)
       clear hq1 hq2 hres hq3 hq4
       go_wp2_with (first | (go_at_call 84; refine (Check_is vn _ HVS.out).mono ?_; rintro e w5 ⟨rfl, rfl⟩; rw [HCV.out]) | (go_at_call 90; refine (number_is vi _).mono ?_; rintro e w5 ⟨rfl, rfl⟩) | (at_mapUpdate; refine wpList_mapUpdate_own _ rfl _ _ _ 179 rfl 9 4 (string_keyed Tryz.underlying9) Tryz.underlying179 _ (w.heap.size + 1) k D rfl HD.out (by unfold maxLen; omega) _ _ _ rfl rfl (show keyOf Tryz.prog 9 (.string vn) = some (.string vn.data.toList) by simp [keyOf, Tryz.underlying9, mapKey, HVS.out]) _ [] (plainElem_bool Tryz.underlying4 true) ?_; intro w5 hown5 hgrow5))
       have hk5 : Kept Nil W1 w5 := Kept.grown ((by repeat (first | exact kzr _ _ | assumption | refine kzd ?_ | refine kzn ?_ _ | refine kza ?_ _ | refine kzs ?_ (by assumption)))) hgrow5 (fun j e => .inr (by cases e; have := HSZ.out; omega))
       have HS5 := Lib.hid (show SeenS Tryz.prog 9 4 (w.heap.size + 1) (k + 1) ((vs.take (k + 1)).map vky) w5 by rw [HTK.out, List.map_append]; exact SeenS.put HD.out.isMap HE.out _ hown5)
       have HK5 := Lib.hid hk5
       clear hown5 hgrow5 hk5
       go_round
       case measure => (simp [intOf] <;> omega)
       exact ⟨k + 1, by omega, by go_num, HN2.out, HS5.out, HK5.out⟩
      ·skip
       have fq4_0n : numB vi = false := by first | (simp [hq4]; done) | (simp; omega) | (simp at hq4 ⊢; exact hq4) | exact hq4
       have HN := Lib.hid (show r = 23 by exact HRR.out.symm.trans (varsC_bad HALL.out HEV.out (show varC vs k ⟨vn, vi⟩ = _ by unfold varC; simp only; simp [HX.out, reservedL, *]; done) (by decide)))
       clear hq1 hq2 hres hq3 hq4
       go_wp2_with (first | (go_at_call 84; refine (Check_is vn _ HVS.out).mono ?_; rintro e w5 ⟨rfl, rfl⟩; rw [HCV.out]) | (go_at_call 90; refine (number_is vi _).mono ?_; rintro e w5 ⟨rfl, rfl⟩) | (at_mapUpdate; refine wpList_mapUpdate_own _ rfl _ _ _ 179 rfl 9 4 (string_keyed Tryz.underlying9) Tryz.underlying179 _ (w.heap.size + 1) k D rfl HD.out (by unfold maxLen; omega) _ _ _ rfl rfl (show keyOf Tryz.prog 9 (.string vn) = some (.string vn.data.toList) by simp [keyOf, Tryz.underlying9, mapKey, HVS.out]) _ [] (plainElem_bool Tryz.underlying4 true) ?_; intro w5 hown5 hgrow5))
       go_ret
       exact ⟨by rw [HN.out]; rfl, HK.out.step (by repeat (first | exact kzr _ _ | assumption | refine kzd ?_ | refine kzn ?_ _ | refine kza ?_ _ | refine kzs ?_ (by assumption)))⟩
     ·skip
      have hlook : (Instr.lookup 179 (.map (some (w.heap.size + 1))) (.string vn) false).run Tryz.prog (wr.alloc (.cells #[.string vn, .int .i64 vi] 40)) = .ok (.bool true) (wr.alloc (.cells #[.string vn, .int .i64 vi] 40)) := by rw [HLK.out, show decide (vn.data.toList ∈ List.map vky (List.take k vs)) = true from decide_eq_true (HSE.out.2 (by rw [show varIx _ _ = _ from HX.out]; assumption))]
      have HN := Lib.hid (show r = 5 by exact HRR.out.symm.trans (varsC_bad HALL.out HEV.out (show varC vs k ⟨vn, vi⟩ = _ by unfold varC; simp only; simp [HX.out, reservedL, *]; done) (by decide)))
      clear hq1 hq2 hres hq3
      go_wp2_with (first | (go_at_call 84; refine (Check_is vn _ HVS.out).mono ?_; rintro e w5 ⟨rfl, rfl⟩; rw [HCV.out]) | (go_at_call 90; refine (number_is vi _).mono ?_; rintro e w5 ⟨rfl, rfl⟩) | (at_mapUpdate; refine wpList_mapUpdate_own _ rfl _ _ _ 179 rfl 9 4 (string_keyed Tryz.underlying9) Tryz.underlying179 _ (w.heap.size + 1) k D rfl HD.out (by unfold maxLen; omega) _ _ _ rfl rfl (show keyOf Tryz.prog 9 (.string vn) = some (.string vn.data.toList) by simp [keyOf, Tryz.underlying9, mapKey, HVS.out]) _ [] (plainElem_bool Tryz.underlying4 true) ?_; intro w5 hown5 hgrow5))
      go_ret
      exact ⟨by rw [HN.out]; rfl, HK.out.step (by repeat (first | exact kzr _ _ | assumption | refine kzd ?_ | refine kzn ?_ _ | refine kza ?_ _ | refine kzs ?_ (by assumption)))⟩
   ·skip
    have hnf : rightName vn = false := by first | assumption | (simp_all; done)
    obtain rfl : cv = 40 := by rw [← HCV.out]; exact nameC_no hnf
    have HN := Lib.hid (show r = 40 by exact HRR.out.symm.trans (varsC_bad HALL.out HEV.out (show varC vs k ⟨vn, vi⟩ = _ by unfold varC; simp only; simp [HX.out, reservedL, *]; done) (by decide)))
    clear hq1 hnf
    go_wp2_with (first | (go_at_call 84; refine (Check_is vn _ HVS.out).mono ?_; rintro e w5 ⟨rfl, rfl⟩; rw [HCV.out]) | (go_at_call 90; refine (number_is vi _).mono ?_; rintro e w5 ⟨rfl, rfl⟩) | (at_mapUpdate; refine wpList_mapUpdate_own _ rfl _ _ _ 179 rfl 9 4 (string_keyed Tryz.underlying9) Tryz.underlying179 _ (w.heap.size + 1) k D rfl HD.out (by unfold maxLen; omega) _ _ _ rfl rfl (show keyOf Tryz.prog 9 (.string vn) = some (.string vn.data.toList) by simp [keyOf, Tryz.underlying9, mapKey, HVS.out]) _ [] (plainElem_bool Tryz.underlying4 true) ?_; intro w5 hown5 hgrow5))
    go_ret
    exact ⟨by rw [HN.out]; rfl, HK.out.step (by repeat (first | exact kzr _ _ | assumption | refine kzd ?_ | refine kzn ?_ _ | refine kza ?_ _ | refine kzs ?_ (by assumption)))⟩
  ·obtain rfl : k = vs.length := by omega
   have HN := Lib.hid (show r = 0 from HRR.out.symm.trans (varsC_ok HALL.out))
   go_wp2_with fail
   go_ret
   exact ⟨by rw [HN.out]; rfl, HK.out.step HKr.out⟩
end Go.Proofs.YtniocgnfgpaioaaGreat.Mo
end
section
namespace Go.Proofs.YtniocgnfgpaioaaGreat.Mo
open Go Go.RowKit Go.Proofs.YtniocgnfgpaioaaGreat.Lb

theorem find_own {α : Type} {f : α → ByteArray} {xs : List α} {i : Nat} {x : α} (h : xs[i]? = some x) : ∃ j : Nat, findI (xs.map f) (f x) = (j : Int) := by
 rcases findI_cases (xs.map f) (f x) with ⟨_, h2⟩ | ⟨k, _, h1, _⟩
 ·exact absurd rfl (h2 (f x) (List.mem_map.2 ⟨x, List.mem_of_getElem? h, rfl⟩))
 ·exact ⟨k, h1⟩
set_option maxRecDepth 4000 in
set_option maxHeartbeats 8000000 in
theorem CkProc_is {c bp bl : Nat} {m : Md} (i : Nat) (p : Pr) (w : World) (hc : CkAt w c bp bl m) (hm : RModel w m) (hs : SzM m) (hi : m.ps[i]? = some p) (hv64 : p.vs.length ≤ maxLen) : Calls Tryz.prog 52 #[.pointer (some ⟨c, 0, none⟩), .int .i64 (i : Int), p.val] w fun e w' => e = .returned (.int .i64 (procC m i p)) ∧ Kept Nil w w' := by
 obtain ⟨r, hr⟩ : ∃ r, procC m i p = r := ⟨_, rfl⟩
 rw [hr]
 have HR := Lib.hid hr
 have HM := Lib.hid hm
 have HC := Lib.hid hc
 have HP := Lib.hid (hm.pp p (List.mem_of_getElem? hi))
 have HZ := Lib.hid (hs.p p (List.mem_of_getElem? hi))
 obtain ⟨j, hj⟩ := find_own (f := Pr.name) hi
 have hvl := (hm.pp p (List.mem_of_getElem? hi)).vl
 have hsl := (hm.pp p (List.mem_of_getElem? hi)).sl
 unfold maxLen at hvl hsl
 have HY := Lib.hid hj
 clear hr hm hc hs hi hj hv64
 obtain ⟨ver, pa, ps, pc, la, ls, lc, ea, es, ec⟩ := m
 obtain ⟨pn, pw, va, vs, vc, sa, ss, pc_⟩ := p
 unfold Pr.val
 simp only at *
 obtain ⟨W1, hW⟩ : ∃ W, (w.alloc (.cells #[.string pn, .int .i64 pw, .slice va vs.length vc, .slice sa ss.length pc_] 34)) = W := ⟨_, rfl⟩
 have hk : Kept Nil w W1 := by rw [← hW]; exact ((Kept.refl Nil w).alloc _)
 have hsz : W1.heap.size = w.heap.size + 1 := by rw [← hW]; simp
 have hb : W1.heap[w.heap.size]? = some (.cells #[.string pn, .int .i64 pw, .slice va vs.length vc, .slice sa ss.length pc_] 34 (0, 0)) := by
  rw [← hW]
  have h9 := heap_new w (.cells #[.string pn, .int .i64 pw, .slice va vs.length vc, .slice sa ss.length pc_] 34)
  exact h9
 have G0 := Lib.hid (show W1.cell? ⟨w.heap.size, 0, none⟩ = some (.string pn) by rw [cell_of hb]; rfl)
 have G1 := Lib.hid (show W1.cell? ⟨w.heap.size, 1, none⟩ = some (.int .i64 pw) by rw [cell_of hb]; rfl)
 have G2 := Lib.hid (show W1.cell? ⟨w.heap.size, 2, none⟩ = some (.slice va vs.length vc) by rw [cell_of hb]; rfl)
 have G3 := Lib.hid (show W1.cell? ⟨w.heap.size, 3, none⟩ = some (.slice sa ss.length pc_) by rw [cell_of hb]; rfl)
 have GB := Lib.hid hb
 have hzg : w.heap.size < W1.heap.size := by omega
 clear hb
 have HW := Lib.hid hW
 have HK := Lib.hid hk
 have HSZ := Lib.hid hsz
 clear hW hk hsz
 obtain ⟨t, ht⟩ : ∃ t, wtB ver pw = t := ⟨_, rfl⟩
 have HT := Lib.hid ht
 obtain ⟨cn, hcn⟩ : ∃ cn, nameC pn = cn := ⟨_, rfl⟩
 have HCN := Lib.hid hcn
 obtain ⟨vv, hvv⟩ : ∃ vv, varsC vs = vv := ⟨_, rfl⟩
 have HVV := Lib.hid hvv
 clear ht hcn hvv
 go_enter Tryz.func52, Tryz.ntmps52
 go_wp2_with fail
 rw [HW.out]
 refine (Check_is pn _ HZ.out.n).mono ?_
 rintro e w1 ⟨rfl, rfl⟩
 rw [HCN.out]
 by_cases hn : rightName pn = true
 ·obtain rfl : cn = 0 := by rw [← HCN.out]; exact nameC_yes hn
  have HNm := Lib.hid hn
  clear hn
  go_wp2_with fail
  have g0 := (Kept.refl Nil W1).cell G0.out (fun h => h)
  have g1 := (Kept.refl Nil W1).cell G1.out (fun h => h)
  have g2 := (Kept.refl Nil W1).cell G2.out (fun h => h)
  have g3 := (Kept.refl Nil W1).cell G3.out (fun h => h)
  obtain ⟨m0, m1, m2, m3, m4, m5, hcb⟩ := (HC.out.nil HK.out).cells
  simp only at m0 m1 m2 m3
  obtain ⟨kk, hpm⟩ := (HC.out.nil HK.out).pm
  have hlook := ix_val hpm pn HZ.out.n HY.out
  clear hpm
  by_cases hyi : (j : Int) = (i : Int)
  ·have fy : ((j : Int) != (i : Int)) = false := by simp [hyi]
   have HYI := Lib.hid (HY.out.trans hyi)
   clear hyi
   go_big_quiet (fail)
   clear hlook m0 m1 m2 m3 m4 m5
   obtain ⟨W2, hW2⟩ : ∃ W2, W1.drewN nq = W2 := ⟨_, rfl⟩
   have hk2 : Kept Nil W1 W2 := by rw [← hW2]; exact (Kept.refl Nil W1).drewN nq
   rw [hW2]
   have HK2 := Lib.hid hk2
   have hz2 := hk2.size
   clear hW2 hk2
   clear g0 g1 g2 g3
   have g0 := (HK2.out).cell G0.out (fun h => h)
   have g1 := (HK2.out).cell G1.out (fun h => h)
   have g2 := (HK2.out).cell G2.out (fun h => h)
   have g3 := (HK2.out).cell G3.out (fun h => h)
   have hzg2 : w.heap.size < W2.heap.size := by omega
   go_wp2_with fail
   refine (CkWeight_is pw W2 (HC.out.nil (HK.out.step HK2.out))).mono ?_
   rintro e w1 ⟨rfl, rfl⟩
   rw [show wtB _ _ = _ from HT.out]
   cases t with
   | false =>
    have HN := Lib.hid (show r = 41 by
     rw [← HR.out]; unfold procC
     simp only [HNm.out, HYI.out, HT.out]
     simp)
    go_wp2_with fail
    go_ret
    exact ⟨by rw [HN.out]; rfl, HK.out.step HK2.out⟩
   | true =>
    by_cases h64 : 64 < vs.length
    ·have f64 : decide (64 < (vs.length : Int)) = true := by simp; omega
     have HN := Lib.hid (show r = 3 by
      rw [← HR.out]; unfold procC
      simp only [HNm.out, HYI.out, HT.out]
      simp [h64])
     go_wp2_with fail
     go_ret
     exact ⟨by rw [HN.out]; rfl, HK.out.step HK2.out⟩
    ·have f64 : decide (64 < (vs.length : Int)) = false := by simp; omega
     by_cases h256 : 256 < ss.length
     ·have f256 : decide (256 < (ss.length : Int)) = true := by simp; omega
      have HN := Lib.hid (show r = 3 by
       rw [← HR.out]; unfold procC
       simp only [HNm.out, HYI.out, HT.out]
       simp [h256])
      go_wp2_with fail
      go_ret
      exact ⟨by rw [HN.out]; rfl, HK.out.step HK2.out⟩
     ·have f256 : decide (256 < (ss.length : Int)) = false := by simp; omega
      have hv0 : ∀ c : Int, varsC vs = c → c ≠ 0 → r = c := fun c h hc => HR.out.symm.trans (procC_vars (m := ⟨ver, pa, ps, pc, la, ls, lc, ea, es, ec⟩) (i := i) (p := ⟨pn, pw, va, vs, vc, sa, ss, pc_⟩) HNm.out HYI.out HT.out h64 h256 h hc)
      have hs0 : varsC vs = 0 → r = firstC (ss.map (stepC ls ⟨pn, pw, va, vs, vc, sa, ss, pc_⟩)) := fun h => HR.out.symm.trans (procC_steps (m := ⟨ver, pa, ps, pc, la, ls, lc, ea, es, ec⟩) (i := i) (p := ⟨pn, pw, va, vs, vc, sa, ss, pc_⟩) HNm.out HYI.out HT.out h64 h256 h)
      have HV := Lib.hid hv0
      have HS := Lib.hid hs0
      clear hv0 hs0
      go_wp2_with fail
      refine (Vars_is ⟨pn, pw, va, vs, vc, sa, ss, pc_⟩ W2 (HP.out.nil (HK.out.step HK2.out)) HZ.out (by simp only; omega)).mono ?_
      rintro e w3 ⟨rfl, hk3⟩
      rw [show varsC _ = _ from HVV.out]
      have HK3 := Lib.hid (HK2.out.step hk3)
      have hz3 := hk3.size
      clear hk3 f64 f256 fy
      clear g0 g1 g2 g3
      have g0 := (HK3.out).cell G0.out (fun h => h)
      have g1 := (HK3.out).cell G1.out (fun h => h)
      have g2 := (HK3.out).cell G2.out (fun h => h)
      have g3 := (HK3.out).cell G3.out (fun h => h)
      have hzg3 : w.heap.size < w3.heap.size := by omega
      by_cases hv0 : vv = 0
      ·have fv : (vv != 0) = false := by simp [hv0]
       have HV0 := Lib.hid (HS.out (HVV.out.trans hv0))
       clear hv0
       go_wp2_with fail
       clear fv
       clear g0 g1 g2 g3
       go_loopw [51] (fun u wr => ∃ k : Nat, k ≤ ss.length ∧ u = .int .i64 k ∧ (∀ (j : Nat) (s : S), j < k → ss[j]? = some s → stepC ls ⟨pn, pw, va, vs, vc, sa, ss, pc_⟩ s = 0) ∧ Kept Nil W1 wr) (fun u _ => ss.length - (intOf u).toNat)
       case atStart => exact ⟨0, Nat.zero_le _, rfl, fun j v h => by omega, HK3.out⟩
       case round =>
        obtain ⟨k, hk, rfl, hall, hK⟩ := hrel
        have HALS := Lib.hid hall
        have HKs := Lib.hid hK
        have hzs := hK.size
        clear hall hK hz3 hzg3 hz2 hzg2
        have hzgs : w.heap.size < wr.heap.size := by omega
        have g0 := (HKs.out).cell G0.out (fun h => h)
        have g1 := (HKs.out).cell G1.out (fun h => h)
        have g2 := (HKs.out).cell G2.out (fun h => h)
        have g3 := (HKs.out).cell G3.out (fun h => h)
        by_cases hlt : k < ss.length
        ·obtain ⟨⟨k0, nm, ak, an, as_⟩, es'⟩ : ∃ v, ss[k]? = some v := ⟨_, List.getElem?_eq_getElem hlt⟩
         obtain ⟨b2, off2, e1, d0, d1, d2, d3, d4⟩ := (HP.out.nil (HK.out.step HKs.out)).s.at es'
         simp only at e1
         subst e1
         have hbv : b2 < wr.heap.size := World.block_lt_of_cell? _ _ d0
         obtain ⟨z, hz⟩ : ∃ z, stepC ls ⟨pn, pw, va, vs, vc, some ⟨b2, off2, none⟩, ss, pc_⟩ ⟨k0, nm, ak, an, as_⟩ = z := ⟨_, rfl⟩
         have HES := Lib.hid es'
         have HSN := Lib.hid (HZ.out.s _ (List.mem_of_getElem? es'))
         have HZz := Lib.hid hz
         clear es' hz
         have hkw : Kept Nil W1 (wr.alloc (.cells #[.int .i64 k0, .string nm, .int .i64 ak, .int .i64 an, .string as_] 38)) := HKs.out.alloc _
         have HKw := Lib.hid hkw
         clear hkw
         go_wp2_with fail
         refine (CkStep_is (m := ⟨ver, pa, ps, pc, la, ls, lc, ea, es, ec⟩) ⟨pn, pw, va, vs, vc, some ⟨b2, off2, none⟩, ss, pc_⟩ ⟨k0, nm, ak, an, as_⟩ _ (HC.out.nil (HK.out.step HKw.out)) (HM.out.nil (HK.out.step HKw.out)) (HP.out.nil (HK.out.step HKw.out)) HSN.out).mono ?_
         rintro e w5 ⟨rfl, hk5⟩
         rw [show stepC _ _ _ = _ from HZz.out]
         have HK5 := Lib.hid (HKw.out.step hk5)
         clear hk5
         by_cases hz0 : z = 0
         ·have fz : (z != 0) = false := by simp [hz0]
          have HN2 := Lib.hid (show ∀ (j : Nat) (u : S), j < k + 1 → ss[j]? = some u → stepC ls ⟨pn, pw, va, vs, vc, some ⟨b2, off2, none⟩, ss, pc_⟩ u = 0 from fun j u hj hu => by
           by_cases e : j = k
           ·subst e; rw [HES.out] at hu; cases hu; rw [HZz.out]; exact hz0
           ·exact HALS.out j u (by omega) hu)
          clear hz0
          go_wp2_with fail
          go_round
          case measure => (simp [intOf] <;> omega)
          exact ⟨k + 1, by omega, by go_num, HN2.out, HK5.out⟩
         ·have fz : (z != 0) = true := by simp [hz0]
          have HN := Lib.hid (show r = z from HV0.out.trans (stepsC_bad HALS.out HES.out HZz.out hz0))
          clear hz0
          go_wp2_with fail
          go_ret
          exact ⟨by rw [HN.out]; rfl, HK.out.step HK5.out⟩
        ·obtain rfl : k = ss.length := by omega
         have HN := Lib.hid (show r = 0 from HV0.out.trans (stepsC_ok HALS.out))
         go_wp2_with fail
         go_ret
         exact ⟨by rw [HN.out]; rfl, HK.out.step HKs.out⟩
      ·have fv : (vv != 0) = true := by simp [hv0]
       have HN := Lib.hid (show r = vv from HV.out _ HVV.out hv0)
       clear hv0
       go_wp2_with fail
       go_ret
       exact ⟨by rw [HN.out]; rfl, HK.out.step HK3.out⟩
  ·have fy : ((j : Int) != (i : Int)) = true := by simp [hyi]
   have HN := Lib.hid (show r = 5 by
    rw [← HR.out]; unfold procC
    simp only [HNm.out, HY.out]
    simp [hyi])
   clear hyi
   go_big_quiet (fail)
   go_wp2_with fail
   go_ret
   exact ⟨by rw [HN.out]; rfl, HK.out.drewN _⟩
 ·have hnf : rightName pn = false := by simpa using hn
  obtain rfl : cn = 40 := by rw [← HCN.out]; exact nameC_no hnf
  have HN := Lib.hid (show r = 40 by
   rw [← HR.out]; unfold procC
   simp only [hnf]
   simp)
  clear hn hnf
  go_wp2_with fail
  go_ret
  exact ⟨by rw [HN.out]; rfl, HK.out⟩
end Go.Proofs.YtniocgnfgpaioaaGreat.Mo
end
