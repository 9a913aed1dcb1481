/- The walks of model.each at its three types. -/
import Derived.Test.YthgbahlkflmgiaaCkLink
namespace Go.Proofs.Ythgbahlkflmgiaa.Mo
open Go Go.RowKit Go.Proofs.Ythgbahlkflmgiaa.Lb
set_option linter.unusedVariables false
set_option linter.unusedSimpArgs false

set_option maxRecDepth 4000 in
set_option maxHeartbeats 8000000 in
theorem EachProc_is {c bp bl : Nat} {m : Md} (xs : List Pr) (hxs : xs = m.ps) (A : Option Addr) (cap a : Nat) (w : World) (hc : CkAt w c bp bl m) (hm : RModel w m) (hs : SzM m) (hr : RProcs w A xs) (hl : xs.length ≤ 100000) (ha : a ≤ 100000) :
    Calls Try.prog 34 #[.slice A xs.length cap, .int .i64 (a : Int), .func (.func 35) #[.pointer (some ⟨c, 0, none⟩)] #[]] w fun e w' => e = .returned (.agg #[.int .i64 (firstAt (xs.mapIdx (procC m)) a).1, .int .i64 (firstAt (xs.mapIdx (procC m)) a).2]) ∧ Kept Nil w w' := by
  obtain ⟨r, hrr⟩ : ∃ r, firstAt (xs.mapIdx (procC m)) a = r := ⟨_, rfl⟩
  rw [hrr]
  have HRR := Lib.hid hrr
  have HC := Lib.hid hc
  have HM := Lib.hid hm
  have HS := Lib.hid hs
  have HX := Lib.hid hxs
  have HA := Lib.hid hr
  clear hrr hc hm hs hxs hr
  obtain ⟨W1, hW⟩ : ∃ W, (w.alloc (.cells #[.int .i64 0, .int .i64 0] 32)) = W := ⟨_, rfl⟩
  have hk : Kept Nil w W1 := by rw [← hW]; exact ((Kept.refl Nil w).alloc _)
  have hsz : W1.heap.size = w.heap.size + 1 := by rw [← hW]; simp
  have hb : W1.heap[w.heap.size]? = some (.cells #[.int .i64 0, .int .i64 0] 32 (0, 0)) := by
    rw [← hW]
    have h9 := heap_new w (.cells #[.int .i64 0, .int .i64 0] 32)
    exact h9
  have G0 := Lib.hid (show W1.cell? ⟨w.heap.size, 0, none⟩ = some (.int .i64 0) by rw [cell_of hb]; rfl)
  have G1 := Lib.hid (show W1.cell? ⟨w.heap.size, 1, none⟩ = some (.int .i64 0) by rw [cell_of hb]; rfl)
  have GB := Lib.hid hb
  have hzg : w.heap.size < W1.heap.size := by omega
  clear hb
  have HW := Lib.hid hW
  have HK := Lib.hid hk
  have HSZ := Lib.hid hsz
  clear hW hk hsz
  go_enter Try.func34, Try.ntmps34
  go_wp2_with fail
  rw [HW.out]
  go_loopw [12] (fun i wr => ∃ k : Nat, k ≤ xs.length ∧ i = .int .i64 k ∧ (∀ (j : Nat) (x : Pr), j < k → xs[j]? = some x → (procC m) j x = 0) ∧ Kept Nil W1 wr) (fun i _ => xs.length - (intOf i).toNat)
  case atStart => exact ⟨0, Nat.zero_le _, rfl, fun j v h => by omega, Kept.refl _ _⟩
  case round =>
    obtain ⟨k, hk, rfl, hall, hK⟩ := hrel
    have HALL := Lib.hid hall
    have HKr := Lib.hid hK
    have hzr := hK.size
    clear hall hK
    have hzgr : w.heap.size < wr.heap.size := by omega
    by_cases hlt : k < xs.length
    · obtain ⟨x, ex⟩ : ∃ v, xs[k]? = some v := ⟨_, List.getElem?_eq_getElem hlt⟩
      obtain ⟨b2, off2, e1, d0, d1, d2, d3⟩ := (HA.out.nil (HK.out.step HKr.out)).at ex
      subst e1
      have hbv : b2 < wr.heap.size := World.block_lt_of_cell? _ _ d0
      have HEX := Lib.hid ex
      have HMX := Lib.hid (show m.ps[k]? = some x by rw [← HX.out]; exact ex)
      clear ex
      obtain ⟨z, hz⟩ : ∃ z, (procC m) k x = z := ⟨_, rfl⟩
      have HZ := Lib.hid hz
      clear hz
      have hkw : Kept Nil W1 (wr.alloc (.cells #[.string x.name, .int .i64 x.weight, .slice x.va x.vs.length x.vc, .slice x.sa x.ss.length x.sc] 52)) := HKr.out.alloc _
      have HKw := Lib.hid hkw
      clear hkw
      go_wp2_with fail
      refine (CkProc_is k x _ (HC.out.nil (HK.out.step HKw.out)) (HM.out.nil (HK.out.step HKw.out)) HS.out HMX.out (HM.out.pp x (List.mem_of_getElem? HMX.out)).vl).mono ?_
      rintro e w5 ⟨rfl, hk5⟩
      rw [show procC _ _ _ = _ from HZ.out]
      have HK5 := Lib.hid (HKw.out.step hk5)
      have hz5 := hk5.size
      rw [World.size_alloc] at hz5
      have hzg5 : w.heap.size < w5.heap.size := by omega
      clear hk5
      have r0 := HK5.out.cell G0.out (fun h => h)
      have r1 := HK5.out.cell G1.out (fun h => h)
      have f0 := HK5.out.frozen (p := ⟨w.heap.size, 0, none⟩) hzg (frozen_of GB.out 0) (fun h => h)
      have f1 := HK5.out.frozen (p := ⟨w.heap.size, 1, none⟩) hzg (frozen_of GB.out 1) (fun h => h)
      by_cases hz0 : z = 0
      · have fz : (z != 0) = false := by simp [hz0]
        have HN2 := Lib.hid (show ∀ (j : Nat) (y : Pr), j < k + 1 → xs[j]? = some y → (procC m) j y = 0 from fun j y hj hy => by
          by_cases e : j = k
          · subst e; rw [HEX.out] at hy; cases hy; exact HZ.out.trans hz0
          · exact HALL.out j y (by omega) hy)
        clear hz0 r0 r1 f0 f1
        go_wp2_with fail
        go_round
        case measure => (simp [intOf] <;> omega)
        exact ⟨k + 1, by omega, by go_num, HN2.out, HK5.out⟩
      · have fz : (z != 0) = true := by simp [hz0]
        have HN := Lib.hid (show r = (z, (a : Int) + k + 1) from HRR.out.symm.trans (first_mapIdx HALL.out HEX.out HZ.out hz0))
        clear hz0
        go_wp2_with fail
        refine bodyPost_ret (v := .agg #[.int .i64 z, .int .i64 ((a : Int) + k + 1)]) (by simp [results, Try.results34, go_sem, r0, r1]) rfl ?_
        rw [HN.out]
        exact ⟨rfl, ((HK.out.step HK5.out).setCell (.inr (Nat.le_refl _)) _).setCell (.inr (Nat.le_refl _)) _⟩
    · obtain rfl : k = xs.length := by omega
      have HN := Lib.hid (show r = (0, 0) from HRR.out.symm.trans (first_mapIdx_ok HALL.out))
      have r0 := HKr.out.cell G0.out (fun h => h)
      have r1 := HKr.out.cell G1.out (fun h => h)
      have f0 := HKr.out.frozen (p := ⟨w.heap.size, 0, none⟩) hzg (frozen_of GB.out 0) (fun h => h)
      have f1 := HKr.out.frozen (p := ⟨w.heap.size, 1, none⟩) hzg (frozen_of GB.out 1) (fun h => h)
      go_wp2_with fail
      refine bodyPost_ret (v := .agg #[.int .i64 0, .int .i64 0]) (by simp [results, Try.results34, go_sem, r0, r1]) rfl ?_
      rw [HN.out]
      exact ⟨rfl, ((HK.out.step HKr.out).setCell (.inr (Nat.le_refl _)) _).setCell (.inr (Nat.le_refl _)) _⟩
set_option maxRecDepth 4000 in
set_option maxHeartbeats 8000000 in
theorem EachLink_is {c bp bl : Nat} {m : Md} (xs : List Lk) (hxs : xs = m.ls) (A : Option Addr) (cap a : Nat) (w : World) (hc : CkAt w c bp bl m) (hm : RModel w m) (hs : SzM m) (hr : RLinks w A xs) (hl : xs.length ≤ 100000) (ha : a ≤ 100000) :
    Calls Try.prog 36 #[.slice A xs.length cap, .int .i64 (a : Int), .func (.func 37) #[.pointer (some ⟨c, 0, none⟩)] #[]] w fun e w' => e = .returned (.agg #[.int .i64 (firstAt (xs.mapIdx (linkC m)) a).1, .int .i64 (firstAt (xs.mapIdx (linkC m)) a).2]) ∧ Kept Nil w w' := by
  obtain ⟨r, hrr⟩ : ∃ r, firstAt (xs.mapIdx (linkC m)) a = r := ⟨_, rfl⟩
  rw [hrr]
  have HRR := Lib.hid hrr
  have HC := Lib.hid hc
  have HM := Lib.hid hm
  have HS := Lib.hid hs
  have HX := Lib.hid hxs
  have HA := Lib.hid hr
  clear hrr hc hm hs hxs hr
  obtain ⟨W1, hW⟩ : ∃ W, (w.alloc (.cells #[.int .i64 0, .int .i64 0] 32)) = W := ⟨_, rfl⟩
  have hk : Kept Nil w W1 := by rw [← hW]; exact ((Kept.refl Nil w).alloc _)
  have hsz : W1.heap.size = w.heap.size + 1 := by rw [← hW]; simp
  have hb : W1.heap[w.heap.size]? = some (.cells #[.int .i64 0, .int .i64 0] 32 (0, 0)) := by
    rw [← hW]
    have h9 := heap_new w (.cells #[.int .i64 0, .int .i64 0] 32)
    exact h9
  have G0 := Lib.hid (show W1.cell? ⟨w.heap.size, 0, none⟩ = some (.int .i64 0) by rw [cell_of hb]; rfl)
  have G1 := Lib.hid (show W1.cell? ⟨w.heap.size, 1, none⟩ = some (.int .i64 0) by rw [cell_of hb]; rfl)
  have GB := Lib.hid hb
  have hzg : w.heap.size < W1.heap.size := by omega
  clear hb
  have HW := Lib.hid hW
  have HK := Lib.hid hk
  have HSZ := Lib.hid hsz
  clear hW hk hsz
  go_enter Try.func36, Try.ntmps36
  go_wp2_with fail
  rw [HW.out]
  go_loopw [12] (fun i wr => ∃ k : Nat, k ≤ xs.length ∧ i = .int .i64 k ∧ (∀ (j : Nat) (x : Lk), j < k → xs[j]? = some x → (linkC m) j x = 0) ∧ Kept Nil W1 wr) (fun i _ => xs.length - (intOf i).toNat)
  case atStart => exact ⟨0, Nat.zero_le _, rfl, fun j v h => by omega, Kept.refl _ _⟩
  case round =>
    obtain ⟨k, hk, rfl, hall, hK⟩ := hrel
    have HALL := Lib.hid hall
    have HKr := Lib.hid hK
    have hzr := hK.size
    clear hall hK
    have hzgr : w.heap.size < wr.heap.size := by omega
    by_cases hlt : k < xs.length
    · obtain ⟨x, ex⟩ : ∃ v, xs[k]? = some v := ⟨_, List.getElem?_eq_getElem hlt⟩
      obtain ⟨b2, off2, e1, d0, d1, d2, d3, d4⟩ := (HA.out.nil (HK.out.step HKr.out)).at ex
      subst e1
      have hbv : b2 < wr.heap.size := World.block_lt_of_cell? _ _ d0
      have HEX := Lib.hid ex
      have HMX := Lib.hid (show m.ls[k]? = some x by rw [← HX.out]; exact ex)
      clear ex
      obtain ⟨z, hz⟩ : ∃ z, (linkC m) k x = z := ⟨_, rfl⟩
      have HZ := Lib.hid hz
      clear hz
      have hkw : Kept Nil W1 (wr.alloc (.cells #[.string x.name, .string x.src, .string x.dst, .int .i64 x.delay, .int .i64 x.weight] 48)) := HKr.out.alloc _
      have HKw := Lib.hid hkw
      clear hkw
      go_wp2_with fail
      refine (CkLink_is k x _ (HC.out.nil (HK.out.step HKw.out)) HS.out HMX.out).mono ?_
      rintro e w5 ⟨rfl, hk5⟩
      rw [show linkC _ _ _ = _ from HZ.out]
      have HK5 := Lib.hid (HKw.out.step hk5)
      have hz5 := hk5.size
      rw [World.size_alloc] at hz5
      have hzg5 : w.heap.size < w5.heap.size := by omega
      clear hk5
      have r0 := HK5.out.cell G0.out (fun h => h)
      have r1 := HK5.out.cell G1.out (fun h => h)
      have f0 := HK5.out.frozen (p := ⟨w.heap.size, 0, none⟩) hzg (frozen_of GB.out 0) (fun h => h)
      have f1 := HK5.out.frozen (p := ⟨w.heap.size, 1, none⟩) hzg (frozen_of GB.out 1) (fun h => h)
      by_cases hz0 : z = 0
      · have fz : (z != 0) = false := by simp [hz0]
        have HN2 := Lib.hid (show ∀ (j : Nat) (y : Lk), j < k + 1 → xs[j]? = some y → (linkC m) j y = 0 from fun j y hj hy => by
          by_cases e : j = k
          · subst e; rw [HEX.out] at hy; cases hy; exact HZ.out.trans hz0
          · exact HALL.out j y (by omega) hy)
        clear hz0 r0 r1 f0 f1
        go_wp2_with fail
        go_round
        case measure => (simp [intOf] <;> omega)
        exact ⟨k + 1, by omega, by go_num, HN2.out, HK5.out⟩
      · have fz : (z != 0) = true := by simp [hz0]
        have HN := Lib.hid (show r = (z, (a : Int) + k + 1) from HRR.out.symm.trans (first_mapIdx HALL.out HEX.out HZ.out hz0))
        clear hz0
        go_wp2_with fail
        refine bodyPost_ret (v := .agg #[.int .i64 z, .int .i64 ((a : Int) + k + 1)]) (by simp [results, Try.results36, go_sem, r0, r1]) rfl ?_
        rw [HN.out]
        exact ⟨rfl, ((HK.out.step HK5.out).setCell (.inr (Nat.le_refl _)) _).setCell (.inr (Nat.le_refl _)) _⟩
    · obtain rfl : k = xs.length := by omega
      have HN := Lib.hid (show r = (0, 0) from HRR.out.symm.trans (first_mapIdx_ok HALL.out))
      have r0 := HKr.out.cell G0.out (fun h => h)
      have r1 := HKr.out.cell G1.out (fun h => h)
      have f0 := HKr.out.frozen (p := ⟨w.heap.size, 0, none⟩) hzg (frozen_of GB.out 0) (fun h => h)
      have f1 := HKr.out.frozen (p := ⟨w.heap.size, 1, none⟩) hzg (frozen_of GB.out 1) (fun h => h)
      go_wp2_with fail
      refine bodyPost_ret (v := .agg #[.int .i64 0, .int .i64 0]) (by simp [results, Try.results36, go_sem, r0, r1]) rfl ?_
      rw [HN.out]
      exact ⟨rfl, ((HK.out.step HKr.out).setCell (.inr (Nat.le_refl _)) _).setCell (.inr (Nat.le_refl _)) _⟩
set_option maxRecDepth 4000 in
set_option maxHeartbeats 8000000 in
theorem EachEvent_is {c bp bl : Nat} {m : Md} (xs : List Ev) (hxs : xs = m.es) (A : Option Addr) (cap a : Nat) (w : World) (hc : CkAt w c bp bl m) (hm : RModel w m) (hs : SzM m) (hr : REvents w A xs) (hl : xs.length ≤ 100000) (ha : a ≤ 100000) :
    Calls Try.prog 38 #[.slice A xs.length cap, .int .i64 (a : Int), .func (.func 39) #[.pointer (some ⟨c, 0, none⟩)] #[]] w fun e w' => e = .returned (.agg #[.int .i64 (firstAt (xs.mapIdx (fun _ e => eventC m e)) a).1, .int .i64 (firstAt (xs.mapIdx (fun _ e => eventC m e)) a).2]) ∧ Kept Nil w w' := by
  obtain ⟨r, hrr⟩ : ∃ r, firstAt (xs.mapIdx (fun _ e => eventC m e)) a = r := ⟨_, rfl⟩
  rw [hrr]
  have HRR := Lib.hid hrr
  have HC := Lib.hid hc
  have HM := Lib.hid hm
  have HS := Lib.hid hs
  have HX := Lib.hid hxs
  have HA := Lib.hid hr
  clear hrr hc hm hs hxs hr
  obtain ⟨W1, hW⟩ : ∃ W, (w.alloc (.cells #[.int .i64 0, .int .i64 0] 32)) = W := ⟨_, rfl⟩
  have hk : Kept Nil w W1 := by rw [← hW]; exact ((Kept.refl Nil w).alloc _)
  have hsz : W1.heap.size = w.heap.size + 1 := by rw [← hW]; simp
  have hb : W1.heap[w.heap.size]? = some (.cells #[.int .i64 0, .int .i64 0] 32 (0, 0)) := by
    rw [← hW]
    have h9 := heap_new w (.cells #[.int .i64 0, .int .i64 0] 32)
    exact h9
  have G0 := Lib.hid (show W1.cell? ⟨w.heap.size, 0, none⟩ = some (.int .i64 0) by rw [cell_of hb]; rfl)
  have G1 := Lib.hid (show W1.cell? ⟨w.heap.size, 1, none⟩ = some (.int .i64 0) by rw [cell_of hb]; rfl)
  have GB := Lib.hid hb
  have hzg : w.heap.size < W1.heap.size := by omega
  clear hb
  have HW := Lib.hid hW
  have HK := Lib.hid hk
  have HSZ := Lib.hid hsz
  clear hW hk hsz
  go_enter Try.func38, Try.ntmps38
  go_wp2_with fail
  rw [HW.out]
  go_loopw [12] (fun i wr => ∃ k : Nat, k ≤ xs.length ∧ i = .int .i64 k ∧ (∀ (j : Nat) (x : Ev), j < k → xs[j]? = some x → (fun _ e => eventC m e) j x = 0) ∧ Kept Nil W1 wr) (fun i _ => xs.length - (intOf i).toNat)
  case atStart => exact ⟨0, Nat.zero_le _, rfl, fun j v h => by omega, Kept.refl _ _⟩
  case round =>
    obtain ⟨k, hk, rfl, hall, hK⟩ := hrel
    have HALL := Lib.hid hall
    have HKr := Lib.hid hK
    have hzr := hK.size
    clear hall hK
    have hzgr : w.heap.size < wr.heap.size := by omega
    by_cases hlt : k < xs.length
    · obtain ⟨x, ex⟩ : ∃ v, xs[k]? = some v := ⟨_, List.getElem?_eq_getElem hlt⟩
      obtain ⟨b2, off2, e1, d0, d1, d2⟩ := (HA.out.nil (HK.out.step HKr.out)).at ex
      subst e1
      have hbv : b2 < wr.heap.size := World.block_lt_of_cell? _ _ d0
      have HEX := Lib.hid ex
      have HMX := Lib.hid (show m.es[k]? = some x by rw [← HX.out]; exact ex)
      clear ex
      obtain ⟨z, hz⟩ : ∃ z, (fun _ e => eventC m e) k x = z := ⟨_, rfl⟩
      have HZ := Lib.hid hz
      clear hz
      have hkw : Kept Nil W1 (wr.alloc (.cells #[.string x.to, .int .i64 x.at_, .int .i64 x.value] 57)) := HKr.out.alloc _
      have HKw := Lib.hid hkw
      clear hkw
      go_wp2_with fail
      refine (CkEvent_is (k : Int) x _ (HC.out.nil (HK.out.step HKw.out)) (HS.out.e x (List.mem_of_getElem? HMX.out))).mono ?_
      rintro e w5 ⟨rfl, hk5⟩
      rw [show eventC _ _ = _ from HZ.out]
      have HK5 := Lib.hid (HKw.out.step hk5)
      have hz5 := hk5.size
      rw [World.size_alloc] at hz5
      have hzg5 : w.heap.size < w5.heap.size := by omega
      clear hk5
      have r0 := HK5.out.cell G0.out (fun h => h)
      have r1 := HK5.out.cell G1.out (fun h => h)
      have f0 := HK5.out.frozen (p := ⟨w.heap.size, 0, none⟩) hzg (frozen_of GB.out 0) (fun h => h)
      have f1 := HK5.out.frozen (p := ⟨w.heap.size, 1, none⟩) hzg (frozen_of GB.out 1) (fun h => h)
      by_cases hz0 : z = 0
      · have fz : (z != 0) = false := by simp [hz0]
        have HN2 := Lib.hid (show ∀ (j : Nat) (y : Ev), j < k + 1 → xs[j]? = some y → (fun _ e => eventC m e) j y = 0 from fun j y hj hy => by
          by_cases e : j = k
          · subst e; rw [HEX.out] at hy; cases hy; exact HZ.out.trans hz0
          · exact HALL.out j y (by omega) hy)
        clear hz0 r0 r1 f0 f1
        go_wp2_with fail
        go_round
        case measure => (simp [intOf] <;> omega)
        exact ⟨k + 1, by omega, by go_num, HN2.out, HK5.out⟩
      · have fz : (z != 0) = true := by simp [hz0]
        have HN := Lib.hid (show r = (z, (a : Int) + k + 1) from HRR.out.symm.trans (first_mapIdx HALL.out HEX.out HZ.out hz0))
        clear hz0
        go_wp2_with fail
        refine bodyPost_ret (v := .agg #[.int .i64 z, .int .i64 ((a : Int) + k + 1)]) (by simp [results, Try.results38, go_sem, r0, r1]) rfl ?_
        rw [HN.out]
        exact ⟨rfl, ((HK.out.step HK5.out).setCell (.inr (Nat.le_refl _)) _).setCell (.inr (Nat.le_refl _)) _⟩
    · obtain rfl : k = xs.length := by omega
      have HN := Lib.hid (show r = (0, 0) from HRR.out.symm.trans (first_mapIdx_ok HALL.out))
      have r0 := HKr.out.cell G0.out (fun h => h)
      have r1 := HKr.out.cell G1.out (fun h => h)
      have f0 := HKr.out.frozen (p := ⟨w.heap.size, 0, none⟩) hzg (frozen_of GB.out 0) (fun h => h)
      have f1 := HKr.out.frozen (p := ⟨w.heap.size, 1, none⟩) hzg (frozen_of GB.out 1) (fun h => h)
      go_wp2_with fail
      refine bodyPost_ret (v := .agg #[.int .i64 0, .int .i64 0]) (by simp [results, Try.results38, go_sem, r0, r1]) rfl ?_
      rw [HN.out]
      exact ⟨rfl, ((HK.out.step HKr.out).setCell (.inr (Nat.le_refl _)) _).setCell (.inr (Nat.le_refl _)) _⟩
end Go.Proofs.Ythgbahlkflmgiaa.Mo
