/- The walk of the statement CanonOrders. -/
import Derived.Test.YtniocgnfgpaioaaGreatG35
import Derived.Test.YtniocgnfgpaioaaGreatG36
set_option linter.unusedVariables false
set_option linter.unusedSimpArgs false
namespace Go.Proofs.YtniocgnfgpaioaaGreat.Mo
open Go Go.RowKit Go.Maps Go.Proofs.YtniocgnfgpaioaaGreat.Lb Go.Proofs.YtniocgnfgpaioaaGreat.HpPure
set_option maxRecDepth 8000
theorem drop_rev {α : Type} {xs : List α} {k : Nat} {x : α} (h : xs[k]? = some x) : (xs.drop (k + 1)).reverse ++ [x] = (xs.drop k).reverse := by
 obtain ⟨hk, rfl⟩ := List.getElem?_eq_some_iff.1 h
 rw [List.drop_eq_getElem_cons hk, List.reverse_cons]
theorem Check_h {ver : Int} {pa : Option Addr} {ps : List Pr} {pc : Nat} {la : Option Addr} {ls : List Lk} {lc : Nat} {ea : Option Addr} {es : List Ev} {ec : Nat} (w : World) (h : HeldM w ⟨ver, pa, ps, pc, la, ls, lc, ea, es, ec⟩) {f : Int × Int} (hf : mdCheck ⟨ver, pa, ps, pc, la, ls, lc, ea, es, ec⟩ = f) :
  Calls Tryz.prog 17 #[.agg #[.int .i64 ver, .slice pa ps.length pc, .slice la ls.length lc, .slice ea es.length ec]] w fun e w' => e = .returned (.agg #[.int .i64 f.1, .int .i64 f.2]) ∧ Kept Nil w w' := by
 rw [← hf]
 exact CheckM_is ⟨ver, pa, ps, pc, la, ls, lc, ea, es, ec⟩ w h.r h.o.sz (fun p hp => (h.s.v p hp).1)
theorem back_held {w w3 : World} {m : Md} (hm : HeldM w m) (hk : Kept Nil w w3) {b0 b1 b2 c0 c1 c2 : Nat} {A0 A1 A2 : Option Addr} (h0 : w3.ownsRow b0 34 4 (.slice A0 m.ps.length c0) m.ps.length (m.ps.reverse.flatMap prCells)) (h1 : w3.ownsRow b1 42 5 (.slice A1 m.ls.length c1) m.ls.length (m.ls.reverse.flatMap lkCells)) (h2 : w3.ownsRow b2 48 3 (.slice A2 m.es.length c2) m.es.length (m.es.reverse.flatMap evCells)) :
  HeldM w3 ⟨m.version, A0, m.ps.reverse, c0, A1, m.ls.reverse, c1, A2, m.es.reverse, c2⟩ := by
 have hm3 := hm.nil hk
 obtain ⟨a0, p0, e0, _, r0, _, l0, z0⟩ := rowOf_own h0 prCells_len (by decide)
 obtain ⟨a1, p1, e1, _, r1, _, l1, z1⟩ := rowOf_own h1 lkCells_len (by decide)
 obtain ⟨a2, p2, e2, _, r2, _, l2, z2⟩ := rowOf_own h2 evCells_len (by decide)
 rw [List.length_reverse] at e0 e1 e2
 cases e0; cases e1; cases e2
 refine ⟨⟨RProcs.ofRow r0, fun q hq => hm3.r.pp q (List.mem_reverse.1 hq), RLinks.ofRow r1, REvents.ofRow r2, ?_, ?_, ?_⟩, ⟨hm3.o.v, fun q hq => hm3.o.p q (List.mem_reverse.1 hq), fun q hq => hm3.o.l q (List.mem_reverse.1 hq), fun q hq => hm3.o.e q (List.mem_reverse.1 hq), l0, z0, l1, z1, l2, z2⟩, ⟨?_, ?_, ?_, fun q hq => hm3.s.v q (List.mem_reverse.1 hq)⟩⟩
 ·simp only [List.length_reverse]; exact hm3.r.pl
 ·simp only [List.length_reverse]; exact hm3.r.ll
 ·simp only [List.length_reverse]; exact hm3.r.el
 ·simp only [List.length_reverse]; exact hm3.s.p
 ·simp only [List.length_reverse]; exact hm3.s.l
 ·simp only [List.length_reverse]; exact hm3.s.e
set_option maxHeartbeats 16000000 in
theorem CanonOrders_calls (m : Md) (w : World) (hm : RModel w m) (ho : OkM m) :
  Calls Tryz.prog 4 #[m.val] w fun e w' => e = .returned (.bool true) ∧ Below w.heap.size w w' := by
 have HM := Lib.hid hm
 have HO := Lib.hid ho
 obtain ⟨ver, pa, ps, pc, la, ls, lc, ea, es, ec⟩ := m
 clear hm ho
 unfold Md.val
 simp only at *
 obtain ⟨W1, hW⟩ : ∃ W, (w.alloc (.cells #[.int .i64 ver, .slice pa ps.length pc, .slice la ls.length lc, .slice ea es.length ec] 26)) = W := ⟨_, rfl⟩
 have hk : Kept Nil w W1 := by rw [← hW]; exact ((Kept.refl Nil w).alloc _)
 have hsz : W1.heap.size = w.heap.size + 1 := by rw [← hW]; simp
 have hb : W1.heap[w.heap.size]? = some (.cells #[.int .i64 ver, .slice pa ps.length pc, .slice la ls.length lc, .slice ea es.length ec] 26 (0, 0)) := by
  rw [← hW]
  have h9 := heap_new w (.cells #[.int .i64 ver, .slice pa ps.length pc, .slice la ls.length lc, .slice ea es.length ec] 26)
  exact h9
 have G0 := Lib.hid (show W1.cell? ⟨w.heap.size, 0, none⟩ = some (.int .i64 ver) by rw [cell_of hb]; rfl)
 have G1 := Lib.hid (show W1.cell? ⟨w.heap.size, 1, none⟩ = some (.slice pa ps.length pc) by rw [cell_of hb]; rfl)
 have G2 := Lib.hid (show W1.cell? ⟨w.heap.size, 2, none⟩ = some (.slice la ls.length lc) by rw [cell_of hb]; rfl)
 have G3 := Lib.hid (show W1.cell? ⟨w.heap.size, 3, none⟩ = some (.slice ea es.length ec) by rw [cell_of hb]; rfl)
 have GB := Lib.hid hb
 have hzg : w.heap.size < W1.heap.size := by omega
 clear hb
 have HW := Lib.hid hW
 have HK := Lib.hid hk
 have HSZ := Lib.hid hsz
 clear hW hk hsz
 have HM1 := Lib.hid (HM.out.nil HK.out)
 go_enter Tryz.func4, Tryz.ntmps4
 go_wp2_with fail
 rw [HW.out]
 refine (alive_is W1).mono ?_
 rintro e w1 ⟨rfl, hk1⟩
 have HK1 := Lib.hid hk1
 have hz1 := hk1.size
 clear hk1
 have g0 := (HK1.out).cell G0.out (fun h => h)
 have g1 := (HK1.out).cell G1.out (fun h => h)
 have g2 := (HK1.out).cell G2.out (fun h => h)
 have g3 := (HK1.out).cell G3.out (fun h => h)
 have hg1 : w.heap.size < w1.heap.size := by omega
 go_wp2_with fail
 refine (Few_h w1 (HM1.out.nil HK1.out)).mono ?_
 rintro e w2 ⟨b, rfl, hbb, hk2⟩
 have HBB := Lib.hid hbb
 have HK2 := Lib.hid (HK1.out.step hk2)
 have hz2 := hk2.size
 have hg2 : w.heap.size < w2.heap.size := by omega
 clear hbb hk2 g0 g1 g2 g3
 have g0 := (HK2.out).cell G0.out (fun h => h)
 have g1 := (HK2.out).cell G1.out (fun h => h)
 have g2 := (HK2.out).cell G2.out (fun h => h)
 have g3 := (HK2.out).cell G3.out (fun h => h)
 cases b with
 | false =>
  go_wp2_with fail
  go_ret
  exact ⟨rfl, (HK.out.step HK2.out).toBelow⟩
 | true =>
  have HF := Lib.hid (HBB.out rfl)
  have HHM := Lib.hid (held_of_few (HM1.out.nil HK2.out) HO.out HF.out)
  have hpl := HF.out.pl
  have hll := HF.out.ll
  have hel := HF.out.el
  simp only at hpl hll hel
  go_upto_region 6 with (go_at_call 12; with_reducible refine (Canon_h _ HHM.out).mono ?_; rintro e w6 ⟨hk6, ⟨cv, ca, cs, cc, cla, cls, clc, cea, ces, cec⟩, rfl, hh, hs, _⟩; have HCH := Lib.hid hh; have HCS := Lib.hid hs; have HK6 := Lib.hid hk6; have hz6 := hk6.size; clear hh hs hk6 g0 g1 g2 g3)
  obtain ⟨W7, hW⟩ : ∃ W, (w6.alloc (.cells #[.int .i64 cv, .slice ca cs.length cc, .slice cla cls.length clc, .slice cea ces.length cec] 26)) = W := ⟨_, rfl⟩
  have hk : Kept Nil w6 W7 := by rw [← hW]; exact ((Kept.refl Nil w6).alloc _)
  have hsz : W7.heap.size = w6.heap.size + 1 := by rw [← hW]; simp
  have hb : W7.heap[w6.heap.size]? = some (.cells #[.int .i64 cv, .slice ca cs.length cc, .slice cla cls.length clc, .slice cea ces.length cec] 26 (0, 0)) := by
   rw [← hW]
   have h9 := heap_new w6 (.cells #[.int .i64 cv, .slice ca cs.length cc, .slice cla cls.length clc, .slice cea ces.length cec] 26)
   exact h9
  have C0 := Lib.hid (show W7.cell? ⟨w6.heap.size, 0, none⟩ = some (.int .i64 cv) by rw [cell_of hb]; rfl)
  have C1 := Lib.hid (show W7.cell? ⟨w6.heap.size, 1, none⟩ = some (.slice ca cs.length cc) by rw [cell_of hb]; rfl)
  have C2 := Lib.hid (show W7.cell? ⟨w6.heap.size, 2, none⟩ = some (.slice cla cls.length clc) by rw [cell_of hb]; rfl)
  have C3 := Lib.hid (show W7.cell? ⟨w6.heap.size, 3, none⟩ = some (.slice cea ces.length cec) by rw [cell_of hb]; rfl)
  have CB := Lib.hid hb
  have hzc : w6.heap.size < W7.heap.size := by omega
  clear hb
  have HW7 := Lib.hid hW
  have HK7 := Lib.hid hk
  have HSZ7 := Lib.hid hsz
  clear hW hk hsz
  rw [HW7.out]
  have HK27 := Lib.hid (HK6.out.step HK7.out)
  have hz7 := HK27.out.size
  have HC7 := Lib.hid (HCH.out.nil HK7.out)
  have HM7 := Lib.hid (HHM.out.nil HK27.out)
  have hcc : SameM ⟨cv, ca, cs, cc, cla, cls, clc, cea, ces, cec⟩ (canM ⟨cv, ca, cs, cc, cla, cls, clc, cea, ces, cec⟩) := HCS.out.symm.trans (by have h8 := canM_same HCS.out; rw [canM_twice] at h8; exact h8)
  have HCC := Lib.hid hcc
  clear hcc
  have C9_0 := Lib.hid (show W7.cell? ⟨w6.heap.size, 0, none⟩ = some (.int .i64 cv) from C0.out)
  have C9_1 := Lib.hid (show W7.cell? ⟨w6.heap.size, 1, none⟩ = some (.slice ca cs.length cc) from C1.out)
  have C9_2 := Lib.hid (show W7.cell? ⟨w6.heap.size, 2, none⟩ = some (.slice cla cls.length clc) from C2.out)
  have C9_3 := Lib.hid (show W7.cell? ⟨w6.heap.size, 3, none⟩ = some (.slice cea ces.length cec) from C3.out)
  refine wp_region_held_drew (S := fun w' => w'.cell? ⟨w6.heap.size, 0, none⟩ = some (.int .i64 cv) ∧ w'.cell? ⟨w6.heap.size, 1, none⟩ = some (.slice ca cs.length cc) ∧ w'.cell? ⟨w6.heap.size, 2, none⟩ = some (.slice cla cls.length clc) ∧ w'.cell? ⟨w6.heap.size, 3, none⟩ = some (.slice cea ces.length cec)) (by kernel_rfl) ⟨C9_0.out, C9_1.out, C9_2.out, C9_3.out⟩ (fun hHeld => ?_)
  refine wpAnyH_take (i := 0) (oi := _) (v := ?_) (List.getElem?_toArray.trans rfl) (by kernel_rfl) (by kernel_rfl) (by kernel_rfl) (fun _ _ _ h => h) (Or.inl ⟨by rfl, ?_⟩) (by assumption) ?_
  rotate_left
  ·(intro w9 hSw; (try dsimp only at hSw); go_simp; try with_reducible rfl)
  try simp only [Act.put, List.setIfInBounds_toArray, List.set_cons_zero, List.set_cons_succ]
  refine wpAnyH_ready (rs := [1]) (by kernel_rfl) (by simp) ?_
  refine AllReadyH.cons (o := _) (List.getElem?_toArray.trans rfl) (fun K hK => ?_) (AllReadyH.nil)
  go_simp
  refine (cIs_h _ (HC7.out.nil (by repeat (first | exact kzr _ _ | assumption | refine kzd ?_ | refine kzn ?_ _ | refine kza ?_ _ | refine kzs ?_ (by assumption)))) (eqM_iff.2 HCC.out)).mono ?_
  rintro e w8 ⟨rfl, hk8⟩
  try go_wp2_with fail
  refine hK.out _ _ ((fun (hx : Kept Nil W7 _) => ⟨hx.cell C9_0.out (fun h => h), hx.cell C9_1.out (fun h => h), hx.cell C9_2.out (fun h => h), hx.cell C9_3.out (fun h => h)⟩) (by repeat (first | exact kzr _ _ | assumption | refine kzd ?_ | refine kzn ?_ _ | refine kza ?_ _ | refine kzs ?_ (by assumption)))) (fun hHeld => ?_)
  clear hK K
  try simp only [Act.put, List.setIfInBounds_toArray, List.set_cons_zero, List.set_cons_succ]
  refine wpAnyH_take (i := 2) (oi := _) (v := ?_) (List.getElem?_toArray.trans rfl) (by kernel_rfl) (by kernel_rfl) (by kernel_rfl) (fun _ _ _ h => h) (Or.inl ⟨by rfl, ?_⟩) (by assumption) ?_
  rotate_left
  ·(intro w9 hSw; (try dsimp only at hSw); go_simp; try with_reducible rfl)
  try simp only [Act.put, List.setIfInBounds_toArray, List.set_cons_zero, List.set_cons_succ]
  refine wpAnyH_take (i := 3) (oi := _) (v := ?_) (List.getElem?_toArray.trans rfl) (by kernel_rfl) (by kernel_rfl) (by kernel_rfl) (fun _ _ _ h => h) (Or.inl ⟨by rfl, ?_⟩) (by assumption) ?_
  rotate_left
  ·(intro w9 hSw; (try dsimp only at hSw); go_simp; try with_reducible rfl)
  try simp only [Act.put, List.setIfInBounds_toArray, List.set_cons_zero, List.set_cons_succ]
  refine wpAnyH_take (i := 4) (oi := _) (v := ?_) (List.getElem?_toArray.trans rfl) (by kernel_rfl) (by kernel_rfl) (by kernel_rfl) (fun _ _ _ h => h) (Or.inl ⟨by rfl, ?_⟩) (by assumption) ?_
  rotate_left
  ·(intro w9 hSw; (try dsimp only at hSw); go_simp; try with_reducible rfl)
  try simp only [Act.put, List.setIfInBounds_toArray, List.set_cons_zero, List.set_cons_succ]
  refine wpAnyH_take (i := 6) (oi := _) (v := ?_) (List.getElem?_toArray.trans rfl) (by kernel_rfl) (by kernel_rfl) (by kernel_rfl) (fun _ _ _ h => h) (Or.inl ⟨by rfl, ?_⟩) (by assumption) ?_
  rotate_left
  ·(intro w9 hSw; (try dsimp only at hSw); go_simp; try with_reducible rfl)
  try simp only [Act.put, List.setIfInBounds_toArray, List.set_cons_zero, List.set_cons_succ]
  refine wpAnyH_ready (rs := [5]) (by kernel_rfl) (by simp) ?_
  refine AllReadyH.cons (o := _) (List.getElem?_toArray.trans rfl) (fun K hK => ?_) (AllReadyH.nil)
  go_simp
  refine (Canon_h _ (HC7.out.nil (by repeat (first | exact kzr _ _ | assumption | refine kzd ?_ | refine kzn ?_ _ | refine kza ?_ _ | refine kzs ?_ (by assumption))))).mono ?_
  rintro e w9 ⟨hk9, ⟨dv, da, ds, dc, dla, dls, dlc, dea, des, dec⟩, rfl, hh, hs, _⟩
  have HDH := Lib.hid hh
  have HDS := Lib.hid hs
  clear hh hs
  try go_wp2_with fail
  refine hK.out _ _ ((fun (hx : Kept Nil W7 _) => ⟨hx.cell C9_0.out (fun h => h), hx.cell C9_1.out (fun h => h), hx.cell C9_2.out (fun h => h), hx.cell C9_3.out (fun h => h)⟩) (by repeat (first | exact kzr _ _ | assumption | refine kzd ?_ | refine kzn ?_ _ | refine kza ?_ _ | refine kzs ?_ (by assumption)))) (fun hHeld => ?_)
  clear hK K
  try simp only [Act.put, List.setIfInBounds_toArray, List.set_cons_zero, List.set_cons_succ]
  refine wpAnyH_ready (rs := [7]) (by kernel_rfl) (by simp) ?_
  refine AllReadyH.cons (o := _) (List.getElem?_toArray.trans rfl) (fun K hK => ?_) (AllReadyH.nil)
  go_simp
  refine (cSame_h _ HDH.out (HC7.out.nil (by repeat (first | exact kzr _ _ | assumption | refine kzd ?_ | refine kzn ?_ _ | refine kza ?_ _ | refine kzs ?_ (by assumption)))) (eqM_iff.2 (HDS.out.symm.trans HCC.out.symm))).mono ?_
  rintro e w10 ⟨rfl, hk10⟩
  try go_wp2_with fail
  refine hK.out _ _ ((fun (hx : Kept Nil W7 _) => ⟨hx.cell C9_0.out (fun h => h), hx.cell C9_1.out (fun h => h), hx.cell C9_2.out (fun h => h), hx.cell C9_3.out (fun h => h)⟩) (by repeat (first | exact kzr _ _ | assumption | refine kzd ?_ | refine kzn ?_ _ | refine kza ?_ _ | refine kzs ?_ (by assumption)))) (fun hHeld => ?_)
  clear hK K
  try simp only [Act.put, List.setIfInBounds_toArray, List.set_cons_zero, List.set_cons_succ]
  refine wpAnyH_take (i := 8) (oi := _) (v := ?_) (List.getElem?_toArray.trans rfl) (by kernel_rfl) (by kernel_rfl) (by kernel_rfl) (fun _ _ _ h => h) (Or.inl ⟨by rfl, ?_⟩) (by assumption) ?_
  rotate_left
  ·(intro w9 hSw; (try dsimp only at hSw); go_simp; try with_reducible rfl)
  try simp only [Act.put, List.setIfInBounds_toArray, List.set_cons_zero, List.set_cons_succ]
  refine wpAnyH_take (i := 9) (oi := _) (v := ?_) (List.getElem?_toArray.trans rfl) (by kernel_rfl) (by kernel_rfl) (by kernel_rfl) (fun _ _ _ h => h) (Or.inl ⟨by rfl, ?_⟩) (by assumption) ?_
  rotate_left
  ·(intro w9 hSw; (try dsimp only at hSw); go_simp; try with_reducible rfl)
  try simp only [Act.put, List.setIfInBounds_toArray, List.set_cons_zero, List.set_cons_succ]
  refine wpAnyH_done (by kernel_rfl) ?_ _
  have HKT := Lib.hid (show Kept Nil W7 w10 from (by repeat (first | exact kzr _ _ | assumption | refine kzd ?_ | refine kzn ?_ _ | refine kza ?_ _ | refine kzs ?_ (by assumption))))
  have HK2T := Lib.hid (HK27.out.step HKT.out)
  have HKWT := Lib.hid (HK2.out.step HK2T.out)
  have hzT := HKT.out.size
  have HMT := Lib.hid (HHM.out.nil HK2T.out)
  have HCT := Lib.hid (HC7.out.nil HKT.out)
  have g0 := HKWT.out.cell G0.out (fun h => h)
  have g1 := HKWT.out.cell G1.out (fun h => h)
  have g2 := HKWT.out.cell G2.out (fun h => h)
  have g3 := HKWT.out.cell G3.out (fun h => h)
  have c0 := HKT.out.cell C0.out (fun h => h)
  have c1 := HKT.out.cell C1.out (fun h => h)
  have c2 := HKT.out.cell C2.out (fun h => h)
  have c3 := HKT.out.cell C3.out (fun h => h)
  have hhT : w.heap.size < w10.heap.size := by omega
  have hcT : w6.heap.size < w10.heap.size := by omega
  have hfd : ∀ (x y : Int) (w : World), (Instr.field 45 (.agg #[.int .i64 x, .int .i64 y]) 0).run Tryz.prog w = .ok (.int .i64 x) w := fun _ _ _ => by kernel_rfl
  obtain ⟨f1, hf1⟩ : ∃ r, mdCheck ⟨ver, pa, ps, pc, la, ls, lc, ea, es, ec⟩ = r := ⟨_, rfl⟩
  obtain ⟨f2, hf2⟩ : ∃ r, mdCheck ⟨cv, ca, cs, cc, cla, cls, clc, cea, ces, cec⟩ = r := ⟨_, rfl⟩
  have hiff : f1.1 = 0 ↔ f2.1 = 0 := by
   rw [← hf1, ← hf2, ← check_same HCS.out]
   exact right_canon
  have HF1 := Lib.hid hf1
  have HF2 := Lib.hid hf2
  clear hf1 hf2
  obtain ⟨qq, hq1⟩ : ∃ q, (f1.1 == 0) = q := ⟨_, rfl⟩
  have hq2 : (f2.1 == 0) = qq := by
   rw [← hq1, Bool.eq_iff_iff, beq_iff_eq, beq_iff_eq]
   exact hiff.symm
  have hqq : (qq != qq) = false := by cases qq <;> rfl
  have HQ1 := Lib.hid hq1
  clear hiff
  go_upto_region 11 with (first | (go_at_call 17; with_reducible refine (Check_h _ HMT.out HF1.out).mono ?_; rintro e w11 ⟨rfl, hk11⟩; have HK11 := Lib.hid hk11; have hz11 := hk11.size; clear g0 g1 g2 g3 c0 c1 c2 c3; have g0 := hk11.cell (HKWT.out.cell G0.out (fun h => h)) (fun h => h); have c0 := hk11.cell (HKT.out.cell C0.out (fun h => h)) (fun h => h); have c1 := hk11.cell (HKT.out.cell C1.out (fun h => h)) (fun h => h); have c2 := hk11.cell (HKT.out.cell C2.out (fun h => h)) (fun h => h); have c3 := hk11.cell (HKT.out.cell C3.out (fun h => h)) (fun h => h); have hc11 : w6.heap.size < w11.heap.size := (by omega); clear hk11) | (go_at_call 17; with_reducible refine (Check_h _ (HCT.out.nil HK11.out) HF2.out).mono ?_; rintro e w12 ⟨rfl, hk12⟩; have HK12 := Lib.hid hk12; have hz12 := hk12.size; clear g0 c0 c1 c2 c3 hk12))
  have HK12T := Lib.hid (HK11.out.step HK12.out)
  have HKW12 := Lib.hid (HKWT.out.step HK12T.out)
  have g0 := HKW12.out.cell G0.out (fun h => h)
  have hg12 : w.heap.size < w12.heap.size := by omega
  clear hq2 hqq
  go_upto_region 12 with fail
  clear g0
  obtain ⟨W13, hW⟩ : ∃ W, (w12.alloc (.cells #[.int .i64 ver, .slice none 0 0, .slice none 0 0, .slice none 0 0] 26)) = W := ⟨_, rfl⟩
  have hk : Kept Nil w12 W13 := by rw [← hW]; exact ((Kept.refl Nil w12).alloc _)
  have hsz : W13.heap.size = w12.heap.size + 1 := by rw [← hW]; simp
  have hb : W13.heap[w12.heap.size]? = some (.cells #[.int .i64 ver, .slice none 0 0, .slice none 0 0, .slice none 0 0] 26 (0, 0)) := by
   rw [← hW]
   have h9 := heap_new w12 (.cells #[.int .i64 ver, .slice none 0 0, .slice none 0 0, .slice none 0 0] 26)
   exact h9
  have B0 := Lib.hid (show W13.cell? ⟨w12.heap.size, 0, none⟩ = some (.int .i64 ver) by rw [cell_of hb]; rfl)
  have B1 := Lib.hid (show W13.cell? ⟨w12.heap.size, 1, none⟩ = some (.slice none 0 0) by rw [cell_of hb]; rfl)
  have B2 := Lib.hid (show W13.cell? ⟨w12.heap.size, 2, none⟩ = some (.slice none 0 0) by rw [cell_of hb]; rfl)
  have B3 := Lib.hid (show W13.cell? ⟨w12.heap.size, 3, none⟩ = some (.slice none 0 0) by rw [cell_of hb]; rfl)
  have BB := Lib.hid hb
  have hzb : w12.heap.size < W13.heap.size := by omega
  clear hb
  have HW13 := Lib.hid hW
  have HK13 := Lib.hid hk
  have HSZ13 := Lib.hid hsz
  clear hW hk hsz
  rw [HW13.out]
  have HKW13 := Lib.hid (HKW12.out.step HK13.out)
  have HM13 := Lib.hid (HMT.out.nil (HK12T.out.step HK13.out))
  have HC13 := Lib.hid (HCT.out.nil (HK12T.out.step HK13.out))
  have hz13 := HK13.out.size
  have HBX := Lib.hid BB.out
  obtain ⟨j0, hj0, hy00, hy01, hy02⟩ := info_parts infoCP
  have hn0 : ps.length ≤ 100000 := HHM.out.s.p
  have hwn : IntKind.i64.wrap ((ps.length : Int) - 1) = (ps.length : Int) - 1 := by rw [IntKind.wrap_i64]; omega
  have gg := HKW13.out.cell G1.out (fun h => h)
  have hgz : w.heap.size < W13.heap.size := World.block_lt_of_cell? _ _ gg
  go_wp2_with fail
  clear gg hwn
  have hbz0 : w12.heap.size < W13.heap.size := (Array.getElem?_eq_some_iff.1 HBX.out).1
  go_loopw [6] (fun i wr => ∃ (k : Nat) (A : Option Addr) (c : Nat), k ≤ ps.length ∧ i = .int .i64 ((k : Int) - 1) ∧ wr.heap[w12.heap.size]? = some (.cells #[.int .i64 ver, .slice A (ps.length - k) c, .slice none 0 0, .slice none 0 0] 26 (0, 0)) ∧ wr.ownsRow W13.heap.size 34 4 (.slice A (ps.length - k) c) (ps.length - k) ((ps.drop k).reverse.flatMap prCells) ∧ Kept (fun i => i = w12.heap.size) W13 wr) (fun i _ => (intOf i + 1).toNat)
  case atStart => exact ⟨ps.length, none, 0, Nat.le_refl _, rfl, by rw [Nat.sub_self]; exact HBX.out, by rw [Nat.sub_self, List.drop_length]; exact World.ownsRow_nil _ _ _ _, Kept.refl _ _⟩
  case round =>
   obtain ⟨wr0, hren⟩ : ∃ x, x = wr := ⟨_, rfl⟩
   subst hren
   obtain ⟨k, qA0, qc0, hk, rfl, hbox, how, hK⟩ := hrel
   have HBO0 := Lib.hid hbox
   have HOW0 := Lib.hid how
   have HKR0 := Lib.hid hK
   have hzwr0 := hK.size
   have hkg : Kept Nil W1 wr0 := HKW13.out.trans hK (fun i h => .inr (by (have h9 : i = w12.heap.size := h); (have := HKW12.out.size); omega))
   have HKG0 := Lib.hid hkg
   have HKWR := Lib.hid (HK.out.step hkg)
   have hbz : w12.heap.size < wr0.heap.size := (Array.getElem?_eq_some_iff.1 hbox).1
   have hgzr : w.heap.size < wr0.heap.size := by omega
   clear hbox how hK hkg
   cases k with
   | succ j =>
    have e0 : ((j + 1 : Nat) : Int) - 1 = (j : Int) := by omega
    rw [e0]
    clear e0
    obtain ⟨x, ex⟩ : ∃ x, ps[j]? = some x := ⟨_, List.getElem?_eq_getElem (by omega)⟩
    obtain ⟨bx, off, e1, d0, d1, d2, d3⟩ := HM.out.p.at ex
    simp only at e1
    have hbxz : bx < w.heap.size := World.block_lt_of_cell? _ _ d0
    have hjn : j < ps.length := by omega
    have hji : (j : Int) < (ps.length : Int) := by omega
    have hge : decide ((0 : Int) ≤ (j : Int)) = true := decide_eq_true (by omega)
    have hw : IntKind.i64.wrap ((j : Int) - 1) = (j : Int) - 1 := by rw [IntKind.wrap_i64]; omega
    have EX := Lib.hid ex
    have D0 := Lib.hid d0
    have D1 := Lib.hid d1
    have D2 := Lib.hid d2
    have D3 := Lib.hid d3
    have GF := Lib.hid (show W1.cell? ⟨w.heap.size, 1, none⟩ = some (.slice (some ⟨bx, off, none⟩) ps.length pc) by rw [← e1]; exact G1.out)
    have BF := Lib.hid (show wr0.cell? ⟨w12.heap.size, 1, none⟩ = some (.slice qA0 (ps.length - (j + 1)) qc0) by rw [cell_of HBO0.out]; rfl)
    clear ex e1 d0 d1 d2 d3
    go_upto_region 15 with fail
    have C9_0 := Lib.hid (show wr0.cell? ⟨w.heap.size, 1, none⟩ = some (.slice (some ⟨bx, off, none⟩) ps.length pc) from HKG0.out.cell GF.out (fun h => h))
    have C9_1 := Lib.hid (show wr0.cell? ⟨bx, off + j * 4, none⟩ = some (.string x.name) from HKWR.out.cell D0.out (fun h => h))
    have C9_2 := Lib.hid (show wr0.cell? ⟨bx, off + j * 4 + 1, none⟩ = some (.int .i64 x.weight) from HKWR.out.cell D1.out (fun h => h))
    have C9_3 := Lib.hid (show wr0.cell? ⟨bx, off + j * 4 + 2, none⟩ = some (.slice x.va x.vs.length x.vc) from HKWR.out.cell D2.out (fun h => h))
    have C9_4 := Lib.hid (show wr0.cell? ⟨bx, off + j * 4 + 3, none⟩ = some (.slice x.sa x.ss.length x.sc) from HKWR.out.cell D3.out (fun h => h))
    refine wp_region_held_drew (S := fun w' => w'.cell? ⟨w.heap.size, 1, none⟩ = some (.slice (some ⟨bx, off, none⟩) ps.length pc) ∧ w'.cell? ⟨bx, off + j * 4, none⟩ = some (.string x.name) ∧ w'.cell? ⟨bx, off + j * 4 + 1, none⟩ = some (.int .i64 x.weight) ∧ w'.cell? ⟨bx, off + j * 4 + 2, none⟩ = some (.slice x.va x.vs.length x.vc) ∧ w'.cell? ⟨bx, off + j * 4 + 3, none⟩ = some (.slice x.sa x.ss.length x.sc)) (by kernel_rfl) ⟨C9_0.out, C9_1.out, C9_2.out, C9_3.out, C9_4.out⟩ (fun hHeld => ?_)
    refine wpAnyH_take (i := 0) (oi := _) (v := ?_) (List.getElem?_toArray.trans rfl) (by kernel_rfl) (by kernel_rfl) (by kernel_rfl) (fun _ _ _ h => h) (Or.inl ⟨by rfl, ?_⟩) (by assumption) ?_
    rotate_left
    ·(intro w9 hSw; (try dsimp only at hSw); go_simp; try with_reducible rfl)
    try simp only [Act.put, List.setIfInBounds_toArray, List.set_cons_zero, List.set_cons_succ]
    refine wpAnyH_take (i := 2) (oi := _) (v := ?_) (List.getElem?_toArray.trans rfl) (by kernel_rfl) (by kernel_rfl) (by kernel_rfl) (fun _ _ _ h => h) (Or.inl ⟨by rfl, ?_⟩) (by assumption) ?_
    rotate_left
    ·(intro w9 hSw; (try dsimp only at hSw); go_simp; try with_reducible rfl)
    try simp only [Act.put, List.setIfInBounds_toArray, List.set_cons_zero, List.set_cons_succ]
    refine wpAnyH_take (i := 3) (oi := _) (v := ?_) (List.getElem?_toArray.trans rfl) (by kernel_rfl) (by kernel_rfl) (by kernel_rfl) (fun _ _ _ h => h) (Or.inl ⟨by rfl, ?_⟩) (by assumption) ?_
    rotate_left
    ·(intro w9 hSw; (try dsimp only at hSw); go_simp; try with_reducible rfl)
    try simp only [Act.put, List.setIfInBounds_toArray, List.set_cons_zero, List.set_cons_succ]
    refine wpAnyH_take (i := 4) (oi := _) (v := ?_) (List.getElem?_toArray.trans rfl) (by kernel_rfl) (by kernel_rfl) (by kernel_rfl) (fun _ _ _ h => h) (Or.inl ⟨by rfl, ?_⟩) (by assumption) ?_
    rotate_left
    ·(intro w9 hSw; (try dsimp only at hSw); go_simp; try with_reducible rfl)
    try simp only [Act.put, List.setIfInBounds_toArray, List.set_cons_zero, List.set_cons_succ]
    refine wpAnyH_take (i := 5) (oi := _) (v := ?_) (List.getElem?_toArray.trans rfl) (by kernel_rfl) (by kernel_rfl) (by kernel_rfl) (fun _ _ _ h => h) (Or.inl ⟨by rfl, ?_⟩) (by assumption) ?_
    rotate_left
    ·(intro w9 hSw; (try dsimp only at hSw); go_simp; try with_reducible rfl)
    try simp only [Act.put, List.setIfInBounds_toArray, List.set_cons_zero, List.set_cons_succ]
    refine wpAnyH_take (i := 6) (oi := _) (v := ?_) (List.getElem?_toArray.trans rfl) (by kernel_rfl) (by kernel_rfl) (by kernel_rfl) (fun _ _ _ h => h) (Or.inl ⟨by rfl, ?_⟩) (by assumption) ?_
    rotate_left
    ·(intro w9 hSw; (try dsimp only at hSw); go_simp; try with_reducible rfl)
    try simp only [Act.put, List.setIfInBounds_toArray, List.set_cons_zero, List.set_cons_succ]
    have bf := BF.out
    refine wpAnyH_ready (rs := [1, 7]) (by kernel_rfl) (by simp) ?_
    refine AllReadyH.cons (o := _) (List.getElem?_toArray.trans rfl) (fun K hK => ?_) (AllReadyH.cons (o := _) (List.getElem?_toArray.trans rfl) (fun K hK => ?_) (AllReadyH.nil))
    ·skip
     go_simp
     refine hK.out _ _ ((fun (hx : Kept Nil wr0 _) => ⟨hx.cell C9_0.out (fun h => h), hx.cell C9_1.out (fun h => h), hx.cell C9_2.out (fun h => h), hx.cell C9_3.out (fun h => h), hx.cell C9_4.out (fun h => h)⟩) (by repeat (first | exact kzr _ _ | assumption | refine kzd ?_ | refine kzn ?_ _ | refine kza ?_ _ | refine kzs ?_ (by assumption)))) (fun hHeld => ?_)
     clear hK K
     try simp only [Act.put, List.setIfInBounds_toArray, List.set_cons_zero, List.set_cons_succ]
     refine wpAnyH_ready (rs := [7]) (by kernel_rfl) (by simp) ?_
     refine AllReadyH.cons (o := _) (List.getElem?_toArray.trans rfl) (fun K hK => ?_) (AllReadyH.nil)
     go_simp
     refine hK.out _ _ ((fun (hx : Kept Nil wr0 _) => ⟨hx.cell C9_0.out (fun h => h), hx.cell C9_1.out (fun h => h), hx.cell C9_2.out (fun h => h), hx.cell C9_3.out (fun h => h), hx.cell C9_4.out (fun h => h)⟩) (by repeat (first | exact kzr _ _ | assumption | refine kzd ?_ | refine kzn ?_ _ | refine kza ?_ _ | refine kzs ?_ (by assumption)))) (fun hHeld => ?_)
     clear hK K
     try simp only [Act.put, List.setIfInBounds_toArray, List.set_cons_zero, List.set_cons_succ]
     refine wpAnyH_ready (rs := [8]) (by kernel_rfl) (by simp) ?_
     refine AllReadyH.cons (o := _) (List.getElem?_toArray.trans rfl) (fun K hK => ?_) (AllReadyH.nil)
     refine step_append_src rfl (.tmp 48) (.tmp 54) 22 rfl W13.heap.size 34 j0 (.agg #[.string ⟨#[]⟩, .int .i64 0, .slice none 0 0, .slice none 0 0]) 4 72 Tryz.underlying22 hj0 hy00 hy01 hy02 rfl (by decide) (.slice qA0 (ps.length - (j + 1)) qc0) (ps.length - (j + 1)) ((ps.drop (j + 1)).reverse.flatMap prCells) (.slice (some ⟨wr0.heap.size, 0, none⟩) 1 1) 1 [.string x.name, .int .i64 x.weight, .slice x.va x.vs.length x.vc, .slice x.sa x.ss.length x.sc] rfl rfl ?_ ?_ (by simp [Value.oneCell']) (by unfold maxLen; omega) (by omega) ?_ ?_
     ·exact (show Kept Nil wr0 _ from (by repeat (first | exact kzr _ _ | assumption | refine kzd ?_ | refine kzn ?_ _ | refine kza ?_ _ | refine kzs ?_ (by assumption)))).own HOW0.out (fun _ _ h => h)
     ·exact .inr ⟨_, _, rfl, rfl, cells_new _ _ _⟩
     ·have := (show Kept Nil wr0 _ from (by repeat (first | exact kzr _ _ | assumption | refine kzd ?_ | refine kzn ?_ _ | refine kza ?_ _ | refine kzs ?_ (by assumption)))).size; first | omega | (simp only [World.size_alloc, World.size_drew] at *; omega)
     intro v9 w9 hown9 hgrow9
     have hcnt : ps.length - (j + 1) + 1 = ps.length - j := by omega
     rw [hcnt] at hown9
     obtain ⟨A9, c9, rfl⟩ := own_slice hown9
     have hro : (ps.drop (j + 1)).reverse.flatMap prCells ++ [.string x.name, .int .i64 x.weight, .slice x.va x.vs.length x.vc, .slice x.sa x.ss.length x.sc] = (ps.drop j).reverse.flatMap prCells := by rw [← drop_rev EX.out, List.flatMap_append]; simp [prCells]
     rw [hro] at hown9
     have hk9 : Kept (fun i => (Value.slice qA0 (ps.length - (j + 1)) qc0).ownBlock = some i) wr0 w9 := (show Kept (fun i => (Value.slice qA0 (ps.length - (j + 1)) qc0).ownBlock = some i) wr0 _ from by repeat (first | exact Kept.refl _ _ | refine Kept.drew ?_ | refine Kept.alloc ?_ _)).grown hgrow9 (fun j e => .inl e)
     have hkg9 : Kept Nil W1 w9 := HKG0.out.trans hk9 (fun i h => .inr (by have := (HOW0.out.lt i h).1; have := HKW13.out.size; omega))
     have hkw9 : Kept Nil w w9 := HK.out.step hkg9
     have hb9 := hk9.heap HBO0.out (fun h => by have := (HOW0.out.lt _ h).1; omega)
     have b9 : w9.cell? ⟨w12.heap.size, 1, none⟩ = some (.slice qA0 (ps.length - (j + 1)) qc0) := by rw [cell_of hb9]; rfl
     have bg9 : w9.frozen? ⟨w12.heap.size, 1, none⟩ = false := frozen_of hb9 1
     have hz9 := hk9.size
     have hbz9 : w12.heap.size < w9.heap.size := by omega
     have HOWN9 := Lib.hid hown9
     have HK9 := Lib.hid hk9
     have HB9 := Lib.hid hb9
     have HKG9 := Lib.hid hkg9
     have HKW9 := Lib.hid hkw9
     clear hown9 hgrow9 hk9 hkg9 hkw9 hb9 hro hcnt
     refine hK.out _ _ ⟨HKG9.out.cell GF.out (fun h => h), HKW9.out.cell D0.out (fun h => h), HKW9.out.cell D1.out (fun h => h), HKW9.out.cell D2.out (fun h => h), HKW9.out.cell D3.out (fun h => h)⟩ (fun hHeld => ?_)
     clear hK K
     try simp only [Act.put, List.setIfInBounds_toArray, List.set_cons_zero, List.set_cons_succ]
     refine wpAnyH_take (i := 9) (oi := _) (v := ?_) (List.getElem?_toArray.trans rfl) (by kernel_rfl) (by kernel_rfl) (by kernel_rfl) (fun _ _ _ h => h) (Or.inl ⟨by rfl, ?_⟩) (by assumption) ?_
     rotate_left
     ·(intro w9 hSw; (try dsimp only at hSw); go_simp; try with_reducible rfl)
     try simp only [Act.put, List.setIfInBounds_toArray, List.set_cons_zero, List.set_cons_succ]
     refine wpAnyH_ready (rs := [10]) (by kernel_rfl) (by simp) ?_
     refine AllReadyH.cons (o := _) (List.getElem?_toArray.trans rfl) (fun K hK => ?_) (AllReadyH.nil)
     go_simp
     obtain ⟨W10, hW10⟩ : ∃ W10, w9.setCell ⟨w12.heap.size, 1, none⟩ (.slice A9 (ps.length - j) c9) = W10 := ⟨_, rfl⟩
     simp only [hW10]
     have hk10 : Kept (fun i => i = w12.heap.size) w9 W10 := by rw [← hW10]; exact (Kept.refl (fun i => i = w12.heap.size) w9).setCell (.inl rfl) _
     have hb10 : W10.heap[w12.heap.size]? = some (.cells #[.int .i64 ver, .slice A9 (ps.length - j) c9, .slice none 0 0, .slice none 0 0] 26 (0, 0)) := by rw [← hW10, heap_set HB9.out 1 _]; rfl
     have hkg10 : Kept Nil W1 W10 := HKG9.out.trans hk10 (fun i h => .inr (by (have h9 : i = w12.heap.size := h); (have := HKW12.out.size); omega))
     have hkw10 : Kept Nil w W10 := HK.out.step hkg10
     have hown10 := hk10.own HOWN9.out (fun i h => by have h9 := (HOWN9.out.lt i h).1; omega)
     have hkr10 : Kept (fun i => i = w12.heap.size) W13 W10 := (HKR0.out.trans HK9.out (fun i h => .inr (HOW0.out.lt i h).1)).trans hk10 (fun i h => .inl h)
     refine hK.out _ _ ⟨hkg10.cell GF.out (fun h => h), hkw10.cell D0.out (fun h => h), hkw10.cell D1.out (fun h => h), hkw10.cell D2.out (fun h => h), hkw10.cell D3.out (fun h => h)⟩ (fun hHeld => ?_)
     clear hK K b9 bg9 hW10
     try simp only [Act.put, List.setIfInBounds_toArray, List.set_cons_zero, List.set_cons_succ]
     refine wpAnyH_done (by kernel_rfl) ?_ _
     have HREL := Lib.hid (show W10.heap[w12.heap.size]? = some (.cells #[.int .i64 ver, .slice A9 (ps.length - j) c9, .slice none 0 0, .slice none 0 0] 26 (0, 0)) ∧ W10.ownsRow W13.heap.size 34 4 (.slice A9 (ps.length - j) c9) (ps.length - j) ((ps.drop j).reverse.flatMap prCells) ∧ Kept (fun i => i = w12.heap.size) W13 W10 from ⟨hb10, hown10, hkr10⟩)
     clear hb10 hown10 hkr10 hkg10 hkw10 hk10 bf
     go_wp2_with fail
     go_round
     refine ⟨j, A9, c9, by omega, rfl, HREL.out⟩
     case measure => (simp [intOf] <;> omega)
    ·skip
     go_simp
     refine hK.out _ _ ((fun (hx : Kept Nil wr0 _) => ⟨hx.cell C9_0.out (fun h => h), hx.cell C9_1.out (fun h => h), hx.cell C9_2.out (fun h => h), hx.cell C9_3.out (fun h => h), hx.cell C9_4.out (fun h => h)⟩) (by repeat (first | exact kzr _ _ | assumption | refine kzd ?_ | refine kzn ?_ _ | refine kza ?_ _ | refine kzs ?_ (by assumption)))) (fun hHeld => ?_)
     clear hK K
     try simp only [Act.put, List.setIfInBounds_toArray, List.set_cons_zero, List.set_cons_succ]
     refine wpAnyH_ready (rs := [1]) (by kernel_rfl) (by simp) ?_
     refine AllReadyH.cons (o := _) (List.getElem?_toArray.trans rfl) (fun K hK => ?_) (AllReadyH.nil)
     go_simp
     refine hK.out _ _ ((fun (hx : Kept Nil wr0 _) => ⟨hx.cell C9_0.out (fun h => h), hx.cell C9_1.out (fun h => h), hx.cell C9_2.out (fun h => h), hx.cell C9_3.out (fun h => h), hx.cell C9_4.out (fun h => h)⟩) (by repeat (first | exact kzr _ _ | assumption | refine kzd ?_ | refine kzn ?_ _ | refine kza ?_ _ | refine kzs ?_ (by assumption)))) (fun hHeld => ?_)
     clear hK K
     try simp only [Act.put, List.setIfInBounds_toArray, List.set_cons_zero, List.set_cons_succ]
     refine wpAnyH_ready (rs := [8]) (by kernel_rfl) (by simp) ?_
     refine AllReadyH.cons (o := _) (List.getElem?_toArray.trans rfl) (fun K hK => ?_) (AllReadyH.nil)
     refine step_append_src rfl (.tmp 48) (.tmp 54) 22 rfl W13.heap.size 34 j0 (.agg #[.string ⟨#[]⟩, .int .i64 0, .slice none 0 0, .slice none 0 0]) 4 72 Tryz.underlying22 hj0 hy00 hy01 hy02 rfl (by decide) (.slice qA0 (ps.length - (j + 1)) qc0) (ps.length - (j + 1)) ((ps.drop (j + 1)).reverse.flatMap prCells) (.slice (some ⟨wr0.heap.size, 0, none⟩) 1 1) 1 [.string x.name, .int .i64 x.weight, .slice x.va x.vs.length x.vc, .slice x.sa x.ss.length x.sc] rfl rfl ?_ ?_ (by simp [Value.oneCell']) (by unfold maxLen; omega) (by omega) ?_ ?_
     ·exact (show Kept Nil wr0 _ from (by repeat (first | exact kzr _ _ | assumption | refine kzd ?_ | refine kzn ?_ _ | refine kza ?_ _ | refine kzs ?_ (by assumption)))).own HOW0.out (fun _ _ h => h)
     ·exact .inr ⟨_, _, rfl, rfl, cells_new _ _ _⟩
     ·have := (show Kept Nil wr0 _ from (by repeat (first | exact kzr _ _ | assumption | refine kzd ?_ | refine kzn ?_ _ | refine kza ?_ _ | refine kzs ?_ (by assumption)))).size; first | omega | (simp only [World.size_alloc, World.size_drew] at *; omega)
     intro v9 w9 hown9 hgrow9
     have hcnt : ps.length - (j + 1) + 1 = ps.length - j := by omega
     rw [hcnt] at hown9
     obtain ⟨A9, c9, rfl⟩ := own_slice hown9
     have hro : (ps.drop (j + 1)).reverse.flatMap prCells ++ [.string x.name, .int .i64 x.weight, .slice x.va x.vs.length x.vc, .slice x.sa x.ss.length x.sc] = (ps.drop j).reverse.flatMap prCells := by rw [← drop_rev EX.out, List.flatMap_append]; simp [prCells]
     rw [hro] at hown9
     have hk9 : Kept (fun i => (Value.slice qA0 (ps.length - (j + 1)) qc0).ownBlock = some i) wr0 w9 := (show Kept (fun i => (Value.slice qA0 (ps.length - (j + 1)) qc0).ownBlock = some i) wr0 _ from by repeat (first | exact Kept.refl _ _ | refine Kept.drew ?_ | refine Kept.alloc ?_ _)).grown hgrow9 (fun j e => .inl e)
     have hkg9 : Kept Nil W1 w9 := HKG0.out.trans hk9 (fun i h => .inr (by have := (HOW0.out.lt i h).1; have := HKW13.out.size; omega))
     have hkw9 : Kept Nil w w9 := HK.out.step hkg9
     have hb9 := hk9.heap HBO0.out (fun h => by have := (HOW0.out.lt _ h).1; omega)
     have b9 : w9.cell? ⟨w12.heap.size, 1, none⟩ = some (.slice qA0 (ps.length - (j + 1)) qc0) := by rw [cell_of hb9]; rfl
     have bg9 : w9.frozen? ⟨w12.heap.size, 1, none⟩ = false := frozen_of hb9 1
     have hz9 := hk9.size
     have hbz9 : w12.heap.size < w9.heap.size := by omega
     have HOWN9 := Lib.hid hown9
     have HK9 := Lib.hid hk9
     have HB9 := Lib.hid hb9
     have HKG9 := Lib.hid hkg9
     have HKW9 := Lib.hid hkw9
     clear hown9 hgrow9 hk9 hkg9 hkw9 hb9 hro hcnt
     refine hK.out _ _ ⟨HKG9.out.cell GF.out (fun h => h), HKW9.out.cell D0.out (fun h => h), HKW9.out.cell D1.out (fun h => h), HKW9.out.cell D2.out (fun h => h), HKW9.out.cell D3.out (fun h => h)⟩ (fun hHeld => ?_)
     clear hK K
     try simp only [Act.put, List.setIfInBounds_toArray, List.set_cons_zero, List.set_cons_succ]
     refine wpAnyH_take (i := 9) (oi := _) (v := ?_) (List.getElem?_toArray.trans rfl) (by kernel_rfl) (by kernel_rfl) (by kernel_rfl) (fun _ _ _ h => h) (Or.inl ⟨by rfl, ?_⟩) (by assumption) ?_
     rotate_left
     ·(intro w9 hSw; (try dsimp only at hSw); go_simp; try with_reducible rfl)
     try simp only [Act.put, List.setIfInBounds_toArray, List.set_cons_zero, List.set_cons_succ]
     refine wpAnyH_ready (rs := [10]) (by kernel_rfl) (by simp) ?_
     refine AllReadyH.cons (o := _) (List.getElem?_toArray.trans rfl) (fun K hK => ?_) (AllReadyH.nil)
     go_simp
     obtain ⟨W10, hW10⟩ : ∃ W10, w9.setCell ⟨w12.heap.size, 1, none⟩ (.slice A9 (ps.length - j) c9) = W10 := ⟨_, rfl⟩
     simp only [hW10]
     have hk10 : Kept (fun i => i = w12.heap.size) w9 W10 := by rw [← hW10]; exact (Kept.refl (fun i => i = w12.heap.size) w9).setCell (.inl rfl) _
     have hb10 : W10.heap[w12.heap.size]? = some (.cells #[.int .i64 ver, .slice A9 (ps.length - j) c9, .slice none 0 0, .slice none 0 0] 26 (0, 0)) := by rw [← hW10, heap_set HB9.out 1 _]; rfl
     have hkg10 : Kept Nil W1 W10 := HKG9.out.trans hk10 (fun i h => .inr (by (have h9 : i = w12.heap.size := h); (have := HKW12.out.size); omega))
     have hkw10 : Kept Nil w W10 := HK.out.step hkg10
     have hown10 := hk10.own HOWN9.out (fun i h => by have h9 := (HOWN9.out.lt i h).1; omega)
     have hkr10 : Kept (fun i => i = w12.heap.size) W13 W10 := (HKR0.out.trans HK9.out (fun i h => .inr (HOW0.out.lt i h).1)).trans hk10 (fun i h => .inl h)
     refine hK.out _ _ ⟨hkg10.cell GF.out (fun h => h), hkw10.cell D0.out (fun h => h), hkw10.cell D1.out (fun h => h), hkw10.cell D2.out (fun h => h), hkw10.cell D3.out (fun h => h)⟩ (fun hHeld => ?_)
     clear hK K b9 bg9 hW10
     try simp only [Act.put, List.setIfInBounds_toArray, List.set_cons_zero, List.set_cons_succ]
     refine wpAnyH_done (by kernel_rfl) ?_ _
     have HREL := Lib.hid (show W10.heap[w12.heap.size]? = some (.cells #[.int .i64 ver, .slice A9 (ps.length - j) c9, .slice none 0 0, .slice none 0 0] 26 (0, 0)) ∧ W10.ownsRow W13.heap.size 34 4 (.slice A9 (ps.length - j) c9) (ps.length - j) ((ps.drop j).reverse.flatMap prCells) ∧ Kept (fun i => i = w12.heap.size) W13 W10 from ⟨hb10, hown10, hkr10⟩)
     clear hb10 hown10 hkr10 hkg10 hkw10 hk10 bf
     go_wp2_with fail
     go_round
     refine ⟨j, A9, c9, by omega, rfl, HREL.out⟩
     case measure => (simp [intOf] <;> omega)
   | zero =>
    have e0 : ((0 : Nat) : Int) - 1 = -1 := by omega
    rw [e0]
    clear e0
    have hge : decide ((0 : Int) ≤ -1) = false := by decide
    replace HBO0 := Lib.hid (show wr0.heap[w12.heap.size]? = some (.cells #[.int .i64 ver, .slice qA0 (ps.length) qc0, .slice none 0 0, .slice none 0 0] 26 (0, 0)) from HBO0.out)
    have HBX1 := HBO0
    have hhw := HOW0.out
    simp only [Nat.sub_zero, List.drop_zero] at hhw
    replace HOW0 := Lib.hid hhw
    clear hhw
    go_upto_region 16 with fail
    clear hge hk hgz hbz0
    obtain ⟨j1, hj1, hy10, hy11, hy12⟩ := info_parts infoCL
    have hn1 : ls.length ≤ 100000 := HHM.out.s.l
    have hwn : IntKind.i64.wrap ((ls.length : Int) - 1) = (ls.length : Int) - 1 := by rw [IntKind.wrap_i64]; omega
    have gg := HKG0.out.cell G2.out (fun h => h)
    have hgz : w.heap.size < wr0.heap.size := World.block_lt_of_cell? _ _ gg
    go_wp2_with fail
    clear gg hwn
    have hbz0 : w12.heap.size < wr0.heap.size := (Array.getElem?_eq_some_iff.1 HBX1.out).1
    go_loopw [7] (fun i wr => ∃ (k : Nat) (A : Option Addr) (c : Nat), k ≤ ls.length ∧ i = .int .i64 ((k : Int) - 1) ∧ wr.heap[w12.heap.size]? = some (.cells #[.int .i64 ver, .slice qA0 ps.length qc0, .slice A (ls.length - k) c, .slice none 0 0] 26 (0, 0)) ∧ wr.ownsRow wr0.heap.size 42 5 (.slice A (ls.length - k) c) (ls.length - k) ((ls.drop k).reverse.flatMap lkCells) ∧ Kept (fun i => i = w12.heap.size) wr0 wr) (fun i _ => (intOf i + 1).toNat)
    case atStart => exact ⟨ls.length, none, 0, Nat.le_refl _, rfl, by rw [Nat.sub_self]; exact HBX1.out, by rw [Nat.sub_self, List.drop_length]; exact World.ownsRow_nil _ _ _ _, Kept.refl _ _⟩
    case round =>
     obtain ⟨wr1, hren⟩ : ∃ x, x = wr := ⟨_, rfl⟩
     subst hren
     obtain ⟨k, qA1, qc1, hk, rfl, hbox, how, hK⟩ := hrel
     have HBO1 := Lib.hid hbox
     have HOW1 := Lib.hid how
     have HKR1 := Lib.hid hK
     have hzwr1 := hK.size
     have hkg : Kept Nil W1 wr1 := HKG0.out.trans hK (fun i h => .inr (by (have h9 : i = w12.heap.size := h); (have := HKW12.out.size); omega))
     have HKG1 := Lib.hid hkg
     have HKWR := Lib.hid (HK.out.step hkg)
     have hbz : w12.heap.size < wr1.heap.size := (Array.getElem?_eq_some_iff.1 hbox).1
     have hgzr : w.heap.size < wr1.heap.size := by omega
     clear hbox how hK hkg
     cases k with
     | succ j =>
      have e0 : ((j + 1 : Nat) : Int) - 1 = (j : Int) := by omega
      rw [e0]
      clear e0
      obtain ⟨x, ex⟩ : ∃ x, ls[j]? = some x := ⟨_, List.getElem?_eq_getElem (by omega)⟩
      obtain ⟨bx, off, e1, d0, d1, d2, d3, d4⟩ := HM.out.l.at ex
      simp only at e1
      have hbxz : bx < w.heap.size := World.block_lt_of_cell? _ _ d0
      have hjn : j < ls.length := by omega
      have hji : (j : Int) < (ls.length : Int) := by omega
      have hge : decide ((0 : Int) ≤ (j : Int)) = true := decide_eq_true (by omega)
      have hw : IntKind.i64.wrap ((j : Int) - 1) = (j : Int) - 1 := by rw [IntKind.wrap_i64]; omega
      have EX := Lib.hid ex
      have D0 := Lib.hid d0
      have D1 := Lib.hid d1
      have D2 := Lib.hid d2
      have D3 := Lib.hid d3
      have D4 := Lib.hid d4
      have GF := Lib.hid (show W1.cell? ⟨w.heap.size, 2, none⟩ = some (.slice (some ⟨bx, off, none⟩) ls.length lc) by rw [← e1]; exact G2.out)
      have BF := Lib.hid (show wr1.cell? ⟨w12.heap.size, 2, none⟩ = some (.slice qA1 (ls.length - (j + 1)) qc1) by rw [cell_of HBO1.out]; rfl)
      clear ex e1 d0 d1 d2 d3 d4
      go_upto_region 19 with fail
      have C9_0 := Lib.hid (show wr1.cell? ⟨w.heap.size, 2, none⟩ = some (.slice (some ⟨bx, off, none⟩) ls.length lc) from HKG1.out.cell GF.out (fun h => h))
      have C9_1 := Lib.hid (show wr1.cell? ⟨bx, off + j * 5, none⟩ = some (.string x.name) from HKWR.out.cell D0.out (fun h => h))
      have C9_2 := Lib.hid (show wr1.cell? ⟨bx, off + j * 5 + 1, none⟩ = some (.string x.src) from HKWR.out.cell D1.out (fun h => h))
      have C9_3 := Lib.hid (show wr1.cell? ⟨bx, off + j * 5 + 2, none⟩ = some (.string x.dst) from HKWR.out.cell D2.out (fun h => h))
      have C9_4 := Lib.hid (show wr1.cell? ⟨bx, off + j * 5 + 3, none⟩ = some (.int .i64 x.delay) from HKWR.out.cell D3.out (fun h => h))
      have C9_5 := Lib.hid (show wr1.cell? ⟨bx, off + j * 5 + 4, none⟩ = some (.int .i64 x.weight) from HKWR.out.cell D4.out (fun h => h))
      refine wp_region_held_drew (S := fun w' => w'.cell? ⟨w.heap.size, 2, none⟩ = some (.slice (some ⟨bx, off, none⟩) ls.length lc) ∧ w'.cell? ⟨bx, off + j * 5, none⟩ = some (.string x.name) ∧ w'.cell? ⟨bx, off + j * 5 + 1, none⟩ = some (.string x.src) ∧ w'.cell? ⟨bx, off + j * 5 + 2, none⟩ = some (.string x.dst) ∧ w'.cell? ⟨bx, off + j * 5 + 3, none⟩ = some (.int .i64 x.delay) ∧ w'.cell? ⟨bx, off + j * 5 + 4, none⟩ = some (.int .i64 x.weight)) (by kernel_rfl) ⟨C9_0.out, C9_1.out, C9_2.out, C9_3.out, C9_4.out, C9_5.out⟩ (fun hHeld => ?_)
      refine wpAnyH_take (i := 0) (oi := _) (v := ?_) (List.getElem?_toArray.trans rfl) (by kernel_rfl) (by kernel_rfl) (by kernel_rfl) (fun _ _ _ h => h) (Or.inl ⟨by rfl, ?_⟩) (by assumption) ?_
      rotate_left
      ·(intro w9 hSw; (try dsimp only at hSw); go_simp; try with_reducible rfl)
      try simp only [Act.put, List.setIfInBounds_toArray, List.set_cons_zero, List.set_cons_succ]
      refine wpAnyH_take (i := 2) (oi := _) (v := ?_) (List.getElem?_toArray.trans rfl) (by kernel_rfl) (by kernel_rfl) (by kernel_rfl) (fun _ _ _ h => h) (Or.inl ⟨by rfl, ?_⟩) (by assumption) ?_
      rotate_left
      ·(intro w9 hSw; (try dsimp only at hSw); go_simp; try with_reducible rfl)
      try simp only [Act.put, List.setIfInBounds_toArray, List.set_cons_zero, List.set_cons_succ]
      refine wpAnyH_take (i := 3) (oi := _) (v := ?_) (List.getElem?_toArray.trans rfl) (by kernel_rfl) (by kernel_rfl) (by kernel_rfl) (fun _ _ _ h => h) (Or.inl ⟨by rfl, ?_⟩) (by assumption) ?_
      rotate_left
      ·(intro w9 hSw; (try dsimp only at hSw); go_simp; try with_reducible rfl)
      try simp only [Act.put, List.setIfInBounds_toArray, List.set_cons_zero, List.set_cons_succ]
      refine wpAnyH_take (i := 4) (oi := _) (v := ?_) (List.getElem?_toArray.trans rfl) (by kernel_rfl) (by kernel_rfl) (by kernel_rfl) (fun _ _ _ h => h) (Or.inl ⟨by rfl, ?_⟩) (by assumption) ?_
      rotate_left
      ·(intro w9 hSw; (try dsimp only at hSw); go_simp; try with_reducible rfl)
      try simp only [Act.put, List.setIfInBounds_toArray, List.set_cons_zero, List.set_cons_succ]
      refine wpAnyH_take (i := 5) (oi := _) (v := ?_) (List.getElem?_toArray.trans rfl) (by kernel_rfl) (by kernel_rfl) (by kernel_rfl) (fun _ _ _ h => h) (Or.inl ⟨by rfl, ?_⟩) (by assumption) ?_
      rotate_left
      ·(intro w9 hSw; (try dsimp only at hSw); go_simp; try with_reducible rfl)
      try simp only [Act.put, List.setIfInBounds_toArray, List.set_cons_zero, List.set_cons_succ]
      refine wpAnyH_take (i := 6) (oi := _) (v := ?_) (List.getElem?_toArray.trans rfl) (by kernel_rfl) (by kernel_rfl) (by kernel_rfl) (fun _ _ _ h => h) (Or.inl ⟨by rfl, ?_⟩) (by assumption) ?_
      rotate_left
      ·(intro w9 hSw; (try dsimp only at hSw); go_simp; try with_reducible rfl)
      try simp only [Act.put, List.setIfInBounds_toArray, List.set_cons_zero, List.set_cons_succ]
      have bf := BF.out
      refine wpAnyH_ready (rs := [1, 7]) (by kernel_rfl) (by simp) ?_
      refine AllReadyH.cons (o := _) (List.getElem?_toArray.trans rfl) (fun K hK => ?_) (AllReadyH.cons (o := _) (List.getElem?_toArray.trans rfl) (fun K hK => ?_) (AllReadyH.nil))
      ·skip
       go_simp
       refine hK.out _ _ ((fun (hx : Kept Nil wr1 _) => ⟨hx.cell C9_0.out (fun h => h), hx.cell C9_1.out (fun h => h), hx.cell C9_2.out (fun h => h), hx.cell C9_3.out (fun h => h), hx.cell C9_4.out (fun h => h), hx.cell C9_5.out (fun h => h)⟩) (by repeat (first | exact kzr _ _ | assumption | refine kzd ?_ | refine kzn ?_ _ | refine kza ?_ _ | refine kzs ?_ (by assumption)))) (fun hHeld => ?_)
       clear hK K
       try simp only [Act.put, List.setIfInBounds_toArray, List.set_cons_zero, List.set_cons_succ]
       refine wpAnyH_ready (rs := [7]) (by kernel_rfl) (by simp) ?_
       refine AllReadyH.cons (o := _) (List.getElem?_toArray.trans rfl) (fun K hK => ?_) (AllReadyH.nil)
       go_simp
       refine hK.out _ _ ((fun (hx : Kept Nil wr1 _) => ⟨hx.cell C9_0.out (fun h => h), hx.cell C9_1.out (fun h => h), hx.cell C9_2.out (fun h => h), hx.cell C9_3.out (fun h => h), hx.cell C9_4.out (fun h => h), hx.cell C9_5.out (fun h => h)⟩) (by repeat (first | exact kzr _ _ | assumption | refine kzd ?_ | refine kzn ?_ _ | refine kza ?_ _ | refine kzs ?_ (by assumption)))) (fun hHeld => ?_)
       clear hK K
       try simp only [Act.put, List.setIfInBounds_toArray, List.set_cons_zero, List.set_cons_succ]
       refine wpAnyH_ready (rs := [8]) (by kernel_rfl) (by simp) ?_
       refine AllReadyH.cons (o := _) (List.getElem?_toArray.trans rfl) (fun K hK => ?_) (AllReadyH.nil)
       refine step_append_src rfl (.tmp 66) (.tmp 72) 23 rfl wr0.heap.size 42 j1 (.agg #[.string ⟨#[]⟩, .string ⟨#[]⟩, .string ⟨#[]⟩, .int .i64 0, .int .i64 0]) 5 64 Tryz.underlying23 hj1 hy10 hy11 hy12 rfl (by decide) (.slice qA1 (ls.length - (j + 1)) qc1) (ls.length - (j + 1)) ((ls.drop (j + 1)).reverse.flatMap lkCells) (.slice (some ⟨wr1.heap.size, 0, none⟩) 1 1) 1 [.string x.name, .string x.src, .string x.dst, .int .i64 x.delay, .int .i64 x.weight] rfl rfl ?_ ?_ (by simp [Value.oneCell']) (by unfold maxLen; omega) (by omega) ?_ ?_
       ·exact (show Kept Nil wr1 _ from (by repeat (first | exact kzr _ _ | assumption | refine kzd ?_ | refine kzn ?_ _ | refine kza ?_ _ | refine kzs ?_ (by assumption)))).own HOW1.out (fun _ _ h => h)
       ·exact .inr ⟨_, _, rfl, rfl, cells_new _ _ _⟩
       ·have := (show Kept Nil wr1 _ from (by repeat (first | exact kzr _ _ | assumption | refine kzd ?_ | refine kzn ?_ _ | refine kza ?_ _ | refine kzs ?_ (by assumption)))).size; first | omega | (simp only [World.size_alloc, World.size_drew] at *; omega)
       intro v9 w9 hown9 hgrow9
       have hcnt : ls.length - (j + 1) + 1 = ls.length - j := by omega
       rw [hcnt] at hown9
       obtain ⟨A9, c9, rfl⟩ := own_slice hown9
       have hro : (ls.drop (j + 1)).reverse.flatMap lkCells ++ [.string x.name, .string x.src, .string x.dst, .int .i64 x.delay, .int .i64 x.weight] = (ls.drop j).reverse.flatMap lkCells := by rw [← drop_rev EX.out, List.flatMap_append]; simp [lkCells]
       rw [hro] at hown9
       have hk9 : Kept (fun i => (Value.slice qA1 (ls.length - (j + 1)) qc1).ownBlock = some i) wr1 w9 := (show Kept (fun i => (Value.slice qA1 (ls.length - (j + 1)) qc1).ownBlock = some i) wr1 _ from by repeat (first | exact Kept.refl _ _ | refine Kept.drew ?_ | refine Kept.alloc ?_ _)).grown hgrow9 (fun j e => .inl e)
       have hkg9 : Kept Nil W1 w9 := HKG1.out.trans hk9 (fun i h => .inr (by have := (HOW1.out.lt i h).1; have := HKG0.out.size; omega))
       have hkw9 : Kept Nil w w9 := HK.out.step hkg9
       have hb9 := hk9.heap HBO1.out (fun h => by have := (HOW1.out.lt _ h).1; omega)
       have b9 : w9.cell? ⟨w12.heap.size, 2, none⟩ = some (.slice qA1 (ls.length - (j + 1)) qc1) := by rw [cell_of hb9]; rfl
       have bg9 : w9.frozen? ⟨w12.heap.size, 2, none⟩ = false := frozen_of hb9 2
       have hz9 := hk9.size
       have hbz9 : w12.heap.size < w9.heap.size := by omega
       have HOWN9 := Lib.hid hown9
       have HK9 := Lib.hid hk9
       have HB9 := Lib.hid hb9
       have HKG9 := Lib.hid hkg9
       have HKW9 := Lib.hid hkw9
       clear hown9 hgrow9 hk9 hkg9 hkw9 hb9 hro hcnt
       refine hK.out _ _ ⟨HKG9.out.cell GF.out (fun h => h), HKW9.out.cell D0.out (fun h => h), HKW9.out.cell D1.out (fun h => h), HKW9.out.cell D2.out (fun h => h), HKW9.out.cell D3.out (fun h => h), HKW9.out.cell D4.out (fun h => h)⟩ (fun hHeld => ?_)
       clear hK K
       try simp only [Act.put, List.setIfInBounds_toArray, List.set_cons_zero, List.set_cons_succ]
       refine wpAnyH_take (i := 9) (oi := _) (v := ?_) (List.getElem?_toArray.trans rfl) (by kernel_rfl) (by kernel_rfl) (by kernel_rfl) (fun _ _ _ h => h) (Or.inl ⟨by rfl, ?_⟩) (by assumption) ?_
       rotate_left
       ·(intro w9 hSw; (try dsimp only at hSw); go_simp; try with_reducible rfl)
       try simp only [Act.put, List.setIfInBounds_toArray, List.set_cons_zero, List.set_cons_succ]
       refine wpAnyH_ready (rs := [10]) (by kernel_rfl) (by simp) ?_
       refine AllReadyH.cons (o := _) (List.getElem?_toArray.trans rfl) (fun K hK => ?_) (AllReadyH.nil)
       go_simp
       obtain ⟨W10, hW10⟩ : ∃ W10, w9.setCell ⟨w12.heap.size, 2, none⟩ (.slice A9 (ls.length - j) c9) = W10 := ⟨_, rfl⟩
       simp only [hW10]
       have hk10 : Kept (fun i => i = w12.heap.size) w9 W10 := by rw [← hW10]; exact (Kept.refl (fun i => i = w12.heap.size) w9).setCell (.inl rfl) _
       have hb10 : W10.heap[w12.heap.size]? = some (.cells #[.int .i64 ver, .slice qA0 ps.length qc0, .slice A9 (ls.length - j) c9, .slice none 0 0] 26 (0, 0)) := by rw [← hW10, heap_set HB9.out 2 _]; rfl
       have hkg10 : Kept Nil W1 W10 := HKG9.out.trans hk10 (fun i h => .inr (by (have h9 : i = w12.heap.size := h); (have := HKW12.out.size); omega))
       have hkw10 : Kept Nil w W10 := HK.out.step hkg10
       have hown10 := hk10.own HOWN9.out (fun i h => by have h9 := (HOWN9.out.lt i h).1; omega)
       have hkr10 : Kept (fun i => i = w12.heap.size) wr0 W10 := (HKR1.out.trans HK9.out (fun i h => .inr (HOW1.out.lt i h).1)).trans hk10 (fun i h => .inl h)
       refine hK.out _ _ ⟨hkg10.cell GF.out (fun h => h), hkw10.cell D0.out (fun h => h), hkw10.cell D1.out (fun h => h), hkw10.cell D2.out (fun h => h), hkw10.cell D3.out (fun h => h), hkw10.cell D4.out (fun h => h)⟩ (fun hHeld => ?_)
       clear hK K b9 bg9 hW10
       try simp only [Act.put, List.setIfInBounds_toArray, List.set_cons_zero, List.set_cons_succ]
       refine wpAnyH_done (by kernel_rfl) ?_ _
       have HREL := Lib.hid (show W10.heap[w12.heap.size]? = some (.cells #[.int .i64 ver, .slice qA0 ps.length qc0, .slice A9 (ls.length - j) c9, .slice none 0 0] 26 (0, 0)) ∧ W10.ownsRow wr0.heap.size 42 5 (.slice A9 (ls.length - j) c9) (ls.length - j) ((ls.drop j).reverse.flatMap lkCells) ∧ Kept (fun i => i = w12.heap.size) wr0 W10 from ⟨hb10, hown10, hkr10⟩)
       clear hb10 hown10 hkr10 hkg10 hkw10 hk10 bf
       go_wp2_with fail
       go_round
       refine ⟨j, A9, c9, by omega, rfl, HREL.out⟩
       case measure => (simp [intOf] <;> omega)
      ·skip
       go_simp
       refine hK.out _ _ ((fun (hx : Kept Nil wr1 _) => ⟨hx.cell C9_0.out (fun h => h), hx.cell C9_1.out (fun h => h), hx.cell C9_2.out (fun h => h), hx.cell C9_3.out (fun h => h), hx.cell C9_4.out (fun h => h), hx.cell C9_5.out (fun h => h)⟩) (by repeat (first | exact kzr _ _ | assumption | refine kzd ?_ | refine kzn ?_ _ | refine kza ?_ _ | refine kzs ?_ (by assumption)))) (fun hHeld => ?_)
       clear hK K
       try simp only [Act.put, List.setIfInBounds_toArray, List.set_cons_zero, List.set_cons_succ]
       refine wpAnyH_ready (rs := [1]) (by kernel_rfl) (by simp) ?_
       refine AllReadyH.cons (o := _) (List.getElem?_toArray.trans rfl) (fun K hK => ?_) (AllReadyH.nil)
       go_simp
       refine hK.out _ _ ((fun (hx : Kept Nil wr1 _) => ⟨hx.cell C9_0.out (fun h => h), hx.cell C9_1.out (fun h => h), hx.cell C9_2.out (fun h => h), hx.cell C9_3.out (fun h => h), hx.cell C9_4.out (fun h => h), hx.cell C9_5.out (fun h => h)⟩) (by repeat (first | exact kzr _ _ | assumption | refine kzd ?_ | refine kzn ?_ _ | refine kza ?_ _ | refine kzs ?_ (by assumption)))) (fun hHeld => ?_)
       clear hK K
       try simp only [Act.put, List.setIfInBounds_toArray, List.set_cons_zero, List.set_cons_succ]
       refine wpAnyH_ready (rs := [8]) (by kernel_rfl) (by simp) ?_
       refine AllReadyH.cons (o := _) (List.getElem?_toArray.trans rfl) (fun K hK => ?_) (AllReadyH.nil)
       refine step_append_src rfl (.tmp 66) (.tmp 72) 23 rfl wr0.heap.size 42 j1 (.agg #[.string ⟨#[]⟩, .string ⟨#[]⟩, .string ⟨#[]⟩, .int .i64 0, .int .i64 0]) 5 64 Tryz.underlying23 hj1 hy10 hy11 hy12 rfl (by decide) (.slice qA1 (ls.length - (j + 1)) qc1) (ls.length - (j + 1)) ((ls.drop (j + 1)).reverse.flatMap lkCells) (.slice (some ⟨wr1.heap.size, 0, none⟩) 1 1) 1 [.string x.name, .string x.src, .string x.dst, .int .i64 x.delay, .int .i64 x.weight] rfl rfl ?_ ?_ (by simp [Value.oneCell']) (by unfold maxLen; omega) (by omega) ?_ ?_
       ·exact (show Kept Nil wr1 _ from (by repeat (first | exact kzr _ _ | assumption | refine kzd ?_ | refine kzn ?_ _ | refine kza ?_ _ | refine kzs ?_ (by assumption)))).own HOW1.out (fun _ _ h => h)
       ·exact .inr ⟨_, _, rfl, rfl, cells_new _ _ _⟩
       ·have := (show Kept Nil wr1 _ from (by repeat (first | exact kzr _ _ | assumption | refine kzd ?_ | refine kzn ?_ _ | refine kza ?_ _ | refine kzs ?_ (by assumption)))).size; first | omega | (simp only [World.size_alloc, World.size_drew] at *; omega)
       intro v9 w9 hown9 hgrow9
       have hcnt : ls.length - (j + 1) + 1 = ls.length - j := by omega
       rw [hcnt] at hown9
       obtain ⟨A9, c9, rfl⟩ := own_slice hown9
       have hro : (ls.drop (j + 1)).reverse.flatMap lkCells ++ [.string x.name, .string x.src, .string x.dst, .int .i64 x.delay, .int .i64 x.weight] = (ls.drop j).reverse.flatMap lkCells := by rw [← drop_rev EX.out, List.flatMap_append]; simp [lkCells]
       rw [hro] at hown9
       have hk9 : Kept (fun i => (Value.slice qA1 (ls.length - (j + 1)) qc1).ownBlock = some i) wr1 w9 := (show Kept (fun i => (Value.slice qA1 (ls.length - (j + 1)) qc1).ownBlock = some i) wr1 _ from by repeat (first | exact Kept.refl _ _ | refine Kept.drew ?_ | refine Kept.alloc ?_ _)).grown hgrow9 (fun j e => .inl e)
       have hkg9 : Kept Nil W1 w9 := HKG1.out.trans hk9 (fun i h => .inr (by have := (HOW1.out.lt i h).1; have := HKG0.out.size; omega))
       have hkw9 : Kept Nil w w9 := HK.out.step hkg9
       have hb9 := hk9.heap HBO1.out (fun h => by have := (HOW1.out.lt _ h).1; omega)
       have b9 : w9.cell? ⟨w12.heap.size, 2, none⟩ = some (.slice qA1 (ls.length - (j + 1)) qc1) := by rw [cell_of hb9]; rfl
       have bg9 : w9.frozen? ⟨w12.heap.size, 2, none⟩ = false := frozen_of hb9 2
       have hz9 := hk9.size
       have hbz9 : w12.heap.size < w9.heap.size := by omega
       have HOWN9 := Lib.hid hown9
       have HK9 := Lib.hid hk9
       have HB9 := Lib.hid hb9
       have HKG9 := Lib.hid hkg9
       have HKW9 := Lib.hid hkw9
       clear hown9 hgrow9 hk9 hkg9 hkw9 hb9 hro hcnt
       refine hK.out _ _ ⟨HKG9.out.cell GF.out (fun h => h), HKW9.out.cell D0.out (fun h => h), HKW9.out.cell D1.out (fun h => h), HKW9.out.cell D2.out (fun h => h), HKW9.out.cell D3.out (fun h => h), HKW9.out.cell D4.out (fun h => h)⟩ (fun hHeld => ?_)
       clear hK K
       try simp only [Act.put, List.setIfInBounds_toArray, List.set_cons_zero, List.set_cons_succ]
       refine wpAnyH_take (i := 9) (oi := _) (v := ?_) (List.getElem?_toArray.trans rfl) (by kernel_rfl) (by kernel_rfl) (by kernel_rfl) (fun _ _ _ h => h) (Or.inl ⟨by rfl, ?_⟩) (by assumption) ?_
       rotate_left
       ·(intro w9 hSw; (try dsimp only at hSw); go_simp; try with_reducible rfl)
       try simp only [Act.put, List.setIfInBounds_toArray, List.set_cons_zero, List.set_cons_succ]
       refine wpAnyH_ready (rs := [10]) (by kernel_rfl) (by simp) ?_
       refine AllReadyH.cons (o := _) (List.getElem?_toArray.trans rfl) (fun K hK => ?_) (AllReadyH.nil)
       go_simp
       obtain ⟨W10, hW10⟩ : ∃ W10, w9.setCell ⟨w12.heap.size, 2, none⟩ (.slice A9 (ls.length - j) c9) = W10 := ⟨_, rfl⟩
       simp only [hW10]
       have hk10 : Kept (fun i => i = w12.heap.size) w9 W10 := by rw [← hW10]; exact (Kept.refl (fun i => i = w12.heap.size) w9).setCell (.inl rfl) _
       have hb10 : W10.heap[w12.heap.size]? = some (.cells #[.int .i64 ver, .slice qA0 ps.length qc0, .slice A9 (ls.length - j) c9, .slice none 0 0] 26 (0, 0)) := by rw [← hW10, heap_set HB9.out 2 _]; rfl
       have hkg10 : Kept Nil W1 W10 := HKG9.out.trans hk10 (fun i h => .inr (by (have h9 : i = w12.heap.size := h); (have := HKW12.out.size); omega))
       have hkw10 : Kept Nil w W10 := HK.out.step hkg10
       have hown10 := hk10.own HOWN9.out (fun i h => by have h9 := (HOWN9.out.lt i h).1; omega)
       have hkr10 : Kept (fun i => i = w12.heap.size) wr0 W10 := (HKR1.out.trans HK9.out (fun i h => .inr (HOW1.out.lt i h).1)).trans hk10 (fun i h => .inl h)
       refine hK.out _ _ ⟨hkg10.cell GF.out (fun h => h), hkw10.cell D0.out (fun h => h), hkw10.cell D1.out (fun h => h), hkw10.cell D2.out (fun h => h), hkw10.cell D3.out (fun h => h), hkw10.cell D4.out (fun h => h)⟩ (fun hHeld => ?_)
       clear hK K b9 bg9 hW10
       try simp only [Act.put, List.setIfInBounds_toArray, List.set_cons_zero, List.set_cons_succ]
       refine wpAnyH_done (by kernel_rfl) ?_ _
       have HREL := Lib.hid (show W10.heap[w12.heap.size]? = some (.cells #[.int .i64 ver, .slice qA0 ps.length qc0, .slice A9 (ls.length - j) c9, .slice none 0 0] 26 (0, 0)) ∧ W10.ownsRow wr0.heap.size 42 5 (.slice A9 (ls.length - j) c9) (ls.length - j) ((ls.drop j).reverse.flatMap lkCells) ∧ Kept (fun i => i = w12.heap.size) wr0 W10 from ⟨hb10, hown10, hkr10⟩)
       clear hb10 hown10 hkr10 hkg10 hkw10 hk10 bf
       go_wp2_with fail
       go_round
       refine ⟨j, A9, c9, by omega, rfl, HREL.out⟩
       case measure => (simp [intOf] <;> omega)
     | zero =>
      have e0 : ((0 : Nat) : Int) - 1 = -1 := by omega
      rw [e0]
      clear e0
      have hge : decide ((0 : Int) ≤ -1) = false := by decide
      replace HBO1 := Lib.hid (show wr1.heap[w12.heap.size]? = some (.cells #[.int .i64 ver, .slice qA0 ps.length qc0, .slice qA1 (ls.length) qc1, .slice none 0 0] 26 (0, 0)) from HBO1.out)
      have HBX2 := HBO1
      have hhw := HOW1.out
      simp only [Nat.sub_zero, List.drop_zero] at hhw
      replace HOW1 := Lib.hid hhw
      clear hhw
      go_upto_region 20 with fail
      clear hge hk hgz hbz0
      obtain ⟨j2, hj2, hy20, hy21, hy22⟩ := info_parts infoCE
      have hn2 : es.length ≤ 100000 := HHM.out.s.e
      have hwn : IntKind.i64.wrap ((es.length : Int) - 1) = (es.length : Int) - 1 := by rw [IntKind.wrap_i64]; omega
      have gg := HKG1.out.cell G3.out (fun h => h)
      have hgz : w.heap.size < wr1.heap.size := World.block_lt_of_cell? _ _ gg
      go_wp2_with fail
      clear gg hwn
      have hbz0 : w12.heap.size < wr1.heap.size := (Array.getElem?_eq_some_iff.1 HBX2.out).1
      go_loopw [8] (fun i wr => ∃ (k : Nat) (A : Option Addr) (c : Nat), k ≤ es.length ∧ i = .int .i64 ((k : Int) - 1) ∧ wr.heap[w12.heap.size]? = some (.cells #[.int .i64 ver, .slice qA0 ps.length qc0, .slice qA1 ls.length qc1, .slice A (es.length - k) c] 26 (0, 0)) ∧ wr.ownsRow wr1.heap.size 48 3 (.slice A (es.length - k) c) (es.length - k) ((es.drop k).reverse.flatMap evCells) ∧ Kept (fun i => i = w12.heap.size) wr1 wr) (fun i _ => (intOf i + 1).toNat)
      case atStart => exact ⟨es.length, none, 0, Nat.le_refl _, rfl, by rw [Nat.sub_self]; exact HBX2.out, by rw [Nat.sub_self, List.drop_length]; exact World.ownsRow_nil _ _ _ _, Kept.refl _ _⟩
      case round =>
       obtain ⟨wr2, hren⟩ : ∃ x, x = wr := ⟨_, rfl⟩
       subst hren
       obtain ⟨k, qA2, qc2, hk, rfl, hbox, how, hK⟩ := hrel
       have HBO2 := Lib.hid hbox
       have HOW2 := Lib.hid how
       have HKR2 := Lib.hid hK
       have hzwr2 := hK.size
       have hkg : Kept Nil W1 wr2 := HKG1.out.trans hK (fun i h => .inr (by (have h9 : i = w12.heap.size := h); (have := HKW12.out.size); omega))
       have HKG2 := Lib.hid hkg
       have HKWR := Lib.hid (HK.out.step hkg)
       have hbz : w12.heap.size < wr2.heap.size := (Array.getElem?_eq_some_iff.1 hbox).1
       have hgzr : w.heap.size < wr2.heap.size := by omega
       clear hbox how hK hkg
       cases k with
       | succ j =>
        have e0 : ((j + 1 : Nat) : Int) - 1 = (j : Int) := by omega
        rw [e0]
        clear e0
        obtain ⟨x, ex⟩ : ∃ x, es[j]? = some x := ⟨_, List.getElem?_eq_getElem (by omega)⟩
        obtain ⟨bx, off, e1, d0, d1, d2⟩ := HM.out.e.at ex
        simp only at e1
        have hbxz : bx < w.heap.size := World.block_lt_of_cell? _ _ d0
        have hjn : j < es.length := by omega
        have hji : (j : Int) < (es.length : Int) := by omega
        have hge : decide ((0 : Int) ≤ (j : Int)) = true := decide_eq_true (by omega)
        have hw : IntKind.i64.wrap ((j : Int) - 1) = (j : Int) - 1 := by rw [IntKind.wrap_i64]; omega
        have EX := Lib.hid ex
        have D0 := Lib.hid d0
        have D1 := Lib.hid d1
        have D2 := Lib.hid d2
        have GF := Lib.hid (show W1.cell? ⟨w.heap.size, 3, none⟩ = some (.slice (some ⟨bx, off, none⟩) es.length ec) by rw [← e1]; exact G3.out)
        have BF := Lib.hid (show wr2.cell? ⟨w12.heap.size, 3, none⟩ = some (.slice qA2 (es.length - (j + 1)) qc2) by rw [cell_of HBO2.out]; rfl)
        clear ex e1 d0 d1 d2
        go_upto_region 23 with fail
        have C9_0 := Lib.hid (show wr2.cell? ⟨w.heap.size, 3, none⟩ = some (.slice (some ⟨bx, off, none⟩) es.length ec) from HKG2.out.cell GF.out (fun h => h))
        have C9_1 := Lib.hid (show wr2.cell? ⟨bx, off + j * 3, none⟩ = some (.string x.to) from HKWR.out.cell D0.out (fun h => h))
        have C9_2 := Lib.hid (show wr2.cell? ⟨bx, off + j * 3 + 1, none⟩ = some (.int .i64 x.at_) from HKWR.out.cell D1.out (fun h => h))
        have C9_3 := Lib.hid (show wr2.cell? ⟨bx, off + j * 3 + 2, none⟩ = some (.int .i64 x.value) from HKWR.out.cell D2.out (fun h => h))
        refine wp_region_held_drew (S := fun w' => w'.cell? ⟨w.heap.size, 3, none⟩ = some (.slice (some ⟨bx, off, none⟩) es.length ec) ∧ w'.cell? ⟨bx, off + j * 3, none⟩ = some (.string x.to) ∧ w'.cell? ⟨bx, off + j * 3 + 1, none⟩ = some (.int .i64 x.at_) ∧ w'.cell? ⟨bx, off + j * 3 + 2, none⟩ = some (.int .i64 x.value)) (by kernel_rfl) ⟨C9_0.out, C9_1.out, C9_2.out, C9_3.out⟩ (fun hHeld => ?_)
        refine wpAnyH_take (i := 0) (oi := _) (v := ?_) (List.getElem?_toArray.trans rfl) (by kernel_rfl) (by kernel_rfl) (by kernel_rfl) (fun _ _ _ h => h) (Or.inl ⟨by rfl, ?_⟩) (by assumption) ?_
        rotate_left
        ·(intro w9 hSw; (try dsimp only at hSw); go_simp; try with_reducible rfl)
        try simp only [Act.put, List.setIfInBounds_toArray, List.set_cons_zero, List.set_cons_succ]
        refine wpAnyH_take (i := 2) (oi := _) (v := ?_) (List.getElem?_toArray.trans rfl) (by kernel_rfl) (by kernel_rfl) (by kernel_rfl) (fun _ _ _ h => h) (Or.inl ⟨by rfl, ?_⟩) (by assumption) ?_
        rotate_left
        ·(intro w9 hSw; (try dsimp only at hSw); go_simp; try with_reducible rfl)
        try simp only [Act.put, List.setIfInBounds_toArray, List.set_cons_zero, List.set_cons_succ]
        refine wpAnyH_take (i := 3) (oi := _) (v := ?_) (List.getElem?_toArray.trans rfl) (by kernel_rfl) (by kernel_rfl) (by kernel_rfl) (fun _ _ _ h => h) (Or.inl ⟨by rfl, ?_⟩) (by assumption) ?_
        rotate_left
        ·(intro w9 hSw; (try dsimp only at hSw); go_simp; try with_reducible rfl)
        try simp only [Act.put, List.setIfInBounds_toArray, List.set_cons_zero, List.set_cons_succ]
        refine wpAnyH_take (i := 4) (oi := _) (v := ?_) (List.getElem?_toArray.trans rfl) (by kernel_rfl) (by kernel_rfl) (by kernel_rfl) (fun _ _ _ h => h) (Or.inl ⟨by rfl, ?_⟩) (by assumption) ?_
        rotate_left
        ·(intro w9 hSw; (try dsimp only at hSw); go_simp; try with_reducible rfl)
        try simp only [Act.put, List.setIfInBounds_toArray, List.set_cons_zero, List.set_cons_succ]
        refine wpAnyH_take (i := 5) (oi := _) (v := ?_) (List.getElem?_toArray.trans rfl) (by kernel_rfl) (by kernel_rfl) (by kernel_rfl) (fun _ _ _ h => h) (Or.inl ⟨by rfl, ?_⟩) (by assumption) ?_
        rotate_left
        ·(intro w9 hSw; (try dsimp only at hSw); go_simp; try with_reducible rfl)
        try simp only [Act.put, List.setIfInBounds_toArray, List.set_cons_zero, List.set_cons_succ]
        refine wpAnyH_take (i := 6) (oi := _) (v := ?_) (List.getElem?_toArray.trans rfl) (by kernel_rfl) (by kernel_rfl) (by kernel_rfl) (fun _ _ _ h => h) (Or.inl ⟨by rfl, ?_⟩) (by assumption) ?_
        rotate_left
        ·(intro w9 hSw; (try dsimp only at hSw); go_simp; try with_reducible rfl)
        try simp only [Act.put, List.setIfInBounds_toArray, List.set_cons_zero, List.set_cons_succ]
        have bf := BF.out
        refine wpAnyH_ready (rs := [1, 7]) (by kernel_rfl) (by simp) ?_
        refine AllReadyH.cons (o := _) (List.getElem?_toArray.trans rfl) (fun K hK => ?_) (AllReadyH.cons (o := _) (List.getElem?_toArray.trans rfl) (fun K hK => ?_) (AllReadyH.nil))
        ·skip
         go_simp
         refine hK.out _ _ ((fun (hx : Kept Nil wr2 _) => ⟨hx.cell C9_0.out (fun h => h), hx.cell C9_1.out (fun h => h), hx.cell C9_2.out (fun h => h), hx.cell C9_3.out (fun h => h)⟩) (by repeat (first | exact kzr _ _ | assumption | refine kzd ?_ | refine kzn ?_ _ | refine kza ?_ _ | refine kzs ?_ (by assumption)))) (fun hHeld => ?_)
         clear hK K
         try simp only [Act.put, List.setIfInBounds_toArray, List.set_cons_zero, List.set_cons_succ]
         refine wpAnyH_ready (rs := [7]) (by kernel_rfl) (by simp) ?_
         refine AllReadyH.cons (o := _) (List.getElem?_toArray.trans rfl) (fun K hK => ?_) (AllReadyH.nil)
         go_simp
         refine hK.out _ _ ((fun (hx : Kept Nil wr2 _) => ⟨hx.cell C9_0.out (fun h => h), hx.cell C9_1.out (fun h => h), hx.cell C9_2.out (fun h => h), hx.cell C9_3.out (fun h => h)⟩) (by repeat (first | exact kzr _ _ | assumption | refine kzd ?_ | refine kzn ?_ _ | refine kza ?_ _ | refine kzs ?_ (by assumption)))) (fun hHeld => ?_)
         clear hK K
         try simp only [Act.put, List.setIfInBounds_toArray, List.set_cons_zero, List.set_cons_succ]
         refine wpAnyH_ready (rs := [8]) (by kernel_rfl) (by simp) ?_
         refine AllReadyH.cons (o := _) (List.getElem?_toArray.trans rfl) (fun K hK => ?_) (AllReadyH.nil)
         refine step_append_src rfl (.tmp 84) (.tmp 90) 24 rfl wr1.heap.size 48 j2 (.agg #[.string ⟨#[]⟩, .int .i64 0, .int .i64 0]) 3 32 Tryz.underlying24 hj2 hy20 hy21 hy22 rfl (by decide) (.slice qA2 (es.length - (j + 1)) qc2) (es.length - (j + 1)) ((es.drop (j + 1)).reverse.flatMap evCells) (.slice (some ⟨wr2.heap.size, 0, none⟩) 1 1) 1 [.string x.to, .int .i64 x.at_, .int .i64 x.value] rfl rfl ?_ ?_ (by simp [Value.oneCell']) (by unfold maxLen; omega) (by omega) ?_ ?_
         ·exact (show Kept Nil wr2 _ from (by repeat (first | exact kzr _ _ | assumption | refine kzd ?_ | refine kzn ?_ _ | refine kza ?_ _ | refine kzs ?_ (by assumption)))).own HOW2.out (fun _ _ h => h)
         ·exact .inr ⟨_, _, rfl, rfl, cells_new _ _ _⟩
         ·have := (show Kept Nil wr2 _ from (by repeat (first | exact kzr _ _ | assumption | refine kzd ?_ | refine kzn ?_ _ | refine kza ?_ _ | refine kzs ?_ (by assumption)))).size; first | omega | (simp only [World.size_alloc, World.size_drew] at *; omega)
         intro v9 w9 hown9 hgrow9
         have hcnt : es.length - (j + 1) + 1 = es.length - j := by omega
         rw [hcnt] at hown9
         obtain ⟨A9, c9, rfl⟩ := own_slice hown9
         have hro : (es.drop (j + 1)).reverse.flatMap evCells ++ [.string x.to, .int .i64 x.at_, .int .i64 x.value] = (es.drop j).reverse.flatMap evCells := by rw [← drop_rev EX.out, List.flatMap_append]; simp [evCells]
         rw [hro] at hown9
         have hk9 : Kept (fun i => (Value.slice qA2 (es.length - (j + 1)) qc2).ownBlock = some i) wr2 w9 := (show Kept (fun i => (Value.slice qA2 (es.length - (j + 1)) qc2).ownBlock = some i) wr2 _ from by repeat (first | exact Kept.refl _ _ | refine Kept.drew ?_ | refine Kept.alloc ?_ _)).grown hgrow9 (fun j e => .inl e)
         have hkg9 : Kept Nil W1 w9 := HKG2.out.trans hk9 (fun i h => .inr (by have := (HOW2.out.lt i h).1; have := HKG1.out.size; omega))
         have hkw9 : Kept Nil w w9 := HK.out.step hkg9
         have hb9 := hk9.heap HBO2.out (fun h => by have := (HOW2.out.lt _ h).1; omega)
         have b9 : w9.cell? ⟨w12.heap.size, 3, none⟩ = some (.slice qA2 (es.length - (j + 1)) qc2) := by rw [cell_of hb9]; rfl
         have bg9 : w9.frozen? ⟨w12.heap.size, 3, none⟩ = false := frozen_of hb9 3
         have hz9 := hk9.size
         have hbz9 : w12.heap.size < w9.heap.size := by omega
         have HOWN9 := Lib.hid hown9
         have HK9 := Lib.hid hk9
         have HB9 := Lib.hid hb9
         have HKG9 := Lib.hid hkg9
         have HKW9 := Lib.hid hkw9
         clear hown9 hgrow9 hk9 hkg9 hkw9 hb9 hro hcnt
         refine hK.out _ _ ⟨HKG9.out.cell GF.out (fun h => h), HKW9.out.cell D0.out (fun h => h), HKW9.out.cell D1.out (fun h => h), HKW9.out.cell D2.out (fun h => h)⟩ (fun hHeld => ?_)
         clear hK K
         try simp only [Act.put, List.setIfInBounds_toArray, List.set_cons_zero, List.set_cons_succ]
         refine wpAnyH_take (i := 9) (oi := _) (v := ?_) (List.getElem?_toArray.trans rfl) (by kernel_rfl) (by kernel_rfl) (by kernel_rfl) (fun _ _ _ h => h) (Or.inl ⟨by rfl, ?_⟩) (by assumption) ?_
         rotate_left
         ·(intro w9 hSw; (try dsimp only at hSw); go_simp; try with_reducible rfl)
         try simp only [Act.put, List.setIfInBounds_toArray, List.set_cons_zero, List.set_cons_succ]
         refine wpAnyH_ready (rs := [10]) (by kernel_rfl) (by simp) ?_
         refine AllReadyH.cons (o := _) (List.getElem?_toArray.trans rfl) (fun K hK => ?_) (AllReadyH.nil)
         go_simp
         obtain ⟨W10, hW10⟩ : ∃ W10, w9.setCell ⟨w12.heap.size, 3, none⟩ (.slice A9 (es.length - j) c9) = W10 := ⟨_, rfl⟩
         simp only [hW10]
         have hk10 : Kept (fun i => i = w12.heap.size) w9 W10 := by rw [← hW10]; exact (Kept.refl (fun i => i = w12.heap.size) w9).setCell (.inl rfl) _
         have hb10 : W10.heap[w12.heap.size]? = some (.cells #[.int .i64 ver, .slice qA0 ps.length qc0, .slice qA1 ls.length qc1, .slice A9 (es.length - j) c9] 26 (0, 0)) := by rw [← hW10, heap_set HB9.out 3 _]; rfl
         have hkg10 : Kept Nil W1 W10 := HKG9.out.trans hk10 (fun i h => .inr (by (have h9 : i = w12.heap.size := h); (have := HKW12.out.size); omega))
         have hkw10 : Kept Nil w W10 := HK.out.step hkg10
         have hown10 := hk10.own HOWN9.out (fun i h => by have h9 := (HOWN9.out.lt i h).1; omega)
         have hkr10 : Kept (fun i => i = w12.heap.size) wr1 W10 := (HKR2.out.trans HK9.out (fun i h => .inr (HOW2.out.lt i h).1)).trans hk10 (fun i h => .inl h)
         refine hK.out _ _ ⟨hkg10.cell GF.out (fun h => h), hkw10.cell D0.out (fun h => h), hkw10.cell D1.out (fun h => h), hkw10.cell D2.out (fun h => h)⟩ (fun hHeld => ?_)
         clear hK K b9 bg9 hW10
         try simp only [Act.put, List.setIfInBounds_toArray, List.set_cons_zero, List.set_cons_succ]
         refine wpAnyH_done (by kernel_rfl) ?_ _
         have HREL := Lib.hid (show W10.heap[w12.heap.size]? = some (.cells #[.int .i64 ver, .slice qA0 ps.length qc0, .slice qA1 ls.length qc1, .slice A9 (es.length - j) c9] 26 (0, 0)) ∧ W10.ownsRow wr1.heap.size 48 3 (.slice A9 (es.length - j) c9) (es.length - j) ((es.drop j).reverse.flatMap evCells) ∧ Kept (fun i => i = w12.heap.size) wr1 W10 from ⟨hb10, hown10, hkr10⟩)
         clear hb10 hown10 hkr10 hkg10 hkw10 hk10 bf
         go_wp2_with fail
         go_round
         refine ⟨j, A9, c9, by omega, rfl, HREL.out⟩
         case measure => (simp [intOf] <;> omega)
        ·skip
         go_simp
         refine hK.out _ _ ((fun (hx : Kept Nil wr2 _) => ⟨hx.cell C9_0.out (fun h => h), hx.cell C9_1.out (fun h => h), hx.cell C9_2.out (fun h => h), hx.cell C9_3.out (fun h => h)⟩) (by repeat (first | exact kzr _ _ | assumption | refine kzd ?_ | refine kzn ?_ _ | refine kza ?_ _ | refine kzs ?_ (by assumption)))) (fun hHeld => ?_)
         clear hK K
         try simp only [Act.put, List.setIfInBounds_toArray, List.set_cons_zero, List.set_cons_succ]
         refine wpAnyH_ready (rs := [1]) (by kernel_rfl) (by simp) ?_
         refine AllReadyH.cons (o := _) (List.getElem?_toArray.trans rfl) (fun K hK => ?_) (AllReadyH.nil)
         go_simp
         refine hK.out _ _ ((fun (hx : Kept Nil wr2 _) => ⟨hx.cell C9_0.out (fun h => h), hx.cell C9_1.out (fun h => h), hx.cell C9_2.out (fun h => h), hx.cell C9_3.out (fun h => h)⟩) (by repeat (first | exact kzr _ _ | assumption | refine kzd ?_ | refine kzn ?_ _ | refine kza ?_ _ | refine kzs ?_ (by assumption)))) (fun hHeld => ?_)
         clear hK K
         try simp only [Act.put, List.setIfInBounds_toArray, List.set_cons_zero, List.set_cons_succ]
         refine wpAnyH_ready (rs := [8]) (by kernel_rfl) (by simp) ?_
         refine AllReadyH.cons (o := _) (List.getElem?_toArray.trans rfl) (fun K hK => ?_) (AllReadyH.nil)
         refine step_append_src rfl (.tmp 84) (.tmp 90) 24 rfl wr1.heap.size 48 j2 (.agg #[.string ⟨#[]⟩, .int .i64 0, .int .i64 0]) 3 32 Tryz.underlying24 hj2 hy20 hy21 hy22 rfl (by decide) (.slice qA2 (es.length - (j + 1)) qc2) (es.length - (j + 1)) ((es.drop (j + 1)).reverse.flatMap evCells) (.slice (some ⟨wr2.heap.size, 0, none⟩) 1 1) 1 [.string x.to, .int .i64 x.at_, .int .i64 x.value] rfl rfl ?_ ?_ (by simp [Value.oneCell']) (by unfold maxLen; omega) (by omega) ?_ ?_
         ·exact (show Kept Nil wr2 _ from (by repeat (first | exact kzr _ _ | assumption | refine kzd ?_ | refine kzn ?_ _ | refine kza ?_ _ | refine kzs ?_ (by assumption)))).own HOW2.out (fun _ _ h => h)
         ·exact .inr ⟨_, _, rfl, rfl, cells_new _ _ _⟩
         ·have := (show Kept Nil wr2 _ from (by repeat (first | exact kzr _ _ | assumption | refine kzd ?_ | refine kzn ?_ _ | refine kza ?_ _ | refine kzs ?_ (by assumption)))).size; first | omega | (simp only [World.size_alloc, World.size_drew] at *; omega)
         intro v9 w9 hown9 hgrow9
         have hcnt : es.length - (j + 1) + 1 = es.length - j := by omega
         rw [hcnt] at hown9
         obtain ⟨A9, c9, rfl⟩ := own_slice hown9
         have hro : (es.drop (j + 1)).reverse.flatMap evCells ++ [.string x.to, .int .i64 x.at_, .int .i64 x.value] = (es.drop j).reverse.flatMap evCells := by rw [← drop_rev EX.out, List.flatMap_append]; simp [evCells]
         rw [hro] at hown9
         have hk9 : Kept (fun i => (Value.slice qA2 (es.length - (j + 1)) qc2).ownBlock = some i) wr2 w9 := (show Kept (fun i => (Value.slice qA2 (es.length - (j + 1)) qc2).ownBlock = some i) wr2 _ from by repeat (first | exact Kept.refl _ _ | refine Kept.drew ?_ | refine Kept.alloc ?_ _)).grown hgrow9 (fun j e => .inl e)
         have hkg9 : Kept Nil W1 w9 := HKG2.out.trans hk9 (fun i h => .inr (by have := (HOW2.out.lt i h).1; have := HKG1.out.size; omega))
         have hkw9 : Kept Nil w w9 := HK.out.step hkg9
         have hb9 := hk9.heap HBO2.out (fun h => by have := (HOW2.out.lt _ h).1; omega)
         have b9 : w9.cell? ⟨w12.heap.size, 3, none⟩ = some (.slice qA2 (es.length - (j + 1)) qc2) := by rw [cell_of hb9]; rfl
         have bg9 : w9.frozen? ⟨w12.heap.size, 3, none⟩ = false := frozen_of hb9 3
         have hz9 := hk9.size
         have hbz9 : w12.heap.size < w9.heap.size := by omega
         have HOWN9 := Lib.hid hown9
         have HK9 := Lib.hid hk9
         have HB9 := Lib.hid hb9
         have HKG9 := Lib.hid hkg9
         have HKW9 := Lib.hid hkw9
         clear hown9 hgrow9 hk9 hkg9 hkw9 hb9 hro hcnt
         refine hK.out _ _ ⟨HKG9.out.cell GF.out (fun h => h), HKW9.out.cell D0.out (fun h => h), HKW9.out.cell D1.out (fun h => h), HKW9.out.cell D2.out (fun h => h)⟩ (fun hHeld => ?_)
         clear hK K
         try simp only [Act.put, List.setIfInBounds_toArray, List.set_cons_zero, List.set_cons_succ]
         refine wpAnyH_take (i := 9) (oi := _) (v := ?_) (List.getElem?_toArray.trans rfl) (by kernel_rfl) (by kernel_rfl) (by kernel_rfl) (fun _ _ _ h => h) (Or.inl ⟨by rfl, ?_⟩) (by assumption) ?_
         rotate_left
         ·(intro w9 hSw; (try dsimp only at hSw); go_simp; try with_reducible rfl)
         try simp only [Act.put, List.setIfInBounds_toArray, List.set_cons_zero, List.set_cons_succ]
         refine wpAnyH_ready (rs := [10]) (by kernel_rfl) (by simp) ?_
         refine AllReadyH.cons (o := _) (List.getElem?_toArray.trans rfl) (fun K hK => ?_) (AllReadyH.nil)
         go_simp
         obtain ⟨W10, hW10⟩ : ∃ W10, w9.setCell ⟨w12.heap.size, 3, none⟩ (.slice A9 (es.length - j) c9) = W10 := ⟨_, rfl⟩
         simp only [hW10]
         have hk10 : Kept (fun i => i = w12.heap.size) w9 W10 := by rw [← hW10]; exact (Kept.refl (fun i => i = w12.heap.size) w9).setCell (.inl rfl) _
         have hb10 : W10.heap[w12.heap.size]? = some (.cells #[.int .i64 ver, .slice qA0 ps.length qc0, .slice qA1 ls.length qc1, .slice A9 (es.length - j) c9] 26 (0, 0)) := by rw [← hW10, heap_set HB9.out 3 _]; rfl
         have hkg10 : Kept Nil W1 W10 := HKG9.out.trans hk10 (fun i h => .inr (by (have h9 : i = w12.heap.size := h); (have := HKW12.out.size); omega))
         have hkw10 : Kept Nil w W10 := HK.out.step hkg10
         have hown10 := hk10.own HOWN9.out (fun i h => by have h9 := (HOWN9.out.lt i h).1; omega)
         have hkr10 : Kept (fun i => i = w12.heap.size) wr1 W10 := (HKR2.out.trans HK9.out (fun i h => .inr (HOW2.out.lt i h).1)).trans hk10 (fun i h => .inl h)
         refine hK.out _ _ ⟨hkg10.cell GF.out (fun h => h), hkw10.cell D0.out (fun h => h), hkw10.cell D1.out (fun h => h), hkw10.cell D2.out (fun h => h)⟩ (fun hHeld => ?_)
         clear hK K b9 bg9 hW10
         try simp only [Act.put, List.setIfInBounds_toArray, List.set_cons_zero, List.set_cons_succ]
         refine wpAnyH_done (by kernel_rfl) ?_ _
         have HREL := Lib.hid (show W10.heap[w12.heap.size]? = some (.cells #[.int .i64 ver, .slice qA0 ps.length qc0, .slice qA1 ls.length qc1, .slice A9 (es.length - j) c9] 26 (0, 0)) ∧ W10.ownsRow wr1.heap.size 48 3 (.slice A9 (es.length - j) c9) (es.length - j) ((es.drop j).reverse.flatMap evCells) ∧ Kept (fun i => i = w12.heap.size) wr1 W10 from ⟨hb10, hown10, hkr10⟩)
         clear hb10 hown10 hkr10 hkg10 hkw10 hk10 bf
         go_wp2_with fail
         go_round
         refine ⟨j, A9, c9, by omega, rfl, HREL.out⟩
         case measure => (simp [intOf] <;> omega)
       | zero =>
        have e0 : ((0 : Nat) : Int) - 1 = -1 := by omega
        rw [e0]
        clear e0
        have hge : decide ((0 : Int) ≤ -1) = false := by decide
        replace HBO2 := Lib.hid (show wr2.heap[w12.heap.size]? = some (.cells #[.int .i64 ver, .slice qA0 ps.length qc0, .slice qA1 ls.length qc1, .slice qA2 (es.length) qc2] 26 (0, 0)) from HBO2.out)
        have HBX3 := HBO2
        have hhw := HOW2.out
        simp only [Nat.sub_zero, List.drop_zero] at hhw
        replace HOW2 := Lib.hid hhw
        clear hhw
        go_upto_region 24 with fail
        clear hge hk hgz hbz0
        have HKB := Lib.hid (show Kept Nil w12 wr2 from ((HK13.out.trans HKR0.out (fun i h => .inr (Nat.le_of_eq (show i = w12.heap.size from h).symm))).trans HKR1.out (fun i h => .inr (Nat.le_of_eq (show i = w12.heap.size from h).symm))).trans HKR2.out (fun i h => .inr (Nat.le_of_eq (show i = w12.heap.size from h).symm)))
        have hq0 : ∀ i, (Value.slice qA0 ps.length qc0).ownBlock = some i → ¬ i = w12.heap.size := fun i h h8 => by have h9 := (HOW0.out.lt i h).1; have h7 := (Array.getElem?_eq_some_iff.1 HBX.out).1; omega
        have hq1 : ∀ i, (Value.slice qA1 ls.length qc1).ownBlock = some i → ¬ i = w12.heap.size := fun i h h8 => by have h9 := (HOW1.out.lt i h).1; have h7 := (Array.getElem?_eq_some_iff.1 HBX1.out).1; omega
        have hbk := back_held (held_of_few HM.out HO.out HF.out) (HK.out.step HKG2.out) (HKR2.out.own (HKR1.out.own HOW0.out hq0) hq0) (HKR2.out.own HOW1.out hq1) HOW2.out
        simp only at hbk
        clear hq0 hq1
        have hbx3 := HBX3.out
        rw [← @List.length_reverse Pr ps, ← @List.length_reverse Lk ls, ← @List.length_reverse Ev es] at hbx3
        have hsame : f1.1 = 0 → SameM (canM ⟨ver, qA0, ps.reverse, qc0, qA1, ls.reverse, qc1, qA2, es.reverse, qc2⟩) (canM ⟨ver, pa, ps, pc, la, ls, lc, ea, es, ec⟩) := fun h => canM_perm_same (right_iff.1 (by rw [HF1.out]; exact h)) rfl (List.reverse_perm ps) (List.reverse_perm ls) (List.reverse_perm es)
        obtain ⟨rp, hrp⟩ : ∃ r, ps.reverse = r := ⟨_, rfl⟩
        obtain ⟨rl, hrl⟩ : ∃ r, ls.reverse = r := ⟨_, rfl⟩
        obtain ⟨re, hre⟩ : ∃ r, es.reverse = r := ⟨_, rfl⟩
        rw [hrp, hrl, hre] at hbx3 hbk hsame
        clear hrp hrl hre
        have HBK := Lib.hid hbk
        have HSA := Lib.hid hsame
        have HB3 := Lib.hid hbx3
        clear hbk hsame hbx3
        cases qq with
        | false =>
         go_big_quiet (fail)
         go_wp2_with fail
         go_ret
         exact ⟨rfl, (show Kept Nil w _ from (HK.out.step HKG2.out).drewN _).toBelow⟩
        | true =>
         have hf0 : f1.1 = 0 := beq_iff_eq.1 HQ1.out
         have hdc := HCS.out
         have HDC := Lib.hid ((HSA.out hf0).trans hdc)
         clear hf0 hdc
         have C9_0 := Lib.hid (show wr2.cell? ⟨w12.heap.size, 0, none⟩ = some (.int .i64 ver) from (cell_of HB3.out 0).trans rfl)
         have C9_1 := Lib.hid (show wr2.cell? ⟨w12.heap.size, 1, none⟩ = some (.slice qA0 rp.length qc0) from (cell_of HB3.out 1).trans rfl)
         have C9_2 := Lib.hid (show wr2.cell? ⟨w12.heap.size, 2, none⟩ = some (.slice qA1 rl.length qc1) from (cell_of HB3.out 2).trans rfl)
         have C9_3 := Lib.hid (show wr2.cell? ⟨w12.heap.size, 3, none⟩ = some (.slice qA2 re.length qc2) from (cell_of HB3.out 3).trans rfl)
         have C9_4 := Lib.hid (show wr2.cell? ⟨w6.heap.size, 0, none⟩ = some (.int .i64 cv) from (HKT.out.step (HK12T.out.step HKB.out)).cell C0.out (fun h => h))
         have C9_5 := Lib.hid (show wr2.cell? ⟨w6.heap.size, 1, none⟩ = some (.slice ca cs.length cc) from (HKT.out.step (HK12T.out.step HKB.out)).cell C1.out (fun h => h))
         have C9_6 := Lib.hid (show wr2.cell? ⟨w6.heap.size, 2, none⟩ = some (.slice cla cls.length clc) from (HKT.out.step (HK12T.out.step HKB.out)).cell C2.out (fun h => h))
         have C9_7 := Lib.hid (show wr2.cell? ⟨w6.heap.size, 3, none⟩ = some (.slice cea ces.length cec) from (HKT.out.step (HK12T.out.step HKB.out)).cell C3.out (fun h => h))
         refine wp_region_held_drew (S := fun w' => w'.cell? ⟨w12.heap.size, 0, none⟩ = some (.int .i64 ver) ∧ w'.cell? ⟨w12.heap.size, 1, none⟩ = some (.slice qA0 rp.length qc0) ∧ w'.cell? ⟨w12.heap.size, 2, none⟩ = some (.slice qA1 rl.length qc1) ∧ w'.cell? ⟨w12.heap.size, 3, none⟩ = some (.slice qA2 re.length qc2) ∧ w'.cell? ⟨w6.heap.size, 0, none⟩ = some (.int .i64 cv) ∧ w'.cell? ⟨w6.heap.size, 1, none⟩ = some (.slice ca cs.length cc) ∧ w'.cell? ⟨w6.heap.size, 2, none⟩ = some (.slice cla cls.length clc) ∧ w'.cell? ⟨w6.heap.size, 3, none⟩ = some (.slice cea ces.length cec)) (by kernel_rfl) ⟨C9_0.out, C9_1.out, C9_2.out, C9_3.out, C9_4.out, C9_5.out, C9_6.out, C9_7.out⟩ (fun hHeld => ?_)
         refine wpAnyH_take (i := 0) (oi := _) (v := ?_) (List.getElem?_toArray.trans rfl) (by kernel_rfl) (by kernel_rfl) (by kernel_rfl) (fun _ _ _ h => h) (Or.inl ⟨by rfl, ?_⟩) (by assumption) ?_
         rotate_left
         ·(intro w9 hSw; (try dsimp only at hSw); go_simp; try with_reducible rfl)
         try simp only [Act.put, List.setIfInBounds_toArray, List.set_cons_zero, List.set_cons_succ]
         refine wpAnyH_take (i := 1) (oi := _) (v := ?_) (List.getElem?_toArray.trans rfl) (by kernel_rfl) (by kernel_rfl) (by kernel_rfl) (fun _ _ _ h => h) (Or.inl ⟨by rfl, ?_⟩) (by assumption) ?_
         rotate_left
         ·(intro w9 hSw; (try dsimp only at hSw); go_simp; try with_reducible rfl)
         try simp only [Act.put, List.setIfInBounds_toArray, List.set_cons_zero, List.set_cons_succ]
         refine wpAnyH_take (i := 2) (oi := _) (v := ?_) (List.getElem?_toArray.trans rfl) (by kernel_rfl) (by kernel_rfl) (by kernel_rfl) (fun _ _ _ h => h) (Or.inl ⟨by rfl, ?_⟩) (by assumption) ?_
         rotate_left
         ·(intro w9 hSw; (try dsimp only at hSw); go_simp; try with_reducible rfl)
         try simp only [Act.put, List.setIfInBounds_toArray, List.set_cons_zero, List.set_cons_succ]
         refine wpAnyH_take (i := 3) (oi := _) (v := ?_) (List.getElem?_toArray.trans rfl) (by kernel_rfl) (by kernel_rfl) (by kernel_rfl) (fun _ _ _ h => h) (Or.inl ⟨by rfl, ?_⟩) (by assumption) ?_
         rotate_left
         ·(intro w9 hSw; (try dsimp only at hSw); go_simp; try with_reducible rfl)
         try simp only [Act.put, List.setIfInBounds_toArray, List.set_cons_zero, List.set_cons_succ]
         refine wpAnyH_take (i := 5) (oi := _) (v := ?_) (List.getElem?_toArray.trans rfl) (by kernel_rfl) (by kernel_rfl) (by kernel_rfl) (fun _ _ _ h => h) (Or.inl ⟨by rfl, ?_⟩) (by assumption) ?_
         rotate_left
         ·(intro w9 hSw; (try dsimp only at hSw); go_simp; try with_reducible rfl)
         try simp only [Act.put, List.setIfInBounds_toArray, List.set_cons_zero, List.set_cons_succ]
         refine wpAnyH_ready (rs := [4]) (by kernel_rfl) (by simp) ?_
         refine AllReadyH.cons (o := _) (List.getElem?_toArray.trans rfl) (fun K hK => ?_) (AllReadyH.nil)
         go_simp
         refine (Canon_h _ (HBK.out.nil (by repeat (first | exact kzr _ _ | assumption | refine kzd ?_ | refine kzn ?_ _ | refine kza ?_ _ | refine kzs ?_ (by assumption))))).mono ?_
         rintro e w20 ⟨hk20, ⟨zv, za, zs, zc, zla, zls, zlc, zea, zes, zec⟩, rfl, hh, hs, _⟩
         have HRH := Lib.hid hh
         have HRS := Lib.hid hs
         clear hh hs
         try go_wp2_with fail
         refine hK.out _ _ ((fun (hx : Kept Nil wr2 _) => ⟨hx.cell C9_0.out (fun h => h), hx.cell C9_1.out (fun h => h), hx.cell C9_2.out (fun h => h), hx.cell C9_3.out (fun h => h), hx.cell C9_4.out (fun h => h), hx.cell C9_5.out (fun h => h), hx.cell C9_6.out (fun h => h), hx.cell C9_7.out (fun h => h)⟩) (by repeat (first | exact kzr _ _ | assumption | refine kzd ?_ | refine kzn ?_ _ | refine kza ?_ _ | refine kzs ?_ (by assumption)))) (fun hHeld => ?_)
         clear hK K
         try simp only [Act.put, List.setIfInBounds_toArray, List.set_cons_zero, List.set_cons_succ]
         refine wpAnyH_ready (rs := [6]) (by kernel_rfl) (by simp) ?_
         refine AllReadyH.cons (o := _) (List.getElem?_toArray.trans rfl) (fun K hK => ?_) (AllReadyH.nil)
         go_simp
         refine (cSame_h _ HRH.out ((HCT.out.nil (HK12T.out.step HKB.out)).nil (by repeat (first | exact kzr _ _ | assumption | refine kzd ?_ | refine kzn ?_ _ | refine kza ?_ _ | refine kzs ?_ (by assumption)))) (eqM_iff.2 (HRS.out.symm.trans HDC.out))).mono ?_
         rintro e w21 ⟨rfl, hk21⟩
         try go_wp2_with fail
         refine hK.out _ _ ((fun (hx : Kept Nil wr2 _) => ⟨hx.cell C9_0.out (fun h => h), hx.cell C9_1.out (fun h => h), hx.cell C9_2.out (fun h => h), hx.cell C9_3.out (fun h => h), hx.cell C9_4.out (fun h => h), hx.cell C9_5.out (fun h => h), hx.cell C9_6.out (fun h => h), hx.cell C9_7.out (fun h => h)⟩) (by repeat (first | exact kzr _ _ | assumption | refine kzd ?_ | refine kzn ?_ _ | refine kza ?_ _ | refine kzs ?_ (by assumption)))) (fun hHeld => ?_)
         clear hK K
         try simp only [Act.put, List.setIfInBounds_toArray, List.set_cons_zero, List.set_cons_succ]
         refine wpAnyH_take (i := 7) (oi := _) (v := ?_) (List.getElem?_toArray.trans rfl) (by kernel_rfl) (by kernel_rfl) (by kernel_rfl) (fun _ _ _ h => h) (Or.inl ⟨by rfl, ?_⟩) (by assumption) ?_
         rotate_left
         ·(intro w9 hSw; (try dsimp only at hSw); go_simp; try with_reducible rfl)
         try simp only [Act.put, List.setIfInBounds_toArray, List.set_cons_zero, List.set_cons_succ]
         refine wpAnyH_take (i := 8) (oi := _) (v := ?_) (List.getElem?_toArray.trans rfl) (by kernel_rfl) (by kernel_rfl) (by kernel_rfl) (fun _ _ _ h => h) (Or.inl ⟨by rfl, ?_⟩) (by assumption) ?_
         rotate_left
         ·(intro w9 hSw; (try dsimp only at hSw); go_simp; try with_reducible rfl)
         try simp only [Act.put, List.setIfInBounds_toArray, List.set_cons_zero, List.set_cons_succ]
         refine wpAnyH_done (by kernel_rfl) ?_ _
         go_wp2_with fail
         go_ret
         have HKF := Lib.hid (HK.out.step HKG2.out)
         exact ⟨rfl, (HKF.out.step (show Kept Nil wr2 _ from (by repeat (first | exact kzr _ _ | assumption | refine kzd ?_ | refine kzn ?_ _ | refine kza ?_ _ | refine kzs ?_ (by assumption))))).toBelow⟩
end Go.Proofs.YtniocgnfgpaioaaGreat.Mo
