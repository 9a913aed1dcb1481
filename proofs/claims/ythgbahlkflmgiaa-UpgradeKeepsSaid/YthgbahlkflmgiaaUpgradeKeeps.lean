/- The walk of the statement UpgradeKeeps. -/
import Derived.Test.YthgbahlkflmgiaaUpH
import Derived.Deep.RegionHeld3
import Derived.Deep.RegionWith
namespace Go.Proofs.Ythgbahlkflmgiaa.Mo
open Go Go.RowKit Go.Proofs.Ythgbahlkflmgiaa.Lb
set_option linter.unusedVariables false
set_option linter.unusedSimpArgs false
set_option maxRecDepth 8000
set_option maxHeartbeats 16000000 in
theorem UpgradeKeeps_calls (m : Md) (w : World) (hm : RModel w m) (ho : OkM m) :
    Calls Try.prog 4 #[m.val] w fun e w' => e = .returned (.bool true) ∧ Kept Nil w w' := by
  have hfd : ∀ (x y : Int) (w : World), (Instr.field 32 (.agg #[.int .i64 x, .int .i64 y]) 0).run Try.prog w = .ok (.int .i64 x) w := fun _ _ _ => by kernel_rfl
  have HM := Lib.hid hm
  have HO := Lib.hid ho
  obtain ⟨ver, pa, ps, pc, la, ls, lc, ea, es, ec⟩ := m
  clear hm ho
  unfold Md.val
  simp only at *
  obtain ⟨W1, hW⟩ : ∃ W, (w.alloc (.cells #[.int .i64 ver, .slice pa ps.length pc, .slice la ls.length lc, .slice ea es.length ec] 26)) = W := ⟨_, rfl⟩
  have hk : Kept Nil w W1 := by rw [← hW]; exact ((Kept.refl Nil w).alloc _)
  have hsz : W1.heap.size = w.heap.size + 1 := by rw [← hW]; simp
  have hb : W1.heap[w.heap.size]? = some (.cells #[.int .i64 ver, .slice pa ps.length pc, .slice la ls.length lc, .slice ea es.length ec] 26 (0, 0)) := by
    rw [← hW]
    have h9 := heap_new w (.cells #[.int .i64 ver, .slice pa ps.length pc, .slice la ls.length lc, .slice ea es.length ec] 26)
    exact h9
  have G0 := Lib.hid (show W1.cell? ⟨w.heap.size, 0, none⟩ = some (.int .i64 ver) by rw [cell_of hb]; rfl)
  have G1 := Lib.hid (show W1.cell? ⟨w.heap.size, 1, none⟩ = some (.slice pa ps.length pc) by rw [cell_of hb]; rfl)
  have G2 := Lib.hid (show W1.cell? ⟨w.heap.size, 2, none⟩ = some (.slice la ls.length lc) by rw [cell_of hb]; rfl)
  have G3 := Lib.hid (show W1.cell? ⟨w.heap.size, 3, none⟩ = some (.slice ea es.length ec) by rw [cell_of hb]; rfl)
  have GB := Lib.hid hb
  have hzg : w.heap.size < W1.heap.size := by omega
  clear hb
  have HW := Lib.hid hW
  have HK := Lib.hid hk
  have HSZ := Lib.hid hsz
  clear hW hk hsz
  have HM1 := Lib.hid (HM.out.nil HK.out)
  go_enter Try.func4, Try.ntmps4
  go_wp2_with fail
  rw [HW.out]
  refine (alive_is W1).mono ?_
  rintro e w1 ⟨rfl, hk1⟩
  have HK1 := Lib.hid hk1
  have hz1 := hk1.size
  clear hk1
  have g0 := (HK1.out).cell G0.out (fun h => h)
  have g1 := (HK1.out).cell G1.out (fun h => h)
  have g2 := (HK1.out).cell G2.out (fun h => h)
  have g3 := (HK1.out).cell G3.out (fun h => h)
  have hg1 : w.heap.size < w1.heap.size := by omega
  go_wp2_with fail
  refine (Few_h w1 (HM1.out.nil HK1.out)).mono ?_
  rintro e w2 ⟨b, rfl, hbb, hk2⟩
  have HBB := Lib.hid hbb
  have HK2 := Lib.hid (HK1.out.step hk2)
  have hz2 := hk2.size
  have hg2 : w.heap.size < w2.heap.size := by omega
  clear hbb hk2 g0 g1 g2 g3
  have g0 := (HK2.out).cell G0.out (fun h => h)
  have g1 := (HK2.out).cell G1.out (fun h => h)
  have g2 := (HK2.out).cell G2.out (fun h => h)
  have g3 := (HK2.out).cell G3.out (fun h => h)
  cases b with
  | false =>
    go_wp2_with fail
    go_ret
    exact ⟨rfl, HK.out.step HK2.out⟩
  | true =>
    have HF := Lib.hid (HBB.out rfl)
    have HHM := Lib.hid (held_of_few (HM1.out.nil HK2.out) HO.out HF.out)
    have hpl := HF.out.pl
    have hll := HF.out.ll
    have hel := HF.out.el
    simp only at hpl hll hel
    have hlat := Latest_is ver ps ls es pa la ea pc lc ec w2 HHM.out
    obtain ⟨u, hu⟩ : ∃ u, latF ⟨ver, pa, ps, pc, la, ls, lc, ea, es, ec⟩ = u := ⟨_, rfl⟩
    have HU := Lib.hid hu
    clear hu
    obtain ⟨F, hF⟩ : ∃ F, mdCheck ⟨ver, pa, ps, pc, la, ls, lc, ea, es, ec⟩ = F := ⟨_, rfl⟩
    have HCK := Lib.hid hF
    clear hF
    go_wp2_with fail
    refine hlat.mono ?_
    clear hlat g0 g1 g2 g3
    rintro e w3 hE
    have HK3 := Lib.hid hE.k
    have hz3 := hE.k.size
    by_cases hu0 : u.1 = 0
    · have fu : (u.1 != 0) = false := by simp [hu0]
      obtain ⟨⟨ver4, pa4, ps4, pc4, la4, ls4, lc4, ea4, es4, ec4⟩, e4, hh4, hs4, hf4, hv4, hr4⟩ := hE.ok (by rw [HU.out]; exact hu0)
      subst e4
      obtain rfl : ver4 = 3 := hv4
      have hshape := latM_shape (m := ⟨ver, pa, ps, pc, la, ls, lc, ea, es, ec⟩) (by rw [HU.out]; exact hu0)
      have hs49 := hshape.2.trans hs4
      have he4 : es = es4 := hs49.e
      have HHB := Lib.hid hh4
      have HRB := Lib.hid hr4
      have HSB := Lib.hid hs49
      have HS4 := Lib.hid hs4
      have HRM := Lib.hid hshape.1
      have HFB := Lib.hid (few_same hs49 HF.out)
      have HL4 := Lib.hid (latF_three hr4 rfl)
      clear hE hh4 hs4 hf4 hr4 hshape hs49
      subst he4
      obtain ⟨W4, hW⟩ : ∃ W, ((w3.alloc (.cells #[.int .i64 3, .slice pa4 ps4.length pc4, .slice la4 ls4.length lc4, .slice ea4 es.length ec4] 26)).alloc (.cells #[.int .i64 0, .int .i64 0] 32)) = W := ⟨_, rfl⟩
      have hk : Kept Nil w3 W4 := by rw [← hW]; exact (((Kept.refl Nil w3).alloc _).alloc _)
      have hsz : W4.heap.size = w3.heap.size + 2 := by rw [← hW]; simp
      have hb : W4.heap[w3.heap.size]? = some (.cells #[.int .i64 3, .slice pa4 ps4.length pc4, .slice la4 ls4.length lc4, .slice ea4 es.length ec4] 26 (0, 0)) := by
        rw [← hW]
        rw [heap_old _ _ (by simp only [World.size_alloc]; omega)]
        have h9 := heap_new w3 (.cells #[.int .i64 3, .slice pa4 ps4.length pc4, .slice la4 ls4.length lc4, .slice ea4 es.length ec4] 26)
        exact h9
      have B0 := Lib.hid (show W4.cell? ⟨w3.heap.size, 0, none⟩ = some (.int .i64 3) by rw [cell_of hb]; rfl)
      have B1 := Lib.hid (show W4.cell? ⟨w3.heap.size, 1, none⟩ = some (.slice pa4 ps4.length pc4) by rw [cell_of hb]; rfl)
      have B2 := Lib.hid (show W4.cell? ⟨w3.heap.size, 2, none⟩ = some (.slice la4 ls4.length lc4) by rw [cell_of hb]; rfl)
      have B3 := Lib.hid (show W4.cell? ⟨w3.heap.size, 3, none⟩ = some (.slice ea4 es.length ec4) by rw [cell_of hb]; rfl)
      have BB := Lib.hid hb
      have hzb : w3.heap.size < W4.heap.size := by omega
      clear hb
      have hb : W4.heap[w3.heap.size + 1]? = some (.cells #[.int .i64 0, .int .i64 0] 32 (0, 0)) := by
        rw [← hW]
        have h9 := heap_new (w3.alloc (.cells #[.int .i64 3, .slice pa4 ps4.length pc4, .slice la4 ls4.length lc4, .slice ea4 es.length ec4] 26)) (.cells #[.int .i64 0, .int .i64 0] 32)
        simp only [World.size_alloc] at h9
        exact h9
      have F0 := Lib.hid (show W4.cell? ⟨w3.heap.size + 1, 0, none⟩ = some (.int .i64 0) by rw [cell_of hb]; rfl)
      have F1 := Lib.hid (show W4.cell? ⟨w3.heap.size + 1, 1, none⟩ = some (.int .i64 0) by rw [cell_of hb]; rfl)
      have FB := Lib.hid hb
      have hzf : w3.heap.size + 1 < W4.heap.size := by omega
      clear hb
      have HW4 := Lib.hid hW
      have HK4 := Lib.hid hk
      have HSZ4 := Lib.hid hsz
      clear hW hk hsz
      have hz4 : w3.heap.size + 1 < W4.heap.size := by have := HSZ4.out; omega
      clear hu0 fu
      go_upto_region 6 with fail
      rw [HW4.out]
      have HKA := Lib.hid (HK2.out.step (HK3.out.step HK4.out))
      have hgA : w.heap.size < W4.heap.size := by omega
      have f0 := F0.out
      have hlat := Latest_is 3 ps4 ls4 es pa4 la4 ea4 pc4 lc4 ec4 W4 (HHB.out.nil HK4.out)
      have b0 := B0.out
      have b1 := B1.out
      have b2 := B2.out
      have b3 := B3.out
      go_wp2_with fail
      refine hlat.mono ?_
      clear hlat b0 b1 b2 b3 f0
      rintro e w5 hE
      have HK5 := Lib.hid hE.k
      have hz5 := hE.k.size
      obtain ⟨⟨ver6, pa6, ps6, pc6, la6, ls6, lc6, ea6, es6, ec6⟩, e6, hh6, hs6, hf6, hv6, hr6⟩ := hE.ok (by rw [HL4.out.1])
      subst e6
      obtain rfl : ver6 = 3 := hv6
      rw [HL4.out.2] at hs6
      have HHC := Lib.hid hh6
      have HSC := Lib.hid hs6
      clear hE hh6 hs6 hf6 hr6
      obtain ⟨W6, hW⟩ : ∃ W, ((w5.alloc (.cells #[.int .i64 3, .slice pa6 ps6.length pc6, .slice la6 ls6.length lc6, .slice ea6 es6.length ec6] 26)).alloc (.cells #[.int .i64 0, .int .i64 0] 32)) = W := ⟨_, rfl⟩
      have hk : Kept Nil w5 W6 := by rw [← hW]; exact (((Kept.refl Nil w5).alloc _).alloc _)
      have hsz : W6.heap.size = w5.heap.size + 2 := by rw [← hW]; simp
      have hb : W6.heap[w5.heap.size]? = some (.cells #[.int .i64 3, .slice pa6 ps6.length pc6, .slice la6 ls6.length lc6, .slice ea6 es6.length ec6] 26 (0, 0)) := by
        rw [← hW]
        rw [heap_old _ _ (by simp only [World.size_alloc]; omega)]
        have h9 := heap_new w5 (.cells #[.int .i64 3, .slice pa6 ps6.length pc6, .slice la6 ls6.length lc6, .slice ea6 es6.length ec6] 26)
        exact h9
      have C0 := Lib.hid (show W6.cell? ⟨w5.heap.size, 0, none⟩ = some (.int .i64 3) by rw [cell_of hb]; rfl)
      have C1 := Lib.hid (show W6.cell? ⟨w5.heap.size, 1, none⟩ = some (.slice pa6 ps6.length pc6) by rw [cell_of hb]; rfl)
      have C2 := Lib.hid (show W6.cell? ⟨w5.heap.size, 2, none⟩ = some (.slice la6 ls6.length lc6) by rw [cell_of hb]; rfl)
      have C3 := Lib.hid (show W6.cell? ⟨w5.heap.size, 3, none⟩ = some (.slice ea6 es6.length ec6) by rw [cell_of hb]; rfl)
      have CB := Lib.hid hb
      have hzc : w5.heap.size < W6.heap.size := by omega
      clear hb
      have hb : W6.heap[w5.heap.size + 1]? = some (.cells #[.int .i64 0, .int .i64 0] 32 (0, 0)) := by
        rw [← hW]
        have h9 := heap_new (w5.alloc (.cells #[.int .i64 3, .slice pa6 ps6.length pc6, .slice la6 ls6.length lc6, .slice ea6 es6.length ec6] 26)) (.cells #[.int .i64 0, .int .i64 0] 32)
        simp only [World.size_alloc] at h9
        exact h9
      have D0 := Lib.hid (show W6.cell? ⟨w5.heap.size + 1, 0, none⟩ = some (.int .i64 0) by rw [cell_of hb]; rfl)
      have D1 := Lib.hid (show W6.cell? ⟨w5.heap.size + 1, 1, none⟩ = some (.int .i64 0) by rw [cell_of hb]; rfl)
      have DB := Lib.hid hb
      have hzd : w5.heap.size + 1 < W6.heap.size := by omega
      clear hb
      have HW6 := Lib.hid hW
      have HK6 := Lib.hid hk
      have HSZ6 := Lib.hid hsz
      clear hW hk hsz
      have hz6 : w5.heap.size + 1 < W6.heap.size := by have := HSZ6.out; omega
      go_upto_region 9 with fail
      rw [HW6.out]
      have HK46 := Lib.hid (show Kept Nil W4 W6 from HK5.out.step HK6.out)
      have HKG := Lib.hid (HKA.out.step HK46.out)
      have HM6 := Lib.hid (HM1.out.nil HKG.out)
      have HH0 := Lib.hid (held_of_few HM6.out HO.out HF.out)
      have HHB6 := Lib.hid (HHB.out.nil (HK4.out.step HK46.out))
      have HHC6 := Lib.hid (HHC.out.nil HK6.out)
      have hfe := fault_eq
      have hgW : w.heap.size < W6.heap.size := by omega
      have hbW : w3.heap.size + 1 < W6.heap.size := by omega
      have hbV : w3.heap.size < W6.heap.size := by omega
      obtain ⟨ns, hns⟩ : ∃ ns, mdNames ⟨ver, pa, ps, pc, la, ls, lc, ea, es, ec⟩ = ns := ⟨_, rfl⟩
      have hnl : ns.length ≤ 100000 := by rw [← hns]; exact names_le HF.out.pl HF.out.ll (fun q hq => (HF.out.vs q hq).1)
      have HNS := Lib.hid hns
      have HNB := Lib.hid (show mdNames ⟨3, pa4, ps4, pc4, la4, ls4, lc4, ea4, es, ec4⟩ = ns by rw [← names_same HSB.out, latS_names]; exact hns)
      clear hns
      by_cases hv3 : ver < 3
      · have hd3 : decide (ver < 3) = true := decide_eq_true hv3
        have C9_0 := Lib.hid (show W6.cell? ⟨w.heap.size, 0, none⟩ = some (.int .i64 ver) from HKG.out.cell G0.out (fun h => h))
        have C9_1 := Lib.hid (show W6.cell? ⟨w.heap.size, 1, none⟩ = some (.slice pa ps.length pc) from HKG.out.cell G1.out (fun h => h))
        have C9_2 := Lib.hid (show W6.cell? ⟨w.heap.size, 2, none⟩ = some (.slice la ls.length lc) from HKG.out.cell G2.out (fun h => h))
        have C9_3 := Lib.hid (show W6.cell? ⟨w.heap.size, 3, none⟩ = some (.slice ea es.length ec) from HKG.out.cell G3.out (fun h => h))
        have C9_4 := Lib.hid (show W6.cell? ⟨w3.heap.size, 0, none⟩ = some (.int .i64 3) from HK46.out.cell B0.out (fun h => h))
        have C9_5 := Lib.hid (show W6.cell? ⟨w3.heap.size, 1, none⟩ = some (.slice pa4 ps4.length pc4) from HK46.out.cell B1.out (fun h => h))
        have C9_6 := Lib.hid (show W6.cell? ⟨w3.heap.size, 2, none⟩ = some (.slice la4 ls4.length lc4) from HK46.out.cell B2.out (fun h => h))
        have C9_7 := Lib.hid (show W6.cell? ⟨w3.heap.size, 3, none⟩ = some (.slice ea4 es.length ec4) from HK46.out.cell B3.out (fun h => h))
        have C9_8 := Lib.hid (show W6.cell? ⟨w5.heap.size, 0, none⟩ = some (.int .i64 3) from C0.out)
        have C9_9 := Lib.hid (show W6.cell? ⟨w5.heap.size, 1, none⟩ = some (.slice pa6 ps6.length pc6) from C1.out)
        have C9_10 := Lib.hid (show W6.cell? ⟨w5.heap.size, 2, none⟩ = some (.slice la6 ls6.length lc6) from C2.out)
        have C9_11 := Lib.hid (show W6.cell? ⟨w5.heap.size, 3, none⟩ = some (.slice ea6 es6.length ec6) from C3.out)
        have C9_12 := Lib.hid (show W6.cell? ⟨w5.heap.size + 1, 0, none⟩ = some (.int .i64 0) from D0.out)
        have C9_13 := Lib.hid (show W6.cell? ⟨w5.heap.size + 1, 1, none⟩ = some (.int .i64 0) from D1.out)
        refine wp_region_held_drew (S := fun w' => w'.cell? ⟨w.heap.size, 0, none⟩ = some (.int .i64 ver) ∧ w'.cell? ⟨w.heap.size, 1, none⟩ = some (.slice pa ps.length pc) ∧ w'.cell? ⟨w.heap.size, 2, none⟩ = some (.slice la ls.length lc) ∧ w'.cell? ⟨w.heap.size, 3, none⟩ = some (.slice ea es.length ec) ∧ w'.cell? ⟨w3.heap.size, 0, none⟩ = some (.int .i64 3) ∧ w'.cell? ⟨w3.heap.size, 1, none⟩ = some (.slice pa4 ps4.length pc4) ∧ w'.cell? ⟨w3.heap.size, 2, none⟩ = some (.slice la4 ls4.length lc4) ∧ w'.cell? ⟨w3.heap.size, 3, none⟩ = some (.slice ea4 es.length ec4) ∧ w'.cell? ⟨w5.heap.size, 0, none⟩ = some (.int .i64 3) ∧ w'.cell? ⟨w5.heap.size, 1, none⟩ = some (.slice pa6 ps6.length pc6) ∧ w'.cell? ⟨w5.heap.size, 2, none⟩ = some (.slice la6 ls6.length lc6) ∧ w'.cell? ⟨w5.heap.size, 3, none⟩ = some (.slice ea6 es6.length ec6) ∧ w'.cell? ⟨w5.heap.size + 1, 0, none⟩ = some (.int .i64 0) ∧ w'.cell? ⟨w5.heap.size + 1, 1, none⟩ = some (.int .i64 0)) (by kernel_rfl) ⟨C9_0.out, C9_1.out, C9_2.out, C9_3.out, C9_4.out, C9_5.out, C9_6.out, C9_7.out, C9_8.out, C9_9.out, C9_10.out, C9_11.out, C9_12.out, C9_13.out⟩ (fun hHeld => ?_)
        refine wpAnyH_take (i := 0) (oi := _) (v := ?_) (List.getElem?_toArray.trans rfl) (by kernel_rfl) (by kernel_rfl) (by kernel_rfl) (fun _ _ _ h => h) (Or.inl ⟨by rfl, ?_⟩) (by assumption) ?_
        rotate_left
        · (intro w9 hSw; (try dsimp only at hSw); go_simp; try with_reducible rfl)
        try simp only [Act.put, List.setIfInBounds_toArray, List.set_cons_zero, List.set_cons_succ]
        refine wpAnyH_take (i := 2) (oi := _) (v := ?_) (List.getElem?_toArray.trans rfl) (by kernel_rfl) (by kernel_rfl) (by kernel_rfl) (fun _ _ _ h => h) (Or.inl ⟨by rfl, ?_⟩) (by assumption) ?_
        rotate_left
        · (intro w9 hSw; (try dsimp only at hSw); go_simp; try with_reducible rfl)
        try simp only [Act.put, List.setIfInBounds_toArray, List.set_cons_zero, List.set_cons_succ]
        refine wpAnyH_ready (rs := [1]) (by kernel_rfl) (by simp) ?_
        refine AllReadyH.cons (o := _) (List.getElem?_toArray.trans rfl) (fun K hK => ?_) AllReadyH.nil
        go_simp
        refine (Check_h _ ?_).mono ?_
        · exact HHB6.out.nil (by repeat (first | exact Kept.refl _ _ | assumption | refine Kept.drew ?_ | refine Kept.drewN ?_ _ | refine Kept.alloc ?_ _ | refine Kept.step ?_ (by assumption)))
        rintro e w71 ⟨rfl, hk71⟩
        rw [HRB.out.ok]
        have hz : Kept Nil W6 w71 := (by repeat (first | exact Kept.refl _ _ | assumption | refine Kept.drew ?_ | refine Kept.drewN ?_ _ | refine Kept.alloc ?_ _ | refine Kept.step ?_ (by assumption)))
        try go_wp2_with fail
        refine hK.out _ _ ⟨hz.cell C9_0.out (fun h => h), hz.cell C9_1.out (fun h => h), hz.cell C9_2.out (fun h => h), hz.cell C9_3.out (fun h => h), hz.cell C9_4.out (fun h => h), hz.cell C9_5.out (fun h => h), hz.cell C9_6.out (fun h => h), hz.cell C9_7.out (fun h => h), hz.cell C9_8.out (fun h => h), hz.cell C9_9.out (fun h => h), hz.cell C9_10.out (fun h => h), hz.cell C9_11.out (fun h => h), hz.cell C9_12.out (fun h => h), hz.cell C9_13.out (fun h => h)⟩ (fun hHeld => ?_)
        clear hK K hz
        try simp only [Act.put, List.setIfInBounds_toArray, List.set_cons_zero, List.set_cons_succ]
        refine wpAnyH_take (i := 3) (oi := _) (v := ?_) (List.getElem?_toArray.trans rfl) (by kernel_rfl) (by kernel_rfl) (by kernel_rfl) (fun _ _ _ h => h) (Or.inl ⟨by rfl, ?_⟩) (by assumption) ?_
        rotate_left
        · (intro w9 hSw; (try dsimp only at hSw); go_simp; try with_reducible rfl)
        try simp only [Act.put, List.setIfInBounds_toArray, List.set_cons_zero, List.set_cons_succ]
        refine wpAnyH_take (i := 4) (oi := _) (v := ?_) (List.getElem?_toArray.trans rfl) (by kernel_rfl) (by kernel_rfl) (by kernel_rfl) (fun _ _ _ h => h) (Or.inl ⟨by rfl, ?_⟩) (by assumption) ?_
        rotate_left
        · (intro w9 hSw; (try dsimp only at hSw); go_simp; try with_reducible rfl)
        try simp only [Act.put, List.setIfInBounds_toArray, List.set_cons_zero, List.set_cons_succ]
        refine wpAnyH_take (i := 5) (oi := _) (v := ?_) (List.getElem?_toArray.trans rfl) (by kernel_rfl) (by kernel_rfl) (by kernel_rfl) (fun _ _ _ h => h) (Or.inl ⟨by rfl, ?_⟩) (by assumption) ?_
        rotate_left
        · (intro w9 hSw; (try dsimp only at hSw); go_simp; try with_reducible rfl)
        try simp only [Act.put, List.setIfInBounds_toArray, List.set_cons_zero, List.set_cons_succ]
        refine wpAnyH_take (i := 6) (oi := _) (v := ?_) (List.getElem?_toArray.trans rfl) (by kernel_rfl) (by kernel_rfl) (by kernel_rfl) (fun _ _ _ h => h) (Or.inl ⟨by rfl, ?_⟩) (by assumption) ?_
        rotate_left
        · (intro w9 hSw; (try dsimp only at hSw); go_simp; try with_reducible rfl)
        try simp only [Act.put, List.setIfInBounds_toArray, List.set_cons_zero, List.set_cons_succ]
        refine wpAnyH_take (i := 7) (oi := _) (v := ?_) (List.getElem?_toArray.trans rfl) (by kernel_rfl) (by kernel_rfl) (by kernel_rfl) (fun _ _ _ h => h) (Or.inl ⟨by rfl, ?_⟩) (by assumption) ?_
        rotate_left
        · (intro w9 hSw; (try dsimp only at hSw); go_simp; try with_reducible rfl)
        try simp only [Act.put, List.setIfInBounds_toArray, List.set_cons_zero, List.set_cons_succ]
        refine wpAnyH_take (i := 8) (oi := _) (v := ?_) (List.getElem?_toArray.trans rfl) (by kernel_rfl) (by kernel_rfl) (by kernel_rfl) (fun _ _ _ h => h) (Or.inl ⟨by rfl, ?_⟩) (by assumption) ?_
        rotate_left
        · (intro w9 hSw; (try dsimp only at hSw); go_simp; try with_reducible rfl)
        try simp only [Act.put, List.setIfInBounds_toArray, List.set_cons_zero, List.set_cons_succ]
        refine wpAnyH_take (i := 9) (oi := _) (v := ?_) (List.getElem?_toArray.trans rfl) (by kernel_rfl) (by kernel_rfl) (by kernel_rfl) (fun _ _ _ h => h) (Or.inl ⟨by rfl, ?_⟩) (by assumption) ?_
        rotate_left
        · (intro w9 hSw; (try dsimp only at hSw); go_simp; try with_reducible rfl)
        try simp only [Act.put, List.setIfInBounds_toArray, List.set_cons_zero, List.set_cons_succ]
        refine wpAnyH_take (i := 10) (oi := _) (v := ?_) (List.getElem?_toArray.trans rfl) (by kernel_rfl) (by kernel_rfl) (by kernel_rfl) (fun _ _ _ h => h) (Or.inl ⟨by rfl, ?_⟩) (by assumption) ?_
        rotate_left
        · (intro w9 hSw; (try dsimp only at hSw); go_simp; try with_reducible rfl)
        try simp only [Act.put, List.setIfInBounds_toArray, List.set_cons_zero, List.set_cons_succ]
        refine wpAnyH_take (i := 12) (oi := _) (v := ?_) (List.getElem?_toArray.trans rfl) (by kernel_rfl) (by kernel_rfl) (by kernel_rfl) (fun _ _ _ h => h) (Or.inl ⟨by rfl, ?_⟩) (by assumption) ?_
        rotate_left
        · (intro w9 hSw; (try dsimp only at hSw); go_simp; try with_reducible rfl)
        try simp only [Act.put, List.setIfInBounds_toArray, List.set_cons_zero, List.set_cons_succ]
        refine wpAnyH_ready (rs := [11]) (by kernel_rfl) (by simp) ?_
        refine AllReadyH.cons (o := _) (List.getElem?_toArray.trans rfl) (fun K hK => ?_) AllReadyH.nil
        go_simp
        refine (Names_h _ ?_ HFB.out HNB.out).mono ?_
        · exact HHB6.out.nil (by repeat (first | exact Kept.refl _ _ | assumption | refine Kept.drew ?_ | refine Kept.drewN ?_ _ | refine Kept.alloc ?_ _ | refine Kept.step ?_ (by assumption)))
        rintro e w72 ⟨A72, c72, rfl, hA72, hk72⟩
        have HA72 := Lib.hid hA72
        clear hA72
        have hz : Kept Nil W6 w72 := (by repeat (first | exact Kept.refl _ _ | assumption | refine Kept.drew ?_ | refine Kept.drewN ?_ _ | refine Kept.alloc ?_ _ | refine Kept.step ?_ (by assumption)))
        try go_wp2_with fail
        refine hK.out _ _ ⟨hz.cell C9_0.out (fun h => h), hz.cell C9_1.out (fun h => h), hz.cell C9_2.out (fun h => h), hz.cell C9_3.out (fun h => h), hz.cell C9_4.out (fun h => h), hz.cell C9_5.out (fun h => h), hz.cell C9_6.out (fun h => h), hz.cell C9_7.out (fun h => h), hz.cell C9_8.out (fun h => h), hz.cell C9_9.out (fun h => h), hz.cell C9_10.out (fun h => h), hz.cell C9_11.out (fun h => h), hz.cell C9_12.out (fun h => h), hz.cell C9_13.out (fun h => h)⟩ (fun hHeld => ?_)
        clear hK K hz
        try simp only [Act.put, List.setIfInBounds_toArray, List.set_cons_zero, List.set_cons_succ]
        refine wpAnyH_ready (rs := [13]) (by kernel_rfl) (by simp) ?_
        refine AllReadyH.cons (o := _) (List.getElem?_toArray.trans rfl) (fun K hK => ?_) AllReadyH.nil
        go_simp
        refine (Names_h _ ?_ HF.out HNS.out).mono ?_
        · exact HH0.out.nil (by repeat (first | exact Kept.refl _ _ | assumption | refine Kept.drew ?_ | refine Kept.drewN ?_ _ | refine Kept.alloc ?_ _ | refine Kept.step ?_ (by assumption)))
        rintro e w73 ⟨A73, c73, rfl, hA73, hk73⟩
        have HA73 := Lib.hid hA73
        clear hA73
        have hz : Kept Nil W6 w73 := (by repeat (first | exact Kept.refl _ _ | assumption | refine Kept.drew ?_ | refine Kept.drewN ?_ _ | refine Kept.alloc ?_ _ | refine Kept.step ?_ (by assumption)))
        try go_wp2_with fail
        refine hK.out _ _ ⟨hz.cell C9_0.out (fun h => h), hz.cell C9_1.out (fun h => h), hz.cell C9_2.out (fun h => h), hz.cell C9_3.out (fun h => h), hz.cell C9_4.out (fun h => h), hz.cell C9_5.out (fun h => h), hz.cell C9_6.out (fun h => h), hz.cell C9_7.out (fun h => h), hz.cell C9_8.out (fun h => h), hz.cell C9_9.out (fun h => h), hz.cell C9_10.out (fun h => h), hz.cell C9_11.out (fun h => h), hz.cell C9_12.out (fun h => h), hz.cell C9_13.out (fun h => h)⟩ (fun hHeld => ?_)
        clear hK K hz
        try simp only [Act.put, List.setIfInBounds_toArray, List.set_cons_zero, List.set_cons_succ]
        refine wpAnyH_ready (rs := [14]) (by kernel_rfl) (by simp) ?_
        refine AllReadyH.cons (o := _) (List.getElem?_toArray.trans rfl) (fun K hK => ?_) AllReadyH.nil
        go_simp
        refine (Same_is ns A72 A73 c72 c73 _ ?_ ?_ ?_).mono ?_
        · exact strs_nil (by repeat (first | exact Kept.refl _ _ | assumption | refine Kept.drew ?_ | refine Kept.drewN ?_ _ | refine Kept.alloc ?_ _ | refine Kept.step ?_ (by assumption))) HA72.out
        · exact strs_nil (by repeat (first | exact Kept.refl _ _ | assumption | refine Kept.drew ?_ | refine Kept.drewN ?_ _ | refine Kept.alloc ?_ _ | refine Kept.step ?_ (by assumption))) HA73.out
        · omega
        rintro e w74 ⟨rfl, hk74⟩
        have hz : Kept Nil W6 w74 := (by repeat (first | exact Kept.refl _ _ | assumption | refine Kept.drew ?_ | refine Kept.drewN ?_ _ | refine Kept.alloc ?_ _ | refine Kept.step ?_ (by assumption)))
        try go_wp2_with fail
        refine hK.out _ _ ⟨hz.cell C9_0.out (fun h => h), hz.cell C9_1.out (fun h => h), hz.cell C9_2.out (fun h => h), hz.cell C9_3.out (fun h => h), hz.cell C9_4.out (fun h => h), hz.cell C9_5.out (fun h => h), hz.cell C9_6.out (fun h => h), hz.cell C9_7.out (fun h => h), hz.cell C9_8.out (fun h => h), hz.cell C9_9.out (fun h => h), hz.cell C9_10.out (fun h => h), hz.cell C9_11.out (fun h => h), hz.cell C9_12.out (fun h => h), hz.cell C9_13.out (fun h => h)⟩ (fun hHeld => ?_)
        clear hK K hz
        try simp only [Act.put, List.setIfInBounds_toArray, List.set_cons_zero, List.set_cons_succ]
        refine wpAnyH_take (i := 15) (oi := _) (v := ?_) (List.getElem?_toArray.trans rfl) (by kernel_rfl) (by kernel_rfl) (by kernel_rfl) (fun _ _ _ h => h) (Or.inl ⟨by rfl, ?_⟩) (by assumption) ?_
        rotate_left
        · (intro w9 hSw; (try dsimp only at hSw); go_simp; try with_reducible rfl)
        try simp only [Act.put, List.setIfInBounds_toArray, List.set_cons_zero, List.set_cons_succ]
        refine wpAnyH_take (i := 16) (oi := _) (v := ?_) (List.getElem?_toArray.trans rfl) (by kernel_rfl) (by kernel_rfl) (by kernel_rfl) (fun _ _ _ h => h) (Or.inl ⟨by rfl, ?_⟩) (by assumption) ?_
        rotate_left
        · (intro w9 hSw; (try dsimp only at hSw); go_simp; try with_reducible rfl)
        try simp only [Act.put, List.setIfInBounds_toArray, List.set_cons_zero, List.set_cons_succ]
        refine wpAnyH_take (i := 17) (oi := _) (v := ?_) (List.getElem?_toArray.trans rfl) (by kernel_rfl) (by kernel_rfl) (by kernel_rfl) (fun _ _ _ h => h) (Or.inl ⟨by rfl, ?_⟩) (by assumption) ?_
        rotate_left
        · (intro w9 hSw; (try dsimp only at hSw); go_simp; try with_reducible rfl)
        try simp only [Act.put, List.setIfInBounds_toArray, List.set_cons_zero, List.set_cons_succ]
        refine wpAnyH_take (i := 18) (oi := _) (v := ?_) (List.getElem?_toArray.trans rfl) (by kernel_rfl) (by kernel_rfl) (by kernel_rfl) (fun _ _ _ h => h) (Or.inl ⟨by rfl, ?_⟩) (by assumption) ?_
        rotate_left
        · (intro w9 hSw; (try dsimp only at hSw); go_simp; try with_reducible rfl)
        try simp only [Act.put, List.setIfInBounds_toArray, List.set_cons_zero, List.set_cons_succ]
        refine wpAnyH_take (i := 19) (oi := _) (v := ?_) (List.getElem?_toArray.trans rfl) (by kernel_rfl) (by kernel_rfl) (by kernel_rfl) (fun _ _ _ h => h) (Or.inl ⟨by rfl, ?_⟩) (by assumption) ?_
        rotate_left
        · (intro w9 hSw; (try dsimp only at hSw); go_simp; try with_reducible rfl)
        try simp only [Act.put, List.setIfInBounds_toArray, List.set_cons_zero, List.set_cons_succ]
        refine wpAnyH_take (i := 20) (oi := _) (v := ?_) (List.getElem?_toArray.trans rfl) (by kernel_rfl) (by kernel_rfl) (by kernel_rfl) (fun _ _ _ h => h) (Or.inl ⟨by rfl, ?_⟩) (by assumption) ?_
        rotate_left
        · (intro w9 hSw; (try dsimp only at hSw); go_simp; try with_reducible rfl)
        try simp only [Act.put, List.setIfInBounds_toArray, List.set_cons_zero, List.set_cons_succ]
        refine wpAnyH_take (i := 21) (oi := _) (v := ?_) (List.getElem?_toArray.trans rfl) (by kernel_rfl) (by kernel_rfl) (by kernel_rfl) (fun _ _ _ h => h) (Or.inl ⟨by rfl, ?_⟩) (by assumption) ?_
        rotate_left
        · (intro w9 hSw; (try dsimp only at hSw); go_simp; try with_reducible rfl)
        try simp only [Act.put, List.setIfInBounds_toArray, List.set_cons_zero, List.set_cons_succ]
        refine wpAnyH_take (i := 22) (oi := _) (v := ?_) (List.getElem?_toArray.trans rfl) (by kernel_rfl) (by kernel_rfl) (by kernel_rfl) (fun _ _ _ h => h) (Or.inl ⟨by rfl, ?_⟩) (by assumption) ?_
        rotate_left
        · (intro w9 hSw; (try dsimp only at hSw); go_simp; try with_reducible rfl)
        try simp only [Act.put, List.setIfInBounds_toArray, List.set_cons_zero, List.set_cons_succ]
        refine wpAnyH_take (i := 23) (oi := _) (v := ?_) (List.getElem?_toArray.trans rfl) (by kernel_rfl) (by kernel_rfl) (by kernel_rfl) (fun _ _ _ h => h) (Or.inl ⟨by rfl, ?_⟩) (by assumption) ?_
        rotate_left
        · (intro w9 hSw; (try dsimp only at hSw); go_simp; try with_reducible rfl)
        try simp only [Act.put, List.setIfInBounds_toArray, List.set_cons_zero, List.set_cons_succ]
        refine wpAnyH_ready (rs := [24]) (by kernel_rfl) (by simp) ?_
        refine AllReadyH.cons (o := _) (List.getElem?_toArray.trans rfl) (fun K hK => ?_) AllReadyH.nil
        go_simp
        refine (Same_h _ ?_ ?_ HSC.out.symm).mono ?_
        · exact HHC6.out.nil (by repeat (first | exact Kept.refl _ _ | assumption | refine Kept.drew ?_ | refine Kept.drewN ?_ _ | refine Kept.alloc ?_ _ | refine Kept.step ?_ (by assumption)))
        · exact HHB6.out.nil (by repeat (first | exact Kept.refl _ _ | assumption | refine Kept.drew ?_ | refine Kept.drewN ?_ _ | refine Kept.alloc ?_ _ | refine Kept.step ?_ (by assumption)))
        rintro e w75 ⟨rfl, hk75⟩
        have hz : Kept Nil W6 w75 := (by repeat (first | exact Kept.refl _ _ | assumption | refine Kept.drew ?_ | refine Kept.drewN ?_ _ | refine Kept.alloc ?_ _ | refine Kept.step ?_ (by assumption)))
        try go_wp2_with fail
        refine hK.out _ _ ⟨hz.cell C9_0.out (fun h => h), hz.cell C9_1.out (fun h => h), hz.cell C9_2.out (fun h => h), hz.cell C9_3.out (fun h => h), hz.cell C9_4.out (fun h => h), hz.cell C9_5.out (fun h => h), hz.cell C9_6.out (fun h => h), hz.cell C9_7.out (fun h => h), hz.cell C9_8.out (fun h => h), hz.cell C9_9.out (fun h => h), hz.cell C9_10.out (fun h => h), hz.cell C9_11.out (fun h => h), hz.cell C9_12.out (fun h => h), hz.cell C9_13.out (fun h => h)⟩ (fun hHeld => ?_)
        clear hK K hz
        try simp only [Act.put, List.setIfInBounds_toArray, List.set_cons_zero, List.set_cons_succ]
        refine wpAnyH_take (i := 25) (oi := _) (v := ?_) (List.getElem?_toArray.trans rfl) (by kernel_rfl) (by kernel_rfl) (by kernel_rfl) (fun _ _ _ h => h) (Or.inl ⟨by rfl, ?_⟩) (by assumption) ?_
        rotate_left
        · (intro w9 hSw; (try dsimp only at hSw); go_simp; try with_reducible rfl)
        try simp only [Act.put, List.setIfInBounds_toArray, List.set_cons_zero, List.set_cons_succ]
        refine wpAnyH_take (i := 26) (oi := _) (v := ?_) (List.getElem?_toArray.trans rfl) (by kernel_rfl) (by kernel_rfl) (by kernel_rfl) (fun _ _ _ h => h) (Or.inl ⟨by rfl, ?_⟩) (by assumption) ?_
        rotate_left
        · (intro w9 hSw; (try dsimp only at hSw); go_simp; try with_reducible rfl)
        try simp only [Act.put, List.setIfInBounds_toArray, List.set_cons_zero, List.set_cons_succ]
        refine wpAnyH_take (i := 27) (oi := _) (v := ?_) (List.getElem?_toArray.trans rfl) (by kernel_rfl) (by kernel_rfl) (by kernel_rfl) (fun _ _ _ h => h) (Or.inl ⟨by rfl, ?_⟩) (by assumption) ?_
        rotate_left
        · (intro w9 hSw; (try dsimp only at hSw); go_simp; try with_reducible rfl)
        try simp only [Act.put, List.setIfInBounds_toArray, List.set_cons_zero, List.set_cons_succ]
        refine wpAnyH_take (i := 28) (oi := _) (v := ?_) (List.getElem?_toArray.trans rfl) (by kernel_rfl) (by kernel_rfl) (by kernel_rfl) (fun _ _ _ h => h) (Or.inl ⟨by rfl, ?_⟩) (by assumption) ?_
        rotate_left
        · (intro w9 hSw; (try dsimp only at hSw); go_simp; try with_reducible rfl)
        try simp only [Act.put, List.setIfInBounds_toArray, List.set_cons_zero, List.set_cons_succ]
        refine wpAnyH_take (i := 29) (oi := _) (v := ?_) (List.getElem?_toArray.trans rfl) (by kernel_rfl) (by kernel_rfl) (by kernel_rfl) (fun _ _ _ h => h) (Or.inl ⟨by rfl, ?_⟩) (by assumption) ?_
        rotate_left
        · (intro w9 hSw; (try dsimp only at hSw); go_simp; try with_reducible rfl)
        try simp only [Act.put, List.setIfInBounds_toArray, List.set_cons_zero, List.set_cons_succ]
        refine wpAnyH_take (i := 30) (oi := _) (v := ?_) (List.getElem?_toArray.trans rfl) (by kernel_rfl) (by kernel_rfl) (by kernel_rfl) (fun _ _ _ h => h) (Or.inl ⟨by rfl, ?_⟩) (by assumption) ?_
        rotate_left
        · (intro w9 hSw; (try dsimp only at hSw); go_simp; try with_reducible rfl)
        try simp only [Act.put, List.setIfInBounds_toArray, List.set_cons_zero, List.set_cons_succ]
        refine wpAnyH_take (i := 31) (oi := _) (v := undef) (List.getElem?_toArray.trans rfl) (by kernel_rfl) (by kernel_rfl) (by kernel_rfl) (fun _ _ _ h => h) (Or.inr ⟨by rfl, rfl⟩) (by assumption) ?_
        try simp only [Act.put, List.setIfInBounds_toArray, List.set_cons_zero, List.set_cons_succ]
        refine wpAnyH_take (i := 32) (oi := _) (v := undef) (List.getElem?_toArray.trans rfl) (by kernel_rfl) (by kernel_rfl) (by kernel_rfl) (fun _ _ _ h => h) (Or.inr ⟨by rfl, rfl⟩) (by assumption) ?_
        try simp only [Act.put, List.setIfInBounds_toArray, List.set_cons_zero, List.set_cons_succ]
        refine wpAnyH_take (i := 33) (oi := _) (v := undef) (List.getElem?_toArray.trans rfl) (by kernel_rfl) (by kernel_rfl) (by kernel_rfl) (fun _ _ _ h => h) (Or.inr ⟨by rfl, rfl⟩) (by assumption) ?_
        try simp only [Act.put, List.setIfInBounds_toArray, List.set_cons_zero, List.set_cons_succ]
        refine wpAnyH_take (i := 34) (oi := _) (v := ?_) (List.getElem?_toArray.trans rfl) (by kernel_rfl) (by kernel_rfl) (by kernel_rfl) (fun _ _ _ h => h) (Or.inl ⟨by rfl, ?_⟩) (by assumption) ?_
        rotate_left
        · (intro w9 hSw; (try dsimp only at hSw); go_simp; try with_reducible rfl)
        try simp only [Act.put, List.setIfInBounds_toArray, List.set_cons_zero, List.set_cons_succ]
        refine wpAnyH_take (i := 35) (oi := _) (v := ?_) (List.getElem?_toArray.trans rfl) (by kernel_rfl) (by kernel_rfl) (by kernel_rfl) (fun _ _ _ h => h) (Or.inl ⟨by rfl, ?_⟩) (by assumption) ?_
        rotate_left
        · (intro w9 hSw; (try dsimp only at hSw); go_simp; try with_reducible rfl)
        try simp only [Act.put, List.setIfInBounds_toArray, List.set_cons_zero, List.set_cons_succ]
        refine wpAnyH_take (i := 36) (oi := _) (v := ?_) (List.getElem?_toArray.trans rfl) (by kernel_rfl) (by kernel_rfl) (by kernel_rfl) (fun _ _ _ h => h) (Or.inl ⟨by rfl, ?_⟩) (by assumption) ?_
        rotate_left
        · (intro w9 hSw; (try dsimp only at hSw); go_simp; try with_reducible rfl)
        try simp only [Act.put, List.setIfInBounds_toArray, List.set_cons_zero, List.set_cons_succ]
        refine wpAnyH_take (i := 37) (oi := _) (v := ?_) (List.getElem?_toArray.trans rfl) (by kernel_rfl) (by kernel_rfl) (by kernel_rfl) (fun _ _ _ h => h) (Or.inl ⟨by rfl, ?_⟩) (by assumption) ?_
        rotate_left
        · (intro w9 hSw; (try dsimp only at hSw); go_simp; try with_reducible rfl)
        try simp only [Act.put, List.setIfInBounds_toArray, List.set_cons_zero, List.set_cons_succ]
        refine wpAnyH_take (i := 38) (oi := _) (v := ?_) (List.getElem?_toArray.trans rfl) (by kernel_rfl) (by kernel_rfl) (by kernel_rfl) (fun _ _ _ h => h) (Or.inl ⟨by rfl, ?_⟩) (by assumption) ?_
        rotate_left
        · (intro w9 hSw; (try dsimp only at hSw); go_simp; try with_reducible rfl)
        try simp only [Act.put, List.setIfInBounds_toArray, List.set_cons_zero, List.set_cons_succ]
        refine wpAnyH_take (i := 39) (oi := _) (v := ?_) (List.getElem?_toArray.trans rfl) (by kernel_rfl) (by kernel_rfl) (by kernel_rfl) (fun _ _ _ h => h) (Or.inl ⟨by rfl, ?_⟩) (by assumption) ?_
        rotate_left
        · (intro w9 hSw; (try dsimp only at hSw); go_simp; try with_reducible rfl)
        try simp only [Act.put, List.setIfInBounds_toArray, List.set_cons_zero, List.set_cons_succ]
        refine wpAnyH_take (i := 40) (oi := _) (v := ?_) (List.getElem?_toArray.trans rfl) (by kernel_rfl) (by kernel_rfl) (by kernel_rfl) (fun _ _ _ h => h) (Or.inl ⟨by rfl, ?_⟩) (by assumption) ?_
        rotate_left
        · (intro w9 hSw; (try dsimp only at hSw); go_simp; try with_reducible rfl)
        try simp only [Act.put, List.setIfInBounds_toArray, List.set_cons_zero, List.set_cons_succ]
        refine wpAnyH_take (i := 41) (oi := _) (v := ?_) (List.getElem?_toArray.trans rfl) (by kernel_rfl) (by kernel_rfl) (by kernel_rfl) (fun _ _ _ h => h) (Or.inl ⟨by rfl, ?_⟩) (by assumption) ?_
        rotate_left
        · (intro w9 hSw; (try dsimp only at hSw); go_simp; try with_reducible rfl)
        try simp only [Act.put, List.setIfInBounds_toArray, List.set_cons_zero, List.set_cons_succ]
        refine wpAnyH_take (i := 42) (oi := _) (v := ?_) (List.getElem?_toArray.trans rfl) (by kernel_rfl) (by kernel_rfl) (by kernel_rfl) (fun _ _ _ h => h) (Or.inl ⟨by rfl, ?_⟩) (by assumption) ?_
        rotate_left
        · (intro w9 hSw; (try dsimp only at hSw); go_simp; try with_reducible rfl)
        try simp only [Act.put, List.setIfInBounds_toArray, List.set_cons_zero, List.set_cons_succ]
        refine wpAnyH_take (i := 43) (oi := _) (v := ?_) (List.getElem?_toArray.trans rfl) (by kernel_rfl) (by kernel_rfl) (by kernel_rfl) (fun _ _ _ h => h) (Or.inl ⟨by rfl, ?_⟩) (by assumption) ?_
        rotate_left
        · (intro w9 hSw; (try dsimp only at hSw); go_simp; try with_reducible rfl)
        try simp only [Act.put, List.setIfInBounds_toArray, List.set_cons_zero, List.set_cons_succ]
        refine wpAnyH_take (i := 44) (oi := _) (v := ?_) (List.getElem?_toArray.trans rfl) (by kernel_rfl) (by kernel_rfl) (by kernel_rfl) (fun _ _ _ h => h) (Or.inl ⟨by rfl, ?_⟩) (by assumption) ?_
        rotate_left
        · (intro w9 hSw; (try dsimp only at hSw); go_simp; try with_reducible rfl)
        try simp only [Act.put, List.setIfInBounds_toArray, List.set_cons_zero, List.set_cons_succ]
        refine wpAnyH_take (i := 45) (oi := _) (v := ?_) (List.getElem?_toArray.trans rfl) (by kernel_rfl) (by kernel_rfl) (by kernel_rfl) (fun _ _ _ h => h) (Or.inl ⟨by rfl, ?_⟩) (by assumption) ?_
        rotate_left
        · (intro w9 hSw; (try dsimp only at hSw); go_simp; try with_reducible rfl)
        try simp only [Act.put, List.setIfInBounds_toArray, List.set_cons_zero, List.set_cons_succ]
        refine wpAnyH_done (by kernel_rfl) ?_ _
        all_goals (try go_wp2_with fail)
        all_goals (go_ret; exact ⟨rfl, HK.out.step (HKG.out.step (by repeat (first | exact Kept.refl _ _ | assumption | refine Kept.drew ?_ | refine Kept.drewN ?_ _ | refine Kept.alloc ?_ _ | refine Kept.step ?_ (by assumption))))⟩)
      · have hd3 : decide (ver < 3) = false := decide_eq_false hv3
        have hver : ver = 3 := by have := HRM.out.v; simp only at this; omega
        have hsm : SameM ⟨ver, pa, ps, pc, la, ls, lc, ea, es, ec⟩ ⟨3, pa4, ps4, pc4, la4, ls4, lc4, ea4, es, ec4⟩ := by have h9 := HS4.out; rw [(latF_three HRM.out hver).2] at h9; exact h9
        have HSM := Lib.hid hsm
        clear hv3 hsm
        subst hver
        have C9_0 := Lib.hid (show W6.cell? ⟨w.heap.size, 0, none⟩ = some (.int .i64 3) from HKG.out.cell G0.out (fun h => h))
        have C9_1 := Lib.hid (show W6.cell? ⟨w.heap.size, 1, none⟩ = some (.slice pa ps.length pc) from HKG.out.cell G1.out (fun h => h))
        have C9_2 := Lib.hid (show W6.cell? ⟨w.heap.size, 2, none⟩ = some (.slice la ls.length lc) from HKG.out.cell G2.out (fun h => h))
        have C9_3 := Lib.hid (show W6.cell? ⟨w.heap.size, 3, none⟩ = some (.slice ea es.length ec) from HKG.out.cell G3.out (fun h => h))
        have C9_4 := Lib.hid (show W6.cell? ⟨w3.heap.size, 0, none⟩ = some (.int .i64 3) from HK46.out.cell B0.out (fun h => h))
        have C9_5 := Lib.hid (show W6.cell? ⟨w3.heap.size, 1, none⟩ = some (.slice pa4 ps4.length pc4) from HK46.out.cell B1.out (fun h => h))
        have C9_6 := Lib.hid (show W6.cell? ⟨w3.heap.size, 2, none⟩ = some (.slice la4 ls4.length lc4) from HK46.out.cell B2.out (fun h => h))
        have C9_7 := Lib.hid (show W6.cell? ⟨w3.heap.size, 3, none⟩ = some (.slice ea4 es.length ec4) from HK46.out.cell B3.out (fun h => h))
        have C9_8 := Lib.hid (show W6.cell? ⟨w5.heap.size, 0, none⟩ = some (.int .i64 3) from C0.out)
        have C9_9 := Lib.hid (show W6.cell? ⟨w5.heap.size, 1, none⟩ = some (.slice pa6 ps6.length pc6) from C1.out)
        have C9_10 := Lib.hid (show W6.cell? ⟨w5.heap.size, 2, none⟩ = some (.slice la6 ls6.length lc6) from C2.out)
        have C9_11 := Lib.hid (show W6.cell? ⟨w5.heap.size, 3, none⟩ = some (.slice ea6 es6.length ec6) from C3.out)
        have C9_12 := Lib.hid (show W6.cell? ⟨w5.heap.size + 1, 0, none⟩ = some (.int .i64 0) from D0.out)
        have C9_13 := Lib.hid (show W6.cell? ⟨w5.heap.size + 1, 1, none⟩ = some (.int .i64 0) from D1.out)
        have c9_0 := C9_0.out
        have c9_1 := C9_1.out
        have c9_2 := C9_2.out
        have c9_3 := C9_3.out
        have c9_4 := C9_4.out
        have c9_5 := C9_5.out
        have c9_6 := C9_6.out
        have c9_7 := C9_7.out
        have c9_8 := C9_8.out
        have c9_9 := C9_9.out
        have c9_10 := C9_10.out
        have c9_11 := C9_11.out
        have c9_12 := C9_12.out
        have c9_13 := C9_13.out
        try (go_region_held3 (fun w' => w'.cell? ⟨w.heap.size, 0, none⟩ = some (.int .i64 3) ∧ w'.cell? ⟨w.heap.size, 1, none⟩ = some (.slice pa ps.length pc) ∧ w'.cell? ⟨w.heap.size, 2, none⟩ = some (.slice la ls.length lc) ∧ w'.cell? ⟨w.heap.size, 3, none⟩ = some (.slice ea es.length ec) ∧ w'.cell? ⟨w3.heap.size, 0, none⟩ = some (.int .i64 3) ∧ w'.cell? ⟨w3.heap.size, 1, none⟩ = some (.slice pa4 ps4.length pc4) ∧ w'.cell? ⟨w3.heap.size, 2, none⟩ = some (.slice la4 ls4.length lc4) ∧ w'.cell? ⟨w3.heap.size, 3, none⟩ = some (.slice ea4 es.length ec4) ∧ w'.cell? ⟨w5.heap.size, 0, none⟩ = some (.int .i64 3) ∧ w'.cell? ⟨w5.heap.size, 1, none⟩ = some (.slice pa6 ps6.length pc6) ∧ w'.cell? ⟨w5.heap.size, 2, none⟩ = some (.slice la6 ls6.length lc6) ∧ w'.cell? ⟨w5.heap.size, 3, none⟩ = some (.slice ea6 es6.length ec6) ∧ w'.cell? ⟨w5.heap.size + 1, 0, none⟩ = some (.int .i64 0) ∧ w'.cell? ⟨w5.heap.size + 1, 1, none⟩ = some (.int .i64 0)) (go_keep) (first
          | (go_at_call 17
             with_reducible refine (Check_h _ ?_).mono ?_
             · exact HHB6.out.nil (by repeat (first | exact Kept.refl _ _ | assumption | refine Kept.drew ?_ | refine Kept.drewN ?_ _ | refine Kept.alloc ?_ _ | refine Kept.step ?_ (by assumption)))
             rintro e w71 ⟨rfl, hk71⟩
             rw [HRB.out.ok]
             have hz : Kept Nil W6 w71 := (by repeat (first | exact Kept.refl _ _ | assumption | refine Kept.drew ?_ | refine Kept.drewN ?_ _ | refine Kept.alloc ?_ _ | refine Kept.step ?_ (by assumption)))
             have w71_0 := hz.cell C9_0.out (fun h => h)
             have w71_1 := hz.cell C9_1.out (fun h => h)
             have w71_2 := hz.cell C9_2.out (fun h => h)
             have w71_3 := hz.cell C9_3.out (fun h => h)
             have w71_4 := hz.cell C9_4.out (fun h => h)
             have w71_5 := hz.cell C9_5.out (fun h => h)
             have w71_6 := hz.cell C9_6.out (fun h => h)
             have w71_7 := hz.cell C9_7.out (fun h => h)
             have w71_8 := hz.cell C9_8.out (fun h => h)
             have w71_9 := hz.cell C9_9.out (fun h => h)
             have w71_10 := hz.cell C9_10.out (fun h => h)
             have w71_11 := hz.cell C9_11.out (fun h => h)
             have w71_12 := hz.cell C9_12.out (fun h => h)
             have w71_13 := hz.cell C9_13.out (fun h => h)
             clear hz)
          | (go_at_call 19
             with_reducible refine (Names_h _ ?_ HFB.out HNB.out).mono ?_
             · exact HHB6.out.nil (by repeat (first | exact Kept.refl _ _ | assumption | refine Kept.drew ?_ | refine Kept.drewN ?_ _ | refine Kept.alloc ?_ _ | refine Kept.step ?_ (by assumption)))
             rintro e w72 ⟨A72, c72, rfl, hA72, hk72⟩
             have HA72 := Lib.hid hA72
             clear hA72
             have hz : Kept Nil W6 w72 := (by repeat (first | exact Kept.refl _ _ | assumption | refine Kept.drew ?_ | refine Kept.drewN ?_ _ | refine Kept.alloc ?_ _ | refine Kept.step ?_ (by assumption)))
             have w72_0 := hz.cell C9_0.out (fun h => h)
             have w72_1 := hz.cell C9_1.out (fun h => h)
             have w72_2 := hz.cell C9_2.out (fun h => h)
             have w72_3 := hz.cell C9_3.out (fun h => h)
             have w72_4 := hz.cell C9_4.out (fun h => h)
             have w72_5 := hz.cell C9_5.out (fun h => h)
             have w72_6 := hz.cell C9_6.out (fun h => h)
             have w72_7 := hz.cell C9_7.out (fun h => h)
             have w72_8 := hz.cell C9_8.out (fun h => h)
             have w72_9 := hz.cell C9_9.out (fun h => h)
             have w72_10 := hz.cell C9_10.out (fun h => h)
             have w72_11 := hz.cell C9_11.out (fun h => h)
             have w72_12 := hz.cell C9_12.out (fun h => h)
             have w72_13 := hz.cell C9_13.out (fun h => h)
             clear hz)
          | (go_at_call 19
             with_reducible refine (Names_h _ ?_ HF.out HNS.out).mono ?_
             · exact HH0.out.nil (by repeat (first | exact Kept.refl _ _ | assumption | refine Kept.drew ?_ | refine Kept.drewN ?_ _ | refine Kept.alloc ?_ _ | refine Kept.step ?_ (by assumption)))
             rintro e w73 ⟨A73, c73, rfl, hA73, hk73⟩
             have HA73 := Lib.hid hA73
             clear hA73
             have hz : Kept Nil W6 w73 := (by repeat (first | exact Kept.refl _ _ | assumption | refine Kept.drew ?_ | refine Kept.drewN ?_ _ | refine Kept.alloc ?_ _ | refine Kept.step ?_ (by assumption)))
             have w73_0 := hz.cell C9_0.out (fun h => h)
             have w73_1 := hz.cell C9_1.out (fun h => h)
             have w73_2 := hz.cell C9_2.out (fun h => h)
             have w73_3 := hz.cell C9_3.out (fun h => h)
             have w73_4 := hz.cell C9_4.out (fun h => h)
             have w73_5 := hz.cell C9_5.out (fun h => h)
             have w73_6 := hz.cell C9_6.out (fun h => h)
             have w73_7 := hz.cell C9_7.out (fun h => h)
             have w73_8 := hz.cell C9_8.out (fun h => h)
             have w73_9 := hz.cell C9_9.out (fun h => h)
             have w73_10 := hz.cell C9_10.out (fun h => h)
             have w73_11 := hz.cell C9_11.out (fun h => h)
             have w73_12 := hz.cell C9_12.out (fun h => h)
             have w73_13 := hz.cell C9_13.out (fun h => h)
             clear hz)
          | (go_at_call 18
             with_reducible refine (Same_is ns A72 A73 c72 c73 _ ?_ ?_ ?_).mono ?_
             · exact strs_nil (by repeat (first | exact Kept.refl _ _ | assumption | refine Kept.drew ?_ | refine Kept.drewN ?_ _ | refine Kept.alloc ?_ _ | refine Kept.step ?_ (by assumption))) HA72.out
             · exact strs_nil (by repeat (first | exact Kept.refl _ _ | assumption | refine Kept.drew ?_ | refine Kept.drewN ?_ _ | refine Kept.alloc ?_ _ | refine Kept.step ?_ (by assumption))) HA73.out
             · omega
             rintro e w74 ⟨rfl, hk74⟩
             have hz : Kept Nil W6 w74 := (by repeat (first | exact Kept.refl _ _ | assumption | refine Kept.drew ?_ | refine Kept.drewN ?_ _ | refine Kept.alloc ?_ _ | refine Kept.step ?_ (by assumption)))
             have w74_0 := hz.cell C9_0.out (fun h => h)
             have w74_1 := hz.cell C9_1.out (fun h => h)
             have w74_2 := hz.cell C9_2.out (fun h => h)
             have w74_3 := hz.cell C9_3.out (fun h => h)
             have w74_4 := hz.cell C9_4.out (fun h => h)
             have w74_5 := hz.cell C9_5.out (fun h => h)
             have w74_6 := hz.cell C9_6.out (fun h => h)
             have w74_7 := hz.cell C9_7.out (fun h => h)
             have w74_8 := hz.cell C9_8.out (fun h => h)
             have w74_9 := hz.cell C9_9.out (fun h => h)
             have w74_10 := hz.cell C9_10.out (fun h => h)
             have w74_11 := hz.cell C9_11.out (fun h => h)
             have w74_12 := hz.cell C9_12.out (fun h => h)
             have w74_13 := hz.cell C9_13.out (fun h => h)
             clear hz)
          | (go_at_call 14
             with_reducible refine (Same_h _ ?_ ?_ HSC.out.symm).mono ?_
             · exact HHC6.out.nil (by repeat (first | exact Kept.refl _ _ | assumption | refine Kept.drew ?_ | refine Kept.drewN ?_ _ | refine Kept.alloc ?_ _ | refine Kept.step ?_ (by assumption)))
             · exact HHB6.out.nil (by repeat (first | exact Kept.refl _ _ | assumption | refine Kept.drew ?_ | refine Kept.drewN ?_ _ | refine Kept.alloc ?_ _ | refine Kept.step ?_ (by assumption)))
             rintro e w75 ⟨rfl, hk75⟩
             have hz : Kept Nil W6 w75 := (by repeat (first | exact Kept.refl _ _ | assumption | refine Kept.drew ?_ | refine Kept.drewN ?_ _ | refine Kept.alloc ?_ _ | refine Kept.step ?_ (by assumption)))
             have w75_0 := hz.cell C9_0.out (fun h => h)
             have w75_1 := hz.cell C9_1.out (fun h => h)
             have w75_2 := hz.cell C9_2.out (fun h => h)
             have w75_3 := hz.cell C9_3.out (fun h => h)
             have w75_4 := hz.cell C9_4.out (fun h => h)
             have w75_5 := hz.cell C9_5.out (fun h => h)
             have w75_6 := hz.cell C9_6.out (fun h => h)
             have w75_7 := hz.cell C9_7.out (fun h => h)
             have w75_8 := hz.cell C9_8.out (fun h => h)
             have w75_9 := hz.cell C9_9.out (fun h => h)
             have w75_10 := hz.cell C9_10.out (fun h => h)
             have w75_11 := hz.cell C9_11.out (fun h => h)
             have w75_12 := hz.cell C9_12.out (fun h => h)
             have w75_13 := hz.cell C9_13.out (fun h => h)
             clear hz)
          | (go_at_call 14
             with_reducible refine (Same_h _ ?_ ?_ HSM.out).mono ?_
             · exact HH0.out.nil (by repeat (first | exact Kept.refl _ _ | assumption | refine Kept.drew ?_ | refine Kept.drewN ?_ _ | refine Kept.alloc ?_ _ | refine Kept.step ?_ (by assumption)))
             · exact HHB6.out.nil (by repeat (first | exact Kept.refl _ _ | assumption | refine Kept.drew ?_ | refine Kept.drewN ?_ _ | refine Kept.alloc ?_ _ | refine Kept.step ?_ (by assumption)))
             rintro e w76 ⟨rfl, hk76⟩
             have hz : Kept Nil W6 w76 := (by repeat (first | exact Kept.refl _ _ | assumption | refine Kept.drew ?_ | refine Kept.drewN ?_ _ | refine Kept.alloc ?_ _ | refine Kept.step ?_ (by assumption)))
             have w76_0 := hz.cell C9_0.out (fun h => h)
             have w76_1 := hz.cell C9_1.out (fun h => h)
             have w76_2 := hz.cell C9_2.out (fun h => h)
             have w76_3 := hz.cell C9_3.out (fun h => h)
             have w76_4 := hz.cell C9_4.out (fun h => h)
             have w76_5 := hz.cell C9_5.out (fun h => h)
             have w76_6 := hz.cell C9_6.out (fun h => h)
             have w76_7 := hz.cell C9_7.out (fun h => h)
             have w76_8 := hz.cell C9_8.out (fun h => h)
             have w76_9 := hz.cell C9_9.out (fun h => h)
             have w76_10 := hz.cell C9_10.out (fun h => h)
             have w76_11 := hz.cell C9_11.out (fun h => h)
             have w76_12 := hz.cell C9_12.out (fun h => h)
             have w76_13 := hz.cell C9_13.out (fun h => h)
             clear hz)
          ))
        all_goals (try go_wp2_with fail)
        all_goals (go_ret; exact ⟨rfl, HK.out.step (HKG.out.step (by repeat (first | exact Kept.refl _ _ | assumption | refine Kept.drew ?_ | refine Kept.drewN ?_ _ | refine Kept.alloc ?_ _ | refine Kept.step ?_ (by assumption))))⟩)
    · have fu : (u.1 != 0) = true := by simp [hu0]
      have e4 := hE.bad (by rw [HU.out]; exact hu0)
      rw [HU.out] at e4
      subst e4
      have hbad := latF_bad (m := ⟨ver, pa, ps, pc, la, ls, lc, ea, es, ec⟩) (by rw [HU.out]; exact hu0)
      rw [HU.out, HCK.out] at hbad
      have HBAD := Lib.hid hbad
      clear hE hbad hu0
      obtain ⟨W4, hW⟩ : ∃ W, ((w3.alloc (.cells #[.int .i64 0, .slice none 0 0, .slice none 0 0, .slice none 0 0] 26)).alloc (.cells #[.int .i64 u.1, .int .i64 u.2] 32)) = W := ⟨_, rfl⟩
      have hk : Kept Nil w3 W4 := by rw [← hW]; exact (((Kept.refl Nil w3).alloc _).alloc _)
      have hsz : W4.heap.size = w3.heap.size + 2 := by rw [← hW]; simp
      have hb : W4.heap[w3.heap.size]? = some (.cells #[.int .i64 0, .slice none 0 0, .slice none 0 0, .slice none 0 0] 26 (0, 0)) := by
        rw [← hW]
        rw [heap_old _ _ (by simp only [World.size_alloc]; omega)]
        have h9 := heap_new w3 (.cells #[.int .i64 0, .slice none 0 0, .slice none 0 0, .slice none 0 0] 26)
        exact h9
      have B0 := Lib.hid (show W4.cell? ⟨w3.heap.size, 0, none⟩ = some (.int .i64 0) by rw [cell_of hb]; rfl)
      have B1 := Lib.hid (show W4.cell? ⟨w3.heap.size, 1, none⟩ = some (.slice none 0 0) by rw [cell_of hb]; rfl)
      have B2 := Lib.hid (show W4.cell? ⟨w3.heap.size, 2, none⟩ = some (.slice none 0 0) by rw [cell_of hb]; rfl)
      have B3 := Lib.hid (show W4.cell? ⟨w3.heap.size, 3, none⟩ = some (.slice none 0 0) by rw [cell_of hb]; rfl)
      have BB := Lib.hid hb
      have hzb : w3.heap.size < W4.heap.size := by omega
      clear hb
      have hb : W4.heap[w3.heap.size + 1]? = some (.cells #[.int .i64 u.1, .int .i64 u.2] 32 (0, 0)) := by
        rw [← hW]
        have h9 := heap_new (w3.alloc (.cells #[.int .i64 0, .slice none 0 0, .slice none 0 0, .slice none 0 0] 26)) (.cells #[.int .i64 u.1, .int .i64 u.2] 32)
        simp only [World.size_alloc] at h9
        exact h9
      have F0 := Lib.hid (show W4.cell? ⟨w3.heap.size + 1, 0, none⟩ = some (.int .i64 u.1) by rw [cell_of hb]; rfl)
      have F1 := Lib.hid (show W4.cell? ⟨w3.heap.size + 1, 1, none⟩ = some (.int .i64 u.2) by rw [cell_of hb]; rfl)
      have FB := Lib.hid hb
      have hzf : w3.heap.size + 1 < W4.heap.size := by omega
      clear hb
      have HW4 := Lib.hid hW
      have HK4 := Lib.hid hk
      have HSZ4 := Lib.hid hsz
      clear hW hk hsz
      have hz4 : w3.heap.size + 1 < W4.heap.size := by have := HSZ4.out; omega
      go_upto_region 6 with fail
      rw [HW4.out]
      have HKA := Lib.hid (HK2.out.step (HK3.out.step HK4.out))
      have hgA : w.heap.size < W4.heap.size := by omega
      have hbA : w3.heap.size < W4.heap.size := by omega
      have f0 := F0.out
      go_upto_region 7 with fail
      clear f0 fu
      have HM4 := Lib.hid (HM1.out.nil HKA.out)
      have HH0 := Lib.hid (held_of_few HM4.out HO.out HF.out)
      have hbb : (u.1 == 30) = (F.1 == 0) := by
        have h := HBAD.out
        by_cases hf : F.1 = 0
        · rw [h.2 hf, hf]; rfl
        · have h9 : u.1 ≠ 30 := fun e => hf (h.1 e)
          rw [beq_eq_false_iff_ne.2 hf, beq_eq_false_iff_ne.2 h9]
      have HBB2 := Lib.hid hbb
      clear hbb
      cases hf : (F.1 == 0)
      · have hq : (u.1 == 30) = false := by rw [HBB2.out]; exact hf
        have C9_0 := Lib.hid (show W4.cell? ⟨w.heap.size, 0, none⟩ = some (.int .i64 ver) from HKA.out.cell G0.out (fun h => h))
        have C9_1 := Lib.hid (show W4.cell? ⟨w.heap.size, 1, none⟩ = some (.slice pa ps.length pc) from HKA.out.cell G1.out (fun h => h))
        have C9_2 := Lib.hid (show W4.cell? ⟨w.heap.size, 2, none⟩ = some (.slice la ls.length lc) from HKA.out.cell G2.out (fun h => h))
        have C9_3 := Lib.hid (show W4.cell? ⟨w.heap.size, 3, none⟩ = some (.slice ea es.length ec) from HKA.out.cell G3.out (fun h => h))
        have C9_4 := Lib.hid (show W4.cell? ⟨w3.heap.size, 0, none⟩ = some (.int .i64 0) from B0.out)
        have C9_5 := Lib.hid (show W4.cell? ⟨w3.heap.size, 1, none⟩ = some (.slice none 0 0) from B1.out)
        have C9_6 := Lib.hid (show W4.cell? ⟨w3.heap.size, 2, none⟩ = some (.slice none 0 0) from B2.out)
        have C9_7 := Lib.hid (show W4.cell? ⟨w3.heap.size, 3, none⟩ = some (.slice none 0 0) from B3.out)
        have C9_8 := Lib.hid (show W4.cell? ⟨w3.heap.size + 1, 0, none⟩ = some (.int .i64 u.1) from F0.out)
        have c9_0 := C9_0.out
        have c9_1 := C9_1.out
        have c9_2 := C9_2.out
        have c9_3 := C9_3.out
        have c9_4 := C9_4.out
        have c9_5 := C9_5.out
        have c9_6 := C9_6.out
        have c9_7 := C9_7.out
        have c9_8 := C9_8.out
        try (go_region_held3 (fun w' => w'.cell? ⟨w.heap.size, 0, none⟩ = some (.int .i64 ver) ∧ w'.cell? ⟨w.heap.size, 1, none⟩ = some (.slice pa ps.length pc) ∧ w'.cell? ⟨w.heap.size, 2, none⟩ = some (.slice la ls.length lc) ∧ w'.cell? ⟨w.heap.size, 3, none⟩ = some (.slice ea es.length ec) ∧ w'.cell? ⟨w3.heap.size, 0, none⟩ = some (.int .i64 0) ∧ w'.cell? ⟨w3.heap.size, 1, none⟩ = some (.slice none 0 0) ∧ w'.cell? ⟨w3.heap.size, 2, none⟩ = some (.slice none 0 0) ∧ w'.cell? ⟨w3.heap.size, 3, none⟩ = some (.slice none 0 0) ∧ w'.cell? ⟨w3.heap.size + 1, 0, none⟩ = some (.int .i64 u.1)) (go_keep) (first
          | (go_at_call 14
             with_reducible refine (Same_z _).mono ?_
             rintro e w71 ⟨rfl, hk71⟩
             have hz : Kept Nil W4 w71 := (by repeat (first | exact Kept.refl _ _ | assumption | refine Kept.drew ?_ | refine Kept.drewN ?_ _ | refine Kept.alloc ?_ _ | refine Kept.step ?_ (by assumption)))
             have w71_0 := hz.cell C9_0.out (fun h => h)
             have w71_1 := hz.cell C9_1.out (fun h => h)
             have w71_2 := hz.cell C9_2.out (fun h => h)
             have w71_3 := hz.cell C9_3.out (fun h => h)
             have w71_4 := hz.cell C9_4.out (fun h => h)
             have w71_5 := hz.cell C9_5.out (fun h => h)
             have w71_6 := hz.cell C9_6.out (fun h => h)
             have w71_7 := hz.cell C9_7.out (fun h => h)
             have w71_8 := hz.cell C9_8.out (fun h => h)
             clear hz)
          | (go_at_call 17
             with_reducible refine (Check_h _ ?_).mono ?_
             · exact HH0.out.nil (by repeat (first | exact Kept.refl _ _ | assumption | refine Kept.drew ?_ | refine Kept.drewN ?_ _ | refine Kept.alloc ?_ _ | refine Kept.step ?_ (by assumption)))
             rintro e w72 ⟨rfl, hk72⟩
             rw [HCK.out]
             have hz : Kept Nil W4 w72 := (by repeat (first | exact Kept.refl _ _ | assumption | refine Kept.drew ?_ | refine Kept.drewN ?_ _ | refine Kept.alloc ?_ _ | refine Kept.step ?_ (by assumption)))
             have w72_0 := hz.cell C9_0.out (fun h => h)
             have w72_1 := hz.cell C9_1.out (fun h => h)
             have w72_2 := hz.cell C9_2.out (fun h => h)
             have w72_3 := hz.cell C9_3.out (fun h => h)
             have w72_4 := hz.cell C9_4.out (fun h => h)
             have w72_5 := hz.cell C9_5.out (fun h => h)
             have w72_6 := hz.cell C9_6.out (fun h => h)
             have w72_7 := hz.cell C9_7.out (fun h => h)
             have w72_8 := hz.cell C9_8.out (fun h => h)
             clear hz)
          ))
        all_goals (try go_wp2_with fail)
        all_goals (go_ret; exact ⟨rfl, HK.out.step (HKA.out.step (by repeat (first | exact Kept.refl _ _ | assumption | refine Kept.drew ?_ | refine Kept.drewN ?_ _ | refine Kept.alloc ?_ _ | refine Kept.step ?_ (by assumption))))⟩)
      · have hq : (u.1 == 30) = true := by rw [HBB2.out]; exact hf
        have C9_0 := Lib.hid (show W4.cell? ⟨w.heap.size, 0, none⟩ = some (.int .i64 ver) from HKA.out.cell G0.out (fun h => h))
        have C9_1 := Lib.hid (show W4.cell? ⟨w.heap.size, 1, none⟩ = some (.slice pa ps.length pc) from HKA.out.cell G1.out (fun h => h))
        have C9_2 := Lib.hid (show W4.cell? ⟨w.heap.size, 2, none⟩ = some (.slice la ls.length lc) from HKA.out.cell G2.out (fun h => h))
        have C9_3 := Lib.hid (show W4.cell? ⟨w.heap.size, 3, none⟩ = some (.slice ea es.length ec) from HKA.out.cell G3.out (fun h => h))
        have C9_4 := Lib.hid (show W4.cell? ⟨w3.heap.size, 0, none⟩ = some (.int .i64 0) from B0.out)
        have C9_5 := Lib.hid (show W4.cell? ⟨w3.heap.size, 1, none⟩ = some (.slice none 0 0) from B1.out)
        have C9_6 := Lib.hid (show W4.cell? ⟨w3.heap.size, 2, none⟩ = some (.slice none 0 0) from B2.out)
        have C9_7 := Lib.hid (show W4.cell? ⟨w3.heap.size, 3, none⟩ = some (.slice none 0 0) from B3.out)
        have C9_8 := Lib.hid (show W4.cell? ⟨w3.heap.size + 1, 0, none⟩ = some (.int .i64 u.1) from F0.out)
        have c9_0 := C9_0.out
        have c9_1 := C9_1.out
        have c9_2 := C9_2.out
        have c9_3 := C9_3.out
        have c9_4 := C9_4.out
        have c9_5 := C9_5.out
        have c9_6 := C9_6.out
        have c9_7 := C9_7.out
        have c9_8 := C9_8.out
        try (go_region_held3 (fun w' => w'.cell? ⟨w.heap.size, 0, none⟩ = some (.int .i64 ver) ∧ w'.cell? ⟨w.heap.size, 1, none⟩ = some (.slice pa ps.length pc) ∧ w'.cell? ⟨w.heap.size, 2, none⟩ = some (.slice la ls.length lc) ∧ w'.cell? ⟨w.heap.size, 3, none⟩ = some (.slice ea es.length ec) ∧ w'.cell? ⟨w3.heap.size, 0, none⟩ = some (.int .i64 0) ∧ w'.cell? ⟨w3.heap.size, 1, none⟩ = some (.slice none 0 0) ∧ w'.cell? ⟨w3.heap.size, 2, none⟩ = some (.slice none 0 0) ∧ w'.cell? ⟨w3.heap.size, 3, none⟩ = some (.slice none 0 0) ∧ w'.cell? ⟨w3.heap.size + 1, 0, none⟩ = some (.int .i64 u.1)) (go_keep) (first
          | (go_at_call 14
             with_reducible refine (Same_z _).mono ?_
             rintro e w71 ⟨rfl, hk71⟩
             have hz : Kept Nil W4 w71 := (by repeat (first | exact Kept.refl _ _ | assumption | refine Kept.drew ?_ | refine Kept.drewN ?_ _ | refine Kept.alloc ?_ _ | refine Kept.step ?_ (by assumption)))
             have w71_0 := hz.cell C9_0.out (fun h => h)
             have w71_1 := hz.cell C9_1.out (fun h => h)
             have w71_2 := hz.cell C9_2.out (fun h => h)
             have w71_3 := hz.cell C9_3.out (fun h => h)
             have w71_4 := hz.cell C9_4.out (fun h => h)
             have w71_5 := hz.cell C9_5.out (fun h => h)
             have w71_6 := hz.cell C9_6.out (fun h => h)
             have w71_7 := hz.cell C9_7.out (fun h => h)
             have w71_8 := hz.cell C9_8.out (fun h => h)
             clear hz)
          | (go_at_call 17
             with_reducible refine (Check_h _ ?_).mono ?_
             · exact HH0.out.nil (by repeat (first | exact Kept.refl _ _ | assumption | refine Kept.drew ?_ | refine Kept.drewN ?_ _ | refine Kept.alloc ?_ _ | refine Kept.step ?_ (by assumption)))
             rintro e w72 ⟨rfl, hk72⟩
             rw [HCK.out]
             have hz : Kept Nil W4 w72 := (by repeat (first | exact Kept.refl _ _ | assumption | refine Kept.drew ?_ | refine Kept.drewN ?_ _ | refine Kept.alloc ?_ _ | refine Kept.step ?_ (by assumption)))
             have w72_0 := hz.cell C9_0.out (fun h => h)
             have w72_1 := hz.cell C9_1.out (fun h => h)
             have w72_2 := hz.cell C9_2.out (fun h => h)
             have w72_3 := hz.cell C9_3.out (fun h => h)
             have w72_4 := hz.cell C9_4.out (fun h => h)
             have w72_5 := hz.cell C9_5.out (fun h => h)
             have w72_6 := hz.cell C9_6.out (fun h => h)
             have w72_7 := hz.cell C9_7.out (fun h => h)
             have w72_8 := hz.cell C9_8.out (fun h => h)
             clear hz)
          ))
        all_goals (try go_wp2_with fail)
        all_goals (go_ret; exact ⟨rfl, HK.out.step (HKA.out.step (by repeat (first | exact Kept.refl _ _ | assumption | refine Kept.drew ?_ | refine Kept.drewN ?_ _ | refine Kept.alloc ?_ _ | refine Kept.step ?_ (by assumption))))⟩)
theorem UpgradeKeeps_row (m : Md) (w : World) (hm : RModel w m) (ho : OkM m) :
    Calls Try.prog 4 #[m.val] w fun e w' => e = .returned (.bool true) ∧ RowKit.Below w.heap.size w w' :=
  (UpgradeKeeps_calls m w hm ho).mono fun e w' ⟨h1, h2⟩ => ⟨h1, h2.toBelow⟩
end Go.Proofs.Ythgbahlkflmgiaa.Mo
