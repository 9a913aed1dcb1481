/- The walk of the statement UpgradeTimes. -/
import Derived.Test.YthgbahlkflmgiaaUpH
import Derived.BigQuiet
namespace Go.Proofs.Ythgbahlkflmgiaa.Mo
open Go Go.RowKit Go.Proofs.Ythgbahlkflmgiaa.Lb
set_option linter.unusedVariables false
set_option linter.unusedSimpArgs false
set_option maxRecDepth 8000
attribute [local go_sem] max2_one max_two
theorem latL_src (v : Int) (l : Lk) : (latL v l).src = l.src := by unfold latL wtL; split <;> rfl
theorem latL_weight (v : Int) (l : Lk) : (latL v l).weight = wtI l.weight := by unfold latL wtL; split <;> rfl
theorem latL_delay1 (l : Lk) : (latL 1 l).delay = l.delay * 1000 := rfl
theorem latL_delay {v : Int} (h : v ≠ 1) (l : Lk) : (latL v l).delay = l.delay := by unfold latL wtL; rw [if_neg h]
set_option maxHeartbeats 16000000 in
theorem UpgradeTimes_calls (m : Md) (w : World) (hm : RModel w m) (ho : OkM m) :
    Calls Try.prog 5 #[m.val] w fun e w' => e = .returned (.bool true) ∧ Kept Nil w w' := by
  have HM := Lib.hid hm
  have HO := Lib.hid ho
  obtain ⟨ver, pa, ps, pc, la, ls, lc, ea, es, ec⟩ := m
  clear hm ho
  unfold Md.val
  simp only at *
  obtain ⟨W1, hW⟩ : ∃ W, (w.alloc (.cells #[.int .i64 ver, .slice pa ps.length pc, .slice la ls.length lc, .slice ea es.length ec] 26)) = W := ⟨_, rfl⟩
  have hk : Kept Nil w W1 := by rw [← hW]; exact ((Kept.refl Nil w).alloc _)
  have hsz : W1.heap.size = w.heap.size + 1 := by rw [← hW]; simp
  have hb : W1.heap[w.heap.size]? = some (.cells #[.int .i64 ver, .slice pa ps.length pc, .slice la ls.length lc, .slice ea es.length ec] 26 (0, 0)) := by
    rw [← hW]
    have h9 := heap_new w (.cells #[.int .i64 ver, .slice pa ps.length pc, .slice la ls.length lc, .slice ea es.length ec] 26)
    exact h9
  have G0 := Lib.hid (show W1.cell? ⟨w.heap.size, 0, none⟩ = some (.int .i64 ver) by rw [cell_of hb]; rfl)
  have G1 := Lib.hid (show W1.cell? ⟨w.heap.size, 1, none⟩ = some (.slice pa ps.length pc) by rw [cell_of hb]; rfl)
  have G2 := Lib.hid (show W1.cell? ⟨w.heap.size, 2, none⟩ = some (.slice la ls.length lc) by rw [cell_of hb]; rfl)
  have G3 := Lib.hid (show W1.cell? ⟨w.heap.size, 3, none⟩ = some (.slice ea es.length ec) by rw [cell_of hb]; rfl)
  have GB := Lib.hid hb
  have hzg : w.heap.size < W1.heap.size := by omega
  clear hb
  have HW := Lib.hid hW
  have HK := Lib.hid hk
  have HSZ := Lib.hid hsz
  clear hW hk hsz
  have HM1 := Lib.hid (HM.out.nil HK.out)
  go_enter Try.func5, Try.ntmps5
  go_wp2_with fail
  rw [HW.out]
  refine (alive_is W1).mono ?_
  rintro e w1 ⟨rfl, hk1⟩
  have HK1 := Lib.hid hk1
  have hz1 := hk1.size
  clear hk1
  have g0 := (HK1.out).cell G0.out (fun h => h)
  have g1 := (HK1.out).cell G1.out (fun h => h)
  have g2 := (HK1.out).cell G2.out (fun h => h)
  have g3 := (HK1.out).cell G3.out (fun h => h)
  have hg1 : w.heap.size < w1.heap.size := by omega
  go_wp2_with fail
  refine (Few_h w1 (HM1.out.nil HK1.out)).mono ?_
  rintro e w2 ⟨b, rfl, hbb, hk2⟩
  have HBB := Lib.hid hbb
  have HK2 := Lib.hid (HK1.out.step hk2)
  have hz2 := hk2.size
  have hg2 : w.heap.size < w2.heap.size := by omega
  clear hbb hk2 g0 g1 g2 g3
  have g0 := (HK2.out).cell G0.out (fun h => h)
  have g1 := (HK2.out).cell G1.out (fun h => h)
  have g2 := (HK2.out).cell G2.out (fun h => h)
  have g3 := (HK2.out).cell G3.out (fun h => h)
  cases b with
  | false =>
    go_wp2_with fail
    go_ret
    exact ⟨rfl, HK.out.step HK2.out⟩
  | true =>
    have HF := Lib.hid (HBB.out rfl)
    have HHM := Lib.hid (held_of_few (HM1.out.nil HK2.out) HO.out HF.out)
    have hpl := HF.out.pl
    have hll := HF.out.ll
    have hel := HF.out.el
    simp only at hpl hll hel
    have hlat := Latest_is ver ps ls es pa la ea pc lc ec w2 HHM.out
    obtain ⟨u, hu⟩ : ∃ u, latF ⟨ver, pa, ps, pc, la, ls, lc, ea, es, ec⟩ = u := ⟨_, rfl⟩
    have HU := Lib.hid hu
    clear hu
    go_wp2_with fail
    refine hlat.mono ?_
    clear hlat g0 g1 g2 g3
    rintro e w3 hE
    have HK3 := Lib.hid hE.k
    have hz3 := hE.k.size
    by_cases hu0 : u.1 = 0
    · have fu : (u.1 != 0) = false := by simp [hu0]
      obtain ⟨⟨ver4, pa4, ps4, pc4, la4, ls4, lc4, ea4, es4, ec4⟩, e4, hh4, hs4, hf4, hv4, hr4⟩ := hE.ok (by rw [HU.out]; exact hu0)
      have hshape := latM_shape (m := ⟨ver, pa, ps, pc, la, ls, lc, ea, es, ec⟩) (by rw [HU.out]; exact hu0)
      have hs49 := hshape.2.trans hs4
      have hl1 : ps4.length = ps.length := by have := hs49.p.l; simp only [latS, List.length_map] at this; omega
      have hl2 : ls4 = ls.map (latL ver) := hs49.l.symm
      have hl3 : ls4.length = ls.length := by rw [hl2, List.length_map]
      obtain rfl : es = es4 := hs49.e
      simp only [hl1, hl3] at e4
      subst e4
      obtain rfl : ver4 = 3 := hv4
      have HHB := Lib.hid hh4
      have HSB := Lib.hid hs49
      have HRM := Lib.hid hshape.1
      have HL2 := Lib.hid hl2
      have HL1 := Lib.hid hl1
      have HL3 := Lib.hid hl3
      clear hE hh4 hs4 hf4 hr4 hshape hs49 hl1 hl2 hl3
      obtain ⟨W4, hW⟩ : ∃ W, ((w3.alloc (.cells #[.int .i64 3, .slice pa4 ps.length pc4, .slice la4 ls.length lc4, .slice ea4 es.length ec4] 26)).alloc (.cells #[.int .i64 0, .int .i64 0] 32)) = W := ⟨_, rfl⟩
      have hk : Kept Nil w3 W4 := by rw [← hW]; exact (((Kept.refl Nil w3).alloc _).alloc _)
      have hsz : W4.heap.size = w3.heap.size + 2 := by rw [← hW]; simp
      have hb : W4.heap[w3.heap.size]? = some (.cells #[.int .i64 3, .slice pa4 ps.length pc4, .slice la4 ls.length lc4, .slice ea4 es.length ec4] 26 (0, 0)) := by
        rw [← hW]
        rw [heap_old _ _ (by simp only [World.size_alloc]; omega)]
        have h9 := heap_new w3 (.cells #[.int .i64 3, .slice pa4 ps.length pc4, .slice la4 ls.length lc4, .slice ea4 es.length ec4] 26)
        exact h9
      have B0 := Lib.hid (show W4.cell? ⟨w3.heap.size, 0, none⟩ = some (.int .i64 3) by rw [cell_of hb]; rfl)
      have B1 := Lib.hid (show W4.cell? ⟨w3.heap.size, 1, none⟩ = some (.slice pa4 ps.length pc4) by rw [cell_of hb]; rfl)
      have B2 := Lib.hid (show W4.cell? ⟨w3.heap.size, 2, none⟩ = some (.slice la4 ls.length lc4) by rw [cell_of hb]; rfl)
      have B3 := Lib.hid (show W4.cell? ⟨w3.heap.size, 3, none⟩ = some (.slice ea4 es.length ec4) by rw [cell_of hb]; rfl)
      have BB := Lib.hid hb
      have hzb : w3.heap.size < W4.heap.size := by omega
      clear hb
      have hb : W4.heap[w3.heap.size + 1]? = some (.cells #[.int .i64 0, .int .i64 0] 32 (0, 0)) := by
        rw [← hW]
        have h9 := heap_new (w3.alloc (.cells #[.int .i64 3, .slice pa4 ps.length pc4, .slice la4 ls.length lc4, .slice ea4 es.length ec4] 26)) (.cells #[.int .i64 0, .int .i64 0] 32)
        simp only [World.size_alloc] at h9
        exact h9
      have F0 := Lib.hid (show W4.cell? ⟨w3.heap.size + 1, 0, none⟩ = some (.int .i64 0) by rw [cell_of hb]; rfl)
      have F1 := Lib.hid (show W4.cell? ⟨w3.heap.size + 1, 1, none⟩ = some (.int .i64 0) by rw [cell_of hb]; rfl)
      have FB := Lib.hid hb
      have hzf : w3.heap.size + 1 < W4.heap.size := by omega
      clear hb
      have HW4 := Lib.hid hW
      have HK4 := Lib.hid hk
      have HSZ4 := Lib.hid hsz
      clear hW hk hsz
      have hz4 : w3.heap.size + 1 < W4.heap.size := by have := HSZ4.out; omega
      clear hu0 fu
      go_upto_region 6 with fail
      rw [HW4.out]
      have HKA := Lib.hid (HK2.out.step (HK3.out.step HK4.out))
      have hgA : w.heap.size < W4.heap.size := by omega
      have f0 := F0.out
      have g0 := (HKA.out).cell G0.out (fun h => h)
      have g1 := (HKA.out).cell G1.out (fun h => h)
      have g2 := (HKA.out).cell G2.out (fun h => h)
      have g3 := (HKA.out).cell G3.out (fun h => h)
      have b0 := B0.out
      have b1 := B1.out
      have b2 := B2.out
      have b3 := B3.out
      have HV := Lib.hid (show 1 ≤ ver ∧ ver ≤ 3 from by have := HRM.out.v; simp only at this; omega)
      go_upto_region 9 with fail
      clear f0
      by_cases hone : ver = 1
      · have HONE := Lib.hid hone
        have fo : (ver == 1) = true := by simp [hone]
        clear hone
        go_upto_region 13 with fail
        go_wp2_with fail
        clear b0 b1 b2 b3 g0 g1 g2 g3
        go_loopw [45] (fun i wr => ∃ k : Nat, k ≤ ls.length ∧ i = .int .i64 k ∧ Kept Nil W4 wr) (fun i _ => ls.length - (intOf i).toNat)
        case atStart => exact ⟨0, Nat.zero_le _, rfl, Kept.refl _ _⟩
        case round =>
          obtain ⟨k, hk, rfl, hK⟩ := hrel
          have HKR := Lib.hid hK
          have HKL := Lib.hid (HKA.out.step hK)
          have hzr := hK.size
          have hg5 : w.heap.size < wr.heap.size := by omega
          have hb5 : w3.heap.size < wr.heap.size := by omega
          clear hK
          have g0 := (HKL.out).cell G0.out (fun h => h)
          have g1 := (HKL.out).cell G1.out (fun h => h)
          have g2 := (HKL.out).cell G2.out (fun h => h)
          have g3 := (HKL.out).cell G3.out (fun h => h)
          have b0 := (HKR.out).cell B0.out (fun h => h)
          have b1 := (HKR.out).cell B1.out (fun h => h)
          have b2 := (HKR.out).cell B2.out (fun h => h)
          have b3 := (HKR.out).cell B3.out (fun h => h)
          have f0 := (HKR.out).cell F0.out (fun h => h)
          have f1 := (HKR.out).cell F1.out (fun h => h)
          by_cases hlt : k < ls.length
          · obtain ⟨l, el⟩ : ∃ l, ls[k]? = some l := ⟨_, List.getElem?_eq_getElem hlt⟩
            have el4 : ls4[k]? = some (latL ver l) := by rw [HL2.out, List.getElem?_map, el]; rfl
            obtain ⟨bb, off, e1, c0, c1, c2, c3, c4⟩ := (HM1.out.nil HKL.out).l.at el
            obtain ⟨bd, off4, e2, d0, d1, d2, d3, d4⟩ := (HHB.out.nil (HK4.out.step HKR.out)).r.l.at el4
            rw [latL_src] at d1
            rw [latL_weight] at d4
            have hld := (HRM.out.lk (j := k) (u := l) el).d
            obtain ⟨d, hd⟩ : ∃ d, l.delay = d := ⟨_, rfl⟩
            rw [hd] at c3 hld
            have hdd : (latL ver l).delay = d * 1000 := by rw [← hd, HONE.out]; rfl
            rw [hdd] at d3
            obtain ⟨wt, hwt⟩ : ∃ wt, wtI l.weight = wt := ⟨_, rfl⟩
            rw [hwt] at d4
            have hwt2 : ∀ (k : IntKind), Builtin.max2 (.int .i64 l.weight) (.int k 1) = pure (.int .i64 wt) := fun k => by rw [max2_one, hwt]
            obtain ⟨nm, hnm⟩ : ∃ nm, l.src = nm := ⟨_, rfl⟩
            rw [hnm] at c1 d1
            have hww : IntKind.i64.wrap (1000 * d) = d * 1000 := by rw [IntKind.wrap_i64]; omega
            have hlt2 : (k : Int) < (ls.length : Int) := by omega
            have hw : IntKind.i64.wrap ((k : Int) + 1) = (k : Int) + 1 := by rw [IntKind.wrap_i64]; omega
            have hbs : bb < wr.heap.size := World.block_lt_of_cell? _ _ c0
            have hbs4 : bd < wr.heap.size := World.block_lt_of_cell? _ _ d0
            simp only at e1 e2
            clear el el4 hd hdd hwt hnm
            subst e1
            subst e2
            go_upto_region 16 with fail
            obtain ⟨W9, hW9⟩ : ∃ W9, wr.alloc (.cells #[.string l.name, .string nm, .string l.dst, .int .i64 d, .int .i64 l.weight] 48) = W9 := ⟨_, rfl⟩
            have hk9 : Kept Nil wr W9 := by rw [← hW9]; exact (Kept.refl Nil wr).alloc _
            have hb9 : W9.heap[wr.heap.size]? = some (.cells #[.string l.name, .string nm, .string l.dst, .int .i64 d, .int .i64 l.weight] 48 (0, 0)) := by rw [← hW9]; exact heap_new _ _
            have x1 : W9.cell? ⟨wr.heap.size, 1, none⟩ = some (.string nm) := by rw [cell_of hb9]; rfl
            have x3 : W9.cell? ⟨wr.heap.size, 3, none⟩ = some (.int .i64 d) := by rw [cell_of hb9]; rfl
            have x4 : W9.cell? ⟨wr.heap.size, 4, none⟩ = some (.int .i64 l.weight) := by rw [cell_of hb9]; rfl
            have y2 := hk9.cell b2 (fun h => h)
            have y11 := hk9.cell d1 (fun h => h)
            have y13 := hk9.cell d3 (fun h => h)
            have y14 := hk9.cell d4 (fun h => h)
            rw [hW9]
            have HK9 := Lib.hid hk9
            clear hW9 hb9 hk9 c0 c1 c2 c3 c4 d0 d1 d2 d3 d4 b0 b1 b2 b3 f0 f1 g0 g1 g2 g3
            go_big_quiet (fail)
            go_wp2_with fail
            go_round
            exact ⟨k + 1, by omega, by go_num, (HKR.out.step HK9.out).drewN _⟩
            case measure => (simp [intOf] <;> omega)
          · have hkl : k = ls.length := by omega
            subst hkl
            obtain ⟨wl, h⟩ : ∃ x, x = wr := ⟨_, rfl⟩
            subst h
            have hcopy := Copy_is ver ps ls es pa la ea pc lc ec wl (HHM.out.nil ((HK3.out.step HK4.out).step HKR.out))
            go_wp2_with fail
            refine hcopy.mono ?_
            clear hcopy b0 b1 b2 b3 f0 f1 g0 g1 g2 g3
            rintro e w5 hE
            have HK5 := Lib.hid hE.k
            have hz5 := hE.k.size
            obtain ⟨⟨ver5, pa5, ps5, pc5, la5, ls5, lc5, ea5, es5, ec5⟩, e5, hh5, hs5, hf5, hn5⟩ := hE.ok
            obtain rfl : ver = ver5 := hs5.v
            obtain rfl : ls = ls5 := hs5.l
            obtain rfl : es = es5 := hs5.e
            have hl5 : ps5.length = ps.length := hs5.p.l.symm
            simp only [hl5] at e5
            subst e5
            have HL5 := Lib.hid hl5
            have HS5 := Lib.hid hs5
            have HN5 := Lib.hid (show HoldN wl.heap.size w5 ⟨ver, pa5, ps5, pc5, la5, ls, lc5, ea5, es, ec5⟩ from ⟨hh5, hn5, hf5⟩)
            clear hE hh5 hs5 hf5 hn5 hl5
            obtain ⟨W6, hW⟩ : ∃ W, (w5.alloc (.cells #[.int .i64 ver, .slice pa5 ps.length pc5, .slice la5 ls.length lc5, .slice ea5 es.length ec5] 26)) = W := ⟨_, rfl⟩
            have hk : Kept Nil w5 W6 := by rw [← hW]; exact ((Kept.refl Nil w5).alloc _)
            have hsz : W6.heap.size = w5.heap.size + 1 := by rw [← hW]; simp
            have hb : W6.heap[w5.heap.size]? = some (.cells #[.int .i64 ver, .slice pa5 ps.length pc5, .slice la5 ls.length lc5, .slice ea5 es.length ec5] 26 (0, 0)) := by
              rw [← hW]
              have h9 := heap_new w5 (.cells #[.int .i64 ver, .slice pa5 ps.length pc5, .slice la5 ls.length lc5, .slice ea5 es.length ec5] 26)
              exact h9
            have X0 := Lib.hid (show W6.cell? ⟨w5.heap.size, 0, none⟩ = some (.int .i64 ver) by rw [cell_of hb]; rfl)
            have X1 := Lib.hid (show W6.cell? ⟨w5.heap.size, 1, none⟩ = some (.slice pa5 ps.length pc5) by rw [cell_of hb]; rfl)
            have X2 := Lib.hid (show W6.cell? ⟨w5.heap.size, 2, none⟩ = some (.slice la5 ls.length lc5) by rw [cell_of hb]; rfl)
            have X3 := Lib.hid (show W6.cell? ⟨w5.heap.size, 3, none⟩ = some (.slice ea5 es.length ec5) by rw [cell_of hb]; rfl)
            have XB := Lib.hid hb
            have hzx : w5.heap.size < W6.heap.size := by omega
            clear hb
            have HW6 := Lib.hid hW
            have HK6 := Lib.hid hk
            have HSZ6 := Lib.hid hsz
            clear hW hk hsz
            have hz6 : w5.heap.size < W6.heap.size := by have := HSZ6.out; omega
            go_upto_region 20 with fail
            rw [HW6.out]
            have x1 := X1.out
            have hrow : ∃ g, g < w5.heap.size ∧ wl.heap.size ≤ g + (if ps5 = [] then wl.heap.size else 0) ∧ (ps5 ≠ [] → pa5 = some ⟨g, 0, none⟩ ∧ RowAt W6 g 52 4 prCells ps5) := by
              by_cases hps : ps5 = []
              · exact ⟨0, by omega, by rw [if_pos hps]; omega, fun h => absurd hps h⟩
              · obtain ⟨g, hb, e, hr⟩ := HN5.out.n.p hps
                exact ⟨g, hr.lt, by omega, fun _ => ⟨e, hr.kept HK6.out (fun h => h)⟩⟩
            obtain ⟨gp, hpx, hpb, hrow⟩ := hrow
            have HROP := Lib.hid hrow
            have HPB := Lib.hid hpb
            clear hrow hpb
            go_wp2_with fail
            clear x1
            go_loopw [90] (fun i wr => ∃ k : Nat, k ≤ ps.length ∧ i = .int .i64 k ∧ (ps5 ≠ [] → RowAt wr gp 52 4 prCells (partG wtP ps5 k)) ∧ Kept (fun b => ps5 ≠ [] ∧ b = gp) W6 wr) (fun i _ => ps.length - (intOf i).toNat)
            case atStart => exact ⟨0, Nat.zero_le _, rfl, fun h => by rw [partG_zero]; exact (HROP.out h).2, Kept.refl _ _⟩
            case round =>
              obtain ⟨k, hk, rfl, hrk, hK⟩ := hrel
              have HRK := Lib.hid hrk
              have HKS := Lib.hid hK
              have hzs := hK.size
              have hng : ∀ i, (i < wl.heap.size ∨ w5.heap.size ≤ i) → ¬ (ps5 ≠ [] ∧ i = gp) := fun i hi h => by have h8 := HPB.out; rw [if_neg h.1] at h8; omega
              have HXR := Lib.hid (hK.heap XB.out (hng _ (.inr (Nat.le_refl _))))
              have hx9 : w5.heap.size < wr.heap.size := by omega
              have x0 : wr.cell? ⟨w5.heap.size, 0, none⟩ = some (.int .i64 ver) := by rw [cell_of HXR.out]; rfl
              have x1 : wr.cell? ⟨w5.heap.size, 1, none⟩ = some (.slice pa5 ps.length pc5) := by rw [cell_of HXR.out]; rfl
              have x2 : wr.cell? ⟨w5.heap.size, 2, none⟩ = some (.slice la5 ls.length lc5) := by rw [cell_of HXR.out]; rfl
              have x3 : wr.cell? ⟨w5.heap.size, 3, none⟩ = some (.slice ea5 es.length ec5) := by rw [cell_of HXR.out]; rfl
              have HNG := Lib.hid hng
              clear hrk hK hng
              by_cases hlt : k < ps.length
              · obtain ⟨l, el⟩ : ∃ l, ps5[k]? = some l := ⟨_, List.getElem?_eq_getElem (by rw [HL5.out]; exact hlt)⟩
                have hne : ps5 ≠ [] := by intro h; rw [h] at el; simp at el
                have hA := (HROP.out hne).1
                have hrw := HRK.out hne
                have cw : wr.cell? ⟨gp, k * 4 + 1, none⟩ = some (.int .i64 l.weight) := hrw.cell (partG_get wtP ps5 el) (c := 1) (by decide)
                have fw : wr.frozen? ⟨gp, k * 4 + 1, none⟩ = false := hrw.frozen _
                have hgl := hrw.lt
                have HRW2 := Lib.hid hrw
                have EL := Lib.hid el
                have hlt2 : (k : Int) < (ps.length : Int) := by omega
                have hw : IntKind.i64.wrap ((k : Int) + 1) = (k : Int) + 1 := by rw [IntKind.wrap_i64]; omega
                have HNE := Lib.hid hne
                clear el hrw hne
                subst hA
                go_upto_region 23 with fail
                go_region
                go_wp2_with fail
                go_round
                refine ⟨k + 1, by omega, rfl, fun _ => ?_, (HKS.out.setCell (.inl ⟨HNE.out, rfl⟩) _).drew⟩
                · have h9 := rowAt_drew (HRW2.out.set prCells_len (partG_get wtP ps5 EL.out) (o' := wtP l) (c := 1) (by decide) (u := .int .i64 (wtI l.weight)) rfl)
                  rw [partG_next wtP ps5 EL.out] at h9; exact h9
                case measure => (simp [intOf] <;> omega)
              · have hkl : k = ps.length := by omega
                subst hkl
                clear x0 x1 x2 x3
                have hpa : ps5 ≠ [] → pa5 = some ⟨gp, 0, none⟩ ∧ RowAt wr gp 52 4 prCells (ps5.map wtP) := fun h => ⟨(HROP.out h).1, by have h9 := HRK.out h; rw [← HL5.out, partG_all] at h9; exact h9⟩
                have HNB := Lib.hid ((HN5.out.nil HK6.out).procs hpa HKS.out (fun l hl => by obtain ⟨u, hu, rfl⟩ := List.mem_map.1 hl; exact (HN5.out.h.o.p u hu).wt))
                clear hpa
                have HK4R := Lib.hid (show Kept Nil W4 wr from (HKR.out.step (HK5.out.step HK6.out)).trans HKS.out (fun i h => .inr (by have h8 := HPB.out; rw [if_neg h.1] at h8; omega)))
                have hbW : w3.heap.size < wr.heap.size := by omega
                have b0 : wr.cell? ⟨w3.heap.size, 0, none⟩ = some (.int .i64 3) := HK4R.out.cell B0.out (fun h => h)
                have b1 : wr.cell? ⟨w3.heap.size, 1, none⟩ = some (.slice pa4 ps.length pc4) := HK4R.out.cell B1.out (fun h => h)
                have b2 : wr.cell? ⟨w3.heap.size, 2, none⟩ = some (.slice la4 ls.length lc4) := HK4R.out.cell B2.out (fun h => h)
                have b3 : wr.cell? ⟨w3.heap.size, 3, none⟩ = some (.slice ea4 es.length ec4) := HK4R.out.cell B3.out (fun h => h)
                have x0 : wr.cell? ⟨w5.heap.size, 0, none⟩ = some (.int .i64 ver) := by rw [cell_of HXR.out]; rfl
                have x1 : wr.cell? ⟨w5.heap.size, 1, none⟩ = some (.slice pa5 ps.length pc5) := by rw [cell_of HXR.out]; rfl
                have x2 : wr.cell? ⟨w5.heap.size, 2, none⟩ = some (.slice la5 ls.length lc5) := by rw [cell_of HXR.out]; rfl
                have x3 : wr.cell? ⟨w5.heap.size, 3, none⟩ = some (.slice ea5 es.length ec5) := by rw [cell_of HXR.out]; rfl
                have xf0 : wr.frozen? ⟨w5.heap.size, 0, none⟩ = false := frozen_of HXR.out 0
                have xf2 : wr.frozen? ⟨w5.heap.size, 2, none⟩ = false := frozen_of HXR.out 2
                go_upto_region 26 with fail
                obtain ⟨W7, hW7⟩ : ∃ W7, (wr.setCell ⟨w5.heap.size, 2, none⟩ (.slice la4 ls.length lc4)).setCell ⟨w5.heap.size, 0, none⟩ (.int .i64 3) = W7 := ⟨_, rfl⟩
                rw [hW7]
                have hk7 : Kept (fun i => i = w5.heap.size) wr W7 := by rw [← hW7]; exact ((Kept.refl (fun i => i = w5.heap.size) wr).setCell (.inl rfl) _).setCell (.inl rfl) _
                have HX7 := Lib.hid (show W7.heap[w5.heap.size]? = some (.cells #[.int .i64 3, .slice pa5 ps.length pc5, .slice la4 ls.length lc4, .slice ea5 es.length ec5] 26 (0, 0)) by rw [← hW7, heap_set (heap_set HXR.out 2 _) 0 _]; rfl)
                have HK7 := Lib.hid hk7
                have hz7 := hk7.size
                clear hW7 hk7 b0 b1 b2 b3 x0 x1 x2 x3 xf0 xf2
                have HK47 := Lib.hid (show Kept Nil W4 W7 from HK4R.out.trans HK7.out (fun i h => .inr (by omega)))
                have hxW : w5.heap.size < W7.heap.size := by omega
                have hbW7 : w3.heap.size < W7.heap.size := by omega
                have b0 : W7.cell? ⟨w3.heap.size, 0, none⟩ = some (.int .i64 3) := HK47.out.cell B0.out (fun h => h)
                have b1 : W7.cell? ⟨w3.heap.size, 1, none⟩ = some (.slice pa4 ps.length pc4) := HK47.out.cell B1.out (fun h => h)
                have b2 : W7.cell? ⟨w3.heap.size, 2, none⟩ = some (.slice la4 ls.length lc4) := HK47.out.cell B2.out (fun h => h)
                have b3 : W7.cell? ⟨w3.heap.size, 3, none⟩ = some (.slice ea4 es.length ec4) := HK47.out.cell B3.out (fun h => h)
                have x0 : W7.cell? ⟨w5.heap.size, 0, none⟩ = some (.int .i64 3) := by rw [cell_of HX7.out]; rfl
                have x1 : W7.cell? ⟨w5.heap.size, 1, none⟩ = some (.slice pa5 ps.length pc5) := by rw [cell_of HX7.out]; rfl
                have x2 : W7.cell? ⟨w5.heap.size, 2, none⟩ = some (.slice la4 ls.length lc4) := by rw [cell_of HX7.out]; rfl
                have x3 : W7.cell? ⟨w5.heap.size, 3, none⟩ = some (.slice ea5 es.length ec5) := by rw [cell_of HX7.out]; rfl
                have hHB := HHB.out.nil (HK4.out.step HK47.out)
                have hHX : HeldM W7 ⟨ver, pa5, ps5.map wtP, pc5, la5, ls, lc5, ea5, es, ec5⟩ := by
                  refine HNB.out.h.out ?_ HK7.out
                  have h5 := HN5.out.h.r.low
                  refine ⟨fun g off hn e h => ?_, fun q hq => ?_, fun g off hn e h => ?_, fun g off hn e h => ?_⟩
                  · exact h5.p g off (fun e0 => hn (by simp only at e0 ⊢; rw [e0]; rfl)) e (by omega)
                  · obtain ⟨p, hp, rfl⟩ := List.mem_map.1 hq
                    exact ⟨fun g off hn e h => (h5.pp p hp).v g off hn e (by omega), fun g off hn e h => (h5.pp p hp).s g off hn e (by omega)⟩
                  · exact h5.l g off hn e (by omega)
                  · exact h5.e g off hn e (by omega)
                have hHY : HeldM W7 ⟨3, pa5, ps5.map wtP, pc5, la4, ls4, lc4, ea5, es, ec5⟩ := ⟨⟨hHX.r.p, hHX.r.pp, hHB.r.l, hHX.r.e, hHX.r.pl, hHB.r.ll, hHX.r.el⟩, ⟨by simp [Sc.I64], hHX.o.p, hHB.o.l, hHX.o.e, hHX.o.pc, hHX.o.pn, hHB.o.lc, hHB.o.ln, hHX.o.ec, hHX.o.en⟩, ⟨hHX.s.p, hHB.s.l, hHX.s.e, hHX.s.v⟩⟩
                have hsame : SameM ⟨3, pa5, ps5.map wtP, pc5, la4, ls4, lc4, ea5, es, ec5⟩ ⟨3, pa4, ps4, pc4, la4, ls4, lc4, ea4, es, ec4⟩ := ⟨rfl, ((HS5.out.p.symm.mapS wtP (fun _ _ => wtP_same)).trans HSB.out.p), rfl, rfl⟩
                have hcall := Same_h W7 hHY hHB hsame
                simp only [List.length_map, HL5.out, HL1.out, HL3.out] at hcall
                clear hHB hHX hHY hsame
                go_wp2_with fail
                refine hcall.mono ?_
                clear hcall
                rintro e w8 ⟨rfl, hk8⟩
                go_wp2_with fail
                go_ret
                exact ⟨rfl, HK.out.step ((HKA.out.step HK47.out).step hk8)⟩
      · have HONE := Lib.hid hone
        have fo : (ver == 1) = false := by simp [hone]
        clear hone
        go_upto_region 13 with fail
        go_wp2_with fail
        clear b0 b1 b2 b3 g0 g1 g2 g3
        go_loopw [45] (fun i wr => ∃ k : Nat, k ≤ ls.length ∧ i = .int .i64 k ∧ Kept Nil W4 wr) (fun i _ => ls.length - (intOf i).toNat)
        case atStart => exact ⟨0, Nat.zero_le _, rfl, Kept.refl _ _⟩
        case round =>
          obtain ⟨k, hk, rfl, hK⟩ := hrel
          have HKR := Lib.hid hK
          have HKL := Lib.hid (HKA.out.step hK)
          have hzr := hK.size
          have hg5 : w.heap.size < wr.heap.size := by omega
          have hb5 : w3.heap.size < wr.heap.size := by omega
          clear hK
          have g0 := (HKL.out).cell G0.out (fun h => h)
          have g1 := (HKL.out).cell G1.out (fun h => h)
          have g2 := (HKL.out).cell G2.out (fun h => h)
          have g3 := (HKL.out).cell G3.out (fun h => h)
          have b0 := (HKR.out).cell B0.out (fun h => h)
          have b1 := (HKR.out).cell B1.out (fun h => h)
          have b2 := (HKR.out).cell B2.out (fun h => h)
          have b3 := (HKR.out).cell B3.out (fun h => h)
          have f0 := (HKR.out).cell F0.out (fun h => h)
          have f1 := (HKR.out).cell F1.out (fun h => h)
          by_cases hlt : k < ls.length
          · obtain ⟨l, el⟩ : ∃ l, ls[k]? = some l := ⟨_, List.getElem?_eq_getElem hlt⟩
            have el4 : ls4[k]? = some (latL ver l) := by rw [HL2.out, List.getElem?_map, el]; rfl
            obtain ⟨bb, off, e1, c0, c1, c2, c3, c4⟩ := (HM1.out.nil HKL.out).l.at el
            obtain ⟨bd, off4, e2, d0, d1, d2, d3, d4⟩ := (HHB.out.nil (HK4.out.step HKR.out)).r.l.at el4
            rw [latL_src] at d1
            rw [latL_weight] at d4
            have hld := (HRM.out.lk (j := k) (u := l) el).d
            obtain ⟨d, hd⟩ : ∃ d, l.delay = d := ⟨_, rfl⟩
            rw [hd] at c3 hld
            have hdd : (latL ver l).delay = d := by rw [latL_delay HONE.out, hd]
            rw [hdd] at d3
            obtain ⟨wt, hwt⟩ : ∃ wt, wtI l.weight = wt := ⟨_, rfl⟩
            rw [hwt] at d4
            have hwt2 : ∀ (k : IntKind), Builtin.max2 (.int .i64 l.weight) (.int k 1) = pure (.int .i64 wt) := fun k => by rw [max2_one, hwt]
            obtain ⟨nm, hnm⟩ : ∃ nm, l.src = nm := ⟨_, rfl⟩
            rw [hnm] at c1 d1
            have hww : IntKind.i64.wrap (1 * d) = d := by rw [IntKind.wrap_i64]; omega
            have hww2 : IntKind.i64.wrap d = d := by rw [IntKind.wrap_i64]; omega
            have hlt2 : (k : Int) < (ls.length : Int) := by omega
            have hw : IntKind.i64.wrap ((k : Int) + 1) = (k : Int) + 1 := by rw [IntKind.wrap_i64]; omega
            have hbs : bb < wr.heap.size := World.block_lt_of_cell? _ _ c0
            have hbs4 : bd < wr.heap.size := World.block_lt_of_cell? _ _ d0
            simp only at e1 e2
            clear el el4 hd hdd hwt hnm
            subst e1
            subst e2
            go_upto_region 16 with fail
            obtain ⟨W9, hW9⟩ : ∃ W9, wr.alloc (.cells #[.string l.name, .string nm, .string l.dst, .int .i64 d, .int .i64 l.weight] 48) = W9 := ⟨_, rfl⟩
            have hk9 : Kept Nil wr W9 := by rw [← hW9]; exact (Kept.refl Nil wr).alloc _
            have hb9 : W9.heap[wr.heap.size]? = some (.cells #[.string l.name, .string nm, .string l.dst, .int .i64 d, .int .i64 l.weight] 48 (0, 0)) := by rw [← hW9]; exact heap_new _ _
            have x1 : W9.cell? ⟨wr.heap.size, 1, none⟩ = some (.string nm) := by rw [cell_of hb9]; rfl
            have x3 : W9.cell? ⟨wr.heap.size, 3, none⟩ = some (.int .i64 d) := by rw [cell_of hb9]; rfl
            have x4 : W9.cell? ⟨wr.heap.size, 4, none⟩ = some (.int .i64 l.weight) := by rw [cell_of hb9]; rfl
            have y2 := hk9.cell b2 (fun h => h)
            have y11 := hk9.cell d1 (fun h => h)
            have y13 := hk9.cell d3 (fun h => h)
            have y14 := hk9.cell d4 (fun h => h)
            rw [hW9]
            have HK9 := Lib.hid hk9
            clear hW9 hb9 hk9 c0 c1 c2 c3 c4 d0 d1 d2 d3 d4 b0 b1 b2 b3 f0 f1 g0 g1 g2 g3
            go_big_quiet (fail)
            go_wp2_with fail
            go_round
            exact ⟨k + 1, by omega, by go_num, (HKR.out.step HK9.out).drewN _⟩
            case measure => (simp [intOf] <;> omega)
          · have hkl : k = ls.length := by omega
            subst hkl
            obtain ⟨wl, h⟩ : ∃ x, x = wr := ⟨_, rfl⟩
            subst h
            have hcopy := Copy_is ver ps ls es pa la ea pc lc ec wl (HHM.out.nil ((HK3.out.step HK4.out).step HKR.out))
            go_wp2_with fail
            refine hcopy.mono ?_
            clear hcopy b0 b1 b2 b3 f0 f1 g0 g1 g2 g3
            rintro e w5 hE
            have HK5 := Lib.hid hE.k
            have hz5 := hE.k.size
            obtain ⟨⟨ver5, pa5, ps5, pc5, la5, ls5, lc5, ea5, es5, ec5⟩, e5, hh5, hs5, hf5, hn5⟩ := hE.ok
            obtain rfl : ver = ver5 := hs5.v
            obtain rfl : ls = ls5 := hs5.l
            obtain rfl : es = es5 := hs5.e
            have hl5 : ps5.length = ps.length := hs5.p.l.symm
            simp only [hl5] at e5
            subst e5
            have HL5 := Lib.hid hl5
            have HS5 := Lib.hid hs5
            have HN5 := Lib.hid (show HoldN wl.heap.size w5 ⟨ver, pa5, ps5, pc5, la5, ls, lc5, ea5, es, ec5⟩ from ⟨hh5, hn5, hf5⟩)
            clear hE hh5 hs5 hf5 hn5 hl5
            obtain ⟨W6, hW⟩ : ∃ W, (w5.alloc (.cells #[.int .i64 ver, .slice pa5 ps.length pc5, .slice la5 ls.length lc5, .slice ea5 es.length ec5] 26)) = W := ⟨_, rfl⟩
            have hk : Kept Nil w5 W6 := by rw [← hW]; exact ((Kept.refl Nil w5).alloc _)
            have hsz : W6.heap.size = w5.heap.size + 1 := by rw [← hW]; simp
            have hb : W6.heap[w5.heap.size]? = some (.cells #[.int .i64 ver, .slice pa5 ps.length pc5, .slice la5 ls.length lc5, .slice ea5 es.length ec5] 26 (0, 0)) := by
              rw [← hW]
              have h9 := heap_new w5 (.cells #[.int .i64 ver, .slice pa5 ps.length pc5, .slice la5 ls.length lc5, .slice ea5 es.length ec5] 26)
              exact h9
            have X0 := Lib.hid (show W6.cell? ⟨w5.heap.size, 0, none⟩ = some (.int .i64 ver) by rw [cell_of hb]; rfl)
            have X1 := Lib.hid (show W6.cell? ⟨w5.heap.size, 1, none⟩ = some (.slice pa5 ps.length pc5) by rw [cell_of hb]; rfl)
            have X2 := Lib.hid (show W6.cell? ⟨w5.heap.size, 2, none⟩ = some (.slice la5 ls.length lc5) by rw [cell_of hb]; rfl)
            have X3 := Lib.hid (show W6.cell? ⟨w5.heap.size, 3, none⟩ = some (.slice ea5 es.length ec5) by rw [cell_of hb]; rfl)
            have XB := Lib.hid hb
            have hzx : w5.heap.size < W6.heap.size := by omega
            clear hb
            have HW6 := Lib.hid hW
            have HK6 := Lib.hid hk
            have HSZ6 := Lib.hid hsz
            clear hW hk hsz
            have hz6 : w5.heap.size < W6.heap.size := by have := HSZ6.out; omega
            go_upto_region 20 with fail
            rw [HW6.out]
            have x1 := X1.out
            have hrow : ∃ g, g < w5.heap.size ∧ wl.heap.size ≤ g + (if ps5 = [] then wl.heap.size else 0) ∧ (ps5 ≠ [] → pa5 = some ⟨g, 0, none⟩ ∧ RowAt W6 g 52 4 prCells ps5) := by
              by_cases hps : ps5 = []
              · exact ⟨0, by omega, by rw [if_pos hps]; omega, fun h => absurd hps h⟩
              · obtain ⟨g, hb, e, hr⟩ := HN5.out.n.p hps
                exact ⟨g, hr.lt, by omega, fun _ => ⟨e, hr.kept HK6.out (fun h => h)⟩⟩
            obtain ⟨gp, hpx, hpb, hrow⟩ := hrow
            have HROP := Lib.hid hrow
            have HPB := Lib.hid hpb
            clear hrow hpb
            go_wp2_with fail
            clear x1
            go_loopw [90] (fun i wr => ∃ k : Nat, k ≤ ps.length ∧ i = .int .i64 k ∧ (ps5 ≠ [] → RowAt wr gp 52 4 prCells (partG wtP ps5 k)) ∧ Kept (fun b => ps5 ≠ [] ∧ b = gp) W6 wr) (fun i _ => ps.length - (intOf i).toNat)
            case atStart => exact ⟨0, Nat.zero_le _, rfl, fun h => by rw [partG_zero]; exact (HROP.out h).2, Kept.refl _ _⟩
            case round =>
              obtain ⟨k, hk, rfl, hrk, hK⟩ := hrel
              have HRK := Lib.hid hrk
              have HKS := Lib.hid hK
              have hzs := hK.size
              have hng : ∀ i, (i < wl.heap.size ∨ w5.heap.size ≤ i) → ¬ (ps5 ≠ [] ∧ i = gp) := fun i hi h => by have h8 := HPB.out; rw [if_neg h.1] at h8; omega
              have HXR := Lib.hid (hK.heap XB.out (hng _ (.inr (Nat.le_refl _))))
              have hx9 : w5.heap.size < wr.heap.size := by omega
              have x0 : wr.cell? ⟨w5.heap.size, 0, none⟩ = some (.int .i64 ver) := by rw [cell_of HXR.out]; rfl
              have x1 : wr.cell? ⟨w5.heap.size, 1, none⟩ = some (.slice pa5 ps.length pc5) := by rw [cell_of HXR.out]; rfl
              have x2 : wr.cell? ⟨w5.heap.size, 2, none⟩ = some (.slice la5 ls.length lc5) := by rw [cell_of HXR.out]; rfl
              have x3 : wr.cell? ⟨w5.heap.size, 3, none⟩ = some (.slice ea5 es.length ec5) := by rw [cell_of HXR.out]; rfl
              have HNG := Lib.hid hng
              clear hrk hK hng
              by_cases hlt : k < ps.length
              · obtain ⟨l, el⟩ : ∃ l, ps5[k]? = some l := ⟨_, List.getElem?_eq_getElem (by rw [HL5.out]; exact hlt)⟩
                have hne : ps5 ≠ [] := by intro h; rw [h] at el; simp at el
                have hA := (HROP.out hne).1
                have hrw := HRK.out hne
                have cw : wr.cell? ⟨gp, k * 4 + 1, none⟩ = some (.int .i64 l.weight) := hrw.cell (partG_get wtP ps5 el) (c := 1) (by decide)
                have fw : wr.frozen? ⟨gp, k * 4 + 1, none⟩ = false := hrw.frozen _
                have hgl := hrw.lt
                have HRW2 := Lib.hid hrw
                have EL := Lib.hid el
                have hlt2 : (k : Int) < (ps.length : Int) := by omega
                have hw : IntKind.i64.wrap ((k : Int) + 1) = (k : Int) + 1 := by rw [IntKind.wrap_i64]; omega
                have HNE := Lib.hid hne
                clear el hrw hne
                subst hA
                go_upto_region 23 with fail
                go_region
                go_wp2_with fail
                go_round
                refine ⟨k + 1, by omega, rfl, fun _ => ?_, (HKS.out.setCell (.inl ⟨HNE.out, rfl⟩) _).drew⟩
                · have h9 := rowAt_drew (HRW2.out.set prCells_len (partG_get wtP ps5 EL.out) (o' := wtP l) (c := 1) (by decide) (u := .int .i64 (wtI l.weight)) rfl)
                  rw [partG_next wtP ps5 EL.out] at h9; exact h9
                case measure => (simp [intOf] <;> omega)
              · have hkl : k = ps.length := by omega
                subst hkl
                clear x0 x1 x2 x3
                have hpa : ps5 ≠ [] → pa5 = some ⟨gp, 0, none⟩ ∧ RowAt wr gp 52 4 prCells (ps5.map wtP) := fun h => ⟨(HROP.out h).1, by have h9 := HRK.out h; rw [← HL5.out, partG_all] at h9; exact h9⟩
                have HNB := Lib.hid ((HN5.out.nil HK6.out).procs hpa HKS.out (fun l hl => by obtain ⟨u, hu, rfl⟩ := List.mem_map.1 hl; exact (HN5.out.h.o.p u hu).wt))
                clear hpa
                have HK4R := Lib.hid (show Kept Nil W4 wr from (HKR.out.step (HK5.out.step HK6.out)).trans HKS.out (fun i h => .inr (by have h8 := HPB.out; rw [if_neg h.1] at h8; omega)))
                have hbW : w3.heap.size < wr.heap.size := by omega
                have b0 : wr.cell? ⟨w3.heap.size, 0, none⟩ = some (.int .i64 3) := HK4R.out.cell B0.out (fun h => h)
                have b1 : wr.cell? ⟨w3.heap.size, 1, none⟩ = some (.slice pa4 ps.length pc4) := HK4R.out.cell B1.out (fun h => h)
                have b2 : wr.cell? ⟨w3.heap.size, 2, none⟩ = some (.slice la4 ls.length lc4) := HK4R.out.cell B2.out (fun h => h)
                have b3 : wr.cell? ⟨w3.heap.size, 3, none⟩ = some (.slice ea4 es.length ec4) := HK4R.out.cell B3.out (fun h => h)
                have x0 : wr.cell? ⟨w5.heap.size, 0, none⟩ = some (.int .i64 ver) := by rw [cell_of HXR.out]; rfl
                have x1 : wr.cell? ⟨w5.heap.size, 1, none⟩ = some (.slice pa5 ps.length pc5) := by rw [cell_of HXR.out]; rfl
                have x2 : wr.cell? ⟨w5.heap.size, 2, none⟩ = some (.slice la5 ls.length lc5) := by rw [cell_of HXR.out]; rfl
                have x3 : wr.cell? ⟨w5.heap.size, 3, none⟩ = some (.slice ea5 es.length ec5) := by rw [cell_of HXR.out]; rfl
                have xf0 : wr.frozen? ⟨w5.heap.size, 0, none⟩ = false := frozen_of HXR.out 0
                have xf2 : wr.frozen? ⟨w5.heap.size, 2, none⟩ = false := frozen_of HXR.out 2
                go_upto_region 26 with fail
                obtain ⟨W7, hW7⟩ : ∃ W7, (wr.setCell ⟨w5.heap.size, 2, none⟩ (.slice la4 ls.length lc4)).setCell ⟨w5.heap.size, 0, none⟩ (.int .i64 3) = W7 := ⟨_, rfl⟩
                rw [hW7]
                have hk7 : Kept (fun i => i = w5.heap.size) wr W7 := by rw [← hW7]; exact ((Kept.refl (fun i => i = w5.heap.size) wr).setCell (.inl rfl) _).setCell (.inl rfl) _
                have HX7 := Lib.hid (show W7.heap[w5.heap.size]? = some (.cells #[.int .i64 3, .slice pa5 ps.length pc5, .slice la4 ls.length lc4, .slice ea5 es.length ec5] 26 (0, 0)) by rw [← hW7, heap_set (heap_set HXR.out 2 _) 0 _]; rfl)
                have HK7 := Lib.hid hk7
                have hz7 := hk7.size
                clear hW7 hk7 b0 b1 b2 b3 x0 x1 x2 x3 xf0 xf2
                have HK47 := Lib.hid (show Kept Nil W4 W7 from HK4R.out.trans HK7.out (fun i h => .inr (by omega)))
                have hxW : w5.heap.size < W7.heap.size := by omega
                have hbW7 : w3.heap.size < W7.heap.size := by omega
                have b0 : W7.cell? ⟨w3.heap.size, 0, none⟩ = some (.int .i64 3) := HK47.out.cell B0.out (fun h => h)
                have b1 : W7.cell? ⟨w3.heap.size, 1, none⟩ = some (.slice pa4 ps.length pc4) := HK47.out.cell B1.out (fun h => h)
                have b2 : W7.cell? ⟨w3.heap.size, 2, none⟩ = some (.slice la4 ls.length lc4) := HK47.out.cell B2.out (fun h => h)
                have b3 : W7.cell? ⟨w3.heap.size, 3, none⟩ = some (.slice ea4 es.length ec4) := HK47.out.cell B3.out (fun h => h)
                have x0 : W7.cell? ⟨w5.heap.size, 0, none⟩ = some (.int .i64 3) := by rw [cell_of HX7.out]; rfl
                have x1 : W7.cell? ⟨w5.heap.size, 1, none⟩ = some (.slice pa5 ps.length pc5) := by rw [cell_of HX7.out]; rfl
                have x2 : W7.cell? ⟨w5.heap.size, 2, none⟩ = some (.slice la4 ls.length lc4) := by rw [cell_of HX7.out]; rfl
                have x3 : W7.cell? ⟨w5.heap.size, 3, none⟩ = some (.slice ea5 es.length ec5) := by rw [cell_of HX7.out]; rfl
                have hHB := HHB.out.nil (HK4.out.step HK47.out)
                have hHX : HeldM W7 ⟨ver, pa5, ps5.map wtP, pc5, la5, ls, lc5, ea5, es, ec5⟩ := by
                  refine HNB.out.h.out ?_ HK7.out
                  have h5 := HN5.out.h.r.low
                  refine ⟨fun g off hn e h => ?_, fun q hq => ?_, fun g off hn e h => ?_, fun g off hn e h => ?_⟩
                  · exact h5.p g off (fun e0 => hn (by simp only at e0 ⊢; rw [e0]; rfl)) e (by omega)
                  · obtain ⟨p, hp, rfl⟩ := List.mem_map.1 hq
                    exact ⟨fun g off hn e h => (h5.pp p hp).v g off hn e (by omega), fun g off hn e h => (h5.pp p hp).s g off hn e (by omega)⟩
                  · exact h5.l g off hn e (by omega)
                  · exact h5.e g off hn e (by omega)
                have hHY : HeldM W7 ⟨3, pa5, ps5.map wtP, pc5, la4, ls4, lc4, ea5, es, ec5⟩ := ⟨⟨hHX.r.p, hHX.r.pp, hHB.r.l, hHX.r.e, hHX.r.pl, hHB.r.ll, hHX.r.el⟩, ⟨by simp [Sc.I64], hHX.o.p, hHB.o.l, hHX.o.e, hHX.o.pc, hHX.o.pn, hHB.o.lc, hHB.o.ln, hHX.o.ec, hHX.o.en⟩, ⟨hHX.s.p, hHB.s.l, hHX.s.e, hHX.s.v⟩⟩
                have hsame : SameM ⟨3, pa5, ps5.map wtP, pc5, la4, ls4, lc4, ea5, es, ec5⟩ ⟨3, pa4, ps4, pc4, la4, ls4, lc4, ea4, es, ec4⟩ := ⟨rfl, ((HS5.out.p.symm.mapS wtP (fun _ _ => wtP_same)).trans HSB.out.p), rfl, rfl⟩
                have hcall := Same_h W7 hHY hHB hsame
                simp only [List.length_map, HL5.out, HL1.out, HL3.out] at hcall
                clear hHB hHX hHY hsame
                go_wp2_with fail
                refine hcall.mono ?_
                clear hcall
                rintro e w8 ⟨rfl, hk8⟩
                go_wp2_with fail
                go_ret
                exact ⟨rfl, HK.out.step ((HKA.out.step HK47.out).step hk8)⟩
    · have fu : (u.1 != 0) = true := by simp [hu0]
      have e4 := hE.bad (by rw [HU.out]; exact hu0)
      rw [HU.out] at e4
      subst e4
      clear hE hu0
      go_wp2_with fail
      go_ret
      exact ⟨rfl, HK.out.step ((HK2.out.step HK3.out).step (((Kept.refl Nil w3).alloc _).alloc _))⟩
theorem UpgradeTimes_row (m : Md) (w : World) (hm : RModel w m) (ho : OkM m) :
    Calls Try.prog 5 #[m.val] w fun e w' => e = .returned (.bool true) ∧ RowKit.Below w.heap.size w w' :=
  (UpgradeTimes_calls m w hm ho).mono fun e w' ⟨h1, h2⟩ => ⟨h1, h2.toBelow⟩
end Go.Proofs.Ythgbahlkflmgiaa.Mo
