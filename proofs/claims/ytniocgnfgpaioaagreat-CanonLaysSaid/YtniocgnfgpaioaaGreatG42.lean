/- The walk of the statement CanonLays. -/
import Derived.Test.YtniocgnfgpaioaaGreatG41
set_option linter.unusedVariables false
set_option linter.unusedSimpArgs false
namespace Go.Proofs.YtniocgnfgpaioaaGreat.Mo
open Go Go.RowKit Go.Proofs.YtniocgnfgpaioaaGreat.Lb Go.Proofs.YtniocgnfgpaioaaGreat.HpPure
set_option maxRecDepth 8000
theorem OutM.mono {K K' : Nat → Prop} {m : Md} (h : ∀ i, K i → K' i) (ho : OutM K' m) : OutM K m :=
 ⟨fun g off hn e k => ho.p g off hn e (h g k), fun q hq => ⟨fun g off hn e k => (ho.pp q hq).v g off hn e (h g k), fun g off hn e k => (ho.pp q hq).s g off hn e (h g k)⟩, fun g off hn e k => ho.l g off hn e (h g k), fun g off hn e k => ho.e g off hn e (h g k)⟩
set_option maxHeartbeats 16000000 in
theorem CanonLays_calls (m n : Md) (w : World) (hm : RModel w m) (ho : OkM m) (hn : RModel w n) (hp : OkM n) :
  Calls Tryz.prog 3 #[m.val, n.val] w fun e w' => e = .returned (.bool true) ∧ Below w.heap.size w w' := by
 have HM := Lib.hid hm
 have HO := Lib.hid ho
 have HN := Lib.hid hn
 have HP := Lib.hid hp
 obtain ⟨ver, pa, ps, pc, la, ls, lc, ea, es, ec⟩ := m
 obtain ⟨wer, pb, qs, pd, lb, ms, ld, eb, fs, ed⟩ := n
 clear hm ho hn hp
 unfold Md.val
 simp only at *
 obtain ⟨W1, hW⟩ : ∃ W, ((w.alloc (.cells #[.int .i64 ver, .slice pa ps.length pc, .slice la ls.length lc, .slice ea es.length ec] 26)).alloc (.cells #[.int .i64 wer, .slice pb qs.length pd, .slice lb ms.length ld, .slice eb fs.length ed] 26)) = W := ⟨_, rfl⟩
 have hk : Kept Nil w W1 := by rw [← hW]; exact (((Kept.refl Nil w).alloc _).alloc _)
 have hsz : W1.heap.size = w.heap.size + 2 := by rw [← hW]; simp
 have hb : W1.heap[w.heap.size]? = some (.cells #[.int .i64 ver, .slice pa ps.length pc, .slice la ls.length lc, .slice ea es.length ec] 26 (0, 0)) := by
  rw [← hW]
  rw [heap_old _ _ (by simp only [World.size_alloc]; omega)]
  have h9 := heap_new w (.cells #[.int .i64 ver, .slice pa ps.length pc, .slice la ls.length lc, .slice ea es.length ec] 26)
  exact h9
 have G0 := Lib.hid (show W1.cell? ⟨w.heap.size, 0, none⟩ = some (.int .i64 ver) by rw [cell_of hb]; rfl)
 have G1 := Lib.hid (show W1.cell? ⟨w.heap.size, 1, none⟩ = some (.slice pa ps.length pc) by rw [cell_of hb]; rfl)
 have G2 := Lib.hid (show W1.cell? ⟨w.heap.size, 2, none⟩ = some (.slice la ls.length lc) by rw [cell_of hb]; rfl)
 have G3 := Lib.hid (show W1.cell? ⟨w.heap.size, 3, none⟩ = some (.slice ea es.length ec) by rw [cell_of hb]; rfl)
 have GB := Lib.hid hb
 have hzg : w.heap.size < W1.heap.size := by omega
 clear hb
 have hb : W1.heap[w.heap.size + 1]? = some (.cells #[.int .i64 wer, .slice pb qs.length pd, .slice lb ms.length ld, .slice eb fs.length ed] 26 (0, 0)) := by
  rw [← hW]
  have h9 := heap_new (w.alloc (.cells #[.int .i64 ver, .slice pa ps.length pc, .slice la ls.length lc, .slice ea es.length ec] 26)) (.cells #[.int .i64 wer, .slice pb qs.length pd, .slice lb ms.length ld, .slice eb fs.length ed] 26)
  simp only [World.size_alloc] at h9
  exact h9
 have Q0 := Lib.hid (show W1.cell? ⟨w.heap.size + 1, 0, none⟩ = some (.int .i64 wer) by rw [cell_of hb]; rfl)
 have Q1 := Lib.hid (show W1.cell? ⟨w.heap.size + 1, 1, none⟩ = some (.slice pb qs.length pd) by rw [cell_of hb]; rfl)
 have Q2 := Lib.hid (show W1.cell? ⟨w.heap.size + 1, 2, none⟩ = some (.slice lb ms.length ld) by rw [cell_of hb]; rfl)
 have Q3 := Lib.hid (show W1.cell? ⟨w.heap.size + 1, 3, none⟩ = some (.slice eb fs.length ed) by rw [cell_of hb]; rfl)
 have QB := Lib.hid hb
 have hzq : w.heap.size + 1 < W1.heap.size := by omega
 clear hb
 have HW := Lib.hid hW
 have HK := Lib.hid hk
 have HSZ := Lib.hid hsz
 clear hW hk hsz
 have HM1 := Lib.hid (HM.out.nil HK.out)
 have HN1 := Lib.hid (HN.out.nil HK.out)
 go_enter Tryz.func3, Tryz.ntmps3
 go_wp2_with fail
 rw [HW.out]
 refine (alive_is W1).mono ?_
 rintro e w1 ⟨rfl, hk1⟩
 have HK1 := Lib.hid hk1
 have hz1 := hk1.size
 clear hk1
 have g0 := (HK1.out).cell G0.out (fun h => h)
 have g1 := (HK1.out).cell G1.out (fun h => h)
 have g2 := (HK1.out).cell G2.out (fun h => h)
 have g3 := (HK1.out).cell G3.out (fun h => h)
 have q0 := (HK1.out).cell Q0.out (fun h => h)
 have q1 := (HK1.out).cell Q1.out (fun h => h)
 have q2 := (HK1.out).cell Q2.out (fun h => h)
 have q3 := (HK1.out).cell Q3.out (fun h => h)
 have hg1 : w.heap.size + 1 < w1.heap.size := by omega
 have hh1 : w.heap.size < w1.heap.size := by omega
 go_wp2_with fail
 refine (Few_h w1 (HM1.out.nil HK1.out)).mono ?_
 rintro e w2 ⟨b, rfl, hbb, hk2⟩
 have HBB := Lib.hid hbb
 have HK2 := Lib.hid (HK1.out.step hk2)
 have hz2 := hk2.size
 have hg2 : w.heap.size + 1 < w2.heap.size := by omega
 have hh2 : w.heap.size < w2.heap.size := by omega
 clear hbb hk2 g0 g1 g2 g3 q0 q1 q2 q3
 have g0 := (HK2.out).cell G0.out (fun h => h)
 have g1 := (HK2.out).cell G1.out (fun h => h)
 have g2 := (HK2.out).cell G2.out (fun h => h)
 have g3 := (HK2.out).cell G3.out (fun h => h)
 have q0 := (HK2.out).cell Q0.out (fun h => h)
 have q1 := (HK2.out).cell Q1.out (fun h => h)
 have q2 := (HK2.out).cell Q2.out (fun h => h)
 have q3 := (HK2.out).cell Q3.out (fun h => h)
 cases b with
 | false =>
  go_wp2_with fail
  go_ret
  exact ⟨rfl, (HK.out.step HK2.out).toBelow⟩
 | true =>
  have HFM := Lib.hid (HBB.out rfl)
  go_wp2_with fail
  refine (Few_h w2 (HN1.out.nil HK2.out)).mono ?_
  rintro e w3 ⟨b, rfl, hbb, hk3⟩
  have HBN := Lib.hid hbb
  have HK3 := Lib.hid (HK2.out.step hk3)
  have hz3 := hk3.size
  have hg3 : w.heap.size + 1 < w3.heap.size := by omega
  have hh3 : w.heap.size < w3.heap.size := by omega
  clear hbb hk3 g0 g1 g2 g3 q0 q1 q2 q3
  have g0 := (HK3.out).cell G0.out (fun h => h)
  have g1 := (HK3.out).cell G1.out (fun h => h)
  have g2 := (HK3.out).cell G2.out (fun h => h)
  have g3 := (HK3.out).cell G3.out (fun h => h)
  have q0 := (HK3.out).cell Q0.out (fun h => h)
  have q1 := (HK3.out).cell Q1.out (fun h => h)
  have q2 := (HK3.out).cell Q2.out (fun h => h)
  have q3 := (HK3.out).cell Q3.out (fun h => h)
  cases b with
  | false =>
   go_wp2_with fail
   go_ret
   exact ⟨rfl, (HK.out.step HK3.out).toBelow⟩
  | true =>
   have HFN := Lib.hid (HBN.out rfl)
   have HHM := Lib.hid (held_of_few (HM1.out.nil HK3.out) HO.out HFM.out)
   have HHN := Lib.hid (held_of_few (HN1.out.nil HK3.out) HP.out HFN.out)
   go_upto_region 6 with (go_at_call 11; with_reducible refine (Copy_h _ HHM.out).mono ?_; rintro e w4 ⟨hk4, ⟨uv, ua, us, uc, ula, uls, ulc, uea, ues, uec⟩, rfl, hh, hs, _⟩; have HUH := Lib.hid hh; have HUS := Lib.hid hs; have HK4 := Lib.hid hk4; have hz4 := hk4.size; clear hh hs hk4 g0 g1 g2 g3 q0 q1 q2 q3)
   obtain ⟨W5, hW⟩ : ∃ W, (w4.alloc (.cells #[.int .i64 uv, .slice ua us.length uc, .slice ula uls.length ulc, .slice uea ues.length uec] 26)) = W := ⟨_, rfl⟩
   have hk : Kept Nil w4 W5 := by rw [← hW]; exact ((Kept.refl Nil w4).alloc _)
   have hsz : W5.heap.size = w4.heap.size + 1 := by rw [← hW]; simp
   have hb : W5.heap[w4.heap.size]? = some (.cells #[.int .i64 uv, .slice ua us.length uc, .slice ula uls.length ulc, .slice uea ues.length uec] 26 (0, 0)) := by
    rw [← hW]
    have h9 := heap_new w4 (.cells #[.int .i64 uv, .slice ua us.length uc, .slice ula uls.length ulc, .slice uea ues.length uec] 26)
    exact h9
   have U0 := Lib.hid (show W5.cell? ⟨w4.heap.size, 0, none⟩ = some (.int .i64 uv) by rw [cell_of hb]; rfl)
   have U1 := Lib.hid (show W5.cell? ⟨w4.heap.size, 1, none⟩ = some (.slice ua us.length uc) by rw [cell_of hb]; rfl)
   have U2 := Lib.hid (show W5.cell? ⟨w4.heap.size, 2, none⟩ = some (.slice ula uls.length ulc) by rw [cell_of hb]; rfl)
   have U3 := Lib.hid (show W5.cell? ⟨w4.heap.size, 3, none⟩ = some (.slice uea ues.length uec) by rw [cell_of hb]; rfl)
   have UB := Lib.hid hb
   have hzu : w4.heap.size < W5.heap.size := by omega
   clear hb
   have HW5 := Lib.hid hW
   have HK5 := Lib.hid hk
   have HSZ5 := Lib.hid hsz
   clear hW hk hsz
   rw [HW5.out]
   have HK35 := Lib.hid (HK4.out.step HK5.out)
   have hz5 := HK35.out.size
   have g0 := (HK3.out.step HK35.out).cell G0.out (fun h => h)
   have g1 := (HK3.out.step HK35.out).cell G1.out (fun h => h)
   have g2 := (HK3.out.step HK35.out).cell G2.out (fun h => h)
   have g3 := (HK3.out.step HK35.out).cell G3.out (fun h => h)
   have hh5 : w.heap.size < W5.heap.size := by omega
   go_upto_region 7 with (go_at_call 12; with_reducible refine (Canon_h _ (HHM.out.nil HK35.out)).mono ?_; rintro e w6 ⟨hk6, ⟨cv, ca, cs, cc, cla, cls, clc, cea, ces, cec⟩, rfl, hh, hs, hf, hn, hrn⟩; have HCH := Lib.hid hh; have HCS := Lib.hid hs; have HCF := Lib.hid hf; have HCN := Lib.hid hn; have HCR := Lib.hid hrn; have HK6 := Lib.hid hk6; have hz6 := hk6.size; clear hh hs hf hn hrn hk6 g0 g1 g2 g3)
   obtain ⟨W7, hW⟩ : ∃ W, (w6.alloc (.cells #[.int .i64 cv, .slice ca cs.length cc, .slice cla cls.length clc, .slice cea ces.length cec] 26)) = W := ⟨_, rfl⟩
   have hk : Kept Nil w6 W7 := by rw [← hW]; exact ((Kept.refl Nil w6).alloc _)
   have hsz : W7.heap.size = w6.heap.size + 1 := by rw [← hW]; simp
   have hb : W7.heap[w6.heap.size]? = some (.cells #[.int .i64 cv, .slice ca cs.length cc, .slice cla cls.length clc, .slice cea ces.length cec] 26 (0, 0)) := by
    rw [← hW]
    have h9 := heap_new w6 (.cells #[.int .i64 cv, .slice ca cs.length cc, .slice cla cls.length clc, .slice cea ces.length cec] 26)
    exact h9
   have C0 := Lib.hid (show W7.cell? ⟨w6.heap.size, 0, none⟩ = some (.int .i64 cv) by rw [cell_of hb]; rfl)
   have C1 := Lib.hid (show W7.cell? ⟨w6.heap.size, 1, none⟩ = some (.slice ca cs.length cc) by rw [cell_of hb]; rfl)
   have C2 := Lib.hid (show W7.cell? ⟨w6.heap.size, 2, none⟩ = some (.slice cla cls.length clc) by rw [cell_of hb]; rfl)
   have C3 := Lib.hid (show W7.cell? ⟨w6.heap.size, 3, none⟩ = some (.slice cea ces.length cec) by rw [cell_of hb]; rfl)
   have CB := Lib.hid hb
   have hzc : w6.heap.size < W7.heap.size := by omega
   clear hb
   have HW7 := Lib.hid hW
   have HK7 := Lib.hid hk
   have HSZ7 := Lib.hid hsz
   clear hW hk hsz
   rw [HW7.out]
   have HK57 := Lib.hid (HK6.out.step HK7.out)
   have HK37 := Lib.hid (HK35.out.step HK57.out)
   have hz7 := HK57.out.size
   have g0 := (HK3.out.step HK37.out).cell G0.out (fun h => h)
   have g1 := (HK3.out.step HK37.out).cell G1.out (fun h => h)
   have g2 := (HK3.out.step HK37.out).cell G2.out (fun h => h)
   have g3 := (HK3.out.step HK37.out).cell G3.out (fun h => h)
   have hh7 : w.heap.size < W7.heap.size := by omega
   go_upto_region 8 with (go_at_call 13; with_reducible refine (RefCanon_h _ (HHM.out.nil HK37.out)).mono ?_; rintro e w8 ⟨hk8, ⟨xv, xa, xs, xc, xla, xls, xlc, xea, xes, xec⟩, rfl, hh, hs⟩; have HXH := Lib.hid hh; have HXS := Lib.hid hs; have HK8 := Lib.hid hk8; have hz8 := hk8.size; clear hh hs hk8 g0 g1 g2 g3)
   obtain ⟨W9, hW⟩ : ∃ W, (w8.alloc (.cells #[.int .i64 xv, .slice xa xs.length xc, .slice xla xls.length xlc, .slice xea xes.length xec] 26)) = W := ⟨_, rfl⟩
   have hk : Kept Nil w8 W9 := by rw [← hW]; exact ((Kept.refl Nil w8).alloc _)
   have hsz : W9.heap.size = w8.heap.size + 1 := by rw [← hW]; simp
   have hb : W9.heap[w8.heap.size]? = some (.cells #[.int .i64 xv, .slice xa xs.length xc, .slice xla xls.length xlc, .slice xea xes.length xec] 26 (0, 0)) := by
    rw [← hW]
    have h9 := heap_new w8 (.cells #[.int .i64 xv, .slice xa xs.length xc, .slice xla xls.length xlc, .slice xea xes.length xec] 26)
    exact h9
   have X0 := Lib.hid (show W9.cell? ⟨w8.heap.size, 0, none⟩ = some (.int .i64 xv) by rw [cell_of hb]; rfl)
   have X1 := Lib.hid (show W9.cell? ⟨w8.heap.size, 1, none⟩ = some (.slice xa xs.length xc) by rw [cell_of hb]; rfl)
   have X2 := Lib.hid (show W9.cell? ⟨w8.heap.size, 2, none⟩ = some (.slice xla xls.length xlc) by rw [cell_of hb]; rfl)
   have X3 := Lib.hid (show W9.cell? ⟨w8.heap.size, 3, none⟩ = some (.slice xea xes.length xec) by rw [cell_of hb]; rfl)
   have XB := Lib.hid hb
   have hzx : w8.heap.size < W9.heap.size := by omega
   clear hb
   have HW9 := Lib.hid hW
   have HK9 := Lib.hid hk
   have HSZ9 := Lib.hid hsz
   clear hW hk hsz
   rw [HW9.out]
   have HK79 := Lib.hid (HK8.out.step HK9.out)
   have HK59 := Lib.hid (HK57.out.step HK79.out)
   have HK39 := Lib.hid (HK35.out.step HK59.out)
   have HKW9 := Lib.hid (HK3.out.step HK39.out)
   have hz9 := HK79.out.size
   have HM9 := Lib.hid (HHM.out.nil HK39.out)
   have HN9 := Lib.hid (HHN.out.nil HK39.out)
   have HU9 := Lib.hid (HUH.out.nil (HK5.out.step HK59.out))
   have HC9 := Lib.hid (HCH.out.nil (HK7.out.step HK79.out))
   have HX9 := Lib.hid (HXH.out.nil HK9.out)
   obtain ⟨r, hr⟩ : ∃ r, eqM ⟨ver, pa, ps, pc, la, ls, lc, ea, es, ec⟩ (canM ⟨ver, pa, ps, pc, la, ls, lc, ea, es, ec⟩) = r := ⟨_, rfl⟩
   obtain ⟨s, hs⟩ : ∃ s, eqM ⟨ver, pa, ps, pc, la, ls, lc, ea, es, ec⟩ ⟨wer, pb, qs, pd, lb, ms, ld, eb, fs, ed⟩ = s := ⟨_, rfl⟩
   have HR := Lib.hid hr
   have HR2 := Lib.hid ((eqM_right (a := ⟨ver, pa, ps, pc, la, ls, lc, ea, es, ec⟩) HXS.out).symm.trans hr)
   have HS := Lib.hid hs
   have hrr : (r != r) = false := by cases r <;> rfl
   have hss : (s != s) = false := by cases s <;> rfl
   clear hr hs
   have C9_0 := Lib.hid (show W9.cell? ⟨w.heap.size, 0, none⟩ = some (.int .i64 ver) from HKW9.out.cell G0.out (fun h => h))
   have C9_1 := Lib.hid (show W9.cell? ⟨w.heap.size, 1, none⟩ = some (.slice pa ps.length pc) from HKW9.out.cell G1.out (fun h => h))
   have C9_2 := Lib.hid (show W9.cell? ⟨w.heap.size, 2, none⟩ = some (.slice la ls.length lc) from HKW9.out.cell G2.out (fun h => h))
   have C9_3 := Lib.hid (show W9.cell? ⟨w.heap.size, 3, none⟩ = some (.slice ea es.length ec) from HKW9.out.cell G3.out (fun h => h))
   have C9_4 := Lib.hid (show W9.cell? ⟨w.heap.size + 1, 0, none⟩ = some (.int .i64 wer) from HKW9.out.cell Q0.out (fun h => h))
   have C9_5 := Lib.hid (show W9.cell? ⟨w.heap.size + 1, 1, none⟩ = some (.slice pb qs.length pd) from HKW9.out.cell Q1.out (fun h => h))
   have C9_6 := Lib.hid (show W9.cell? ⟨w.heap.size + 1, 2, none⟩ = some (.slice lb ms.length ld) from HKW9.out.cell Q2.out (fun h => h))
   have C9_7 := Lib.hid (show W9.cell? ⟨w.heap.size + 1, 3, none⟩ = some (.slice eb fs.length ed) from HKW9.out.cell Q3.out (fun h => h))
   have C9_8 := Lib.hid (show W9.cell? ⟨w4.heap.size, 0, none⟩ = some (.int .i64 uv) from HK59.out.cell U0.out (fun h => h))
   have C9_9 := Lib.hid (show W9.cell? ⟨w4.heap.size, 1, none⟩ = some (.slice ua us.length uc) from HK59.out.cell U1.out (fun h => h))
   have C9_10 := Lib.hid (show W9.cell? ⟨w4.heap.size, 2, none⟩ = some (.slice ula uls.length ulc) from HK59.out.cell U2.out (fun h => h))
   have C9_11 := Lib.hid (show W9.cell? ⟨w4.heap.size, 3, none⟩ = some (.slice uea ues.length uec) from HK59.out.cell U3.out (fun h => h))
   have C9_12 := Lib.hid (show W9.cell? ⟨w6.heap.size, 0, none⟩ = some (.int .i64 cv) from HK79.out.cell C0.out (fun h => h))
   have C9_13 := Lib.hid (show W9.cell? ⟨w6.heap.size, 1, none⟩ = some (.slice ca cs.length cc) from HK79.out.cell C1.out (fun h => h))
   have C9_14 := Lib.hid (show W9.cell? ⟨w6.heap.size, 2, none⟩ = some (.slice cla cls.length clc) from HK79.out.cell C2.out (fun h => h))
   have C9_15 := Lib.hid (show W9.cell? ⟨w6.heap.size, 3, none⟩ = some (.slice cea ces.length cec) from HK79.out.cell C3.out (fun h => h))
   have C9_16 := Lib.hid (show W9.cell? ⟨w8.heap.size, 0, none⟩ = some (.int .i64 xv) from X0.out)
   have C9_17 := Lib.hid (show W9.cell? ⟨w8.heap.size, 1, none⟩ = some (.slice xa xs.length xc) from X1.out)
   have C9_18 := Lib.hid (show W9.cell? ⟨w8.heap.size, 2, none⟩ = some (.slice xla xls.length xlc) from X2.out)
   have C9_19 := Lib.hid (show W9.cell? ⟨w8.heap.size, 3, none⟩ = some (.slice xea xes.length xec) from X3.out)
   refine wp_region_held_drew (S := fun w' => w'.cell? ⟨w.heap.size, 0, none⟩ = some (.int .i64 ver) ∧ w'.cell? ⟨w.heap.size, 1, none⟩ = some (.slice pa ps.length pc) ∧ w'.cell? ⟨w.heap.size, 2, none⟩ = some (.slice la ls.length lc) ∧ w'.cell? ⟨w.heap.size, 3, none⟩ = some (.slice ea es.length ec) ∧ w'.cell? ⟨w.heap.size + 1, 0, none⟩ = some (.int .i64 wer) ∧ w'.cell? ⟨w.heap.size + 1, 1, none⟩ = some (.slice pb qs.length pd) ∧ w'.cell? ⟨w.heap.size + 1, 2, none⟩ = some (.slice lb ms.length ld) ∧ w'.cell? ⟨w.heap.size + 1, 3, none⟩ = some (.slice eb fs.length ed) ∧ w'.cell? ⟨w4.heap.size, 0, none⟩ = some (.int .i64 uv) ∧ w'.cell? ⟨w4.heap.size, 1, none⟩ = some (.slice ua us.length uc) ∧ w'.cell? ⟨w4.heap.size, 2, none⟩ = some (.slice ula uls.length ulc) ∧ w'.cell? ⟨w4.heap.size, 3, none⟩ = some (.slice uea ues.length uec) ∧ w'.cell? ⟨w6.heap.size, 0, none⟩ = some (.int .i64 cv) ∧ w'.cell? ⟨w6.heap.size, 1, none⟩ = some (.slice ca cs.length cc) ∧ w'.cell? ⟨w6.heap.size, 2, none⟩ = some (.slice cla cls.length clc) ∧ w'.cell? ⟨w6.heap.size, 3, none⟩ = some (.slice cea ces.length cec) ∧ w'.cell? ⟨w8.heap.size, 0, none⟩ = some (.int .i64 xv) ∧ w'.cell? ⟨w8.heap.size, 1, none⟩ = some (.slice xa xs.length xc) ∧ w'.cell? ⟨w8.heap.size, 2, none⟩ = some (.slice xla xls.length xlc) ∧ w'.cell? ⟨w8.heap.size, 3, none⟩ = some (.slice xea xes.length xec)) (by kernel_rfl) ⟨C9_0.out, C9_1.out, C9_2.out, C9_3.out, C9_4.out, C9_5.out, C9_6.out, C9_7.out, C9_8.out, C9_9.out, C9_10.out, C9_11.out, C9_12.out, C9_13.out, C9_14.out, C9_15.out, C9_16.out, C9_17.out, C9_18.out, C9_19.out⟩ (fun hHeld => ?_)
   refine wpAnyH_take (i := 0) (oi := _) (v := ?_) (List.getElem?_toArray.trans rfl) (by kernel_rfl) (by kernel_rfl) (by kernel_rfl) (fun _ _ _ h => h) (Or.inl ⟨by rfl, ?_⟩) (by assumption) ?_
   rotate_left
   ·(intro w9 hSw; (try dsimp only at hSw); go_simp; try with_reducible rfl)
   try simp only [Act.put, List.setIfInBounds_toArray, List.set_cons_zero, List.set_cons_succ]
   refine wpAnyH_take (i := 1) (oi := _) (v := ?_) (List.getElem?_toArray.trans rfl) (by kernel_rfl) (by kernel_rfl) (by kernel_rfl) (fun _ _ _ h => h) (Or.inl ⟨by rfl, ?_⟩) (by assumption) ?_
   rotate_left
   ·(intro w9 hSw; (try dsimp only at hSw); go_simp; try with_reducible rfl)
   try simp only [Act.put, List.setIfInBounds_toArray, List.set_cons_zero, List.set_cons_succ]
   refine wpAnyH_ready (rs := [2]) (by kernel_rfl) (by simp) ?_
   refine AllReadyH.cons (o := _) (List.getElem?_toArray.trans rfl) (fun K hK => ?_) (AllReadyH.nil)
   go_simp
   refine (rSame_h _ (HC9.out.nil (by repeat (first | exact kzr _ _ | assumption | refine kzd ?_ | refine kzn ?_ _ | refine kza ?_ _ | refine kzs ?_ (by assumption)))) (HX9.out.nil (by repeat (first | exact kzr _ _ | assumption | refine kzd ?_ | refine kzn ?_ _ | refine kza ?_ _ | refine kzs ?_ (by assumption)))) (eqM_iff.2 (HCS.out.symm.trans HXS.out))).mono ?_
   rintro e w102 ⟨rfl, hk102⟩
   try go_wp2_with fail
   refine hK.out _ _ ((fun (hx : Kept Nil W9 _) => ⟨hx.cell C9_0.out (fun h => h), hx.cell C9_1.out (fun h => h), hx.cell C9_2.out (fun h => h), hx.cell C9_3.out (fun h => h), hx.cell C9_4.out (fun h => h), hx.cell C9_5.out (fun h => h), hx.cell C9_6.out (fun h => h), hx.cell C9_7.out (fun h => h), hx.cell C9_8.out (fun h => h), hx.cell C9_9.out (fun h => h), hx.cell C9_10.out (fun h => h), hx.cell C9_11.out (fun h => h), hx.cell C9_12.out (fun h => h), hx.cell C9_13.out (fun h => h), hx.cell C9_14.out (fun h => h), hx.cell C9_15.out (fun h => h), hx.cell C9_16.out (fun h => h), hx.cell C9_17.out (fun h => h), hx.cell C9_18.out (fun h => h), hx.cell C9_19.out (fun h => h)⟩) (by repeat (first | exact kzr _ _ | assumption | refine kzd ?_ | refine kzn ?_ _ | refine kza ?_ _ | refine kzs ?_ (by assumption)))) (fun hHeld => ?_)
   clear hK K
   try simp only [Act.put, List.setIfInBounds_toArray, List.set_cons_zero, List.set_cons_succ]
   refine wpAnyH_take (i := 3) (oi := _) (v := ?_) (List.getElem?_toArray.trans rfl) (by kernel_rfl) (by kernel_rfl) (by kernel_rfl) (fun _ _ _ h => h) (Or.inl ⟨by rfl, ?_⟩) (by assumption) ?_
   rotate_left
   ·(intro w9 hSw; (try dsimp only at hSw); go_simp; try with_reducible rfl)
   try simp only [Act.put, List.setIfInBounds_toArray, List.set_cons_zero, List.set_cons_succ]
   refine wpAnyH_take (i := 4) (oi := _) (v := ?_) (List.getElem?_toArray.trans rfl) (by kernel_rfl) (by kernel_rfl) (by kernel_rfl) (fun _ _ _ h => h) (Or.inl ⟨by rfl, ?_⟩) (by assumption) ?_
   rotate_left
   ·(intro w9 hSw; (try dsimp only at hSw); go_simp; try with_reducible rfl)
   try simp only [Act.put, List.setIfInBounds_toArray, List.set_cons_zero, List.set_cons_succ]
   refine wpAnyH_take (i := 5) (oi := _) (v := ?_) (List.getElem?_toArray.trans rfl) (by kernel_rfl) (by kernel_rfl) (by kernel_rfl) (fun _ _ _ h => h) (Or.inl ⟨by rfl, ?_⟩) (by assumption) ?_
   rotate_left
   ·(intro w9 hSw; (try dsimp only at hSw); go_simp; try with_reducible rfl)
   try simp only [Act.put, List.setIfInBounds_toArray, List.set_cons_zero, List.set_cons_succ]
   refine wpAnyH_take (i := 6) (oi := _) (v := ?_) (List.getElem?_toArray.trans rfl) (by kernel_rfl) (by kernel_rfl) (by kernel_rfl) (fun _ _ _ h => h) (Or.inl ⟨by rfl, ?_⟩) (by assumption) ?_
   rotate_left
   ·(intro w9 hSw; (try dsimp only at hSw); go_simp; try with_reducible rfl)
   try simp only [Act.put, List.setIfInBounds_toArray, List.set_cons_zero, List.set_cons_succ]
   refine wpAnyH_ready (rs := [7]) (by kernel_rfl) (by simp) ?_
   refine AllReadyH.cons (o := _) (List.getElem?_toArray.trans rfl) (fun K hK => ?_) (AllReadyH.nil)
   go_simp
   refine (rSame_h _ (HU9.out.nil (by repeat (first | exact kzr _ _ | assumption | refine kzd ?_ | refine kzn ?_ _ | refine kza ?_ _ | refine kzs ?_ (by assumption)))) (HM9.out.nil (by repeat (first | exact kzr _ _ | assumption | refine kzd ?_ | refine kzn ?_ _ | refine kza ?_ _ | refine kzs ?_ (by assumption)))) (eqM_iff.2 HUS.out.symm)).mono ?_
   rintro e w107 ⟨rfl, hk107⟩
   try go_wp2_with fail
   refine hK.out _ _ ((fun (hx : Kept Nil W9 _) => ⟨hx.cell C9_0.out (fun h => h), hx.cell C9_1.out (fun h => h), hx.cell C9_2.out (fun h => h), hx.cell C9_3.out (fun h => h), hx.cell C9_4.out (fun h => h), hx.cell C9_5.out (fun h => h), hx.cell C9_6.out (fun h => h), hx.cell C9_7.out (fun h => h), hx.cell C9_8.out (fun h => h), hx.cell C9_9.out (fun h => h), hx.cell C9_10.out (fun h => h), hx.cell C9_11.out (fun h => h), hx.cell C9_12.out (fun h => h), hx.cell C9_13.out (fun h => h), hx.cell C9_14.out (fun h => h), hx.cell C9_15.out (fun h => h), hx.cell C9_16.out (fun h => h), hx.cell C9_17.out (fun h => h), hx.cell C9_18.out (fun h => h), hx.cell C9_19.out (fun h => h)⟩) (by repeat (first | exact kzr _ _ | assumption | refine kzd ?_ | refine kzn ?_ _ | refine kza ?_ _ | refine kzs ?_ (by assumption)))) (fun hHeld => ?_)
   clear hK K
   try simp only [Act.put, List.setIfInBounds_toArray, List.set_cons_zero, List.set_cons_succ]
   refine wpAnyH_take (i := 8) (oi := _) (v := ?_) (List.getElem?_toArray.trans rfl) (by kernel_rfl) (by kernel_rfl) (by kernel_rfl) (fun _ _ _ h => h) (Or.inl ⟨by rfl, ?_⟩) (by assumption) ?_
   rotate_left
   ·(intro w9 hSw; (try dsimp only at hSw); go_simp; try with_reducible rfl)
   try simp only [Act.put, List.setIfInBounds_toArray, List.set_cons_zero, List.set_cons_succ]
   refine wpAnyH_take (i := 9) (oi := _) (v := ?_) (List.getElem?_toArray.trans rfl) (by kernel_rfl) (by kernel_rfl) (by kernel_rfl) (fun _ _ _ h => h) (Or.inl ⟨by rfl, ?_⟩) (by assumption) ?_
   rotate_left
   ·(intro w9 hSw; (try dsimp only at hSw); go_simp; try with_reducible rfl)
   try simp only [Act.put, List.setIfInBounds_toArray, List.set_cons_zero, List.set_cons_succ]
   refine wpAnyH_take (i := 10) (oi := _) (v := ?_) (List.getElem?_toArray.trans rfl) (by kernel_rfl) (by kernel_rfl) (by kernel_rfl) (fun _ _ _ h => h) (Or.inl ⟨by rfl, ?_⟩) (by assumption) ?_
   rotate_left
   ·(intro w9 hSw; (try dsimp only at hSw); go_simp; try with_reducible rfl)
   try simp only [Act.put, List.setIfInBounds_toArray, List.set_cons_zero, List.set_cons_succ]
   refine wpAnyH_take (i := 11) (oi := _) (v := ?_) (List.getElem?_toArray.trans rfl) (by kernel_rfl) (by kernel_rfl) (by kernel_rfl) (fun _ _ _ h => h) (Or.inl ⟨by rfl, ?_⟩) (by assumption) ?_
   rotate_left
   ·(intro w9 hSw; (try dsimp only at hSw); go_simp; try with_reducible rfl)
   try simp only [Act.put, List.setIfInBounds_toArray, List.set_cons_zero, List.set_cons_succ]
   refine wpAnyH_take (i := 13) (oi := _) (v := ?_) (List.getElem?_toArray.trans rfl) (by kernel_rfl) (by kernel_rfl) (by kernel_rfl) (fun _ _ _ h => h) (Or.inl ⟨by rfl, ?_⟩) (by assumption) ?_
   rotate_left
   ·(intro w9 hSw; (try dsimp only at hSw); go_simp; try with_reducible rfl)
   try simp only [Act.put, List.setIfInBounds_toArray, List.set_cons_zero, List.set_cons_succ]
   refine wpAnyH_take (i := 14) (oi := _) (v := ?_) (List.getElem?_toArray.trans rfl) (by kernel_rfl) (by kernel_rfl) (by kernel_rfl) (fun _ _ _ h => h) (Or.inl ⟨by rfl, ?_⟩) (by assumption) ?_
   rotate_left
   ·(intro w9 hSw; (try dsimp only at hSw); go_simp; try with_reducible rfl)
   try simp only [Act.put, List.setIfInBounds_toArray, List.set_cons_zero, List.set_cons_succ]
   refine wpAnyH_ready (rs := [12]) (by kernel_rfl) (by simp) ?_
   refine AllReadyH.cons (o := _) (List.getElem?_toArray.trans rfl) (fun K hK => ?_) (AllReadyH.nil)
   go_simp
   refine (cIs_h _ (HM9.out.nil (by repeat (first | exact kzr _ _ | assumption | refine kzd ?_ | refine kzn ?_ _ | refine kza ?_ _ | refine kzs ?_ (by assumption)))) HR.out).mono ?_
   rintro e w112 ⟨rfl, hk112⟩
   try go_wp2_with fail
   refine hK.out _ _ ((fun (hx : Kept Nil W9 _) => ⟨hx.cell C9_0.out (fun h => h), hx.cell C9_1.out (fun h => h), hx.cell C9_2.out (fun h => h), hx.cell C9_3.out (fun h => h), hx.cell C9_4.out (fun h => h), hx.cell C9_5.out (fun h => h), hx.cell C9_6.out (fun h => h), hx.cell C9_7.out (fun h => h), hx.cell C9_8.out (fun h => h), hx.cell C9_9.out (fun h => h), hx.cell C9_10.out (fun h => h), hx.cell C9_11.out (fun h => h), hx.cell C9_12.out (fun h => h), hx.cell C9_13.out (fun h => h), hx.cell C9_14.out (fun h => h), hx.cell C9_15.out (fun h => h), hx.cell C9_16.out (fun h => h), hx.cell C9_17.out (fun h => h), hx.cell C9_18.out (fun h => h), hx.cell C9_19.out (fun h => h)⟩) (by repeat (first | exact kzr _ _ | assumption | refine kzd ?_ | refine kzn ?_ _ | refine kza ?_ _ | refine kzs ?_ (by assumption)))) (fun hHeld => ?_)
   clear hK K
   try simp only [Act.put, List.setIfInBounds_toArray, List.set_cons_zero, List.set_cons_succ]
   refine wpAnyH_ready (rs := [15]) (by kernel_rfl) (by simp) ?_
   refine AllReadyH.cons (o := _) (List.getElem?_toArray.trans rfl) (fun K hK => ?_) (AllReadyH.nil)
   go_simp
   refine (rSame_h _ (HM9.out.nil (by repeat (first | exact kzr _ _ | assumption | refine kzd ?_ | refine kzn ?_ _ | refine kza ?_ _ | refine kzs ?_ (by assumption)))) (HX9.out.nil (by repeat (first | exact kzr _ _ | assumption | refine kzd ?_ | refine kzn ?_ _ | refine kza ?_ _ | refine kzs ?_ (by assumption)))) HR2.out).mono ?_
   rintro e w115 ⟨rfl, hk115⟩
   try go_wp2_with fail
   refine hK.out _ _ ((fun (hx : Kept Nil W9 _) => ⟨hx.cell C9_0.out (fun h => h), hx.cell C9_1.out (fun h => h), hx.cell C9_2.out (fun h => h), hx.cell C9_3.out (fun h => h), hx.cell C9_4.out (fun h => h), hx.cell C9_5.out (fun h => h), hx.cell C9_6.out (fun h => h), hx.cell C9_7.out (fun h => h), hx.cell C9_8.out (fun h => h), hx.cell C9_9.out (fun h => h), hx.cell C9_10.out (fun h => h), hx.cell C9_11.out (fun h => h), hx.cell C9_12.out (fun h => h), hx.cell C9_13.out (fun h => h), hx.cell C9_14.out (fun h => h), hx.cell C9_15.out (fun h => h), hx.cell C9_16.out (fun h => h), hx.cell C9_17.out (fun h => h), hx.cell C9_18.out (fun h => h), hx.cell C9_19.out (fun h => h)⟩) (by repeat (first | exact kzr _ _ | assumption | refine kzd ?_ | refine kzn ?_ _ | refine kza ?_ _ | refine kzs ?_ (by assumption)))) (fun hHeld => ?_)
   clear hK K
   try simp only [Act.put, List.setIfInBounds_toArray, List.set_cons_zero, List.set_cons_succ]
   refine wpAnyH_take (i := 16) (oi := _) (v := ?_) (List.getElem?_toArray.trans rfl) (by kernel_rfl) (by kernel_rfl) (by kernel_rfl) (fun _ _ _ h => h) (Or.inl ⟨by rfl, ?_⟩) (by assumption) ?_
   rotate_left
   ·(intro w9 hSw; (try dsimp only at hSw); go_simp; try with_reducible rfl)
   try simp only [Act.put, List.setIfInBounds_toArray, List.set_cons_zero, List.set_cons_succ]
   refine wpAnyH_take (i := 17) (oi := _) (v := ?_) (List.getElem?_toArray.trans rfl) (by kernel_rfl) (by kernel_rfl) (by kernel_rfl) (fun _ _ _ h => h) (Or.inl ⟨by rfl, ?_⟩) (by assumption) ?_
   rotate_left
   ·(intro w9 hSw; (try dsimp only at hSw); go_simp; try with_reducible rfl)
   try simp only [Act.put, List.setIfInBounds_toArray, List.set_cons_zero, List.set_cons_succ]
   refine wpAnyH_take (i := 18) (oi := _) (v := ?_) (List.getElem?_toArray.trans rfl) (by kernel_rfl) (by kernel_rfl) (by kernel_rfl) (fun _ _ _ h => h) (Or.inl ⟨by rfl, ?_⟩) (by assumption) ?_
   rotate_left
   ·(intro w9 hSw; (try dsimp only at hSw); go_simp; try with_reducible rfl)
   try simp only [Act.put, List.setIfInBounds_toArray, List.set_cons_zero, List.set_cons_succ]
   refine wpAnyH_take (i := 19) (oi := _) (v := ?_) (List.getElem?_toArray.trans rfl) (by kernel_rfl) (by kernel_rfl) (by kernel_rfl) (fun _ _ _ h => h) (Or.inl ⟨by rfl, ?_⟩) (by assumption) ?_
   rotate_left
   ·(intro w9 hSw; (try dsimp only at hSw); go_simp; try with_reducible rfl)
   try simp only [Act.put, List.setIfInBounds_toArray, List.set_cons_zero, List.set_cons_succ]
   refine wpAnyH_take (i := 20) (oi := _) (v := ?_) (List.getElem?_toArray.trans rfl) (by kernel_rfl) (by kernel_rfl) (by kernel_rfl) (fun _ _ _ h => h) (Or.inl ⟨by rfl, ?_⟩) (by assumption) ?_
   rotate_left
   ·(intro w9 hSw; (try dsimp only at hSw); go_simp; try with_reducible rfl)
   try simp only [Act.put, List.setIfInBounds_toArray, List.set_cons_zero, List.set_cons_succ]
   refine wpAnyH_take (i := 22) (oi := _) (v := ?_) (List.getElem?_toArray.trans rfl) (by kernel_rfl) (by kernel_rfl) (by kernel_rfl) (fun _ _ _ h => h) (Or.inl ⟨by rfl, ?_⟩) (by assumption) ?_
   rotate_left
   ·(intro w9 hSw; (try dsimp only at hSw); go_simp; try with_reducible rfl)
   try simp only [Act.put, List.setIfInBounds_toArray, List.set_cons_zero, List.set_cons_succ]
   refine wpAnyH_take (i := 23) (oi := _) (v := ?_) (List.getElem?_toArray.trans rfl) (by kernel_rfl) (by kernel_rfl) (by kernel_rfl) (fun _ _ _ h => h) (Or.inl ⟨by rfl, ?_⟩) (by assumption) ?_
   rotate_left
   ·(intro w9 hSw; (try dsimp only at hSw); go_simp; try with_reducible rfl)
   try simp only [Act.put, List.setIfInBounds_toArray, List.set_cons_zero, List.set_cons_succ]
   refine wpAnyH_ready (rs := [21]) (by kernel_rfl) (by simp) ?_
   refine AllReadyH.cons (o := _) (List.getElem?_toArray.trans rfl) (fun K hK => ?_) (AllReadyH.nil)
   go_simp
   refine (cSame_h _ (HM9.out.nil (by repeat (first | exact kzr _ _ | assumption | refine kzd ?_ | refine kzn ?_ _ | refine kza ?_ _ | refine kzs ?_ (by assumption)))) (HN9.out.nil (by repeat (first | exact kzr _ _ | assumption | refine kzd ?_ | refine kzn ?_ _ | refine kza ?_ _ | refine kzs ?_ (by assumption)))) HS.out).mono ?_
   rintro e w121 ⟨rfl, hk121⟩
   try go_wp2_with fail
   refine hK.out _ _ ((fun (hx : Kept Nil W9 _) => ⟨hx.cell C9_0.out (fun h => h), hx.cell C9_1.out (fun h => h), hx.cell C9_2.out (fun h => h), hx.cell C9_3.out (fun h => h), hx.cell C9_4.out (fun h => h), hx.cell C9_5.out (fun h => h), hx.cell C9_6.out (fun h => h), hx.cell C9_7.out (fun h => h), hx.cell C9_8.out (fun h => h), hx.cell C9_9.out (fun h => h), hx.cell C9_10.out (fun h => h), hx.cell C9_11.out (fun h => h), hx.cell C9_12.out (fun h => h), hx.cell C9_13.out (fun h => h), hx.cell C9_14.out (fun h => h), hx.cell C9_15.out (fun h => h), hx.cell C9_16.out (fun h => h), hx.cell C9_17.out (fun h => h), hx.cell C9_18.out (fun h => h), hx.cell C9_19.out (fun h => h)⟩) (by repeat (first | exact kzr _ _ | assumption | refine kzd ?_ | refine kzn ?_ _ | refine kza ?_ _ | refine kzs ?_ (by assumption)))) (fun hHeld => ?_)
   clear hK K
   try simp only [Act.put, List.setIfInBounds_toArray, List.set_cons_zero, List.set_cons_succ]
   refine wpAnyH_ready (rs := [24]) (by kernel_rfl) (by simp) ?_
   refine AllReadyH.cons (o := _) (List.getElem?_toArray.trans rfl) (fun K hK => ?_) (AllReadyH.nil)
   go_simp
   refine (rSame_h _ (HM9.out.nil (by repeat (first | exact kzr _ _ | assumption | refine kzd ?_ | refine kzn ?_ _ | refine kza ?_ _ | refine kzs ?_ (by assumption)))) (HN9.out.nil (by repeat (first | exact kzr _ _ | assumption | refine kzd ?_ | refine kzn ?_ _ | refine kza ?_ _ | refine kzs ?_ (by assumption)))) HS.out).mono ?_
   rintro e w124 ⟨rfl, hk124⟩
   try go_wp2_with fail
   refine hK.out _ _ ((fun (hx : Kept Nil W9 _) => ⟨hx.cell C9_0.out (fun h => h), hx.cell C9_1.out (fun h => h), hx.cell C9_2.out (fun h => h), hx.cell C9_3.out (fun h => h), hx.cell C9_4.out (fun h => h), hx.cell C9_5.out (fun h => h), hx.cell C9_6.out (fun h => h), hx.cell C9_7.out (fun h => h), hx.cell C9_8.out (fun h => h), hx.cell C9_9.out (fun h => h), hx.cell C9_10.out (fun h => h), hx.cell C9_11.out (fun h => h), hx.cell C9_12.out (fun h => h), hx.cell C9_13.out (fun h => h), hx.cell C9_14.out (fun h => h), hx.cell C9_15.out (fun h => h), hx.cell C9_16.out (fun h => h), hx.cell C9_17.out (fun h => h), hx.cell C9_18.out (fun h => h), hx.cell C9_19.out (fun h => h)⟩) (by repeat (first | exact kzr _ _ | assumption | refine kzd ?_ | refine kzn ?_ _ | refine kza ?_ _ | refine kzs ?_ (by assumption)))) (fun hHeld => ?_)
   clear hK K
   try simp only [Act.put, List.setIfInBounds_toArray, List.set_cons_zero, List.set_cons_succ]
   refine wpAnyH_take (i := 25) (oi := _) (v := ?_) (List.getElem?_toArray.trans rfl) (by kernel_rfl) (by kernel_rfl) (by kernel_rfl) (fun _ _ _ h => h) (Or.inl ⟨by rfl, ?_⟩) (by assumption) ?_
   rotate_left
   ·(intro w9 hSw; (try dsimp only at hSw); go_simp; try with_reducible rfl)
   try simp only [Act.put, List.setIfInBounds_toArray, List.set_cons_zero, List.set_cons_succ]
   refine wpAnyH_take (i := 26) (oi := _) (v := ?_) (List.getElem?_toArray.trans rfl) (by kernel_rfl) (by kernel_rfl) (by kernel_rfl) (fun _ _ _ h => h) (Or.inl ⟨by rfl, ?_⟩) (by assumption) ?_
   rotate_left
   ·(intro w9 hSw; (try dsimp only at hSw); go_simp; try with_reducible rfl)
   try simp only [Act.put, List.setIfInBounds_toArray, List.set_cons_zero, List.set_cons_succ]
   refine wpAnyH_done (by kernel_rfl) ?_ _
   have HKT := Lib.hid (show Kept Nil W9 w124 from (by repeat (first | exact kzr _ _ | assumption | refine kzd ?_ | refine kzn ?_ _ | refine kza ?_ _ | refine kzs ?_ (by assumption))))
   have HKWT := Lib.hid (HKW9.out.step HKT.out)
   have HK7T := Lib.hid (HK79.out.step HKT.out)
   have hzT := HK7T.out.size
   have HPB := Lib.hid (show ∀ q ∈ cs, RowsN W5.heap.size w124 q from fun q hq => (HCR.out q hq).kept (HK7.out.step HK7T.out) ⟨fun _ _ _ _ h => h, fun _ _ _ _ h => h⟩)
   have HCT := Lib.hid (HCH.out.nil (HK7.out.step HK7T.out))
   have HUB := Lib.hid (HUH.out.nil (HK5.out.step (HK59.out.step HKT.out)))
   have HMB := Lib.hid (HHM.out.nil (HK39.out.step HKT.out))
   obtain ⟨K, hKe⟩ : ∃ K : Nat → Prop, K = fun g => W5.heap.size ≤ g ∧ g < w6.heap.size ∧ (cs ≠ [] → ∀ off, ca ≠ some ⟨g, off, none⟩) := ⟨_, rfl⟩
   have HKE := Lib.hid (show ∀ g, K g ↔ W5.heap.size ≤ g ∧ g < w6.heap.size ∧ (cs ≠ [] → ∀ off, ca ≠ some ⟨g, off, none⟩) from fun g => by rw [hKe])
   clear hKe
   have hcb : ¬ K w6.heap.size := fun h => by have := ((HKE.out _).1 h).2.1; omega
   have HCB := Lib.hid hcb
   clear hcb
   have hlen : cs.length ≤ 100000 := HCH.out.s.p
   have hllen : cls.length ≤ 100000 := HCH.out.s.l
   have c0 := HK7T.out.cell C0.out (fun h => h)
   have c1 := HK7T.out.cell C1.out (fun h => h)
   have c2 := HK7T.out.cell C2.out (fun h => h)
   have c3 := HK7T.out.cell C3.out (fun h => h)
   have hz6T : w6.heap.size < w124.heap.size := by omega
   go_wp2_with fail
   clear c0 c1 c2 c3
   go_loopw [58] (fun i wr => ∃ k : Nat, k ≤ cs.length ∧ i = .int .i64 k ∧ Turned K w124 wr) (fun i _ => cs.length - (intOf i).toNat)
   case atStart => exact ⟨0, Nat.zero_le _, rfl, Turned.refl _ _⟩
   case round =>
    obtain ⟨i, hi, rfl, hT⟩ := hrel
    obtain ⟨wo, hwo⟩ : ∃ x, x = wr := ⟨_, rfl⟩
    subst hwo
    have HT := Lib.hid hT
    have hzo := hT.k.size
    clear hT
    have hz6o : w6.heap.size < wo.heap.size := by omega
    have c0 := HT.out.k.cell (HK7T.out.cell C0.out (fun h => h)) HCB.out
    have c1 := HT.out.k.cell (HK7T.out.cell C1.out (fun h => h)) HCB.out
    have c2 := HT.out.k.cell (HK7T.out.cell C2.out (fun h => h)) HCB.out
    have c3 := HT.out.k.cell (HK7T.out.cell C3.out (fun h => h)) HCB.out
    by_cases hlt : i < cs.length
    ·obtain ⟨p, ep⟩ : ∃ p, cs[i]? = some p := ⟨_, List.getElem?_eq_getElem hlt⟩
     have hpm := List.mem_of_getElem? ep
     obtain ⟨gp, op, e1, d0, d1, d2, d3⟩ := HCT.out.r.p.at ep
     simp only at e1
     have hsz := HCT.out.s.v p hpm
     have hrn := HPB.out p hpm
     have hxp := HCN.out.xp p hpm
     have hro := HCT.out.r.pp p hpm
     have hcne : cs ≠ [] := fun e => by rw [e] at hlt; simp at hlt
     have hgp : ¬ K gp := fun h => ((HKE.out _).1 h).2.2 hcne op e1
     have HGP := Lib.hid hgp
     have hgpz : gp < w124.heap.size := World.block_lt_of_cell? _ _ d0
     have hgpo : gp < wo.heap.size := by omega
     obtain ⟨pn, pw, va, vs, vc, sa, ss, sc⟩ := p
     simp only at d2 d3 hsz
     have hvl : vs.length ≤ 100000 := hsz.1
     have hsl : ss.length ≤ 100000 := hsz.2
     have HRN := Lib.hid hrn
     have HXP := Lib.hid hxp
     have D2 := Lib.hid d2
     have D3 := Lib.hid d3
     have hlt2 : (i : Int) < (cs.length : Int) := by omega
     have hw : IntKind.i64.wrap ((i : Int) + 1) = (i : Int) + 1 := by rw [IntKind.wrap_i64]; omega
     have HCA := Lib.hid e1
     have hca1 : ca = some ⟨gp, op, none⟩ := e1
     have HMEM := Lib.hid hpm
     clear hpm ep d0 d1 d2 d3 hsz hrn hxp hro hgp e1
     rw [hca1] at c1
     clear hca1
     have d3 := HT.out.k.cell D3.out HGP.out
     go_upto_region 14 with fail
     clear c0 c1 c2 c3 d3
     go_loopw [68] (fun j wr => ∃ k : Nat, k ≤ ss.length ∧ j = .int .i64 k ∧ Turned K w124 wr) (fun j _ => ss.length - (intOf j).toNat)
     case atStart => exact ⟨0, Nat.zero_le _, rfl, HT.out⟩
     case round =>
      obtain ⟨k, hk, rfl, hT2⟩ := hrel
      have HT2 := Lib.hid hT2
      have hzr := hT2.k.size
      clear hT2
      have hz6r : w6.heap.size < wr.heap.size := by omega
      have hgpr : gp < wr.heap.size := by omega
      have c0 := HT2.out.k.cell (HK7T.out.cell C0.out (fun h => h)) HCB.out
      have c1 := HT2.out.k.cell (HK7T.out.cell C1.out (fun h => h)) HCB.out
      have c2 := HT2.out.k.cell (HK7T.out.cell C2.out (fun h => h)) HCB.out
      have c3 := HT2.out.k.cell (HK7T.out.cell C3.out (fun h => h)) HCB.out
      rw [HCA.out] at c1
      have d3 := HT2.out.k.cell D3.out HGP.out
      by_cases hlt3 : k < ss.length
      ·have hne : ss ≠ [] := fun e => by rw [e] at hlt3; simp at hlt3
       obtain ⟨o, eo⟩ : ∃ o, ss[k]? = some o := ⟨_, List.getElem?_eq_getElem hlt3⟩
       obtain ⟨gr, hgb, hge, hrow⟩ := HRN.out.s hne
       simp only at hge hrow
       have hltr : gr < w6.heap.size := by
        obtain ⟨g9, h1, h2, h3⟩ := (HCR.out _ HMEM.out).s hne
        simp only at h2
        rw [hge] at h2
        cases h2
        exact h3.lt
       have hKr : K gr := (HKE.out _).2 ⟨hgb, hltr, fun _ off h => HXP.out.s gr 0 hne hge ⟨off, h⟩⟩
       obtain ⟨cur, hcur⟩ := HT2.out.r gr _ _ (hrow.ex.choose_spec.1)
       obtain ⟨z, hzz⟩ := HT2.out.i gr (k * 5) ⟨_, (hrow.cell eo (c := 0) (by decide)).trans rfl⟩
       have hfz := frozen_of hcur (k * 5)
       have hgrz : gr < wr.heap.size := (Array.getElem?_eq_some_iff.1 hcur).1
       have hlt4 : (k : Int) < (ss.length : Int) := by omega
       have hw2 : IntKind.i64.wrap ((k : Int) + 1) = (k : Int) + 1 := by rw [IntKind.wrap_i64]; omega
       obtain ⟨y, hy⟩ : ∃ y, IntKind.i64.wrap (z + 5) = y := ⟨_, rfl⟩
       have HCUR := Lib.hid hcur
       have HKR2 := Lib.hid hKr
       clear eo hrow hcur hKr
       rw [hge] at d3
       clear hge
       go_wp2_with fail
       go_round
       exact ⟨k + 1, by omega, by go_num, HT2.out.set HCUR.out HKR2.out y⟩
       case measure => (simp [intOf] <;> omega)
      ·obtain rfl : k = ss.length := by omega
       obtain ⟨wp, hwn⟩ : ∃ x, x = wr := ⟨_, rfl⟩
       subst hwn
       have HTwp := HT2
       clear HT2
       have d2 := HTwp.out.k.cell D2.out HGP.out
       go_upto_region 19 with fail
       clear c0 c1 c2 c3 d3 d2
       go_loopw [92] (fun j wr => ∃ k : Nat, k ≤ vs.length ∧ j = .int .i64 k ∧ Turned K w124 wr) (fun j _ => vs.length - (intOf j).toNat)
       case atStart => exact ⟨0, Nat.zero_le _, rfl, HTwp.out⟩
       case round =>
        obtain ⟨k, hk, rfl, hT2⟩ := hrel
        have HT2 := Lib.hid hT2
        have hzr := hT2.k.size
        clear hT2
        have hz6r : w6.heap.size < wr.heap.size := by omega
        have hgpr : gp < wr.heap.size := by omega
        have c0 := HT2.out.k.cell (HK7T.out.cell C0.out (fun h => h)) HCB.out
        have c1 := HT2.out.k.cell (HK7T.out.cell C1.out (fun h => h)) HCB.out
        have c2 := HT2.out.k.cell (HK7T.out.cell C2.out (fun h => h)) HCB.out
        have c3 := HT2.out.k.cell (HK7T.out.cell C3.out (fun h => h)) HCB.out
        rw [HCA.out] at c1
        have d2 := HT2.out.k.cell D2.out HGP.out
        by_cases hlt3 : k < vs.length
        ·have hne : vs ≠ [] := fun e => by rw [e] at hlt3; simp at hlt3
         obtain ⟨o, eo⟩ : ∃ o, vs[k]? = some o := ⟨_, List.getElem?_eq_getElem hlt3⟩
         obtain ⟨gr, hgb, hge, hrow⟩ := HRN.out.v hne
         simp only at hge hrow
         have hltr : gr < w6.heap.size := by
          obtain ⟨g9, h1, h2, h3⟩ := (HCR.out _ HMEM.out).v hne
          simp only at h2
          rw [hge] at h2
          cases h2
          exact h3.lt
         have hKr : K gr := (HKE.out _).2 ⟨hgb, hltr, fun _ off h => HXP.out.v gr 0 hne hge ⟨off, h⟩⟩
         obtain ⟨cur, hcur⟩ := HT2.out.r gr _ _ (hrow.ex.choose_spec.1)
         obtain ⟨z, hzz⟩ := HT2.out.i gr (k * 2 + 1) ⟨_, (hrow.cell eo (c := 1) (by decide)).trans rfl⟩
         have hfz := frozen_of hcur (k * 2 + 1)
         have hgrz : gr < wr.heap.size := (Array.getElem?_eq_some_iff.1 hcur).1
         have hlt4 : (k : Int) < (vs.length : Int) := by omega
         have hw2 : IntKind.i64.wrap ((k : Int) + 1) = (k : Int) + 1 := by rw [IntKind.wrap_i64]; omega
         obtain ⟨y, hy⟩ : ∃ y, bits .xor .i64 z 1 = y := ⟨_, rfl⟩
         have HCUR := Lib.hid hcur
         have HKR2 := Lib.hid hKr
         clear eo hrow hcur hKr
         rw [hge] at d2
         clear hge
         go_wp2_with fail
         go_round
         exact ⟨k + 1, by omega, by go_num, HT2.out.set HCUR.out HKR2.out y⟩
         case measure => (simp [intOf] <;> omega)
        ·obtain rfl : k = vs.length := by omega
         obtain ⟨wv, hwn⟩ : ∃ x, x = wr := ⟨_, rfl⟩
         subst hwn
         have HTwv := HT2
         clear HT2
         go_wp2_with fail
         go_round
         exact ⟨i + 1, by omega, by go_num, HTwv.out⟩
         case measure => (simp [intOf] <;> omega)
    ·obtain rfl : i = cs.length := by omega
     go_wp2_with fail
     clear c0 c1 c2 c3
     go_loopw [113] (fun j wr => ∃ k : Nat, k ≤ cls.length ∧ j = .int .i64 k ∧ Turned K w124 wr) (fun j _ => cls.length - (intOf j).toNat)
     case atStart => exact ⟨0, Nat.zero_le _, rfl, HT.out⟩
     case round =>
      obtain ⟨k, hk, rfl, hT2⟩ := hrel
      have HT2 := Lib.hid hT2
      have hzr := hT2.k.size
      clear hT2
      have hz6r : w6.heap.size < wr.heap.size := by omega
      have c0 := HT2.out.k.cell (HK7T.out.cell C0.out (fun h => h)) HCB.out
      have c1 := HT2.out.k.cell (HK7T.out.cell C1.out (fun h => h)) HCB.out
      have c2 := HT2.out.k.cell (HK7T.out.cell C2.out (fun h => h)) HCB.out
      have c3 := HT2.out.k.cell (HK7T.out.cell C3.out (fun h => h)) HCB.out
      by_cases hlt3 : k < cls.length
      ·have hne : cls ≠ [] := fun e => by rw [e] at hlt3; simp at hlt3
       obtain ⟨o, eo⟩ : ∃ o, cls[k]? = some o := ⟨_, List.getElem?_eq_getElem hlt3⟩
       obtain ⟨gr, hgb, hge, hrow0⟩ := HCN.out.l hne
       simp only at hge hrow0
       have hrow := hrow0.kept (HK7.out.step HK7T.out) (fun h => h)
       have hKr : K gr := (HKE.out _).2 ⟨hgb, hrow0.lt, fun hcs off h => by
        obtain ⟨g9, _, h2, h3⟩ := HCN.out.p hcs
        simp only at h2
        rw [h] at h2
        cases h2
        exact rowAt_ne h3 hrow0 (by decide) rfl⟩
       obtain ⟨cur, hcur⟩ := HT2.out.r gr _ _ (hrow.ex.choose_spec.1)
       obtain ⟨z, hzz⟩ := HT2.out.i gr (k * 5 + 3) ⟨_, (hrow.cell eo (c := 3) (by decide)).trans rfl⟩
       have hfz := frozen_of hcur (k * 5 + 3)
       have hgrz : gr < wr.heap.size := (Array.getElem?_eq_some_iff.1 hcur).1
       have hlt4 : (k : Int) < (cls.length : Int) := by omega
       have hw2 : IntKind.i64.wrap ((k : Int) + 1) = (k : Int) + 1 := by rw [IntKind.wrap_i64]; omega
       obtain ⟨y, hy⟩ : ∃ y, bits .xor .i64 z 1 = y := ⟨_, rfl⟩
       have HCUR := Lib.hid hcur
       have HKR2 := Lib.hid hKr
       clear eo hrow hrow0 hcur hKr
       rw [hge] at c2
       clear hge
       go_wp2_with fail
       go_round
       exact ⟨k + 1, by omega, by go_num, HT2.out.set HCUR.out HKR2.out y⟩
       case measure => (simp [intOf] <;> omega)
      ·obtain rfl : k = cls.length := by omega
       clear c0 c1 c2 c3
       have hlowK : ∀ i, K i → W5.heap.size ≤ i := fun i h => ((HKE.out i).1 h).1
       have hu : HeldM wr ⟨uv, ua, us, uc, ula, uls, ulc, uea, ues, uec⟩ := ⟨HUB.out.r.out (OutM.mono (fun i h => by have := hlowK i h; (show w4.heap.size ≤ i); omega) (RModel.low HUH.out.r)) HT2.out.k, HUB.out.o, HUB.out.s⟩
       have hmm : HeldM wr ⟨ver, pa, ps, pc, la, ls, lc, ea, es, ec⟩ := ⟨HMB.out.r.out (OutM.mono (fun i h => by have := hlowK i h; (show w3.heap.size ≤ i); omega) (RModel.low HHM.out.r)) HT2.out.k, HMB.out.o, HMB.out.s⟩
       have hkf : Kept Nil w wr := (HK.out.step HKWT.out).trans HT2.out.k (fun i h => .inr (by have := hlowK i h; omega))
       have HU2 := Lib.hid hu
       have HM2 := Lib.hid hmm
       have HKF := Lib.hid hkf
       have n1 : ¬ K w4.heap.size := fun h => by have := hlowK _ h; omega
       have n2 : ¬ K w.heap.size := fun h => by have := hlowK _ h; omega
       have u0 := HT2.out.k.cell ((HK59.out.step HKT.out).cell U0.out (fun h => h)) n1
       have u1 := HT2.out.k.cell ((HK59.out.step HKT.out).cell U1.out (fun h => h)) n1
       have u2 := HT2.out.k.cell ((HK59.out.step HKT.out).cell U2.out (fun h => h)) n1
       have u3 := HT2.out.k.cell ((HK59.out.step HKT.out).cell U3.out (fun h => h)) n1
       have g0 := HT2.out.k.cell (HKWT.out.cell G0.out (fun h => h)) n2
       have g1 := HT2.out.k.cell (HKWT.out.cell G1.out (fun h => h)) n2
       have g2 := HT2.out.k.cell (HKWT.out.cell G2.out (fun h => h)) n2
       have g3 := HT2.out.k.cell (HKWT.out.cell G3.out (fun h => h)) n2
       have hz4r : w4.heap.size < wr.heap.size := by omega
       have hzwr : w.heap.size < wr.heap.size := by omega
       clear hu hmm hkf hlowK n1 n2
       go_wp2_with (go_at_call 14; with_reducible refine (rSame_h _ HU2.out HM2.out (eqM_iff.2 HUS.out.symm)).mono ?_; rintro e wz ⟨rfl, hkz⟩)
       go_ret
       exact ⟨rfl, (HKF.out.step hkz).toBelow⟩
end Go.Proofs.YtniocgnfgpaioaaGreat.Mo
