/- The walk of the statement CanonSames. -/
import Derived.Test.YtniocgnfgpaioaaGreatG41
set_option linter.unusedVariables false
set_option linter.unusedSimpArgs false
namespace Go.Proofs.YtniocgnfgpaioaaGreat.Mo
open Go Go.RowKit Go.Proofs.YtniocgnfgpaioaaGreat.Lb Go.Proofs.YtniocgnfgpaioaaGreat.HpPure
set_option maxRecDepth 8000
set_option maxHeartbeats 16000000 in
theorem CanonSames_calls (m n : Md) (turn : Int) (w : World) (hm : RModel w m) (ho : OkM m) (hn : RModel w n) (hp : OkM n) (ht : Sc.I64 turn) :
  Calls Tryz.prog 5 #[m.val, n.val, .int .i64 turn] w fun e w' => e = .returned (.bool true) ∧ Below w.heap.size w w' := by
 have HM := Lib.hid hm
 have HO := Lib.hid ho
 have HN := Lib.hid hn
 have HP := Lib.hid hp
 obtain ⟨ver, pa, ps, pc, la, ls, lc, ea, es, ec⟩ := m
 obtain ⟨wer, pb, qs, pd, lb, ms, ld, eb, fs, ed⟩ := n
 clear hm ho hn hp
 unfold Md.val
 simp only at *
 obtain ⟨W1, hW⟩ : ∃ W, ((w.alloc (.cells #[.int .i64 ver, .slice pa ps.length pc, .slice la ls.length lc, .slice ea es.length ec] 26)).alloc (.cells #[.int .i64 wer, .slice pb qs.length pd, .slice lb ms.length ld, .slice eb fs.length ed] 26)) = W := ⟨_, rfl⟩
 have hk : Kept Nil w W1 := by rw [← hW]; exact (((Kept.refl Nil w).alloc _).alloc _)
 have hsz : W1.heap.size = w.heap.size + 2 := by rw [← hW]; simp
 have hb : W1.heap[w.heap.size]? = some (.cells #[.int .i64 ver, .slice pa ps.length pc, .slice la ls.length lc, .slice ea es.length ec] 26 (0, 0)) := by
  rw [← hW]
  rw [heap_old _ _ (by simp only [World.size_alloc]; omega)]
  have h9 := heap_new w (.cells #[.int .i64 ver, .slice pa ps.length pc, .slice la ls.length lc, .slice ea es.length ec] 26)
  exact h9
 have G0 := Lib.hid (show W1.cell? ⟨w.heap.size, 0, none⟩ = some (.int .i64 ver) by rw [cell_of hb]; rfl)
 have G1 := Lib.hid (show W1.cell? ⟨w.heap.size, 1, none⟩ = some (.slice pa ps.length pc) by rw [cell_of hb]; rfl)
 have G2 := Lib.hid (show W1.cell? ⟨w.heap.size, 2, none⟩ = some (.slice la ls.length lc) by rw [cell_of hb]; rfl)
 have G3 := Lib.hid (show W1.cell? ⟨w.heap.size, 3, none⟩ = some (.slice ea es.length ec) by rw [cell_of hb]; rfl)
 have GB := Lib.hid hb
 have hzg : w.heap.size < W1.heap.size := by omega
 clear hb
 have hb : W1.heap[w.heap.size + 1]? = some (.cells #[.int .i64 wer, .slice pb qs.length pd, .slice lb ms.length ld, .slice eb fs.length ed] 26 (0, 0)) := by
  rw [← hW]
  have h9 := heap_new (w.alloc (.cells #[.int .i64 ver, .slice pa ps.length pc, .slice la ls.length lc, .slice ea es.length ec] 26)) (.cells #[.int .i64 wer, .slice pb qs.length pd, .slice lb ms.length ld, .slice eb fs.length ed] 26)
  simp only [World.size_alloc] at h9
  exact h9
 have Q0 := Lib.hid (show W1.cell? ⟨w.heap.size + 1, 0, none⟩ = some (.int .i64 wer) by rw [cell_of hb]; rfl)
 have Q1 := Lib.hid (show W1.cell? ⟨w.heap.size + 1, 1, none⟩ = some (.slice pb qs.length pd) by rw [cell_of hb]; rfl)
 have Q2 := Lib.hid (show W1.cell? ⟨w.heap.size + 1, 2, none⟩ = some (.slice lb ms.length ld) by rw [cell_of hb]; rfl)
 have Q3 := Lib.hid (show W1.cell? ⟨w.heap.size + 1, 3, none⟩ = some (.slice eb fs.length ed) by rw [cell_of hb]; rfl)
 have QB := Lib.hid hb
 have hzq : w.heap.size + 1 < W1.heap.size := by omega
 clear hb
 have HW := Lib.hid hW
 have HK := Lib.hid hk
 have HSZ := Lib.hid hsz
 clear hW hk hsz
 have HM1 := Lib.hid (HM.out.nil HK.out)
 have HN1 := Lib.hid (HN.out.nil HK.out)
 go_enter Tryz.func5, Tryz.ntmps5
 go_wp2_with fail
 rw [HW.out]
 refine (alive_is W1).mono ?_
 rintro e w1 ⟨rfl, hk1⟩
 have HK1 := Lib.hid hk1
 have hz1 := hk1.size
 clear hk1
 have g0 := (HK1.out).cell G0.out (fun h => h)
 have g1 := (HK1.out).cell G1.out (fun h => h)
 have g2 := (HK1.out).cell G2.out (fun h => h)
 have g3 := (HK1.out).cell G3.out (fun h => h)
 have q0 := (HK1.out).cell Q0.out (fun h => h)
 have q1 := (HK1.out).cell Q1.out (fun h => h)
 have q2 := (HK1.out).cell Q2.out (fun h => h)
 have q3 := (HK1.out).cell Q3.out (fun h => h)
 have hg1 : w.heap.size + 1 < w1.heap.size := by omega
 have hh1 : w.heap.size < w1.heap.size := by omega
 go_wp2_with fail
 refine (Few_h w1 (HM1.out.nil HK1.out)).mono ?_
 rintro e w2 ⟨b, rfl, hbb, hk2⟩
 have HBB := Lib.hid hbb
 have HK2 := Lib.hid (HK1.out.step hk2)
 have hz2 := hk2.size
 have hg2 : w.heap.size + 1 < w2.heap.size := by omega
 have hh2 : w.heap.size < w2.heap.size := by omega
 clear hbb hk2 g0 g1 g2 g3 q0 q1 q2 q3
 have g0 := (HK2.out).cell G0.out (fun h => h)
 have g1 := (HK2.out).cell G1.out (fun h => h)
 have g2 := (HK2.out).cell G2.out (fun h => h)
 have g3 := (HK2.out).cell G3.out (fun h => h)
 have q0 := (HK2.out).cell Q0.out (fun h => h)
 have q1 := (HK2.out).cell Q1.out (fun h => h)
 have q2 := (HK2.out).cell Q2.out (fun h => h)
 have q3 := (HK2.out).cell Q3.out (fun h => h)
 cases b with
 | false =>
  go_wp2_with fail
  go_ret
  exact ⟨rfl, (HK.out.step HK2.out).toBelow⟩
 | true =>
  have HFM := Lib.hid (HBB.out rfl)
  go_wp2_with fail
  refine (Few_h w2 (HN1.out.nil HK2.out)).mono ?_
  rintro e w3 ⟨b, rfl, hbb, hk3⟩
  have HBN := Lib.hid hbb
  have HK3 := Lib.hid (HK2.out.step hk3)
  have hz3 := hk3.size
  have hg3 : w.heap.size + 1 < w3.heap.size := by omega
  have hh3 : w.heap.size < w3.heap.size := by omega
  clear hbb hk3 g0 g1 g2 g3 q0 q1 q2 q3
  have g0 := (HK3.out).cell G0.out (fun h => h)
  have g1 := (HK3.out).cell G1.out (fun h => h)
  have g2 := (HK3.out).cell G2.out (fun h => h)
  have g3 := (HK3.out).cell G3.out (fun h => h)
  have q0 := (HK3.out).cell Q0.out (fun h => h)
  have q1 := (HK3.out).cell Q1.out (fun h => h)
  have q2 := (HK3.out).cell Q2.out (fun h => h)
  have q3 := (HK3.out).cell Q3.out (fun h => h)
  cases b with
  | false =>
   go_wp2_with fail
   go_ret
   exact ⟨rfl, (HK.out.step HK3.out).toBelow⟩
  | true =>
   have HFN := Lib.hid (HBN.out rfl)
   have HHM := Lib.hid (held_of_few (HM1.out.nil HK3.out) HO.out HFM.out)
   have HHN := Lib.hid (held_of_few (HN1.out.nil HK3.out) HP.out HFN.out)
   obtain ⟨r, hr⟩ : ∃ r, eqM ⟨ver, pa, ps, pc, la, ls, lc, ea, es, ec⟩ ⟨wer, pb, qs, pd, lb, ms, ld, eb, fs, ed⟩ = r := ⟨_, rfl⟩
   have HRR := Lib.hid hr
   have HR2 := Lib.hid ((eqM_symm ⟨wer, pb, qs, pd, lb, ms, ld, eb, fs, ed⟩ ⟨ver, pa, ps, pc, la, ls, lc, ea, es, ec⟩).trans hr)
   have hrr : (r != r) = false := by cases r <;> rfl
   have hrre : (r == r) = true := by cases r <;> rfl
   clear hr
   go_upto_region 5 with fail
   clear g0 g1 g2 g3 q0 q1 q2 q3
   have C9_0 := Lib.hid (show w3.cell? ⟨w.heap.size, 0, none⟩ = some (.int .i64 ver) from HK3.out.cell G0.out (fun h => h))
   have C9_1 := Lib.hid (show w3.cell? ⟨w.heap.size, 1, none⟩ = some (.slice pa ps.length pc) from HK3.out.cell G1.out (fun h => h))
   have C9_2 := Lib.hid (show w3.cell? ⟨w.heap.size, 2, none⟩ = some (.slice la ls.length lc) from HK3.out.cell G2.out (fun h => h))
   have C9_3 := Lib.hid (show w3.cell? ⟨w.heap.size, 3, none⟩ = some (.slice ea es.length ec) from HK3.out.cell G3.out (fun h => h))
   have C9_4 := Lib.hid (show w3.cell? ⟨w.heap.size + 1, 0, none⟩ = some (.int .i64 wer) from HK3.out.cell Q0.out (fun h => h))
   have C9_5 := Lib.hid (show w3.cell? ⟨w.heap.size + 1, 1, none⟩ = some (.slice pb qs.length pd) from HK3.out.cell Q1.out (fun h => h))
   have C9_6 := Lib.hid (show w3.cell? ⟨w.heap.size + 1, 2, none⟩ = some (.slice lb ms.length ld) from HK3.out.cell Q2.out (fun h => h))
   have C9_7 := Lib.hid (show w3.cell? ⟨w.heap.size + 1, 3, none⟩ = some (.slice eb fs.length ed) from HK3.out.cell Q3.out (fun h => h))
   refine wp_region_held_drew (S := fun w' => w'.cell? ⟨w.heap.size, 0, none⟩ = some (.int .i64 ver) ∧ w'.cell? ⟨w.heap.size, 1, none⟩ = some (.slice pa ps.length pc) ∧ w'.cell? ⟨w.heap.size, 2, none⟩ = some (.slice la ls.length lc) ∧ w'.cell? ⟨w.heap.size, 3, none⟩ = some (.slice ea es.length ec) ∧ w'.cell? ⟨w.heap.size + 1, 0, none⟩ = some (.int .i64 wer) ∧ w'.cell? ⟨w.heap.size + 1, 1, none⟩ = some (.slice pb qs.length pd) ∧ w'.cell? ⟨w.heap.size + 1, 2, none⟩ = some (.slice lb ms.length ld) ∧ w'.cell? ⟨w.heap.size + 1, 3, none⟩ = some (.slice eb fs.length ed)) (by kernel_rfl) ⟨C9_0.out, C9_1.out, C9_2.out, C9_3.out, C9_4.out, C9_5.out, C9_6.out, C9_7.out⟩ (fun hHeld => ?_)
   refine wpAnyH_take (i := 0) (oi := _) (v := ?_) (List.getElem?_toArray.trans rfl) (by kernel_rfl) (by kernel_rfl) (by kernel_rfl) (fun _ _ _ h => h) (Or.inl ⟨by rfl, ?_⟩) (by assumption) ?_
   rotate_left
   ·(intro w9 hSw; (try dsimp only at hSw); go_simp; try with_reducible rfl)
   try simp only [Act.put, List.setIfInBounds_toArray, List.set_cons_zero, List.set_cons_succ]
   refine wpAnyH_take (i := 1) (oi := _) (v := ?_) (List.getElem?_toArray.trans rfl) (by kernel_rfl) (by kernel_rfl) (by kernel_rfl) (fun _ _ _ h => h) (Or.inl ⟨by rfl, ?_⟩) (by assumption) ?_
   rotate_left
   ·(intro w9 hSw; (try dsimp only at hSw); go_simp; try with_reducible rfl)
   try simp only [Act.put, List.setIfInBounds_toArray, List.set_cons_zero, List.set_cons_succ]
   refine wpAnyH_take (i := 3) (oi := _) (v := ?_) (List.getElem?_toArray.trans rfl) (by kernel_rfl) (by kernel_rfl) (by kernel_rfl) (fun _ _ _ h => h) (Or.inl ⟨by rfl, ?_⟩) (by assumption) ?_
   rotate_left
   ·(intro w9 hSw; (try dsimp only at hSw); go_simp; try with_reducible rfl)
   try simp only [Act.put, List.setIfInBounds_toArray, List.set_cons_zero, List.set_cons_succ]
   refine wpAnyH_take (i := 4) (oi := _) (v := ?_) (List.getElem?_toArray.trans rfl) (by kernel_rfl) (by kernel_rfl) (by kernel_rfl) (fun _ _ _ h => h) (Or.inl ⟨by rfl, ?_⟩) (by assumption) ?_
   rotate_left
   ·(intro w9 hSw; (try dsimp only at hSw); go_simp; try with_reducible rfl)
   try simp only [Act.put, List.setIfInBounds_toArray, List.set_cons_zero, List.set_cons_succ]
   refine wpAnyH_ready (rs := [2]) (by kernel_rfl) (by simp) ?_
   refine AllReadyH.cons (o := _) (List.getElem?_toArray.trans rfl) (fun K hK => ?_) (AllReadyH.nil)
   go_simp
   refine (cSame_h _ (HHM.out.nil (by repeat (first | exact kzr _ _ | assumption | refine kzd ?_ | refine kzn ?_ _ | refine kza ?_ _ | refine kzs ?_ (by assumption)))) (HHN.out.nil (by repeat (first | exact kzr _ _ | assumption | refine kzd ?_ | refine kzn ?_ _ | refine kza ?_ _ | refine kzs ?_ (by assumption)))) HRR.out).mono ?_
   rintro e w4 ⟨rfl, hk4⟩
   try go_wp2_with fail
   refine hK.out _ _ ⟨(((show Kept Nil w3 _ from (by repeat (first | exact kzr _ _ | assumption | refine kzd ?_ | refine kzn ?_ _ | refine kza ?_ _ | refine kzs ?_ (by assumption))))).cell C9_0.out (fun h => h)), (((show Kept Nil w3 _ from (by repeat (first | exact kzr _ _ | assumption | refine kzd ?_ | refine kzn ?_ _ | refine kza ?_ _ | refine kzs ?_ (by assumption))))).cell C9_1.out (fun h => h)), (((show Kept Nil w3 _ from (by repeat (first | exact kzr _ _ | assumption | refine kzd ?_ | refine kzn ?_ _ | refine kza ?_ _ | refine kzs ?_ (by assumption))))).cell C9_2.out (fun h => h)), (((show Kept Nil w3 _ from (by repeat (first | exact kzr _ _ | assumption | refine kzd ?_ | refine kzn ?_ _ | refine kza ?_ _ | refine kzs ?_ (by assumption))))).cell C9_3.out (fun h => h)), (((show Kept Nil w3 _ from (by repeat (first | exact kzr _ _ | assumption | refine kzd ?_ | refine kzn ?_ _ | refine kza ?_ _ | refine kzs ?_ (by assumption))))).cell C9_4.out (fun h => h)), (((show Kept Nil w3 _ from (by repeat (first | exact kzr _ _ | assumption | refine kzd ?_ | refine kzn ?_ _ | refine kza ?_ _ | refine kzs ?_ (by assumption))))).cell C9_5.out (fun h => h)), (((show Kept Nil w3 _ from (by repeat (first | exact kzr _ _ | assumption | refine kzd ?_ | refine kzn ?_ _ | refine kza ?_ _ | refine kzs ?_ (by assumption))))).cell C9_6.out (fun h => h)), (((show Kept Nil w3 _ from (by repeat (first | exact kzr _ _ | assumption | refine kzd ?_ | refine kzn ?_ _ | refine kza ?_ _ | refine kzs ?_ (by assumption))))).cell C9_7.out (fun h => h))⟩ (fun hHeld => ?_)
   clear hK K
   try simp only [Act.put, List.setIfInBounds_toArray, List.set_cons_zero, List.set_cons_succ]
   refine wpAnyH_ready (rs := [5]) (by kernel_rfl) (by simp) ?_
   refine AllReadyH.cons (o := _) (List.getElem?_toArray.trans rfl) (fun K hK => ?_) (AllReadyH.nil)
   go_simp
   refine (cSame_h _ (HHN.out.nil (by repeat (first | exact kzr _ _ | assumption | refine kzd ?_ | refine kzn ?_ _ | refine kza ?_ _ | refine kzs ?_ (by assumption)))) (HHM.out.nil (by repeat (first | exact kzr _ _ | assumption | refine kzd ?_ | refine kzn ?_ _ | refine kza ?_ _ | refine kzs ?_ (by assumption)))) HR2.out).mono ?_
   rintro e w5 ⟨rfl, hk5⟩
   try go_wp2_with fail
   refine hK.out _ _ ⟨(((show Kept Nil w3 _ from (by repeat (first | exact kzr _ _ | assumption | refine kzd ?_ | refine kzn ?_ _ | refine kza ?_ _ | refine kzs ?_ (by assumption))))).cell C9_0.out (fun h => h)), (((show Kept Nil w3 _ from (by repeat (first | exact kzr _ _ | assumption | refine kzd ?_ | refine kzn ?_ _ | refine kza ?_ _ | refine kzs ?_ (by assumption))))).cell C9_1.out (fun h => h)), (((show Kept Nil w3 _ from (by repeat (first | exact kzr _ _ | assumption | refine kzd ?_ | refine kzn ?_ _ | refine kza ?_ _ | refine kzs ?_ (by assumption))))).cell C9_2.out (fun h => h)), (((show Kept Nil w3 _ from (by repeat (first | exact kzr _ _ | assumption | refine kzd ?_ | refine kzn ?_ _ | refine kza ?_ _ | refine kzs ?_ (by assumption))))).cell C9_3.out (fun h => h)), (((show Kept Nil w3 _ from (by repeat (first | exact kzr _ _ | assumption | refine kzd ?_ | refine kzn ?_ _ | refine kza ?_ _ | refine kzs ?_ (by assumption))))).cell C9_4.out (fun h => h)), (((show Kept Nil w3 _ from (by repeat (first | exact kzr _ _ | assumption | refine kzd ?_ | refine kzn ?_ _ | refine kza ?_ _ | refine kzs ?_ (by assumption))))).cell C9_5.out (fun h => h)), (((show Kept Nil w3 _ from (by repeat (first | exact kzr _ _ | assumption | refine kzd ?_ | refine kzn ?_ _ | refine kza ?_ _ | refine kzs ?_ (by assumption))))).cell C9_6.out (fun h => h)), (((show Kept Nil w3 _ from (by repeat (first | exact kzr _ _ | assumption | refine kzd ?_ | refine kzn ?_ _ | refine kza ?_ _ | refine kzs ?_ (by assumption))))).cell C9_7.out (fun h => h))⟩ (fun hHeld => ?_)
   clear hK K
   try simp only [Act.put, List.setIfInBounds_toArray, List.set_cons_zero, List.set_cons_succ]
   refine wpAnyH_take (i := 6) (oi := _) (v := ?_) (List.getElem?_toArray.trans rfl) (by kernel_rfl) (by kernel_rfl) (by kernel_rfl) (fun _ _ _ h => h) (Or.inl ⟨by rfl, ?_⟩) (by assumption) ?_
   rotate_left
   ·(intro w9 hSw; (try dsimp only at hSw); go_simp; try with_reducible rfl)
   try simp only [Act.put, List.setIfInBounds_toArray, List.set_cons_zero, List.set_cons_succ]
   refine wpAnyH_take (i := 7) (oi := _) (v := ?_) (List.getElem?_toArray.trans rfl) (by kernel_rfl) (by kernel_rfl) (by kernel_rfl) (fun _ _ _ h => h) (Or.inl ⟨by rfl, ?_⟩) (by assumption) ?_
   rotate_left
   ·(intro w9 hSw; (try dsimp only at hSw); go_simp; try with_reducible rfl)
   try simp only [Act.put, List.setIfInBounds_toArray, List.set_cons_zero, List.set_cons_succ]
   refine wpAnyH_take (i := 8) (oi := _) (v := ?_) (List.getElem?_toArray.trans rfl) (by kernel_rfl) (by kernel_rfl) (by kernel_rfl) (fun _ _ _ h => h) (Or.inl ⟨by rfl, ?_⟩) (by assumption) ?_
   rotate_left
   ·(intro w9 hSw; (try dsimp only at hSw); go_simp; try with_reducible rfl)
   try simp only [Act.put, List.setIfInBounds_toArray, List.set_cons_zero, List.set_cons_succ]
   refine wpAnyH_take (i := 9) (oi := _) (v := ?_) (List.getElem?_toArray.trans rfl) (by kernel_rfl) (by kernel_rfl) (by kernel_rfl) (fun _ _ _ h => h) (Or.inl ⟨by rfl, ?_⟩) (by assumption) ?_
   rotate_left
   ·(intro w9 hSw; (try dsimp only at hSw); go_simp; try with_reducible rfl)
   try simp only [Act.put, List.setIfInBounds_toArray, List.set_cons_zero, List.set_cons_succ]
   refine wpAnyH_ready (rs := [10]) (by kernel_rfl) (by simp) ?_
   refine AllReadyH.cons (o := _) (List.getElem?_toArray.trans rfl) (fun K hK => ?_) (AllReadyH.nil)
   go_simp
   refine (cSame_h _ (HHM.out.nil (by repeat (first | exact kzr _ _ | assumption | refine kzd ?_ | refine kzn ?_ _ | refine kza ?_ _ | refine kzs ?_ (by assumption)))) (HHM.out.nil (by repeat (first | exact kzr _ _ | assumption | refine kzd ?_ | refine kzn ?_ _ | refine kza ?_ _ | refine kzs ?_ (by assumption)))) (eqM_self _)).mono ?_
   rintro e w6 ⟨rfl, hk6⟩
   try go_wp2_with fail
   refine hK.out _ _ ⟨(((show Kept Nil w3 _ from (by repeat (first | exact kzr _ _ | assumption | refine kzd ?_ | refine kzn ?_ _ | refine kza ?_ _ | refine kzs ?_ (by assumption))))).cell C9_0.out (fun h => h)), (((show Kept Nil w3 _ from (by repeat (first | exact kzr _ _ | assumption | refine kzd ?_ | refine kzn ?_ _ | refine kza ?_ _ | refine kzs ?_ (by assumption))))).cell C9_1.out (fun h => h)), (((show Kept Nil w3 _ from (by repeat (first | exact kzr _ _ | assumption | refine kzd ?_ | refine kzn ?_ _ | refine kza ?_ _ | refine kzs ?_ (by assumption))))).cell C9_2.out (fun h => h)), (((show Kept Nil w3 _ from (by repeat (first | exact kzr _ _ | assumption | refine kzd ?_ | refine kzn ?_ _ | refine kza ?_ _ | refine kzs ?_ (by assumption))))).cell C9_3.out (fun h => h)), (((show Kept Nil w3 _ from (by repeat (first | exact kzr _ _ | assumption | refine kzd ?_ | refine kzn ?_ _ | refine kza ?_ _ | refine kzs ?_ (by assumption))))).cell C9_4.out (fun h => h)), (((show Kept Nil w3 _ from (by repeat (first | exact kzr _ _ | assumption | refine kzd ?_ | refine kzn ?_ _ | refine kza ?_ _ | refine kzs ?_ (by assumption))))).cell C9_5.out (fun h => h)), (((show Kept Nil w3 _ from (by repeat (first | exact kzr _ _ | assumption | refine kzd ?_ | refine kzn ?_ _ | refine kza ?_ _ | refine kzs ?_ (by assumption))))).cell C9_6.out (fun h => h)), (((show Kept Nil w3 _ from (by repeat (first | exact kzr _ _ | assumption | refine kzd ?_ | refine kzn ?_ _ | refine kza ?_ _ | refine kzs ?_ (by assumption))))).cell C9_7.out (fun h => h))⟩ (fun hHeld => ?_)
   clear hK K
   try simp only [Act.put, List.setIfInBounds_toArray, List.set_cons_zero, List.set_cons_succ]
   refine wpAnyH_take (i := 11) (oi := _) (v := ?_) (List.getElem?_toArray.trans rfl) (by kernel_rfl) (by kernel_rfl) (by kernel_rfl) (fun _ _ _ h => h) (Or.inl ⟨by rfl, ?_⟩) (by assumption) ?_
   rotate_left
   ·(intro w9 hSw; (try dsimp only at hSw); go_simp; try with_reducible rfl)
   try simp only [Act.put, List.setIfInBounds_toArray, List.set_cons_zero, List.set_cons_succ]
   refine wpAnyH_take (i := 12) (oi := _) (v := ?_) (List.getElem?_toArray.trans rfl) (by kernel_rfl) (by kernel_rfl) (by kernel_rfl) (fun _ _ _ h => h) (Or.inl ⟨by rfl, ?_⟩) (by assumption) ?_
   rotate_left
   ·(intro w9 hSw; (try dsimp only at hSw); go_simp; try with_reducible rfl)
   try simp only [Act.put, List.setIfInBounds_toArray, List.set_cons_zero, List.set_cons_succ]
   refine wpAnyH_done (by kernel_rfl) ?_ _
   have HK36 := Lib.hid (show Kept Nil w3 w6 from (by repeat (first | exact kzr _ _ | assumption | refine kzd ?_ | refine kzn ?_ _ | refine kza ?_ _ | refine kzs ?_ (by assumption))))
   have HK6 := Lib.hid (HK3.out.step HK36.out)
   have hz6 := HK36.out.size
   have hg6 : w.heap.size + 1 < w6.heap.size := by omega
   have hh6 : w.heap.size < w6.heap.size := by omega
   have g0 := (HK6.out).cell G0.out (fun h => h)
   have g1 := (HK6.out).cell G1.out (fun h => h)
   have g2 := (HK6.out).cell G2.out (fun h => h)
   have g3 := (HK6.out).cell G3.out (fun h => h)
   have q0 := (HK6.out).cell Q0.out (fun h => h)
   have q1 := (HK6.out).cell Q1.out (fun h => h)
   have q2 := (HK6.out).cell Q2.out (fun h => h)
   have q3 := (HK6.out).cell Q3.out (fun h => h)
   go_upto_region 8 with (go_at_call 11; with_reducible refine (Copy_h _ (HHM.out.nil HK36.out)).mono ?_; rintro e w7 ⟨hk7, ⟨xv, xa, xs, xc, xla, xls, xlc, xea, xes, xec⟩, rfl, hh, hs, hf, hn, hxe⟩; have HXH := Lib.hid hh; have HXS := Lib.hid hs; have HXF := Lib.hid hf; have HXN := Lib.hid hn; have HXE := Lib.hid hxe; have HK7 := Lib.hid hk7; have hz7 := hk7.size; clear hh hs hf hn hxe hk7 g0 g1 g2 g3 q0 q1 q2 q3)
   obtain ⟨W8, hW⟩ : ∃ W, (w7.alloc (.cells #[.int .i64 xv, .slice xa xs.length xc, .slice xla xls.length xlc, .slice xea xes.length xec] 26)) = W := ⟨_, rfl⟩
   have hk : Kept Nil w7 W8 := by rw [← hW]; exact ((Kept.refl Nil w7).alloc _)
   have hsz : W8.heap.size = w7.heap.size + 1 := by rw [← hW]; simp
   have hb : W8.heap[w7.heap.size]? = some (.cells #[.int .i64 xv, .slice xa xs.length xc, .slice xla xls.length xlc, .slice xea xes.length xec] 26 (0, 0)) := by
    rw [← hW]
    have h9 := heap_new w7 (.cells #[.int .i64 xv, .slice xa xs.length xc, .slice xla xls.length xlc, .slice xea xes.length xec] 26)
    exact h9
   have X0 := Lib.hid (show W8.cell? ⟨w7.heap.size, 0, none⟩ = some (.int .i64 xv) by rw [cell_of hb]; rfl)
   have X1 := Lib.hid (show W8.cell? ⟨w7.heap.size, 1, none⟩ = some (.slice xa xs.length xc) by rw [cell_of hb]; rfl)
   have X2 := Lib.hid (show W8.cell? ⟨w7.heap.size, 2, none⟩ = some (.slice xla xls.length xlc) by rw [cell_of hb]; rfl)
   have X3 := Lib.hid (show W8.cell? ⟨w7.heap.size, 3, none⟩ = some (.slice xea xes.length xec) by rw [cell_of hb]; rfl)
   have XB := Lib.hid hb
   have hzx : w7.heap.size < W8.heap.size := by omega
   clear hb
   have HW8 := Lib.hid hW
   have HK8 := Lib.hid hk
   have HSZ8 := Lib.hid hsz
   clear hW hk hsz
   rw [HW8.out]
   have e1 : ver = xv := HXS.out.v
   subst e1
   have e2 : ls = xls := HXS.out.l
   subst e2
   have e3 : es = xes := HXS.out.e
   subst e3
   have hxl : xs.length = ps.length := HXS.out.p.l.symm
   have HXL := Lib.hid hxl
   clear hxl
   have HOLD := Lib.hid (show HoldN w6.heap.size W8 ⟨ver, xa, xs, xc, xla, ls, xlc, xea, es, xec⟩ from HoldN.nil ⟨HXH.out, HXN.out, HXF.out⟩ HK8.out)
   have HK68 := Lib.hid (HK7.out.step HK8.out)
   have HKW8 := Lib.hid (HK6.out.step HK68.out)
   have HM8 := Lib.hid (HHM.out.nil (HK36.out.step HK68.out))
   have hz8 := HK8.out.size
   have hg8 : w.heap.size < W8.heap.size := by omega
   have x0 := X0.out
   have x1 := X1.out
   have x2 := X2.out
   have x3 := X3.out
   have g0 := HKW8.out.cell G0.out (fun h => h)
   have g1 := HKW8.out.cell G1.out (fun h => h)
   have g2 := HKW8.out.cell G2.out (fun h => h)
   have g3 := HKW8.out.cell G3.out (fun h => h)
   by_cases h0 : turn = 0
   ·have t1 : (turn == 0) = true := by simp [h0]
    have t2 : decide (turn = 0) = true := by simp [h0]
    clear h0
    go_wp2_with (go_at_call 16; with_reducible refine (cSame_h _ HOLD.out.h HM8.out (eqM_iff.2 HXS.out.symm)).mono ?_; rintro e w9 ⟨rfl, hk9⟩)
    go_ret
    exact ⟨rfl, ((HK.out.step HKW8.out).step hk9).toBelow⟩
   ·have t1 : (turn == 0) = false := by simp [h0]
    have t2 : decide (turn = 0) = false := by simp [h0]
    have H0 := Lib.hid h0
    clear h0
    by_cases hes : es = []
    ·have u1 : decide ((0 : Int) < (es.length : Int)) = false := by rw [hes]; rfl
     have u1n : decide (0 < es.length) = false := by rw [hes]; rfl
     have HES := Lib.hid hes
     clear hes
     by_cases hps : xs = []
     ·have u2 : decide ((0 : Int) < (xs.length : Int)) = false := by rw [hps]; rfl
      have u2n : decide (0 < xs.length) = false := by rw [hps]; rfl
      have xf0 : W8.frozen? ⟨w7.heap.size, 0, none⟩ = false := frozen_of XB.out 0
      clear hps
      obtain ⟨vw, hvw⟩ : ∃ v, IntKind.i64.wrap (ver + 1) = v := ⟨_, rfl⟩
      go_upto_region 17 with fail
      obtain ⟨W9, hW9⟩ : ∃ W9, W8.setCell ⟨w7.heap.size, 0, none⟩ (.int .i64 vw) = W9 := ⟨_, rfl⟩
      rw [hW9]
      have hk9 : Kept (fun i => i = w7.heap.size) W8 W9 := by rw [← hW9]; exact (Kept.refl (fun i => i = w7.heap.size) W8).setCell (.inl rfl) _
      have hb9 : W9.heap[w7.heap.size]? = some (.cells #[.int .i64 vw, .slice xa xs.length xc, .slice xla ls.length xlc, .slice xea es.length xec] 26 (0, 0)) := by rw [← hW9, heap_set XB.out 0 _]; rfl
      have hver : Sc.I64 ver := HHM.out.o.v
      have hwn : vw ≠ ver ∧ Sc.I64 vw := by
       rw [← hvw]
       unfold Sc.I64 at *
       rw [IntKind.wrap_i64]
       omega
      have HOUT := Lib.hid ((HXH.out.r.low))
      have hx9 : HeldM W9 ⟨vw, xa, xs, xc, xla, ls, xlc, xea, es, xec⟩ := by
       have h1 : HeldM W9 ⟨ver, xa, xs, xc, xla, ls, xlc, xea, es, xec⟩ := ⟨HXH.out.r.out HOUT.out (HK8.out.any.trans (hk9.mono (fun i _ h => by (have h9 : i = w7.heap.size := h); (show w7.heap.size ≤ i); omega)) (fun i h => .inl h)), HXH.out.o, HXH.out.s⟩
       exact ⟨⟨h1.r.p, h1.r.pp, h1.r.l, h1.r.e, h1.r.pl, h1.r.ll, h1.r.el⟩, ⟨hwn.2, h1.o.p, h1.o.l, h1.o.e, h1.o.pc, h1.o.pn, h1.o.lc, h1.o.ln, h1.o.ec, h1.o.en⟩, ⟨h1.s.p, h1.s.l, h1.s.e, h1.s.v⟩⟩
      have hm9 : HeldM W9 ⟨ver, pa, ps, pc, la, ls, lc, ea, es, ec⟩ := ⟨(HHM.out.nil HK36.out).r.out (RModel.low (HHM.out.nil HK36.out).r) ((HK68.out.any (S := fun i => w6.heap.size ≤ i)).trans (hk9.mono (fun i _ h => by (have h9 : i = w7.heap.size := h); (show w6.heap.size ≤ i); omega)) (fun i h => .inl h)), HHM.out.o, HHM.out.s⟩
      have hno : eqM ⟨vw, xa, xs, xc, xla, ls, xlc, xea, es, xec⟩ ⟨ver, pa, ps, pc, la, ls, lc, ea, es, ec⟩ = false := eqM_no (fun h => hwn.1 h.v)
      have HX9 := Lib.hid hx9
      have HM9 := Lib.hid hm9
      have HNO := Lib.hid hno
      have HK9 := Lib.hid hk9
      have hz9 := hk9.size
      have HB9 := Lib.hid hb9
      have hgne : w.heap.size ≠ w7.heap.size := by omega
      clear hW9 hk9 hb9 hwn hver hx9 hm9 hno x0 x1 x2 x3
      have x0 : W9.cell? ⟨w7.heap.size, 0, none⟩ = some (.int .i64 vw) := by rw [cell_of HB9.out]; rfl
      have x1 : W9.cell? ⟨w7.heap.size, 1, none⟩ = some (.slice xa xs.length xc) := by rw [cell_of HB9.out]; rfl
      have x2 : W9.cell? ⟨w7.heap.size, 2, none⟩ = some (.slice xla ls.length xlc) := by rw [cell_of HB9.out]; rfl
      have x3 : W9.cell? ⟨w7.heap.size, 3, none⟩ = some (.slice xea es.length xec) := by rw [cell_of HB9.out]; rfl
      replace g0 := HK9.out.cell g0 hgne
      replace g1 := HK9.out.cell g1 hgne
      replace g2 := HK9.out.cell g2 hgne
      replace g3 := HK9.out.cell g3 hgne
      have hb9z : w7.heap.size < W9.heap.size := by omega
      have hg9 : w.heap.size < W9.heap.size := by omega
      go_wp2_with (go_at_call 16; with_reducible refine (cSame_h _ HX9.out HM9.out HNO.out).mono ?_; rintro e w10 ⟨rfl, hk10⟩)
      go_ret
      have hkf : Kept Nil w W9 := (HK.out.step HKW8.out).trans HK9.out (fun i h => .inr (by (have h9 : i = w7.heap.size := h); omega))
      exact ⟨rfl, (hkf.step hk10).toBelow⟩
     ·obtain ⟨p, ep⟩ : ∃ p, xs[0]? = some p := ⟨_, List.getElem?_eq_getElem (by cases xs with | nil => exact absurd rfl hps | cons x y => simp)⟩
      have hxp : 0 < xs.length := (List.getElem?_eq_some_iff.1 ep).1
      have u2 : decide ((0 : Int) < (xs.length : Int)) = true := by simp; omega
      have u2n : decide (0 < xs.length) = true := by simp; omega
      obtain ⟨gg, hgb, rfl, hrow⟩ := HOLD.out.n.p hps
      have hI := HOLD.out.h.o.p p (List.mem_of_getElem? ep)
      obtain ⟨hne, hi⟩ := xor_ne hI.w ht H0.out
      obtain ⟨z, hz⟩ : ∃ z, bits .xor .i64 p.weight turn = z := ⟨_, rfl⟩
      rw [hz] at hne hi
      have k1 : W8.cell? ⟨gg, 1, none⟩ = some (.int .i64 p.weight) := by have h9 := hrow.cell ep (c := 1) (by decide); rw [Nat.zero_mul, Nat.zero_add] at h9; exact h9
      have kf1 : W8.frozen? ⟨gg, 1, none⟩ = false := hrow.frozen 1
      have hgl := hrow.lt
      have HROW := Lib.hid hrow
      have EP := Lib.hid ep
      have HNE := Lib.hid hne
      have HI := Lib.hid hi
      have hbb : gg ≠ w7.heap.size := fun e => by (obtain ⟨cur, h9, _⟩ := HROW.out.ex); rw [e, XB.out] at h9; cases h9
      clear hps hrow ep hne hi hI
      go_upto_region 15 with fail
      obtain ⟨W9, hW9⟩ : ∃ W9, W8.setCell ⟨gg, 1, none⟩ (.int .i64 z) = W9 := ⟨_, rfl⟩
      rw [hW9]
      have hk9 : Kept (fun i => i = gg) W8 W9 := by rw [← hW9]; exact (Kept.refl (fun i => i = gg) W8).setCell (.inl rfl) _
      have hr9 : RowAt W9 gg 34 4 prCells (xs.set 0 { p with weight := z }) := by rw [← hW9]; have h9 := HROW.out.set prCells_len EP.out (c := 1) (u := .int .i64 z) (o' := { p with weight := z }) (by decide) rfl; simpa using h9
      have hx9 : HeldM W9 ⟨ver, some ⟨gg, 0, none⟩, xs.set 0 { p with weight := z }, xc, xla, ls, xlc, xea, es, xec⟩ := HOLD.out.weigh EP.out ⟨rfl, hr9⟩ hk9 HI.out
      have hno : eqM ⟨ver, some ⟨gg, 0, none⟩, xs.set 0 { p with weight := z }, xc, xla, ls, xlc, xea, es, xec⟩ ⟨ver, pa, ps, pc, la, ls, lc, ea, es, ec⟩ = false := eqM_no (fun h => by
       obtain ⟨p0, e0⟩ : ∃ p0, ps[0]? = some p0 := ⟨_, List.getElem?_eq_getElem (by rw [← HXL.out]; exact hxp)⟩
       have h1 := (HXS.out.p.p 0 p0 p e0 EP.out).w
       have h2 := (h.p.p 0 { p with weight := z } p0 (by rw [List.getElem?_set_self hxp]) e0).w
       simp only at h2
       exact HNE.out (h2.trans h1))
      have hls0 : (xs.set 0 { p with weight := z }).length = xs.length := List.length_set ..
      have hm9 : HeldM W9 ⟨ver, pa, ps, pc, la, ls, lc, ea, es, ec⟩ := ⟨(HHM.out.nil HK36.out).r.out (RModel.low (HHM.out.nil HK36.out).r) ((HK68.out.any (S := fun i => w6.heap.size ≤ i)).trans (hk9.mono (fun i _ h => by (have h9 : i = gg := h); (show w6.heap.size ≤ i); omega)) (fun i h => .inl h)), HHM.out.o, HHM.out.s⟩
      have hcon := fun W k1 k2 => cSame_h (r := false) W k1 k2 hno
      rw [hls0] at hcon
      have HCON := Lib.hid hcon
      have HX9 := Lib.hid hx9
      have HM9 := Lib.hid hm9
      have HK9 := Lib.hid hk9
      have hz9 := hk9.size
      have hgne : w.heap.size ≠ gg := by omega
      have hxne : w7.heap.size ≠ gg := fun e => hbb e.symm
      clear hW9 hk9 hr9 hx9 hno hls0 hm9 hcon k1 kf1
      replace x0 := HK9.out.cell x0 hxne
      replace x1 := HK9.out.cell x1 hxne
      replace x2 := HK9.out.cell x2 hxne
      replace x3 := HK9.out.cell x3 hxne
      replace g0 := HK9.out.cell g0 hgne
      replace g1 := HK9.out.cell g1 hgne
      replace g2 := HK9.out.cell g2 hgne
      replace g3 := HK9.out.cell g3 hgne
      have hb9z : w7.heap.size < W9.heap.size := by omega
      have hg9 : w.heap.size < W9.heap.size := by omega
      go_wp2_with (go_at_call 16; with_reducible refine (HCON.out _ HX9.out HM9.out).mono ?_; rintro e w10 ⟨rfl, hk10⟩)
      go_ret
      have hkf : Kept Nil w W9 := (HK.out.step HKW8.out).trans HK9.out (fun i h => .inr (by (have h9 : i = gg := h); omega))
      exact ⟨rfl, (hkf.step hk10).toBelow⟩
    ·obtain ⟨p, ep⟩ : ∃ p, es[0]? = some p := ⟨_, List.getElem?_eq_getElem (by cases es with | nil => exact absurd rfl hes | cons x y => simp)⟩
     have hxp : 0 < es.length := (List.getElem?_eq_some_iff.1 ep).1
     have u2 : decide ((0 : Int) < (es.length : Int)) = true := by simp; omega
     have u2n : decide (0 < es.length) = true := by simp; omega
     obtain ⟨gg, hgb, rfl, hrow⟩ := HOLD.out.n.e hes
     have hI := HOLD.out.h.o.e p (List.mem_of_getElem? ep)
     obtain ⟨hne, hi⟩ := xor_ne hI.v ht H0.out
     obtain ⟨z, hz⟩ : ∃ z, bits .xor .i64 p.value turn = z := ⟨_, rfl⟩
     rw [hz] at hne hi
     have k1 : W8.cell? ⟨gg, 2, none⟩ = some (.int .i64 p.value) := by have h9 := hrow.cell ep (c := 2) (by decide); rw [Nat.zero_mul, Nat.zero_add] at h9; exact h9
     have kf1 : W8.frozen? ⟨gg, 2, none⟩ = false := hrow.frozen 2
     have hgl := hrow.lt
     have HROW := Lib.hid hrow
     have EP := Lib.hid ep
     have HNE := Lib.hid hne
     have HI := Lib.hid hi
     have HES := Lib.hid hes
     have hbb : gg ≠ w7.heap.size := fun e => by (obtain ⟨cur, h9, _⟩ := HROW.out.ex); rw [e, XB.out] at h9; cases h9
     clear hes hrow ep hne hi hI
     go_upto_region 12 with fail
     obtain ⟨W9, hW9⟩ : ∃ W9, W8.setCell ⟨gg, 2, none⟩ (.int .i64 z) = W9 := ⟨_, rfl⟩
     rw [hW9]
     have hk9 : Kept (fun i => i = gg) W8 W9 := by rw [← hW9]; exact (Kept.refl (fun i => i = gg) W8).setCell (.inl rfl) _
     have hr9 : RowAt W9 gg 48 3 evCells (es.set 0 { p with value := z }) := by rw [← hW9]; have h9 := HROW.out.set evCells_len EP.out (c := 2) (u := .int .i64 z) (o' := { p with value := z }) (by decide) rfl; simpa using h9
     have hls0 : (es.set 0 { p with value := z }).length = es.length := List.length_set ..
     have hx9 : HeldM W9 ⟨ver, xa, xs, xc, xla, ls, xlc, some ⟨gg, 0, none⟩, es.set 0 { p with value := z }, xec⟩ := HOLD.out.events HES.out (HXE.out HES.out) ⟨rfl, hr9⟩ hk9 hls0 (fun e he => by
      rcases List.mem_or_eq_of_mem_set he with h | rfl
      ·exact HOLD.out.h.o.e e h
      ·have h9 := HOLD.out.h.o.e p (List.mem_of_getElem? EP.out)
       exact ⟨h9.t, h9.a, HI.out⟩)
     have hno : eqM ⟨ver, xa, xs, xc, xla, ls, xlc, some ⟨gg, 0, none⟩, es.set 0 { p with value := z }, xec⟩ ⟨ver, pa, ps, pc, la, ls, lc, ea, es, ec⟩ = false := eqM_no (fun h => by
      have h1 : es.set 0 { p with value := z } = es := h.e
      have h2 : (es.set 0 { p with value := z })[0]? = some { p with value := z } := by rw [List.getElem?_set_self hxp]
      rw [h1, EP.out] at h2
      have h3 := congrArg Ev.value (Option.some.inj h2)
      exact HNE.out h3.symm)
     have hm9 : HeldM W9 ⟨ver, pa, ps, pc, la, ls, lc, ea, es, ec⟩ := ⟨(HHM.out.nil HK36.out).r.out (RModel.low (HHM.out.nil HK36.out).r) ((HK68.out.any (S := fun i => w6.heap.size ≤ i)).trans (hk9.mono (fun i _ h => by (have h9 : i = gg := h); (show w6.heap.size ≤ i); omega)) (fun i h => .inl h)), HHM.out.o, HHM.out.s⟩
     have hcon := fun W k1 k2 => cSame_h (r := false) W k1 k2 hno
     rw [hls0] at hcon
     have HCON := Lib.hid hcon
     have HX9 := Lib.hid hx9
     have HM9 := Lib.hid hm9
     have HK9 := Lib.hid hk9
     have hz9 := hk9.size
     have hgne : w.heap.size ≠ gg := by omega
     have hxne : w7.heap.size ≠ gg := fun e => hbb e.symm
     clear hW9 hk9 hr9 hx9 hno hls0 hm9 hcon k1 kf1
     replace x0 := HK9.out.cell x0 hxne
     replace x1 := HK9.out.cell x1 hxne
     replace x2 := HK9.out.cell x2 hxne
     replace x3 := HK9.out.cell x3 hxne
     replace g0 := HK9.out.cell g0 hgne
     replace g1 := HK9.out.cell g1 hgne
     replace g2 := HK9.out.cell g2 hgne
     replace g3 := HK9.out.cell g3 hgne
     have hb9z : w7.heap.size < W9.heap.size := by omega
     have hg9 : w.heap.size < W9.heap.size := by omega
     go_wp2_with (go_at_call 16; with_reducible refine (HCON.out _ HX9.out HM9.out).mono ?_; rintro e w10 ⟨rfl, hk10⟩)
     go_ret
     have hkf : Kept Nil w W9 := (HK.out.step HKW8.out).trans HK9.out (fun i h => .inr (by (have h9 : i = gg := h); omega))
     exact ⟨rfl, (hkf.step hk10).toBelow⟩
end Go.Proofs.YtniocgnfgpaioaaGreat.Mo
