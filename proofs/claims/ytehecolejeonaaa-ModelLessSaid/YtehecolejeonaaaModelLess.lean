/- The walk of the statement ModelLess. -/
import Derived.Test.YtehecolejeonaaaLessS
namespace Go.Proofs.Ytehecolejeonaaa.Mo
open Go Go.RowKit Go.Proofs.Ytehecolejeonaaa.Lb
set_option linter.unusedVariables false
set_option linter.unusedSimpArgs false

set_option maxRecDepth 4000 in
set_option maxHeartbeats 16000000 in
theorem ModelLess_calls (m : Md) (w : World) (hm : RModel w m) (ho : OkM m) :
    Calls Try.prog 5 #[m.val] w fun e w' => e = .returned (.bool true) ∧ Kept Nil w w' := by
  have hfd : ∀ (x y : Int) (w : World), (Instr.field 33 (.agg #[.int .i64 x, .int .i64 y]) 0).run Try.prog w = .ok (.int .i64 x) w := fun _ _ _ => by kernel_rfl
  have HM := Lib.hid hm
  have HO := Lib.hid ho
  have HZ := Lib.hid ho.sz
  obtain ⟨ver, pa, ps, pc, la, ls, lc, ea, es, ec⟩ := m
  clear hm ho
  unfold Md.val
  simp only at *
  obtain ⟨W1, hW⟩ : ∃ W, (w.alloc (.cells #[.int .i64 ver, .slice pa ps.length pc, .slice la ls.length lc, .slice ea es.length ec] 26)) = W := ⟨_, rfl⟩
  have hk : Kept Nil w W1 := by rw [← hW]; exact ((Kept.refl Nil w).alloc _)
  have hsz : W1.heap.size = w.heap.size + 1 := by rw [← hW]; simp
  have hb : W1.heap[w.heap.size]? = some (.cells #[.int .i64 ver, .slice pa ps.length pc, .slice la ls.length lc, .slice ea es.length ec] 26 (0, 0)) := by
    rw [← hW]
    have h9 := heap_new w (.cells #[.int .i64 ver, .slice pa ps.length pc, .slice la ls.length lc, .slice ea es.length ec] 26)
    exact h9
  have G0 := Lib.hid (show W1.cell? ⟨w.heap.size, 0, none⟩ = some (.int .i64 ver) by rw [cell_of hb]; rfl)
  have G1 := Lib.hid (show W1.cell? ⟨w.heap.size, 1, none⟩ = some (.slice pa ps.length pc) by rw [cell_of hb]; rfl)
  have G2 := Lib.hid (show W1.cell? ⟨w.heap.size, 2, none⟩ = some (.slice la ls.length lc) by rw [cell_of hb]; rfl)
  have G3 := Lib.hid (show W1.cell? ⟨w.heap.size, 3, none⟩ = some (.slice ea es.length ec) by rw [cell_of hb]; rfl)
  have GB := Lib.hid hb
  have hzg : w.heap.size < W1.heap.size := by omega
  clear hb
  have HW := Lib.hid hW
  have HK := Lib.hid hk
  have HSZ := Lib.hid hsz
  clear hW hk hsz
  have HM1 := Lib.hid (HM.out.nil HK.out)
  go_enter Try.func5, Try.ntmps5
  go_wp2_with fail
  rw [HW.out]
  refine (alive_is W1).mono ?_
  rintro e w1 ⟨rfl, hk1⟩
  have HK1 := Lib.hid hk1
  have hz1 := hk1.size
  clear hk1
  have g0 := (HK1.out).cell G0.out (fun h => h)
  have g1 := (HK1.out).cell G1.out (fun h => h)
  have g2 := (HK1.out).cell G2.out (fun h => h)
  have g3 := (HK1.out).cell G3.out (fun h => h)
  have hg1 : w.heap.size < w1.heap.size := by omega
  go_wp2_with fail
  refine (Few_at w1 (HM1.out.nil HK1.out)).mono ?_
  rintro e w2 ⟨b, rfl, hbb, hk2⟩
  have HBB := Lib.hid hbb
  have HK2 := Lib.hid (HK1.out.step hk2)
  have hz2 := hk2.size
  have hg2 : w.heap.size < w2.heap.size := by omega
  clear hbb hk2 g0 g1 g2 g3
  have g0 := (HK2.out).cell G0.out (fun h => h)
  have g1 := (HK2.out).cell G1.out (fun h => h)
  have g2 := (HK2.out).cell G2.out (fun h => h)
  have g3 := (HK2.out).cell G3.out (fun h => h)
  cases b with
  | false =>
    go_wp2_with fail
    go_ret
    exact ⟨rfl, HK.out.step HK2.out⟩
  | true =>
    have HF := Lib.hid (HBB.out rfl)
    have hpl := HF.out.pl
    have hll := HF.out.ll
    have hel := HF.out.el
    simp only at hpl hll hel
    have HVL := Lib.hid (show ∀ p ∈ ps, p.vs.length ≤ 100000 from fun p hp => Nat.le_trans (HF.out.vs p hp).1 (by decide))
    obtain ⟨r, hrr⟩ : ∃ r, mdCheck ⟨ver, pa, ps, pc, la, ls, lc, ea, es, ec⟩ = r := ⟨_, rfl⟩
    have HRR := Lib.hid hrr
    by_cases hr0 : r.1 = 0
    · skip
      have hrt := right_of (by rw [hrr]; exact hr0)
      have HE := Lib.hid hrt.ok
      have HRT := Lib.hid hrt
      clear hrt hrr hr0 HRR
      clear r
      go_wp2_with (go_at_call 11; refine (Check_at w2 (HM1.out.nil HK2.out) HZ.out HVL.out).mono ?_; rintro e w3 ⟨rfl, hk3⟩; rw [HE.out]; have HK3 := Lib.hid (HK2.out.step hk3); have hz3 := hk3.size; have hg3 : w.heap.size < w3.heap.size := (by omega); clear hk3 g0 g1 g2 g3; have g0 := HK3.out.cell G0.out (fun h => h); have g1 := HK3.out.cell G1.out (fun h => h); have g2 := HK3.out.cell G2.out (fun h => h); have g3 := HK3.out.cell G3.out (fun h => h))
      obtain ⟨WL, hW⟩ : ∃ W, ((w3.alloc (.cells #[.int .i64 ver, .slice pa ps.length pc, .slice la ls.length lc, .slice none 0 0] 26)).alloc (.cells #[.int .i64 ver, .slice none 0 0, .slice none 0 0, .slice none 0 0] 26)) = W := ⟨_, rfl⟩
      have hk : Kept Nil w3 WL := by rw [← hW]; exact (((Kept.refl Nil w3).alloc _).alloc _)
      have hsz : WL.heap.size = w3.heap.size + 2 := by rw [← hW]; simp
      have hb : WL.heap[w3.heap.size]? = some (.cells #[.int .i64 ver, .slice pa ps.length pc, .slice la ls.length lc, .slice none 0 0] 26 (0, 0)) := by
        rw [← hW]
        rw [heap_old _ _ (by simp only [World.size_alloc]; omega)]
        have h9 := heap_new w3 (.cells #[.int .i64 ver, .slice pa ps.length pc, .slice la ls.length lc, .slice none 0 0] 26)
        exact h9
      have Q0 := Lib.hid (show WL.cell? ⟨w3.heap.size, 0, none⟩ = some (.int .i64 ver) by rw [cell_of hb]; rfl)
      have Q1 := Lib.hid (show WL.cell? ⟨w3.heap.size, 1, none⟩ = some (.slice pa ps.length pc) by rw [cell_of hb]; rfl)
      have Q2 := Lib.hid (show WL.cell? ⟨w3.heap.size, 2, none⟩ = some (.slice la ls.length lc) by rw [cell_of hb]; rfl)
      have Q3 := Lib.hid (show WL.cell? ⟨w3.heap.size, 3, none⟩ = some (.slice none 0 0) by rw [cell_of hb]; rfl)
      have QB := Lib.hid hb
      have hzq : w3.heap.size < WL.heap.size := by omega
      clear hb
      have hb : WL.heap[w3.heap.size + 1]? = some (.cells #[.int .i64 ver, .slice none 0 0, .slice none 0 0, .slice none 0 0] 26 (0, 0)) := by
        rw [← hW]
        have h9 := heap_new (w3.alloc (.cells #[.int .i64 ver, .slice pa ps.length pc, .slice la ls.length lc, .slice none 0 0] 26)) (.cells #[.int .i64 ver, .slice none 0 0, .slice none 0 0, .slice none 0 0] 26)
        simp only [World.size_alloc] at h9
        exact h9
      have B0 := Lib.hid (show WL.cell? ⟨w3.heap.size + 1, 0, none⟩ = some (.int .i64 ver) by rw [cell_of hb]; rfl)
      have B1 := Lib.hid (show WL.cell? ⟨w3.heap.size + 1, 1, none⟩ = some (.slice none 0 0) by rw [cell_of hb]; rfl)
      have B2 := Lib.hid (show WL.cell? ⟨w3.heap.size + 1, 2, none⟩ = some (.slice none 0 0) by rw [cell_of hb]; rfl)
      have B3 := Lib.hid (show WL.cell? ⟨w3.heap.size + 1, 3, none⟩ = some (.slice none 0 0) by rw [cell_of hb]; rfl)
      have BB := Lib.hid hb
      have hzb : w3.heap.size + 1 < WL.heap.size := by omega
      clear hb
      have HWL := Lib.hid hW
      have HKL := Lib.hid hk
      have HSZL := Lib.hid hsz
      clear hW hk hsz
      rw [HWL.out]
      clear g0 g1 g2 g3
      have HK3L := Lib.hid (HK3.out.step HKL.out)
      obtain ⟨j0, hjnf, hy0, hy1, hy2⟩ := info_parts infoP
      have hzL := HKL.out.size
      have hgL : w.heap.size < WL.heap.size := by omega
      have HSL := Lib.hid HSZL.out
      have g0 := (HK3L.out).cell G0.out (fun h => h)
      have g1 := (HK3L.out).cell G1.out (fun h => h)
      have g2 := (HK3L.out).cell G2.out (fun h => h)
      have g3 := (HK3L.out).cell G3.out (fun h => h)
      go_loopw [27] (fun i wr => ∃ (k : Nat) (v : Value), k ≤ ps.length ∧ i = .int .i64 k ∧ wr.heap[w3.heap.size + 1]? = some (.cells #[.int .i64 ver, v, .slice none 0 0, .slice none 0 0] 26 (0, 0)) ∧ wr.ownsRow WL.heap.size 39 4 v k (((ps.map noSteps).take k).flatMap prCells) ∧ Kept (fun b => b = w3.heap.size + 1) WL wr) (fun i _ => ps.length - (intOf i).toNat)
      case atStart => exact ⟨0, .slice none 0 0, Nat.zero_le _, rfl, BB.out, World.ownsRow_nil _ _ _ _, Kept.refl _ _⟩
      case round =>
        obtain ⟨k, v, hk, rfl, hB, hO, hK⟩ := hrel
        obtain ⟨A5, c5, rfl⟩ := own_slice hO
        have HB := Lib.hid hB
        have HOW := Lib.hid hO
        have HKR := Lib.hid hK
        have hzz := hK.size
        have hn3 : w3.heap.size + 1 < wr.heap.size := Nat.lt_of_lt_of_le hzb hzz
        have HKN := Lib.hid (show Kept Nil w3 wr from HKL.out.trans hK (fun i hi => .inr (by omega)))
        have bx1 : wr.cell? ⟨w3.heap.size + 1, 1, none⟩ = some (.slice A5 k c5) := by rw [cell_of hB]; rfl
        have bf1 : wr.frozen? ⟨w3.heap.size + 1, 1, none⟩ = false := frozen_of hB 1
        clear hB hO hK g0 g1 g2 g3
        by_cases hlt : k < ps.length
        · obtain ⟨p, ep⟩ : ∃ v, ps[k]? = some v := ⟨_, List.getElem?_eq_getElem hlt⟩
          obtain ⟨b, off, e1, c0, c1, c2, c3⟩ := (RProcs.nil (HM1.out.nil HK3.out).p HKN.out).at ep
          simp only at e1
          have hbs : b < wr.heap.size := World.block_lt_of_cell? _ _ c0
          have HEP := Lib.hid ep
          clear ep
          subst e1
          go_wp2_with (at_builtin; refine stop_append _ _ _ rfl ?_)
          unfold StopA
          refine wpList_append_own _ rfl _ _ 22 rfl WL.heap.size 39 j0 (.agg #[.string ⟨#[]⟩, .int .i64 0, .slice none 0 0, .slice none 0 0]) 4 72 Try.underlying22 hjnf hy0 hy1 hy2 rfl (by decide) _ _ _ rfl ((HOW.out.alloc _).alloc _) ⟨wr.heap.size + 1, 0, none⟩ 1 1 (prCells (noSteps p)) rfl rfl (by have h9 := cells_new (wr.alloc (.cells #[.string p.name, .int .i64 p.weight, .slice p.va p.vs.length p.vc, .slice none 0 0] 39)) (prCells (noSteps p)) 39; rw [World.size_alloc] at h9; exact h9) (by simp [prCells, Value.oneCell']) (by unfold maxLen; omega) (by omega) (by simp; omega) ?_
          intro r' w5 hown' hgrow _
          obtain ⟨A6, c6, rfl⟩ := own_slice hown'
          have hO5 : w5.ownsRow WL.heap.size 39 4 (.slice A6 (k + 1) c6) (k + 1) (((ps.map noSteps).take (k + 1)).flatMap prCells) := by
            rw [List.take_add_one, List.getElem?_map, HEP.out, Option.map_some, Option.toList_some, List.flatMap_append]
            simpa using hown'
          have hkw : Kept (fun i => WL.heap.size ≤ i) wr w5 := (((Kept.refl (fun i => WL.heap.size ≤ i) wr).alloc (.cells #[.string p.name, .int .i64 p.weight, .slice p.va p.vs.length p.vc, .slice none 0 0] 39)).alloc (.cells (prCells (noSteps p)).toArray 39)).grown hgrow (fun j e => .inl (HOW.out.lt j e).1)
          have hB5 := hkw.heap HB.out (by omega)
          have HB5 := Lib.hid hB5
          have HO5 := Lib.hid hO5
          have HK5 := Lib.hid (show Kept (fun b => b = w3.heap.size + 1) WL w5 from HKR.out.trans hkw (fun i hi => .inr hi))
          have bx5 : w5.cell? ⟨w3.heap.size + 1, 1, none⟩ = some (.slice A5 k c5) := by rw [cell_of hB5]; rfl
          have bf5 : w5.frozen? ⟨w3.heap.size + 1, 1, none⟩ = false := frozen_of hB5 1
          clear hown' hgrow hO5 hkw hB5 bx1 bf1
          go_wp2_with fail
          go_round
          case measure => (simp [intOf] <;> omega)
          exact ⟨k + 1, .slice A6 (k + 1) c6, by omega, by go_num, by rw [heap_set HB5.out]; rfl, ((Kept.refl (fun b => b = w3.heap.size + 1) w5).setCell (.inl rfl) _).own HO5.out (fun j hj e => by have := (HO5.out.lt j hj).1; omega), HK5.out.setCell (.inl rfl) _⟩
        · obtain rfl : k = ps.length := by omega
          have hO6 := HOW.out
          rw [show (ps.map noSteps).take ps.length = ps.map noSteps from List.take_of_length_le (by simp)] at hO6
          obtain ⟨A6, c6, e6, -, hrow, -, -, -⟩ := rowOf_own hO6 prCells_len (by decide)
          rw [List.length_map] at e6
          cases e6
          have HR6 := Lib.hid (RProcs.ofRow hrow)
          clear hO6 hrow
          have hq9 : w3.heap.size < wr.heap.size := by omega
          have hg9 : w.heap.size < wr.heap.size := by omega
          have HKW := Lib.hid (show Kept Nil W1 wr from HK3.out.step HKN.out)
          have g0 := HKW.out.cell G0.out (fun h => h)
          have q0 := HKR.out.cell Q0.out (by simp only; omega)
          have b0 : wr.cell? ⟨w3.heap.size + 1, 0, none⟩ = some (.int .i64 ver) := by rw [cell_of HB.out]; rfl
          have g1 := HKW.out.cell G1.out (fun h => h)
          have q1 := HKR.out.cell Q1.out (by simp only; omega)
          have b1 : wr.cell? ⟨w3.heap.size + 1, 1, none⟩ = some (.slice A5 ps.length c5) := by rw [cell_of HB.out]; rfl
          have g2 := HKW.out.cell G2.out (fun h => h)
          have q2 := HKR.out.cell Q2.out (by simp only; omega)
          have b2 : wr.cell? ⟨w3.heap.size + 1, 2, none⟩ = some (.slice none 0 0) := by rw [cell_of HB.out]; rfl
          have g3 := HKW.out.cell G3.out (fun h => h)
          have q3 := HKR.out.cell Q3.out (by simp only; omega)
          have b3 : wr.cell? ⟨w3.heap.size + 1, 3, none⟩ = some (.slice none 0 0) := by rw [cell_of HB.out]; rfl
          clear bx1 bf1
          go_wp2_with (first | (go_at_call 11; (with_reducible refine (Check_quiet _ ?_ HZ.out HVL.out HRT.out ).mono ?_); exact (HM1.out.nil HKW.out).nil (by repeat (first | exact Kept.refl _ _ | assumption | refine Kept.drew ?_ | refine Kept.drewN ?_ _ | refine Kept.alloc ?_ _ | refine Kept.step ?_ (by assumption))); rintro e w42 ⟨rfl, hk42⟩; obtain ⟨hc42, hf42⟩ := hk42.rules; have hz42 : w3.heap.size + 1 < w42.heap.size := (by have := hk42.size; first | omega | (simp at this; omega)); have hy42 : w3.heap.size < w42.heap.size := (by omega); have hx42 : w.heap.size < w42.heap.size := (by omega); have hv42 : wr.heap.size < w42.heap.size := (by have := hk42.size; first | omega | (simp at this; omega))) | (go_at_call 11; (with_reducible refine (Check_bare A5 c5 _ ?_ HZ.out HVL.out HRT.out ?_).mono ?_); exact (HM1.out.nil HKW.out).nil (by repeat (first | exact Kept.refl _ _ | assumption | refine Kept.drew ?_ | refine Kept.drewN ?_ _ | refine Kept.alloc ?_ _ | refine Kept.step ?_ (by assumption))); exact RProcs.nil HR6.out (by repeat (first | exact Kept.refl _ _ | assumption | refine Kept.drew ?_ | refine Kept.drewN ?_ _ | refine Kept.alloc ?_ _ | refine Kept.step ?_ (by assumption))); rintro e w47 ⟨rfl, hk47⟩; obtain ⟨hc47, hf47⟩ := hk47.rules; have hz47 : w3.heap.size + 1 < w47.heap.size := (by have := hk47.size; first | omega | (simp at this; omega)); have hy47 : w3.heap.size < w47.heap.size := (by omega); have hx47 : w.heap.size < w47.heap.size := (by omega); have hv47 : wr.heap.size < w47.heap.size := (by have := hk47.size; first | omega | (simp at this; omega))) | (go_at_call 11; (with_reducible refine (Check_older _ ?_ HZ.out HVL.out HRT.out ).mono ?_); exact (HM1.out.nil HKW.out).nil (by repeat (first | exact Kept.refl _ _ | assumption | refine Kept.drew ?_ | refine Kept.drewN ?_ _ | refine Kept.alloc ?_ _ | refine Kept.step ?_ (by assumption))); rintro e w53 ⟨rfl, hk53⟩; obtain ⟨hc53, hf53⟩ := hk53.rules; have hz53 : w3.heap.size + 1 < w53.heap.size := (by have := hk53.size; first | omega | (simp at this; omega)); have hy53 : w3.heap.size < w53.heap.size := (by omega); have hx53 : w.heap.size < w53.heap.size := (by omega); have hv53 : wr.heap.size < w53.heap.size := (by have := hk53.size; first | omega | (simp at this; omega))))
          go_ret
          exact ⟨rfl, HK.out.step (HKW.out.step (by repeat (first | exact Kept.refl _ _ | assumption | refine Kept.drew ?_ | refine Kept.drewN ?_ _ | refine Kept.alloc ?_ _ | refine Kept.step ?_ (by assumption))))⟩
    · have f0 : (r.1 != 0) = true := by simp [hr0]
      clear hr0 hrr
      go_wp2_with (go_at_call 11; refine (Check_at w2 (HM1.out.nil HK2.out) HZ.out HVL.out).mono ?_; rintro e w3 ⟨rfl, hk3⟩; rw [HRR.out]; have HK3 := Lib.hid (HK2.out.step hk3); clear hk3)
      go_ret
      exact ⟨rfl, HK.out.step HK3.out⟩
end Go.Proofs.Ytehecolejeonaaa.Mo
