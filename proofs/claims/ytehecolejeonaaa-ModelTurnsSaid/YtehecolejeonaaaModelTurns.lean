/- The walk of the statement ModelTurns. -/
import Derived.Test.YtehecolejeonaaaTurnS
import Derived.Deep.Cut
import Derived.Deep.CutRange
namespace Go.Proofs.Ytehecolejeonaaa.Mo
open Go Go.RowKit Go.Proofs.Ytehecolejeonaaa.Lb
set_option linter.unusedVariables false
set_option linter.unusedSimpArgs false

set_option maxRecDepth 4000 in
set_option maxHeartbeats 32000000 in
theorem ModelTurns_calls (m : Md) (i : Int) (w : World) (hm : RModel w m) (ho : OkM m) (hi : Sc.I64 i) :
    Calls Try.prog 7 #[m.val, .int .i64 i] w fun e w' => e = .returned (.bool true) ∧ Kept Nil w w' := by
  clear hi
  obtain ⟨a, ha⟩ : ∃ a : Nat, bits .and .i64 i 255 = (a : Int) := ⟨(i % 256).toNat, by rw [i64_and255]; omega⟩
  have ha2 : a ≤ 255 := by rw [i64_and255] at ha; omega
  have hfd : ∀ (x y : Int) (w : World), (Instr.field 33 (.agg #[.int .i64 x, .int .i64 y]) 0).run Try.prog w = .ok (.int .i64 x) w := fun _ _ _ => by kernel_rfl
  have HM := Lib.hid hm
  have HO := Lib.hid ho
  have HZ := Lib.hid ho.sz
  obtain ⟨ver, pa, ps, pc, la, ls, lc, ea, es, ec⟩ := m
  clear hm ho
  unfold Md.val
  simp only at *
  obtain ⟨W1, hW⟩ : ∃ W, (w.alloc (.cells #[.int .i64 ver, .slice pa ps.length pc, .slice la ls.length lc, .slice ea es.length ec] 26)) = W := ⟨_, rfl⟩
  have hk : Kept Nil w W1 := by rw [← hW]; exact ((Kept.refl Nil w).alloc _)
  have hsz : W1.heap.size = w.heap.size + 1 := by rw [← hW]; simp
  have hb : W1.heap[w.heap.size]? = some (.cells #[.int .i64 ver, .slice pa ps.length pc, .slice la ls.length lc, .slice ea es.length ec] 26 (0, 0)) := by
    rw [← hW]
    have h9 := heap_new w (.cells #[.int .i64 ver, .slice pa ps.length pc, .slice la ls.length lc, .slice ea es.length ec] 26)
    exact h9
  have G0 := Lib.hid (show W1.cell? ⟨w.heap.size, 0, none⟩ = some (.int .i64 ver) by rw [cell_of hb]; rfl)
  have G1 := Lib.hid (show W1.cell? ⟨w.heap.size, 1, none⟩ = some (.slice pa ps.length pc) by rw [cell_of hb]; rfl)
  have G2 := Lib.hid (show W1.cell? ⟨w.heap.size, 2, none⟩ = some (.slice la ls.length lc) by rw [cell_of hb]; rfl)
  have G3 := Lib.hid (show W1.cell? ⟨w.heap.size, 3, none⟩ = some (.slice ea es.length ec) by rw [cell_of hb]; rfl)
  have GB := Lib.hid hb
  have hzg : w.heap.size < W1.heap.size := by omega
  clear hb
  have HW := Lib.hid hW
  have HK := Lib.hid hk
  have HSZ := Lib.hid hsz
  clear hW hk hsz
  have HM1 := Lib.hid (HM.out.nil HK.out)
  go_enter Try.func7, Try.ntmps7
  go_wp2_with fail
  rw [HW.out]
  refine (alive_is W1).mono ?_
  rintro e w1 ⟨rfl, hk1⟩
  have HK1 := Lib.hid hk1
  have hz1 := hk1.size
  clear hk1
  have g0 := (HK1.out).cell G0.out (fun h => h)
  have g1 := (HK1.out).cell G1.out (fun h => h)
  have g2 := (HK1.out).cell G2.out (fun h => h)
  have g3 := (HK1.out).cell G3.out (fun h => h)
  have hg1 : w.heap.size < w1.heap.size := by omega
  go_wp2_with fail
  refine (Few_at w1 (HM1.out.nil HK1.out)).mono ?_
  rintro e w2 ⟨b, rfl, hbb, hk2⟩
  have HBB := Lib.hid hbb
  have HK2 := Lib.hid (HK1.out.step hk2)
  have hz2 := hk2.size
  have hg2 : w.heap.size < w2.heap.size := by omega
  clear hbb hk2 g0 g1 g2 g3
  have g0 := (HK2.out).cell G0.out (fun h => h)
  have g1 := (HK2.out).cell G1.out (fun h => h)
  have g2 := (HK2.out).cell G2.out (fun h => h)
  have g3 := (HK2.out).cell G3.out (fun h => h)
  cases b with
  | false =>
    go_wp2_with fail
    go_ret
    exact ⟨rfl, HK.out.step HK2.out⟩
  | true =>
    have HF := Lib.hid (HBB.out rfl)
    have hpl := HF.out.pl
    have hll := HF.out.ll
    have hel := HF.out.el
    simp only at hpl hll hel
    have HVL := Lib.hid (show ∀ p ∈ ps, p.vs.length ≤ 100000 from fun p hp => Nat.le_trans (HF.out.vs p hp).1 (by decide))
    obtain ⟨r, hrr⟩ : ∃ r, mdCheck ⟨ver, pa, ps, pc, la, ls, lc, ea, es, ec⟩ = r := ⟨_, rfl⟩
    have HRR := Lib.hid hrr
    by_cases hr0 : r.1 = 0
    · skip
      have hrt := right_of (by rw [hrr]; exact hr0)
      have HE := Lib.hid hrt.ok
      have HRT := Lib.hid hrt
      clear hrt hrr hr0 HRR
      clear r
      go_upto_region 6 with (go_at_call 11; (with_reducible refine (Check_at w2 (HM1.out.nil HK2.out) HZ.out HVL.out).mono ?_); rintro e w3 ⟨rfl, hk3⟩; rw [HE.out]; have HK3 := Lib.hid (HK2.out.step hk3); have hz3 := hk3.size; have hg3 : w.heap.size < w3.heap.size := (by omega); clear hk3 g0 g1 g2 g3; have g0 := HK3.out.cell G0.out (fun h => h); have g1 := HK3.out.cell G1.out (fun h => h); have g2 := HK3.out.cell G2.out (fun h => h); have g3 := HK3.out.cell G3.out (fun h => h))
      by_cases hls : ls.length = 0
      · have f1 : decide (0 < (ls.length : Int)) = false := by simp [hls]
        have f1b : decide (0 < ls.length) = false := by simp [hls]
        clear hls
        by_cases hes : es.length = 0
        · have f2 : decide (0 < (es.length : Int)) = false := by simp [hes]
          have f2b : decide (0 < es.length) = false := by simp [hes]
          clear hes
          go_wp2_with fail
          go_ret
          exact ⟨rfl, HK.out.step (HK3.out.step (by repeat (first | exact Kept.refl _ _ | assumption | refine Kept.drew ?_ | refine Kept.drewN ?_ _ | refine Kept.alloc ?_ _ | refine Kept.step ?_ (by assumption))))⟩
        · have f2 : decide (0 < (es.length : Int)) = true := by simp; omega
          have f2b : decide (0 < es.length) = true := by simp; omega
          have hk0e : es.length ≠ 0 := by omega
          obtain ⟨k, hk⟩ : ∃ k : Nat, Int.tmod (a : Int) (es.length : Int) = (k : Int) := ⟨a % es.length, by rw [Int.tmod_eq_emod_of_nonneg (by omega)]; exact (Int.natCast_emod a es.length).symm⟩
          have hkl : k < es.length := by rw [Int.tmod_eq_emod_of_nonneg (by omega)] at hk; have := Int.emod_lt_of_pos (a : Int) (show (0 : Int) < (es.length : Int) by omega); omega
          have z0 : ((es.length : Int) == 0) = false := beq_eq_false_iff_ne.2 (by omega)
          go_wp2_with (at_builtin; refine stop_append _ _ _ rfl ?_)
          obtain ⟨WL, hW⟩ : ∃ W, (w3.alloc (.cells #[.int .i64 ver, .slice pa ps.length pc, .slice la ls.length lc, .slice ea es.length ec] 26)) = W := ⟨_, rfl⟩
          have hk : Kept Nil w3 WL := by rw [← hW]; exact ((Kept.refl Nil w3).alloc _)
          have hsz : WL.heap.size = w3.heap.size + 1 := by rw [← hW]; simp
          have hb : WL.heap[w3.heap.size]? = some (.cells #[.int .i64 ver, .slice pa ps.length pc, .slice la ls.length lc, .slice ea es.length ec] 26 (0, 0)) := by
            rw [← hW]
            have h9 := heap_new w3 (.cells #[.int .i64 ver, .slice pa ps.length pc, .slice la ls.length lc, .slice ea es.length ec] 26)
            exact h9
          have Q0 := Lib.hid (show WL.cell? ⟨w3.heap.size, 0, none⟩ = some (.int .i64 ver) by rw [cell_of hb]; rfl)
          have Q1 := Lib.hid (show WL.cell? ⟨w3.heap.size, 1, none⟩ = some (.slice pa ps.length pc) by rw [cell_of hb]; rfl)
          have Q2 := Lib.hid (show WL.cell? ⟨w3.heap.size, 2, none⟩ = some (.slice la ls.length lc) by rw [cell_of hb]; rfl)
          have Q3 := Lib.hid (show WL.cell? ⟨w3.heap.size, 3, none⟩ = some (.slice ea es.length ec) by rw [cell_of hb]; rfl)
          have QB := Lib.hid hb
          have hzq : w3.heap.size < WL.heap.size := by omega
          clear hb
          have HWL := Lib.hid hW
          have HKL := Lib.hid hk
          have HSZL := Lib.hid hsz
          clear hW hk hsz
          rw [HWL.out]
          obtain ⟨j0, hjnf, hy0, hy1, hy2⟩ := info_parts infoE
          have HKL1 := Lib.hid (HK3.out.step HKL.out)
          have hzL := HKL.out.size
          unfold StopA
          refine wpList_append_src rfl _ _ 24 rfl (w3.heap.size + 1) 52 j0 (.agg #[.string ⟨#[]⟩, .int .i64 0, .int .i64 0]) 3 32 Try.underlying24 hjnf hy0 hy1 hy2 rfl (by decide) (.slice (some ⟨w3.heap.size + 1, 0, none⟩) 0 0) 0 [] rfl (by have h9 := World.ownsRow_lit (base := WL.heap.size) (e := 52) (size := 3) WL #[] 0 (Nat.le_refl _) (by decide) rfl; rw [HSZL.out] at h9; exact h9) (.slice ea es.length ec) es.length (es.flatMap evCells) rfl (((REvents.nil (HM1.out.nil HKL1.out).e ((Kept.refl Nil WL).alloc _)).rowOf).src evCells_len (by decide) (HO.out.en)) (evCells_one es) (by unfold maxLen; omega) (by omega) (by have := HSZL.out; simp; omega) ?_
          intro v5 w5 hown5 hgrow5
          rw [Nat.zero_add, List.nil_append] at hown5
          obtain ⟨g, cap, e5, -, hgg, hcap, hrow⟩ := rowAt_of_own hown5 evCells_len (by decide) (fun e => hk0e (by rw [e]; rfl))
          subst e5
          have hk5 : Kept Nil WL w5 := ((Kept.refl Nil WL).alloc (.cells #[] 52)).grown hgrow5 (fun j e => .inr (by have h9 : w3.heap.size + 1 = j := (by simpa [Value.ownBlock] using e); have := HSZL.out; omega))
          have HK5 := Lib.hid hk5
          have hz5 := hk5.size
          have hq5 : w3.heap.size < w5.heap.size := by omega
          have hg5 : w.heap.size < w5.heap.size := by omega
          have qf5 : w5.frozen? ⟨w3.heap.size, 3, none⟩ = false := hk5.frozen (p := ⟨w3.heap.size, 3, none⟩) hzq (frozen_of QB.out 3) (fun h => h)
          obtain ⟨o, ek⟩ : ∃ o, es[k]? = some o := ⟨_, List.getElem?_eq_getElem hkl⟩
          have HEK := Lib.hid ek
          have HROW := Lib.hid hrow
          have hgl := hrow.lt
          clear hown5 hgrow5 hk5 hrow g0 g1 g2 g3
          have q0 := (HK5.out).cell Q0.out (fun h => h)
          have q1 := (HK5.out).cell Q1.out (fun h => h)
          have q2 := (HK5.out).cell Q2.out (fun h => h)
          have q3 := (HK5.out).cell Q3.out (fun h => h)
          have HK15 := Lib.hid (HKL1.out.step HK5.out)
          have g0 := (HK15.out).cell G0.out (fun h => h)
          have g1 := (HK15.out).cell G1.out (fun h => h)
          have g2 := (HK15.out).cell G2.out (fun h => h)
          have g3 := (HK15.out).cell G3.out (fun h => h)
          have x0 : w5.cell? ⟨g, k * 3 + 1, none⟩ = some (.int .i64 o.at_) := HROW.out.cell ek (c := 1) (by decide)
          have x1 : w5.frozen? ⟨g, k * 3 + 1, none⟩ = false := HROW.out.frozen _
          clear ek
          go_upto_region 21 with fail
          obtain ⟨W7, hW7⟩ : ∃ W7, (w5.setCell ⟨w3.heap.size, 3, none⟩ (.slice (some ⟨g, 0, none⟩) es.length cap)).setCell ⟨g, k * 3 + 1, none⟩ (.int .i64 (-1)) = W7 := ⟨_, rfl⟩
          rw [hW7]
          have hk56 : Kept (fun b => b = w3.heap.size) w5 (w5.setCell ⟨w3.heap.size, 3, none⟩ (.slice (some ⟨g, 0, none⟩) es.length cap)) := (Kept.refl (fun b => b = w3.heap.size) w5).setCell (.inl rfl) _
          have HROW7 := Lib.hid (show RowAt W7 g 52 3 evCells (es.set k { o with at_ := -1 }) by rw [← hW7]; exact (HROW.out.kept hk56 (by omega)).set evCells_len HEK.out (c := 1) (by decide) rfl)
          have HQW7 := Lib.hid (show W7.heap[w3.heap.size]? = some (.cells #[.int .i64 ver, .slice pa ps.length pc, .slice la ls.length lc, .slice (some ⟨g, 0, none⟩) es.length cap] 26 (0, 0)) by rw [← hW7, heap_set_other (by simp only; omega), heap_set (HK5.out.heap QB.out (fun h => h))]; rfl)
          have HKW7 := Lib.hid (show Kept Nil W1 W7 by rw [← hW7]; exact ((HK15.out.setCell (.inr (by simp only; omega)) _).setCell (.inr (by simp only; omega)) _))
          have HEK7 := Lib.hid (show (es.set k { o with at_ := -1 })[k]? = some ({ o with at_ := -1 } : Ev) by simp [hkl])
          have hz7 : w5.heap.size ≤ W7.heap.size := by rw [← hW7]; simp [World.setCell]
          have hq7 : w3.heap.size < W7.heap.size := by omega
          have hg7 : w.heap.size < W7.heap.size := by omega
          clear hW7 hk56 x0 x1 qf5 g0 g1 g2 g3 q0 q1 q2 q3
          have g0 := (HKW7.out).cell G0.out (fun h => h)
          have g1 := (HKW7.out).cell G1.out (fun h => h)
          have g2 := (HKW7.out).cell G2.out (fun h => h)
          have g3 := (HKW7.out).cell G3.out (fun h => h)
          have q0 : W7.cell? ⟨w3.heap.size, 0, none⟩ = some (.int .i64 ver) := by rw [cell_of HQW7.out]; rfl
          have q1 : W7.cell? ⟨w3.heap.size, 1, none⟩ = some (.slice pa ps.length pc) := by rw [cell_of HQW7.out]; rfl
          have q2 : W7.cell? ⟨w3.heap.size, 2, none⟩ = some (.slice la ls.length lc) := by rw [cell_of HQW7.out]; rfl
          have q3 : W7.cell? ⟨w3.heap.size, 3, none⟩ = some (.slice (some ⟨g, 0, none⟩) es.length cap) := by rw [cell_of HQW7.out]; rfl
          have hwe0 : IntKind.i64.wrap ((ps.length : Int) + (ls.length : Int)) = ((ps.length : Int) + (ls.length : Int)) := by rw [IntKind.wrap_i64]; omega
          have hwe1 : IntKind.i64.wrap (((ps.length : Int) + (ls.length : Int)) + (k : Int)) = (((ps.length : Int) + (ls.length : Int)) + (k : Int)) := by rw [IntKind.wrap_i64]; omega
          have hwe2 : IntKind.i64.wrap ((((ps.length : Int) + (ls.length : Int)) + (k : Int)) + 1) = ((((ps.length : Int) + (ls.length : Int)) + (k : Int)) + 1) := by rw [IntKind.wrap_i64]; omega
          have hfee : ∀ w : World, (binOp .neq 33 (.agg #[.int .i64 23, .int .i64 ((((ps.length : Int) + (ls.length : Int)) + (k : Int)) + 1)]) (.agg #[.int .i64 23, .int .i64 ((((ps.length : Int) + (ls.length : Int)) + (k : Int)) + 1)])).run Try.prog w = .ok (.bool false) w := fun w => by rw [fault_ne]; simp
          go_upto_region 21 with fail
          go_region_held3 (fun w' => w'.cell? ⟨w.heap.size, 0, none⟩ = some (.int .i64 ver) ∧ w'.cell? ⟨w.heap.size, 1, none⟩ = some (.slice pa ps.length pc) ∧ w'.cell? ⟨w.heap.size, 2, none⟩ = some (.slice la ls.length lc) ∧ w'.cell? ⟨w.heap.size, 3, none⟩ = some (.slice ea es.length ec) ∧ w'.cell? ⟨w3.heap.size, 0, none⟩ = some (.int .i64 ver) ∧ w'.cell? ⟨w3.heap.size, 1, none⟩ = some (.slice pa ps.length pc) ∧ w'.cell? ⟨w3.heap.size, 2, none⟩ = some (.slice la ls.length lc) ∧ w'.cell? ⟨w3.heap.size, 3, none⟩ = some (.slice (some ⟨g, 0, none⟩) es.length cap)) (go_keep) (first
            | (go_at_call 11
               with_reducible refine (Check_es (k := k) (e' := { o with at_ := -1 }) (HZ.out.e o (List.mem_of_getElem? HEK.out)) (some ⟨g, 0, none⟩) cap 23 ((ps.length : Int) + (ls.length : Int) + (k : Int) + 1) _ ?_ HZ.out HVL.out ?_ ?_).mono ?_
               · exact (HM1.out.nil HKW7.out).nil (by repeat (first | exact Kept.refl _ _ | assumption | refine Kept.drew ?_ | refine Kept.drewN ?_ _ | refine Kept.alloc ?_ _ | refine Kept.step ?_ (by assumption)))
               · exact REvents.nil (REvents.ofRow HROW7.out.row) (by repeat (first | exact Kept.refl _ _ | assumption | refine Kept.drew ?_ | refine Kept.drewN ?_ _ | refine Kept.alloc ?_ _ | refine Kept.step ?_ (by assumption)))
               · exact event_time HRT.out _ _ HEK.out
               rintro e wce ⟨rfl, hkwce⟩
               have hz : Kept Nil W7 wce := (by repeat (first | exact Kept.refl _ _ | assumption | refine Kept.drew ?_ | refine Kept.drewN ?_ _ | refine Kept.alloc ?_ _ | refine Kept.step ?_ (by assumption)))
               have wce_0 := (HKW7.out.step hz).cell G0.out (fun h => h)
               have wce_1 := (HKW7.out.step hz).cell G1.out (fun h => h)
               have wce_2 := (HKW7.out.step hz).cell G2.out (fun h => h)
               have wce_3 := (HKW7.out.step hz).cell G3.out (fun h => h)
               have wce_q0 : wce.cell? ⟨w3.heap.size, 0, none⟩ = some (.int .i64 ver) := by rw [cell_of (hz.heap HQW7.out (fun h => h))]; rfl
               have wce_q1 : wce.cell? ⟨w3.heap.size, 1, none⟩ = some (.slice pa ps.length pc) := by rw [cell_of (hz.heap HQW7.out (fun h => h))]; rfl
               have wce_q2 : wce.cell? ⟨w3.heap.size, 2, none⟩ = some (.slice la ls.length lc) := by rw [cell_of (hz.heap HQW7.out (fun h => h))]; rfl
               have wce_q3 : wce.cell? ⟨w3.heap.size, 3, none⟩ = some (.slice (some ⟨g, 0, none⟩) es.length cap) := by rw [cell_of (hz.heap HQW7.out (fun h => h))]; rfl
               have r7 := HROW7.out.kept hz (fun h => h)
               have xa : wce.cell? ⟨g, k * 3, none⟩ = some (.string o.to) := r7.cell HEK7.out (c := 0) (by decide)
               have xb : wce.frozen? ⟨g, k * 3, none⟩ = false := r7.frozen _
               have xe : g < wce.heap.size := r7.lt
               have xf : w.heap.size < wce.heap.size := (by have := hz.size; omega)
               have xg : w3.heap.size < wce.heap.size := (by have := hz.size; omega)
               clear r7
               clear hz)
            )
          clear hfee
          have HZE := Lib.hid (show Kept Nil W7 wce from (by repeat (first | exact Kept.refl _ _ | assumption | refine Kept.drew ?_ | refine Kept.drewN ?_ _ | refine Kept.alloc ?_ _ | refine Kept.step ?_ (by assumption))))
          go_upto_region 24 with fail
          obtain ⟨W9, hW9⟩ : ∃ W9, wce.setCell ⟨g, k * 3, none⟩ (.string ⟨#[]⟩) = W9 := ⟨_, rfl⟩
          rw [hW9]
          have hk9 : Kept (fun b => b = g) W7 W9 := by rw [← hW9]; exact ((Kept.refl (fun b => b = g) W7).step HZE.out).setCell (.inl rfl) _
          have HROW9 := Lib.hid (show RowAt W9 g 52 3 evCells (es.set k (⟨⟨#[]⟩, -1, o.value⟩ : Ev)) by
            have r1 := (HROW7.out.kept HZE.out (fun h => h)).set evCells_len HEK7.out (o' := (⟨⟨#[]⟩, -1, o.value⟩ : Ev)) (c := 0) (u := .string ⟨#[]⟩) (by decide) rfl
            rw [List.set_set] at r1
            rw [← hW9]
            exact r1)
          have HQW9 := Lib.hid (hk9.heap HQW7.out (by omega))
          have HKW9 := Lib.hid (HKW7.out.trans hk9 (fun i hi => .inr (by omega)))
          have hz9 := hk9.size
          have hq9 : w3.heap.size < W9.heap.size := by omega
          have hg9 : w.heap.size < W9.heap.size := by omega
          clear hW9 hk9 xa xb g0 g1 g2 g3 q0 q1 q2 q3
          have g0 := (HKW9.out).cell G0.out (fun h => h)
          have g1 := (HKW9.out).cell G1.out (fun h => h)
          have g2 := (HKW9.out).cell G2.out (fun h => h)
          have g3 := (HKW9.out).cell G3.out (fun h => h)
          have q0 : W9.cell? ⟨w3.heap.size, 0, none⟩ = some (.int .i64 ver) := by rw [cell_of HQW9.out]; rfl
          have q1 : W9.cell? ⟨w3.heap.size, 1, none⟩ = some (.slice pa ps.length pc) := by rw [cell_of HQW9.out]; rfl
          have q2 : W9.cell? ⟨w3.heap.size, 2, none⟩ = some (.slice la ls.length lc) := by rw [cell_of HQW9.out]; rfl
          have q3 : W9.cell? ⟨w3.heap.size, 3, none⟩ = some (.slice (some ⟨g, 0, none⟩) es.length cap) := by rw [cell_of HQW9.out]; rfl
          have hwh0 : IntKind.i64.wrap ((ps.length : Int) + (ls.length : Int)) = ((ps.length : Int) + (ls.length : Int)) := by rw [IntKind.wrap_i64]; omega
          have hwh1 : IntKind.i64.wrap (((ps.length : Int) + (ls.length : Int)) + (k : Int)) = (((ps.length : Int) + (ls.length : Int)) + (k : Int)) := by rw [IntKind.wrap_i64]; omega
          have hwh2 : IntKind.i64.wrap ((((ps.length : Int) + (ls.length : Int)) + (k : Int)) + 1) = ((((ps.length : Int) + (ls.length : Int)) + (k : Int)) + 1) := by rw [IntKind.wrap_i64]; omega
          have hfeh : ∀ w : World, (binOp .eql 33 (.agg #[.int .i64 4, .int .i64 ((((ps.length : Int) + (ls.length : Int)) + (k : Int)) + 1)]) (.agg #[.int .i64 4, .int .i64 ((((ps.length : Int) + (ls.length : Int)) + (k : Int)) + 1)])).run Try.prog w = .ok (.bool true) w := fun w => by rw [fault_eq]; simp
          go_upto_region 24 with fail
          go_region_held3 (fun w' => w'.cell? ⟨w.heap.size, 0, none⟩ = some (.int .i64 ver) ∧ w'.cell? ⟨w.heap.size, 1, none⟩ = some (.slice pa ps.length pc) ∧ w'.cell? ⟨w.heap.size, 2, none⟩ = some (.slice la ls.length lc) ∧ w'.cell? ⟨w.heap.size, 3, none⟩ = some (.slice ea es.length ec) ∧ w'.cell? ⟨w3.heap.size, 0, none⟩ = some (.int .i64 ver) ∧ w'.cell? ⟨w3.heap.size, 1, none⟩ = some (.slice pa ps.length pc) ∧ w'.cell? ⟨w3.heap.size, 2, none⟩ = some (.slice la ls.length lc) ∧ w'.cell? ⟨w3.heap.size, 3, none⟩ = some (.slice (some ⟨g, 0, none⟩) es.length cap)) (go_keep) (first
            | (go_at_call 11
               with_reducible refine (Check_es (k := k) (e' := (⟨⟨#[]⟩, -1, o.value⟩ : Ev)) (show (ByteArray.mk #[]).size ≤ maxLen by decide) (some ⟨g, 0, none⟩) cap 4 ((ps.length : Int) + (ls.length : Int) + (k : Int) + 1) _ ?_ HZ.out HVL.out ?_ ?_).mono ?_
               · exact (HM1.out.nil HKW9.out).nil (by repeat (first | exact Kept.refl _ _ | assumption | refine Kept.drew ?_ | refine Kept.drewN ?_ _ | refine Kept.alloc ?_ _ | refine Kept.step ?_ (by assumption)))
               · exact REvents.nil (REvents.ofRow HROW9.out.row) (by repeat (first | exact Kept.refl _ _ | assumption | refine Kept.drew ?_ | refine Kept.drewN ?_ _ | refine Kept.alloc ?_ _ | refine Kept.step ?_ (by assumption)))
               · exact event_nobody HRT.out _ _ HEK.out (-1)
               rintro e wch ⟨rfl, hkwch⟩
               have hz : Kept Nil W9 wch := (by repeat (first | exact Kept.refl _ _ | assumption | refine Kept.drew ?_ | refine Kept.drewN ?_ _ | refine Kept.alloc ?_ _ | refine Kept.step ?_ (by assumption)))
               have wch_0 := (HKW9.out.step hz).cell G0.out (fun h => h)
               have wch_1 := (HKW9.out.step hz).cell G1.out (fun h => h)
               have wch_2 := (HKW9.out.step hz).cell G2.out (fun h => h)
               have wch_3 := (HKW9.out.step hz).cell G3.out (fun h => h)
               have wch_q0 : wch.cell? ⟨w3.heap.size, 0, none⟩ = some (.int .i64 ver) := by rw [cell_of (hz.heap HQW9.out (fun h => h))]; rfl
               have wch_q1 : wch.cell? ⟨w3.heap.size, 1, none⟩ = some (.slice pa ps.length pc) := by rw [cell_of (hz.heap HQW9.out (fun h => h))]; rfl
               have wch_q2 : wch.cell? ⟨w3.heap.size, 2, none⟩ = some (.slice la ls.length lc) := by rw [cell_of (hz.heap HQW9.out (fun h => h))]; rfl
               have wch_q3 : wch.cell? ⟨w3.heap.size, 3, none⟩ = some (.slice (some ⟨g, 0, none⟩) es.length cap) := by rw [cell_of (hz.heap HQW9.out (fun h => h))]; rfl
               clear hz)
            )
          all_goals (try go_wp2_with fail)
          all_goals (go_ret; exact ⟨rfl, HK.out.step (HKW9.out.step (by repeat (first | exact Kept.refl _ _ | assumption | refine Kept.drew ?_ | refine Kept.drewN ?_ _ | refine Kept.alloc ?_ _ | refine Kept.step ?_ (by assumption))))⟩)
      · have f1 : decide (0 < (ls.length : Int)) = true := by simp; omega
        have f1b : decide (0 < ls.length) = true := by simp; omega
        have hk0l : ls.length ≠ 0 := by omega
        obtain ⟨k, hk⟩ : ∃ k : Nat, Int.tmod (a : Int) (ls.length : Int) = (k : Int) := ⟨a % ls.length, by rw [Int.tmod_eq_emod_of_nonneg (by omega)]; exact (Int.natCast_emod a ls.length).symm⟩
        have hkl : k < ls.length := by rw [Int.tmod_eq_emod_of_nonneg (by omega)] at hk; have := Int.emod_lt_of_pos (a : Int) (show (0 : Int) < (ls.length : Int) by omega); omega
        have z0 : ((ls.length : Int) == 0) = false := beq_eq_false_iff_ne.2 (by omega)
        go_wp2_with (at_builtin; refine stop_append _ _ _ rfl ?_)
        obtain ⟨WL, hW⟩ : ∃ W, (w3.alloc (.cells #[.int .i64 ver, .slice pa ps.length pc, .slice la ls.length lc, .slice ea es.length ec] 26)) = W := ⟨_, rfl⟩
        have hk : Kept Nil w3 WL := by rw [← hW]; exact ((Kept.refl Nil w3).alloc _)
        have hsz : WL.heap.size = w3.heap.size + 1 := by rw [← hW]; simp
        have hb : WL.heap[w3.heap.size]? = some (.cells #[.int .i64 ver, .slice pa ps.length pc, .slice la ls.length lc, .slice ea es.length ec] 26 (0, 0)) := by
          rw [← hW]
          have h9 := heap_new w3 (.cells #[.int .i64 ver, .slice pa ps.length pc, .slice la ls.length lc, .slice ea es.length ec] 26)
          exact h9
        have Q0 := Lib.hid (show WL.cell? ⟨w3.heap.size, 0, none⟩ = some (.int .i64 ver) by rw [cell_of hb]; rfl)
        have Q1 := Lib.hid (show WL.cell? ⟨w3.heap.size, 1, none⟩ = some (.slice pa ps.length pc) by rw [cell_of hb]; rfl)
        have Q2 := Lib.hid (show WL.cell? ⟨w3.heap.size, 2, none⟩ = some (.slice la ls.length lc) by rw [cell_of hb]; rfl)
        have Q3 := Lib.hid (show WL.cell? ⟨w3.heap.size, 3, none⟩ = some (.slice ea es.length ec) by rw [cell_of hb]; rfl)
        have QB := Lib.hid hb
        have hzq : w3.heap.size < WL.heap.size := by omega
        clear hb
        have HWL := Lib.hid hW
        have HKL := Lib.hid hk
        have HSZL := Lib.hid hsz
        clear hW hk hsz
        rw [HWL.out]
        obtain ⟨j0, hjnf, hy0, hy1, hy2⟩ := info_parts infoL
        have HKL1 := Lib.hid (HK3.out.step HKL.out)
        have hzL := HKL.out.size
        unfold StopA
        refine wpList_append_src rfl _ _ 23 rfl (w3.heap.size + 1) 50 j0 (.agg #[.string ⟨#[]⟩, .string ⟨#[]⟩, .string ⟨#[]⟩, .int .i64 0, .int .i64 0]) 5 64 Try.underlying23 hjnf hy0 hy1 hy2 rfl (by decide) (.slice (some ⟨w3.heap.size + 1, 0, none⟩) 0 0) 0 [] rfl (by have h9 := World.ownsRow_lit (base := WL.heap.size) (e := 50) (size := 5) WL #[] 0 (Nat.le_refl _) (by decide) rfl; rw [HSZL.out] at h9; exact h9) (.slice la ls.length lc) ls.length (ls.flatMap lkCells) rfl (((RLinks.nil (HM1.out.nil HKL1.out).l ((Kept.refl Nil WL).alloc _)).rowOf).src lkCells_len (by decide) (HO.out.ln)) (lkCells_one ls) (by unfold maxLen; omega) (by omega) (by have := HSZL.out; simp; omega) ?_
        intro v5 w5 hown5 hgrow5
        rw [Nat.zero_add, List.nil_append] at hown5
        obtain ⟨g, cap, e5, -, hgg, hcap, hrow⟩ := rowAt_of_own hown5 lkCells_len (by decide) (fun e => hk0l (by rw [e]; rfl))
        subst e5
        have hk5 : Kept Nil WL w5 := ((Kept.refl Nil WL).alloc (.cells #[] 50)).grown hgrow5 (fun j e => .inr (by have h9 : w3.heap.size + 1 = j := (by simpa [Value.ownBlock] using e); have := HSZL.out; omega))
        have HK5 := Lib.hid hk5
        have hz5 := hk5.size
        have hq5 : w3.heap.size < w5.heap.size := by omega
        have hg5 : w.heap.size < w5.heap.size := by omega
        have qf5 : w5.frozen? ⟨w3.heap.size, 2, none⟩ = false := hk5.frozen (p := ⟨w3.heap.size, 2, none⟩) hzq (frozen_of QB.out 2) (fun h => h)
        obtain ⟨o, ek⟩ : ∃ o, ls[k]? = some o := ⟨_, List.getElem?_eq_getElem hkl⟩
        have HEK := Lib.hid ek
        have HROW := Lib.hid hrow
        have hgl := hrow.lt
        clear hown5 hgrow5 hk5 hrow g0 g1 g2 g3
        have q0 := (HK5.out).cell Q0.out (fun h => h)
        have q1 := (HK5.out).cell Q1.out (fun h => h)
        have q2 := (HK5.out).cell Q2.out (fun h => h)
        have q3 := (HK5.out).cell Q3.out (fun h => h)
        have HK15 := Lib.hid (HKL1.out.step HK5.out)
        have g0 := (HK15.out).cell G0.out (fun h => h)
        have g1 := (HK15.out).cell G1.out (fun h => h)
        have g2 := (HK15.out).cell G2.out (fun h => h)
        have g3 := (HK15.out).cell G3.out (fun h => h)
        have x0 : w5.cell? ⟨g, k * 5 + 3, none⟩ = some (.int .i64 o.delay) := HROW.out.cell ek (c := 3) (by decide)
        have x1 : w5.frozen? ⟨g, k * 5 + 3, none⟩ = false := HROW.out.frozen _
        clear ek
        go_upto_region 11 with fail
        obtain ⟨W7, hW7⟩ : ∃ W7, (w5.setCell ⟨w3.heap.size, 2, none⟩ (.slice (some ⟨g, 0, none⟩) ls.length cap)).setCell ⟨g, k * 5 + 3, none⟩ (.int .i64 0) = W7 := ⟨_, rfl⟩
        rw [hW7]
        have hk56 : Kept (fun b => b = w3.heap.size) w5 (w5.setCell ⟨w3.heap.size, 2, none⟩ (.slice (some ⟨g, 0, none⟩) ls.length cap)) := (Kept.refl (fun b => b = w3.heap.size) w5).setCell (.inl rfl) _
        have HROW7 := Lib.hid (show RowAt W7 g 50 5 lkCells (ls.set k { o with delay := 0 }) by rw [← hW7]; exact (HROW.out.kept hk56 (by omega)).set lkCells_len HEK.out (c := 3) (by decide) rfl)
        have HQW7 := Lib.hid (show W7.heap[w3.heap.size]? = some (.cells #[.int .i64 ver, .slice pa ps.length pc, .slice (some ⟨g, 0, none⟩) ls.length cap, .slice ea es.length ec] 26 (0, 0)) by rw [← hW7, heap_set_other (by simp only; omega), heap_set (HK5.out.heap QB.out (fun h => h))]; rfl)
        have HKW7 := Lib.hid (show Kept Nil W1 W7 by rw [← hW7]; exact ((HK15.out.setCell (.inr (by simp only; omega)) _).setCell (.inr (by simp only; omega)) _))
        have HEK7 := Lib.hid (show (ls.set k { o with delay := 0 })[k]? = some ({ o with delay := 0 } : Lk) by simp [hkl])
        have hz7 : w5.heap.size ≤ W7.heap.size := by rw [← hW7]; simp [World.setCell]
        have hq7 : w3.heap.size < W7.heap.size := by omega
        have hg7 : w.heap.size < W7.heap.size := by omega
        clear hW7 hk56 x0 x1 qf5 g0 g1 g2 g3 q0 q1 q2 q3
        have g0 := (HKW7.out).cell G0.out (fun h => h)
        have g1 := (HKW7.out).cell G1.out (fun h => h)
        have g2 := (HKW7.out).cell G2.out (fun h => h)
        have g3 := (HKW7.out).cell G3.out (fun h => h)
        have q0 : W7.cell? ⟨w3.heap.size, 0, none⟩ = some (.int .i64 ver) := by rw [cell_of HQW7.out]; rfl
        have q1 : W7.cell? ⟨w3.heap.size, 1, none⟩ = some (.slice pa ps.length pc) := by rw [cell_of HQW7.out]; rfl
        have q2 : W7.cell? ⟨w3.heap.size, 2, none⟩ = some (.slice (some ⟨g, 0, none⟩) ls.length cap) := by rw [cell_of HQW7.out]; rfl
        have q3 : W7.cell? ⟨w3.heap.size, 3, none⟩ = some (.slice ea es.length ec) := by rw [cell_of HQW7.out]; rfl
        have hwd0 : IntKind.i64.wrap ((ps.length : Int) + (k : Int)) = ((ps.length : Int) + (k : Int)) := by rw [IntKind.wrap_i64]; omega
        have hwd1 : IntKind.i64.wrap (((ps.length : Int) + (k : Int)) + 1) = (((ps.length : Int) + (k : Int)) + 1) := by rw [IntKind.wrap_i64]; omega
        have hfed : ∀ w : World, (binOp .neq 33 (.agg #[.int .i64 42, .int .i64 (((ps.length : Int) + (k : Int)) + 1)]) (.agg #[.int .i64 42, .int .i64 (((ps.length : Int) + (k : Int)) + 1)])).run Try.prog w = .ok (.bool false) w := fun w => by rw [fault_ne]; simp
        go_upto_region 11 with fail
        go_region_held3 (fun w' => w'.cell? ⟨w.heap.size, 0, none⟩ = some (.int .i64 ver) ∧ w'.cell? ⟨w.heap.size, 1, none⟩ = some (.slice pa ps.length pc) ∧ w'.cell? ⟨w.heap.size, 2, none⟩ = some (.slice la ls.length lc) ∧ w'.cell? ⟨w.heap.size, 3, none⟩ = some (.slice ea es.length ec) ∧ w'.cell? ⟨w3.heap.size, 0, none⟩ = some (.int .i64 ver) ∧ w'.cell? ⟨w3.heap.size, 1, none⟩ = some (.slice pa ps.length pc) ∧ w'.cell? ⟨w3.heap.size, 2, none⟩ = some (.slice (some ⟨g, 0, none⟩) ls.length cap) ∧ w'.cell? ⟨w3.heap.size, 3, none⟩ = some (.slice ea es.length ec)) (go_keep) (first
          | (go_at_call 11
             with_reducible refine (Check_ls (l' := { o with delay := 0 }) HEK.out rfl rfl rfl (some ⟨g, 0, none⟩) cap 42 ((ps.length : Int) + (k : Int) + 1) _ ?_ HZ.out HVL.out ?_ ?_).mono ?_
             · exact (HM1.out.nil HKW7.out).nil (by repeat (first | exact Kept.refl _ _ | assumption | refine Kept.drew ?_ | refine Kept.drewN ?_ _ | refine Kept.alloc ?_ _ | refine Kept.step ?_ (by assumption)))
             · exact RLinks.nil (RLinks.ofRow HROW7.out.row) (by repeat (first | exact Kept.refl _ _ | assumption | refine Kept.drew ?_ | refine Kept.drewN ?_ _ | refine Kept.alloc ?_ _ | refine Kept.step ?_ (by assumption)))
             · exact link_delay HRT.out _ _ HEK.out
             rintro e wcd ⟨rfl, hkwcd⟩
             have hz : Kept Nil W7 wcd := (by repeat (first | exact Kept.refl _ _ | assumption | refine Kept.drew ?_ | refine Kept.drewN ?_ _ | refine Kept.alloc ?_ _ | refine Kept.step ?_ (by assumption)))
             have wcd_0 := (HKW7.out.step hz).cell G0.out (fun h => h)
             have wcd_1 := (HKW7.out.step hz).cell G1.out (fun h => h)
             have wcd_2 := (HKW7.out.step hz).cell G2.out (fun h => h)
             have wcd_3 := (HKW7.out.step hz).cell G3.out (fun h => h)
             have wcd_q0 : wcd.cell? ⟨w3.heap.size, 0, none⟩ = some (.int .i64 ver) := by rw [cell_of (hz.heap HQW7.out (fun h => h))]; rfl
             have wcd_q1 : wcd.cell? ⟨w3.heap.size, 1, none⟩ = some (.slice pa ps.length pc) := by rw [cell_of (hz.heap HQW7.out (fun h => h))]; rfl
             have wcd_q2 : wcd.cell? ⟨w3.heap.size, 2, none⟩ = some (.slice (some ⟨g, 0, none⟩) ls.length cap) := by rw [cell_of (hz.heap HQW7.out (fun h => h))]; rfl
             have wcd_q3 : wcd.cell? ⟨w3.heap.size, 3, none⟩ = some (.slice ea es.length ec) := by rw [cell_of (hz.heap HQW7.out (fun h => h))]; rfl
             have r7 := HROW7.out.kept hz (fun h => h)
             have xa : wcd.cell? ⟨g, k * 5 + 3, none⟩ = some (.int .i64 0) := r7.cell HEK7.out (c := 3) (by decide)
             have xb : wcd.frozen? ⟨g, k * 5 + 3, none⟩ = false := r7.frozen _
             have xc : wcd.cell? ⟨g, k * 5 + 4, none⟩ = some (.int .i64 o.weight) := r7.cell HEK7.out (c := 4) (by decide)
             have xd : wcd.frozen? ⟨g, k * 5 + 4, none⟩ = false := r7.frozen _
             have xe : g < wcd.heap.size := r7.lt
             have xf : w.heap.size < wcd.heap.size := (by have := hz.size; omega)
             have xg : w3.heap.size < wcd.heap.size := (by have := hz.size; omega)
             clear r7
             clear hz)
          )
        clear hfed
        go_upto_region 13 with fail
        have HZD := Lib.hid (show Kept Nil W7 wcd from (by repeat (first | exact Kept.refl _ _ | assumption | refine Kept.drew ?_ | refine Kept.drewN ?_ _ | refine Kept.alloc ?_ _ | refine Kept.step ?_ (by assumption))))
        go_cut [61] from 52 to 61 (fun x wx => Kept (fun b => b = g) W7 wx ∧ RowAt wx g 50 5 lkCells (ls.set k { o with delay := 1, weight := -1 }))
        case first =>
          go_region
          all_goals (go_wp2_with fail)
          go_meet
          have r1 := (HROW7.out.kept HZD.out (fun h => h)).set lkCells_len HEK7.out (o' := { o with delay := 1 }) (c := 3) (u := .int .i64 1) (by decide) rfl
          rw [List.set_set] at r1
          have r2 := r1.set lkCells_len (show (ls.set k { o with delay := 1 })[k]? = some { o with delay := 1 } by simp [hkl]) (o' := { o with delay := 1, weight := -1 }) (c := 4) (u := .int .i64 (-1)) (by decide) rfl
          rw [List.set_set] at r2
          exact ⟨(((((Kept.refl (fun b => b = g) W7).step HZD.out).setCell (.inl rfl) _).setCell (.inl rfl) _).drew), r2.kept ((Kept.refl Nil _).drew) (fun h => h)⟩
        case rest =>
          obtain ⟨hkc, hrow⟩ := hcut
          obtain ⟨W8, hW8⟩ : ∃ x, x = wc := ⟨_, rfl⟩
          subst hW8
          have HQW8 := Lib.hid (hkc.heap HQW7.out (by omega))
          have HROW8 := Lib.hid hrow
          have HKW8 := Lib.hid (HKW7.out.trans hkc (fun i hi => .inr (by omega)))
          have hz8 := hkc.size
          have hq8 : w3.heap.size < W8.heap.size := by omega
          have hg8 : w.heap.size < W8.heap.size := by omega
          clear hkc hrow xa xb xc xd g0 g1 g2 g3 q0 q1 q2 q3
          have g0 := (HKW8.out).cell G0.out (fun h => h)
          have g1 := (HKW8.out).cell G1.out (fun h => h)
          have g2 := (HKW8.out).cell G2.out (fun h => h)
          have g3 := (HKW8.out).cell G3.out (fun h => h)
          have q0 : W8.cell? ⟨w3.heap.size, 0, none⟩ = some (.int .i64 ver) := by rw [cell_of HQW8.out]; rfl
          have q1 : W8.cell? ⟨w3.heap.size, 1, none⟩ = some (.slice pa ps.length pc) := by rw [cell_of HQW8.out]; rfl
          have q2 : W8.cell? ⟨w3.heap.size, 2, none⟩ = some (.slice (some ⟨g, 0, none⟩) ls.length cap) := by rw [cell_of HQW8.out]; rfl
          have q3 : W8.cell? ⟨w3.heap.size, 3, none⟩ = some (.slice ea es.length ec) := by rw [cell_of HQW8.out]; rfl
          have hwf0 : IntKind.i64.wrap ((ps.length : Int) + (k : Int)) = ((ps.length : Int) + (k : Int)) := by rw [IntKind.wrap_i64]; omega
          have hwf1 : IntKind.i64.wrap (((ps.length : Int) + (k : Int)) + 1) = (((ps.length : Int) + (k : Int)) + 1) := by rw [IntKind.wrap_i64]; omega
          have hfef : ∀ w : World, (binOp .neq 33 (.agg #[.int .i64 41, .int .i64 (((ps.length : Int) + (k : Int)) + 1)]) (.agg #[.int .i64 41, .int .i64 (((ps.length : Int) + (k : Int)) + 1)])).run Try.prog w = .ok (.bool false) w := fun w => by rw [fault_ne]; simp
          go_upto_region 14 with fail
          go_region_held3 (fun w' => w'.cell? ⟨w.heap.size, 0, none⟩ = some (.int .i64 ver) ∧ w'.cell? ⟨w.heap.size, 1, none⟩ = some (.slice pa ps.length pc) ∧ w'.cell? ⟨w.heap.size, 2, none⟩ = some (.slice la ls.length lc) ∧ w'.cell? ⟨w.heap.size, 3, none⟩ = some (.slice ea es.length ec) ∧ w'.cell? ⟨w3.heap.size, 0, none⟩ = some (.int .i64 ver) ∧ w'.cell? ⟨w3.heap.size, 1, none⟩ = some (.slice pa ps.length pc) ∧ w'.cell? ⟨w3.heap.size, 2, none⟩ = some (.slice (some ⟨g, 0, none⟩) ls.length cap) ∧ w'.cell? ⟨w3.heap.size, 3, none⟩ = some (.slice ea es.length ec)) (go_keep) (first
            | (go_at_call 11
               with_reducible refine (Check_ls (l' := { o with delay := 1, weight := -1 }) HEK.out rfl rfl rfl (some ⟨g, 0, none⟩) cap 41 ((ps.length : Int) + (k : Int) + 1) _ ?_ HZ.out HVL.out ?_ ?_).mono ?_
               · exact (HM1.out.nil HKW8.out).nil (by repeat (first | exact Kept.refl _ _ | assumption | refine Kept.drew ?_ | refine Kept.drewN ?_ _ | refine Kept.alloc ?_ _ | refine Kept.step ?_ (by assumption)))
               · exact RLinks.nil (RLinks.ofRow HROW8.out.row) (by repeat (first | exact Kept.refl _ _ | assumption | refine Kept.drew ?_ | refine Kept.drewN ?_ _ | refine Kept.alloc ?_ _ | refine Kept.step ?_ (by assumption)))
               · exact link_weight HRT.out _ _ HEK.out
               rintro e wcf ⟨rfl, hkwcf⟩
               have hz : Kept Nil W8 wcf := (by repeat (first | exact Kept.refl _ _ | assumption | refine Kept.drew ?_ | refine Kept.drewN ?_ _ | refine Kept.alloc ?_ _ | refine Kept.step ?_ (by assumption)))
               have wcf_0 := (HKW8.out.step hz).cell G0.out (fun h => h)
               have wcf_1 := (HKW8.out.step hz).cell G1.out (fun h => h)
               have wcf_2 := (HKW8.out.step hz).cell G2.out (fun h => h)
               have wcf_3 := (HKW8.out.step hz).cell G3.out (fun h => h)
               have wcf_q0 : wcf.cell? ⟨w3.heap.size, 0, none⟩ = some (.int .i64 ver) := by rw [cell_of (hz.heap HQW8.out (fun h => h))]; rfl
               have wcf_q1 : wcf.cell? ⟨w3.heap.size, 1, none⟩ = some (.slice pa ps.length pc) := by rw [cell_of (hz.heap HQW8.out (fun h => h))]; rfl
               have wcf_q2 : wcf.cell? ⟨w3.heap.size, 2, none⟩ = some (.slice (some ⟨g, 0, none⟩) ls.length cap) := by rw [cell_of (hz.heap HQW8.out (fun h => h))]; rfl
               have wcf_q3 : wcf.cell? ⟨w3.heap.size, 3, none⟩ = some (.slice ea es.length ec) := by rw [cell_of (hz.heap HQW8.out (fun h => h))]; rfl
               have xf : w.heap.size < wcf.heap.size := (by have := hz.size; omega)
               clear hz)
            )
          have HKT := Lib.hid (show Kept Nil W1 wcf from HKW8.out.step (by repeat (first | exact Kept.refl _ _ | assumption | refine Kept.drew ?_ | refine Kept.drewN ?_ _ | refine Kept.alloc ?_ _ | refine Kept.step ?_ (by assumption))))
          clear hfef
          go_upto_region 16 with fail
          have hz3 := HKT.out.size
          have hg3 : w.heap.size < wcf.heap.size := by omega
          clear hk hkl z0 f1 f1b hwd0 hwd1 hwf0 hwf1
          by_cases hes : es.length = 0
          · have f2 : decide (0 < (es.length : Int)) = false := by simp [hes]
            have f2b : decide (0 < es.length) = false := by simp [hes]
            clear hes
            go_wp2_with fail
            go_ret
            exact ⟨rfl, HK.out.step (HKT.out.step (by repeat (first | exact Kept.refl _ _ | assumption | refine Kept.drew ?_ | refine Kept.drewN ?_ _ | refine Kept.alloc ?_ _ | refine Kept.step ?_ (by assumption))))⟩
          · have f2 : decide (0 < (es.length : Int)) = true := by simp; omega
            have f2b : decide (0 < es.length) = true := by simp; omega
            have hk0e : es.length ≠ 0 := by omega
            obtain ⟨k, hk⟩ : ∃ k : Nat, Int.tmod (a : Int) (es.length : Int) = (k : Int) := ⟨a % es.length, by rw [Int.tmod_eq_emod_of_nonneg (by omega)]; exact (Int.natCast_emod a es.length).symm⟩
            have hkl : k < es.length := by rw [Int.tmod_eq_emod_of_nonneg (by omega)] at hk; have := Int.emod_lt_of_pos (a : Int) (show (0 : Int) < (es.length : Int) by omega); omega
            have z0 : ((es.length : Int) == 0) = false := beq_eq_false_iff_ne.2 (by omega)
            go_wp2_with (at_builtin; refine stop_append _ _ _ rfl ?_)
            obtain ⟨WL, hW⟩ : ∃ W, (wcf.alloc (.cells #[.int .i64 ver, .slice pa ps.length pc, .slice la ls.length lc, .slice ea es.length ec] 26)) = W := ⟨_, rfl⟩
            have hk : Kept Nil wcf WL := by rw [← hW]; exact ((Kept.refl Nil wcf).alloc _)
            have hsz : WL.heap.size = wcf.heap.size + 1 := by rw [← hW]; simp
            have hb : WL.heap[wcf.heap.size]? = some (.cells #[.int .i64 ver, .slice pa ps.length pc, .slice la ls.length lc, .slice ea es.length ec] 26 (0, 0)) := by
              rw [← hW]
              have h9 := heap_new wcf (.cells #[.int .i64 ver, .slice pa ps.length pc, .slice la ls.length lc, .slice ea es.length ec] 26)
              exact h9
            have Q0 := Lib.hid (show WL.cell? ⟨wcf.heap.size, 0, none⟩ = some (.int .i64 ver) by rw [cell_of hb]; rfl)
            have Q1 := Lib.hid (show WL.cell? ⟨wcf.heap.size, 1, none⟩ = some (.slice pa ps.length pc) by rw [cell_of hb]; rfl)
            have Q2 := Lib.hid (show WL.cell? ⟨wcf.heap.size, 2, none⟩ = some (.slice la ls.length lc) by rw [cell_of hb]; rfl)
            have Q3 := Lib.hid (show WL.cell? ⟨wcf.heap.size, 3, none⟩ = some (.slice ea es.length ec) by rw [cell_of hb]; rfl)
            have QB := Lib.hid hb
            have hzq : wcf.heap.size < WL.heap.size := by omega
            clear hb
            have HWL := Lib.hid hW
            have HKL := Lib.hid hk
            have HSZL := Lib.hid hsz
            clear hW hk hsz
            rw [HWL.out]
            obtain ⟨j0, hjnf, hy0, hy1, hy2⟩ := info_parts infoE
            have HKL1 := Lib.hid (HKT.out.step HKL.out)
            have hzL := HKL.out.size
            unfold StopA
            refine wpList_append_src rfl _ _ 24 rfl (wcf.heap.size + 1) 52 j0 (.agg #[.string ⟨#[]⟩, .int .i64 0, .int .i64 0]) 3 32 Try.underlying24 hjnf hy0 hy1 hy2 rfl (by decide) (.slice (some ⟨wcf.heap.size + 1, 0, none⟩) 0 0) 0 [] rfl (by have h9 := World.ownsRow_lit (base := WL.heap.size) (e := 52) (size := 3) WL #[] 0 (Nat.le_refl _) (by decide) rfl; rw [HSZL.out] at h9; exact h9) (.slice ea es.length ec) es.length (es.flatMap evCells) rfl (((REvents.nil (HM1.out.nil HKL1.out).e ((Kept.refl Nil WL).alloc _)).rowOf).src evCells_len (by decide) (HO.out.en)) (evCells_one es) (by unfold maxLen; omega) (by omega) (by have := HSZL.out; simp; omega) ?_
            intro v5 w5 hown5 hgrow5
            rw [Nat.zero_add, List.nil_append] at hown5
            obtain ⟨g, cap, e5, -, hgg, hcap, hrow⟩ := rowAt_of_own hown5 evCells_len (by decide) (fun e => hk0e (by rw [e]; rfl))
            subst e5
            have hk5 : Kept Nil WL w5 := ((Kept.refl Nil WL).alloc (.cells #[] 52)).grown hgrow5 (fun j e => .inr (by have h9 : wcf.heap.size + 1 = j := (by simpa [Value.ownBlock] using e); have := HSZL.out; omega))
            have HK5 := Lib.hid hk5
            have hz5 := hk5.size
            have hq5 : wcf.heap.size < w5.heap.size := by omega
            have hg5 : w.heap.size < w5.heap.size := by omega
            have qf5 : w5.frozen? ⟨wcf.heap.size, 3, none⟩ = false := hk5.frozen (p := ⟨wcf.heap.size, 3, none⟩) hzq (frozen_of QB.out 3) (fun h => h)
            obtain ⟨o, ek⟩ : ∃ o, es[k]? = some o := ⟨_, List.getElem?_eq_getElem hkl⟩
            have HEK := Lib.hid ek
            have HROW := Lib.hid hrow
            have hgl := hrow.lt
            clear hown5 hgrow5 hk5 hrow g0 g1 g2 g3
            have q0 := (HK5.out).cell Q0.out (fun h => h)
            have q1 := (HK5.out).cell Q1.out (fun h => h)
            have q2 := (HK5.out).cell Q2.out (fun h => h)
            have q3 := (HK5.out).cell Q3.out (fun h => h)
            have HK15 := Lib.hid (HKL1.out.step HK5.out)
            have g0 := (HK15.out).cell G0.out (fun h => h)
            have g1 := (HK15.out).cell G1.out (fun h => h)
            have g2 := (HK15.out).cell G2.out (fun h => h)
            have g3 := (HK15.out).cell G3.out (fun h => h)
            have x0 : w5.cell? ⟨g, k * 3 + 1, none⟩ = some (.int .i64 o.at_) := HROW.out.cell ek (c := 1) (by decide)
            have x1 : w5.frozen? ⟨g, k * 3 + 1, none⟩ = false := HROW.out.frozen _
            clear ek
            go_upto_region 21 with fail
            obtain ⟨W7, hW7⟩ : ∃ W7, (w5.setCell ⟨wcf.heap.size, 3, none⟩ (.slice (some ⟨g, 0, none⟩) es.length cap)).setCell ⟨g, k * 3 + 1, none⟩ (.int .i64 (-1)) = W7 := ⟨_, rfl⟩
            rw [hW7]
            have hk56 : Kept (fun b => b = wcf.heap.size) w5 (w5.setCell ⟨wcf.heap.size, 3, none⟩ (.slice (some ⟨g, 0, none⟩) es.length cap)) := (Kept.refl (fun b => b = wcf.heap.size) w5).setCell (.inl rfl) _
            have HROW7 := Lib.hid (show RowAt W7 g 52 3 evCells (es.set k { o with at_ := -1 }) by rw [← hW7]; exact (HROW.out.kept hk56 (by omega)).set evCells_len HEK.out (c := 1) (by decide) rfl)
            have HQW7 := Lib.hid (show W7.heap[wcf.heap.size]? = some (.cells #[.int .i64 ver, .slice pa ps.length pc, .slice la ls.length lc, .slice (some ⟨g, 0, none⟩) es.length cap] 26 (0, 0)) by rw [← hW7, heap_set_other (by simp only; omega), heap_set (HK5.out.heap QB.out (fun h => h))]; rfl)
            have HKW7 := Lib.hid (show Kept Nil W1 W7 by rw [← hW7]; exact ((HK15.out.setCell (.inr (by simp only; omega)) _).setCell (.inr (by simp only; omega)) _))
            have HEK7 := Lib.hid (show (es.set k { o with at_ := -1 })[k]? = some ({ o with at_ := -1 } : Ev) by simp [hkl])
            have hz7 : w5.heap.size ≤ W7.heap.size := by rw [← hW7]; simp [World.setCell]
            have hq7 : wcf.heap.size < W7.heap.size := by omega
            have hg7 : w.heap.size < W7.heap.size := by omega
            clear hW7 hk56 x0 x1 qf5 g0 g1 g2 g3 q0 q1 q2 q3
            have g0 := (HKW7.out).cell G0.out (fun h => h)
            have g1 := (HKW7.out).cell G1.out (fun h => h)
            have g2 := (HKW7.out).cell G2.out (fun h => h)
            have g3 := (HKW7.out).cell G3.out (fun h => h)
            have q0 : W7.cell? ⟨wcf.heap.size, 0, none⟩ = some (.int .i64 ver) := by rw [cell_of HQW7.out]; rfl
            have q1 : W7.cell? ⟨wcf.heap.size, 1, none⟩ = some (.slice pa ps.length pc) := by rw [cell_of HQW7.out]; rfl
            have q2 : W7.cell? ⟨wcf.heap.size, 2, none⟩ = some (.slice la ls.length lc) := by rw [cell_of HQW7.out]; rfl
            have q3 : W7.cell? ⟨wcf.heap.size, 3, none⟩ = some (.slice (some ⟨g, 0, none⟩) es.length cap) := by rw [cell_of HQW7.out]; rfl
            have hwe0 : IntKind.i64.wrap ((ps.length : Int) + (ls.length : Int)) = ((ps.length : Int) + (ls.length : Int)) := by rw [IntKind.wrap_i64]; omega
            have hwe1 : IntKind.i64.wrap (((ps.length : Int) + (ls.length : Int)) + (k : Int)) = (((ps.length : Int) + (ls.length : Int)) + (k : Int)) := by rw [IntKind.wrap_i64]; omega
            have hwe2 : IntKind.i64.wrap ((((ps.length : Int) + (ls.length : Int)) + (k : Int)) + 1) = ((((ps.length : Int) + (ls.length : Int)) + (k : Int)) + 1) := by rw [IntKind.wrap_i64]; omega
            have hfee : ∀ w : World, (binOp .neq 33 (.agg #[.int .i64 23, .int .i64 ((((ps.length : Int) + (ls.length : Int)) + (k : Int)) + 1)]) (.agg #[.int .i64 23, .int .i64 ((((ps.length : Int) + (ls.length : Int)) + (k : Int)) + 1)])).run Try.prog w = .ok (.bool false) w := fun w => by rw [fault_ne]; simp
            go_upto_region 21 with fail
            go_region_held3 (fun w' => w'.cell? ⟨w.heap.size, 0, none⟩ = some (.int .i64 ver) ∧ w'.cell? ⟨w.heap.size, 1, none⟩ = some (.slice pa ps.length pc) ∧ w'.cell? ⟨w.heap.size, 2, none⟩ = some (.slice la ls.length lc) ∧ w'.cell? ⟨w.heap.size, 3, none⟩ = some (.slice ea es.length ec) ∧ w'.cell? ⟨wcf.heap.size, 0, none⟩ = some (.int .i64 ver) ∧ w'.cell? ⟨wcf.heap.size, 1, none⟩ = some (.slice pa ps.length pc) ∧ w'.cell? ⟨wcf.heap.size, 2, none⟩ = some (.slice la ls.length lc) ∧ w'.cell? ⟨wcf.heap.size, 3, none⟩ = some (.slice (some ⟨g, 0, none⟩) es.length cap)) (go_keep) (first
              | (go_at_call 11
                 with_reducible refine (Check_es (k := k) (e' := { o with at_ := -1 }) (HZ.out.e o (List.mem_of_getElem? HEK.out)) (some ⟨g, 0, none⟩) cap 23 ((ps.length : Int) + (ls.length : Int) + (k : Int) + 1) _ ?_ HZ.out HVL.out ?_ ?_).mono ?_
                 · exact (HM1.out.nil HKW7.out).nil (by repeat (first | exact Kept.refl _ _ | assumption | refine Kept.drew ?_ | refine Kept.drewN ?_ _ | refine Kept.alloc ?_ _ | refine Kept.step ?_ (by assumption)))
                 · exact REvents.nil (REvents.ofRow HROW7.out.row) (by repeat (first | exact Kept.refl _ _ | assumption | refine Kept.drew ?_ | refine Kept.drewN ?_ _ | refine Kept.alloc ?_ _ | refine Kept.step ?_ (by assumption)))
                 · exact event_time HRT.out _ _ HEK.out
                 rintro e wce ⟨rfl, hkwce⟩
                 have hz : Kept Nil W7 wce := (by repeat (first | exact Kept.refl _ _ | assumption | refine Kept.drew ?_ | refine Kept.drewN ?_ _ | refine Kept.alloc ?_ _ | refine Kept.step ?_ (by assumption)))
                 have wce_0 := (HKW7.out.step hz).cell G0.out (fun h => h)
                 have wce_1 := (HKW7.out.step hz).cell G1.out (fun h => h)
                 have wce_2 := (HKW7.out.step hz).cell G2.out (fun h => h)
                 have wce_3 := (HKW7.out.step hz).cell G3.out (fun h => h)
                 have wce_q0 : wce.cell? ⟨wcf.heap.size, 0, none⟩ = some (.int .i64 ver) := by rw [cell_of (hz.heap HQW7.out (fun h => h))]; rfl
                 have wce_q1 : wce.cell? ⟨wcf.heap.size, 1, none⟩ = some (.slice pa ps.length pc) := by rw [cell_of (hz.heap HQW7.out (fun h => h))]; rfl
                 have wce_q2 : wce.cell? ⟨wcf.heap.size, 2, none⟩ = some (.slice la ls.length lc) := by rw [cell_of (hz.heap HQW7.out (fun h => h))]; rfl
                 have wce_q3 : wce.cell? ⟨wcf.heap.size, 3, none⟩ = some (.slice (some ⟨g, 0, none⟩) es.length cap) := by rw [cell_of (hz.heap HQW7.out (fun h => h))]; rfl
                 have r7 := HROW7.out.kept hz (fun h => h)
                 have xa : wce.cell? ⟨g, k * 3, none⟩ = some (.string o.to) := r7.cell HEK7.out (c := 0) (by decide)
                 have xb : wce.frozen? ⟨g, k * 3, none⟩ = false := r7.frozen _
                 have xe : g < wce.heap.size := r7.lt
                 have xf : w.heap.size < wce.heap.size := (by have := hz.size; omega)
                 have xg : wcf.heap.size < wce.heap.size := (by have := hz.size; omega)
                 clear r7
                 clear hz)
              )
            clear hfee
            have HZE := Lib.hid (show Kept Nil W7 wce from (by repeat (first | exact Kept.refl _ _ | assumption | refine Kept.drew ?_ | refine Kept.drewN ?_ _ | refine Kept.alloc ?_ _ | refine Kept.step ?_ (by assumption))))
            go_upto_region 24 with fail
            obtain ⟨W9, hW9⟩ : ∃ W9, wce.setCell ⟨g, k * 3, none⟩ (.string ⟨#[]⟩) = W9 := ⟨_, rfl⟩
            rw [hW9]
            have hk9 : Kept (fun b => b = g) W7 W9 := by rw [← hW9]; exact ((Kept.refl (fun b => b = g) W7).step HZE.out).setCell (.inl rfl) _
            have HROW9 := Lib.hid (show RowAt W9 g 52 3 evCells (es.set k (⟨⟨#[]⟩, -1, o.value⟩ : Ev)) by
              have r1 := (HROW7.out.kept HZE.out (fun h => h)).set evCells_len HEK7.out (o' := (⟨⟨#[]⟩, -1, o.value⟩ : Ev)) (c := 0) (u := .string ⟨#[]⟩) (by decide) rfl
              rw [List.set_set] at r1
              rw [← hW9]
              exact r1)
            have HQW9 := Lib.hid (hk9.heap HQW7.out (by omega))
            have HKW9 := Lib.hid (HKW7.out.trans hk9 (fun i hi => .inr (by omega)))
            have hz9 := hk9.size
            have hq9 : wcf.heap.size < W9.heap.size := by omega
            have hg9 : w.heap.size < W9.heap.size := by omega
            clear hW9 hk9 xa xb g0 g1 g2 g3 q0 q1 q2 q3
            have g0 := (HKW9.out).cell G0.out (fun h => h)
            have g1 := (HKW9.out).cell G1.out (fun h => h)
            have g2 := (HKW9.out).cell G2.out (fun h => h)
            have g3 := (HKW9.out).cell G3.out (fun h => h)
            have q0 : W9.cell? ⟨wcf.heap.size, 0, none⟩ = some (.int .i64 ver) := by rw [cell_of HQW9.out]; rfl
            have q1 : W9.cell? ⟨wcf.heap.size, 1, none⟩ = some (.slice pa ps.length pc) := by rw [cell_of HQW9.out]; rfl
            have q2 : W9.cell? ⟨wcf.heap.size, 2, none⟩ = some (.slice la ls.length lc) := by rw [cell_of HQW9.out]; rfl
            have q3 : W9.cell? ⟨wcf.heap.size, 3, none⟩ = some (.slice (some ⟨g, 0, none⟩) es.length cap) := by rw [cell_of HQW9.out]; rfl
            have hwh0 : IntKind.i64.wrap ((ps.length : Int) + (ls.length : Int)) = ((ps.length : Int) + (ls.length : Int)) := by rw [IntKind.wrap_i64]; omega
            have hwh1 : IntKind.i64.wrap (((ps.length : Int) + (ls.length : Int)) + (k : Int)) = (((ps.length : Int) + (ls.length : Int)) + (k : Int)) := by rw [IntKind.wrap_i64]; omega
            have hwh2 : IntKind.i64.wrap ((((ps.length : Int) + (ls.length : Int)) + (k : Int)) + 1) = ((((ps.length : Int) + (ls.length : Int)) + (k : Int)) + 1) := by rw [IntKind.wrap_i64]; omega
            have hfeh : ∀ w : World, (binOp .eql 33 (.agg #[.int .i64 4, .int .i64 ((((ps.length : Int) + (ls.length : Int)) + (k : Int)) + 1)]) (.agg #[.int .i64 4, .int .i64 ((((ps.length : Int) + (ls.length : Int)) + (k : Int)) + 1)])).run Try.prog w = .ok (.bool true) w := fun w => by rw [fault_eq]; simp
            go_upto_region 24 with fail
            go_region_held3 (fun w' => w'.cell? ⟨w.heap.size, 0, none⟩ = some (.int .i64 ver) ∧ w'.cell? ⟨w.heap.size, 1, none⟩ = some (.slice pa ps.length pc) ∧ w'.cell? ⟨w.heap.size, 2, none⟩ = some (.slice la ls.length lc) ∧ w'.cell? ⟨w.heap.size, 3, none⟩ = some (.slice ea es.length ec) ∧ w'.cell? ⟨wcf.heap.size, 0, none⟩ = some (.int .i64 ver) ∧ w'.cell? ⟨wcf.heap.size, 1, none⟩ = some (.slice pa ps.length pc) ∧ w'.cell? ⟨wcf.heap.size, 2, none⟩ = some (.slice la ls.length lc) ∧ w'.cell? ⟨wcf.heap.size, 3, none⟩ = some (.slice (some ⟨g, 0, none⟩) es.length cap)) (go_keep) (first
              | (go_at_call 11
                 with_reducible refine (Check_es (k := k) (e' := (⟨⟨#[]⟩, -1, o.value⟩ : Ev)) (show (ByteArray.mk #[]).size ≤ maxLen by decide) (some ⟨g, 0, none⟩) cap 4 ((ps.length : Int) + (ls.length : Int) + (k : Int) + 1) _ ?_ HZ.out HVL.out ?_ ?_).mono ?_
                 · exact (HM1.out.nil HKW9.out).nil (by repeat (first | exact Kept.refl _ _ | assumption | refine Kept.drew ?_ | refine Kept.drewN ?_ _ | refine Kept.alloc ?_ _ | refine Kept.step ?_ (by assumption)))
                 · exact REvents.nil (REvents.ofRow HROW9.out.row) (by repeat (first | exact Kept.refl _ _ | assumption | refine Kept.drew ?_ | refine Kept.drewN ?_ _ | refine Kept.alloc ?_ _ | refine Kept.step ?_ (by assumption)))
                 · exact event_nobody HRT.out _ _ HEK.out (-1)
                 rintro e wch ⟨rfl, hkwch⟩
                 have hz : Kept Nil W9 wch := (by repeat (first | exact Kept.refl _ _ | assumption | refine Kept.drew ?_ | refine Kept.drewN ?_ _ | refine Kept.alloc ?_ _ | refine Kept.step ?_ (by assumption)))
                 have wch_0 := (HKW9.out.step hz).cell G0.out (fun h => h)
                 have wch_1 := (HKW9.out.step hz).cell G1.out (fun h => h)
                 have wch_2 := (HKW9.out.step hz).cell G2.out (fun h => h)
                 have wch_3 := (HKW9.out.step hz).cell G3.out (fun h => h)
                 have wch_q0 : wch.cell? ⟨wcf.heap.size, 0, none⟩ = some (.int .i64 ver) := by rw [cell_of (hz.heap HQW9.out (fun h => h))]; rfl
                 have wch_q1 : wch.cell? ⟨wcf.heap.size, 1, none⟩ = some (.slice pa ps.length pc) := by rw [cell_of (hz.heap HQW9.out (fun h => h))]; rfl
                 have wch_q2 : wch.cell? ⟨wcf.heap.size, 2, none⟩ = some (.slice la ls.length lc) := by rw [cell_of (hz.heap HQW9.out (fun h => h))]; rfl
                 have wch_q3 : wch.cell? ⟨wcf.heap.size, 3, none⟩ = some (.slice (some ⟨g, 0, none⟩) es.length cap) := by rw [cell_of (hz.heap HQW9.out (fun h => h))]; rfl
                 clear hz)
              )
            all_goals (try go_wp2_with fail)
            all_goals (go_ret; exact ⟨rfl, HK.out.step (HKW9.out.step (by repeat (first | exact Kept.refl _ _ | assumption | refine Kept.drew ?_ | refine Kept.drewN ?_ _ | refine Kept.alloc ?_ _ | refine Kept.step ?_ (by assumption))))⟩)
    · have f0 : (r.1 != 0) = true := by simp [hr0]
      clear hr0 hrr
      go_wp2_with (go_at_call 11; refine (Check_at w2 (HM1.out.nil HK2.out) HZ.out HVL.out).mono ?_; rintro e w3 ⟨rfl, hk3⟩; rw [HRR.out]; have HK3 := Lib.hid (HK2.out.step hk3); clear hk3)
      go_ret
      exact ⟨rfl, HK.out.step HK3.out⟩
end Go.Proofs.Ytehecolejeonaaa.Mo
