/- The walk of the statement ModelMore. -/
import Derived.Test.YtehecolejeonaaaMoreS
import Derived.Test.YtehecolejeonaaaFaultEq
import Derived.Deep.Cut
import Derived.Deep.CutRange
namespace Go.Proofs.Ytehecolejeonaaa.Mo
open Go Go.RowKit Go.Proofs.Ytehecolejeonaaa.Lb
set_option linter.unusedVariables false
set_option linter.unusedSimpArgs false

set_option maxRecDepth 4000 in
set_option maxHeartbeats 16000000 in
theorem ModelMore_calls (m : Md) (i : Int) (w : World) (hm : RModel w m) (ho : OkM m) (hi : Sc.I64 i) :
    Calls Try.prog 6 #[m.val, .int .i64 i] w fun e w' => e = .returned (.bool true) ∧ Kept Nil w w' := by
  clear hi
  have hfd : ∀ (x y : Int) (w : World), (Instr.field 33 (.agg #[.int .i64 x, .int .i64 y]) 0).run Try.prog w = .ok (.int .i64 x) w := fun _ _ _ => by kernel_rfl
  have HM := Lib.hid hm
  have HO := Lib.hid ho
  have HZ := Lib.hid ho.sz
  obtain ⟨ver, pa, ps, pc, la, ls, lc, ea, es, ec⟩ := m
  clear hm ho
  unfold Md.val
  simp only at *
  obtain ⟨W1, hW⟩ : ∃ W, (w.alloc (.cells #[.int .i64 ver, .slice pa ps.length pc, .slice la ls.length lc, .slice ea es.length ec] 26)) = W := ⟨_, rfl⟩
  have hk : Kept Nil w W1 := by rw [← hW]; exact ((Kept.refl Nil w).alloc _)
  have hsz : W1.heap.size = w.heap.size + 1 := by rw [← hW]; simp
  have hb : W1.heap[w.heap.size]? = some (.cells #[.int .i64 ver, .slice pa ps.length pc, .slice la ls.length lc, .slice ea es.length ec] 26 (0, 0)) := by
    rw [← hW]
    have h9 := heap_new w (.cells #[.int .i64 ver, .slice pa ps.length pc, .slice la ls.length lc, .slice ea es.length ec] 26)
    exact h9
  have G0 := Lib.hid (show W1.cell? ⟨w.heap.size, 0, none⟩ = some (.int .i64 ver) by rw [cell_of hb]; rfl)
  have G1 := Lib.hid (show W1.cell? ⟨w.heap.size, 1, none⟩ = some (.slice pa ps.length pc) by rw [cell_of hb]; rfl)
  have G2 := Lib.hid (show W1.cell? ⟨w.heap.size, 2, none⟩ = some (.slice la ls.length lc) by rw [cell_of hb]; rfl)
  have G3 := Lib.hid (show W1.cell? ⟨w.heap.size, 3, none⟩ = some (.slice ea es.length ec) by rw [cell_of hb]; rfl)
  have GB := Lib.hid hb
  have hzg : w.heap.size < W1.heap.size := by omega
  clear hb
  have HW := Lib.hid hW
  have HK := Lib.hid hk
  have HSZ := Lib.hid hsz
  clear hW hk hsz
  have HM1 := Lib.hid (HM.out.nil HK.out)
  go_enter Try.func6, Try.ntmps6
  go_wp2_with fail
  rw [HW.out]
  refine (alive_is W1).mono ?_
  rintro e w1 ⟨rfl, hk1⟩
  have HK1 := Lib.hid hk1
  have hz1 := hk1.size
  clear hk1
  have g0 := (HK1.out).cell G0.out (fun h => h)
  have g1 := (HK1.out).cell G1.out (fun h => h)
  have g2 := (HK1.out).cell G2.out (fun h => h)
  have g3 := (HK1.out).cell G3.out (fun h => h)
  have hg1 : w.heap.size < w1.heap.size := by omega
  go_wp2_with fail
  refine (Few_at w1 (HM1.out.nil HK1.out)).mono ?_
  rintro e w2 ⟨b, rfl, hbb, hk2⟩
  have HBB := Lib.hid hbb
  have HK2 := Lib.hid (HK1.out.step hk2)
  have hz2 := hk2.size
  have hg2 : w.heap.size < w2.heap.size := by omega
  clear hbb hk2 g0 g1 g2 g3
  have g0 := (HK2.out).cell G0.out (fun h => h)
  have g1 := (HK2.out).cell G1.out (fun h => h)
  have g2 := (HK2.out).cell G2.out (fun h => h)
  have g3 := (HK2.out).cell G3.out (fun h => h)
  cases b with
  | false =>
    go_wp2_with fail
    go_ret
    exact ⟨rfl, HK.out.step HK2.out⟩
  | true =>
    have HF := Lib.hid (HBB.out rfl)
    have hpl := HF.out.pl
    have hll := HF.out.ll
    have hel := HF.out.el
    simp only at hpl hll hel
    have HVL := Lib.hid (show ∀ p ∈ ps, p.vs.length ≤ 100000 from fun p hp => Nat.le_trans (HF.out.vs p hp).1 (by decide))
    obtain ⟨r, hrr⟩ : ∃ r, mdCheck ⟨ver, pa, ps, pc, la, ls, lc, ea, es, ec⟩ = r := ⟨_, rfl⟩
    have HRR := Lib.hid hrr
    by_cases hr0 : r.1 = 0
    · skip
      have hrt := right_of (by rw [hrr]; exact hr0)
      have HE := Lib.hid hrt.ok
      have HRT := Lib.hid hrt
      clear hrt hrr hr0 HRR
      clear r
      go_wp2_with (first | (go_at_call 11; (with_reducible refine (Check_at w2 (HM1.out.nil HK2.out) HZ.out HVL.out).mono ?_); rintro e w3 ⟨rfl, hk3⟩; rw [HE.out]; have HK3 := Lib.hid (HK2.out.step hk3); have hz3 := hk3.size; have hg3 : w.heap.size < w3.heap.size := (by omega); clear hk3 g0 g1 g2 g3; have g0 := HK3.out.cell G0.out (fun h => h); have g1 := HK3.out.cell G1.out (fun h => h); have g2 := HK3.out.cell G2.out (fun h => h); have g3 := HK3.out.cell G3.out (fun h => h)) | (at_builtin; refine stop_append _ _ _ rfl ?_))
      obtain ⟨WL, hW⟩ : ∃ W, (w3.alloc (.cells #[.int .i64 ver, .slice pa ps.length pc, .slice la ls.length lc, .slice ea es.length ec] 26)) = W := ⟨_, rfl⟩
      have hk : Kept Nil w3 WL := by rw [← hW]; exact ((Kept.refl Nil w3).alloc _)
      have hsz : WL.heap.size = w3.heap.size + 1 := by rw [← hW]; simp
      have hb : WL.heap[w3.heap.size]? = some (.cells #[.int .i64 ver, .slice pa ps.length pc, .slice la ls.length lc, .slice ea es.length ec] 26 (0, 0)) := by
        rw [← hW]
        have h9 := heap_new w3 (.cells #[.int .i64 ver, .slice pa ps.length pc, .slice la ls.length lc, .slice ea es.length ec] 26)
        exact h9
      have Q0 := Lib.hid (show WL.cell? ⟨w3.heap.size, 0, none⟩ = some (.int .i64 ver) by rw [cell_of hb]; rfl)
      have Q1 := Lib.hid (show WL.cell? ⟨w3.heap.size, 1, none⟩ = some (.slice pa ps.length pc) by rw [cell_of hb]; rfl)
      have Q2 := Lib.hid (show WL.cell? ⟨w3.heap.size, 2, none⟩ = some (.slice la ls.length lc) by rw [cell_of hb]; rfl)
      have Q3 := Lib.hid (show WL.cell? ⟨w3.heap.size, 3, none⟩ = some (.slice ea es.length ec) by rw [cell_of hb]; rfl)
      have QB := Lib.hid hb
      have hzq : w3.heap.size < WL.heap.size := by omega
      clear hb
      have HWL := Lib.hid hW
      have HKL := Lib.hid hk
      have HSZL := Lib.hid hsz
      clear hW hk hsz
      rw [HWL.out]
      obtain ⟨j0, hjnf, hy0, hy1, hy2⟩ := info_parts infoP
      have HK3L := Lib.hid (HK3.out.step HKL.out)
      have hzL := HKL.out.size
      unfold StopA
      refine wpList_append_src rfl _ _ 22 rfl (w3.heap.size + 1) 39 j0 (.agg #[.string ⟨#[]⟩, .int .i64 0, .slice none 0 0, .slice none 0 0]) 4 72 Try.underlying22 hjnf hy0 hy1 hy2 rfl (by decide) (.slice (some ⟨w3.heap.size + 1, 0, none⟩) 0 0) 0 [] rfl (by have h9 := World.ownsRow_lit (base := WL.heap.size) (e := 39) (size := 4) WL #[] 0 (Nat.le_refl _) (by decide) rfl; rw [HSZL.out] at h9; exact h9) (.slice pa ps.length pc) ps.length (ps.flatMap prCells) rfl (((RProcs.nil (HM1.out.nil HK3L.out).p ((Kept.refl Nil WL).alloc _)).rowOf).src prCells_len (by decide) (HO.out.pn)) (prCells_one ps) (by unfold maxLen; omega) (by omega) (by have := HSZL.out; simp; omega) ?_
      intro v5 w5 hown5 hgrow5
      rw [Nat.zero_add, List.nil_append] at hown5
      obtain ⟨A5, c5, rfl⟩ := own_slice hown5
      have hk5 : Kept Nil WL w5 := ((Kept.refl Nil WL).alloc (.cells #[] 39)).grown hgrow5 (fun j e => .inr (by have h9 : w3.heap.size + 1 = j := (by simpa [Value.ownBlock] using e); have := HSZL.out; omega))
      have HOW5 := Lib.hid hown5
      have HK5 := Lib.hid hk5
      have hz5 := hk5.size
      have hq5 : w3.heap.size < w5.heap.size := by omega
      have hg5 : w.heap.size < w5.heap.size := by omega
      have qf5 : w5.frozen? ⟨w3.heap.size, 1, none⟩ = false := hk5.frozen (p := ⟨w3.heap.size, 1, none⟩) hzq (frozen_of QB.out 1) (fun h => h)
      clear hown5 hgrow5 hk5 g0 g1 g2 g3
      have q0 := (HK5.out).cell Q0.out (fun h => h)
      have q1 := (HK5.out).cell Q1.out (fun h => h)
      have q2 := (HK5.out).cell Q2.out (fun h => h)
      have q3 := (HK5.out).cell Q3.out (fun h => h)
      have HK35 := Lib.hid (HK3L.out.step HK5.out)
      have g0 := (HK35.out).cell G0.out (fun h => h)
      have g1 := (HK35.out).cell G1.out (fun h => h)
      have g2 := (HK35.out).cell G2.out (fun h => h)
      have g3 := (HK35.out).cell G3.out (fun h => h)
      go_wp2_with (at_builtin; refine stop_append _ _ _ rfl ?_)
      unfold StopA
      refine wpList_append_own _ rfl _ _ 22 rfl (w3.heap.size + 1) 39 j0 (.agg #[.string ⟨#[]⟩, .int .i64 0, .slice none 0 0, .slice none 0 0]) 4 72 Try.underlying22 hjnf hy0 hy1 hy2 rfl (by decide) (.slice A5 ps.length c5) ps.length _ rfl (HOW5.out.alloc _) ⟨w5.heap.size, 0, none⟩ 1 1 (prCells (newP freshOne)) rfl rfl (cells_new w5 (prCells (newP freshOne)) 39) (by simp [prCells, newP, Value.oneCell']) (by unfold maxLen; omega) (by omega) (by simp; omega) ?_
      intro v6 w6 hown6 hgrow6 _
      have hown6' : w6.ownsRow (w3.heap.size + 1) 39 4 v6 (ps.length + 1) ((ps ++ [newP freshOne]).flatMap prCells) := by simpa using hown6
      obtain ⟨g, cap, e6, -, hgg, hcap, hrow⟩ := rowAt_of_own hown6' prCells_len (by decide) (by simp)
      simp only [List.length_append, List.length_cons, List.length_nil, Nat.zero_add] at e6
      subst e6
      have hk6 : Kept Nil WL w6 := (HK5.out.alloc (.cells (prCells (newP freshOne)).toArray 39)).grown hgrow6 (fun j e => .inr (by have h9 := (HOW5.out.lt j e).1; have := HSZL.out; omega))
      have HROW := Lib.hid hrow
      have HK6 := Lib.hid hk6
      have hz6 := hk6.size
      have hq6 : w3.heap.size < w6.heap.size := by omega
      have hg6 : w.heap.size < w6.heap.size := by omega
      have qf6 : w6.frozen? ⟨w3.heap.size, 1, none⟩ = false := hk6.frozen (p := ⟨w3.heap.size, 1, none⟩) hzq (frozen_of QB.out 1) (fun h => h)
      clear hown6 hown6' hgrow6 hrow hk6 qf5 g0 g1 g2 g3 q0 q1 q2 q3
      have q0 := (HK6.out).cell Q0.out (fun h => h)
      have q1 := (HK6.out).cell Q1.out (fun h => h)
      have q2 := (HK6.out).cell Q2.out (fun h => h)
      have q3 := (HK6.out).cell Q3.out (fun h => h)
      have HK36 := Lib.hid (HK3L.out.step HK6.out)
      have g0 := (HK36.out).cell G0.out (fun h => h)
      have g1 := (HK36.out).cell G1.out (fun h => h)
      have g2 := (HK36.out).cell G2.out (fun h => h)
      have g3 := (HK36.out).cell G3.out (fun h => h)
      go_upto_region 7 with fail
      obtain ⟨W7, hW7⟩ : ∃ W7, w6.setCell ⟨w3.heap.size, 1, none⟩ (.slice (some ⟨g, 0, none⟩) (ps.length + 1) cap) = W7 := ⟨_, rfl⟩
      rw [hW7]
      have hk7 : Kept (fun b => b = w3.heap.size) w6 W7 := by rw [← hW7]; exact (Kept.refl (fun b => b = w3.heap.size) w6).setCell (.inl rfl) _
      have HQ7 := Lib.hid (show W7.heap[w3.heap.size]? = some (.cells #[.int .i64 ver, .slice (some ⟨g, 0, none⟩) (ps.length + 1) cap, .slice la ls.length lc, .slice ea es.length ec] 26 (0, 0)) by rw [← hW7, heap_set (HK6.out.heap QB.out (fun h => h))]; rfl)
      have HROW7 := Lib.hid (HROW.out.kept hk7 (by omega))
      have HK17 := Lib.hid (show Kept Nil W1 W7 from HK3.out.step ((HKL.out.step HK6.out).trans hk7 (fun i hi => .inr (by omega))))
      have hz7 := hk7.size
      have hq7 : w3.heap.size < W7.heap.size := by omega
      have hg7 : w.heap.size < W7.heap.size := by omega
      clear hW7 hk7 qf6 g0 g1 g2 g3 q0 q1 q2 q3
      have g0 := (HK17.out).cell G0.out (fun h => h)
      have g1 := (HK17.out).cell G1.out (fun h => h)
      have g2 := (HK17.out).cell G2.out (fun h => h)
      have g3 := (HK17.out).cell G3.out (fun h => h)
      have q0 : W7.cell? ⟨w3.heap.size, 0, none⟩ = some (.int .i64 ver) := by rw [cell_of (HQ7.out)]; rfl
      have q1 : W7.cell? ⟨w3.heap.size, 1, none⟩ = some (.slice (some ⟨g, 0, none⟩) (ps.length + 1) cap) := by rw [cell_of (HQ7.out)]; rfl
      have q2 : W7.cell? ⟨w3.heap.size, 2, none⟩ = some (.slice la ls.length lc) := by rw [cell_of (HQ7.out)]; rfl
      have q3 : W7.cell? ⟨w3.heap.size, 3, none⟩ = some (.slice ea es.length ec) := by rw [cell_of (HQ7.out)]; rfl
      go_cut [34] from 26 to 34 (fun x wx => x = .bool false ∧ Kept Nil W7 wx)
      case first =>
        obtain ⟨f, hff⟩ : ∃ f, findI (ps.map Pr.name) freshOne = f := ⟨_, rfl⟩
        have HFF := Lib.hid hff
        by_cases hf0 : f < 0
        · have d0 : decide (f < 0) = true := by simp [hf0]
          go_wp2_with (first | (go_at_call 16; (with_reducible refine (Proc_fresh f _ ?_ hff).mono ?_); exact HM1.out.nil HK17.out; rintro e w27 ⟨rfl, hk27⟩; obtain ⟨hc27, hf27⟩ := hk27.rules; have hx27 : w.heap.size < w27.heap.size := (by have := hk27.size; omega); have hy27 : w3.heap.size < w27.heap.size := (by have := hk27.size; omega)) | (go_at_call 11; (with_reducible refine (Check_fresh freshOne (by decide) (some ⟨g, 0, none⟩) cap _ ?_ HZ.out HVL.out hpl ?_ HRT.out rfl ?_).mono ?_); exact (HM1.out.nil HK17.out).nil (by repeat (first | exact Kept.refl _ _ | assumption | refine Kept.drew ?_ | refine Kept.drewN ?_ _ | refine Kept.alloc ?_ _ | refine Kept.step ?_ (by assumption))); exact RProcs.nil (RProcs.ofRow HROW7.out.row) (by repeat (first | exact Kept.refl _ _ | assumption | refine Kept.drew ?_ | refine Kept.drewN ?_ _ | refine Kept.alloc ?_ _ | refine Kept.step ?_ (by assumption))); exact (by rw [HFF.out]; exact hf0); rintro e w31 ⟨rfl, hk31⟩))
          go_meet
          exact ⟨rfl, (by repeat (first | exact Kept.refl _ _ | assumption | refine Kept.drew ?_ | refine Kept.drewN ?_ _ | refine Kept.alloc ?_ _ | refine Kept.step ?_ (by assumption)))⟩
        · have d0 : decide (f < 0) = false := by simp [hf0]
          clear hf0
          go_wp2_with ((go_at_call 16; (with_reducible refine (Proc_fresh f _ ?_ hff).mono ?_); exact HM1.out.nil HK17.out; rintro e w27 ⟨rfl, hk27⟩; obtain ⟨hc27, hf27⟩ := hk27.rules; have hx27 : w.heap.size < w27.heap.size := (by have := hk27.size; omega); have hy27 : w3.heap.size < w27.heap.size := (by have := hk27.size; omega)))
          go_meet
          exact ⟨rfl, (by repeat (first | exact Kept.refl _ _ | assumption | refine Kept.drew ?_ | refine Kept.drewN ?_ _ | refine Kept.alloc ?_ _ | refine Kept.step ?_ (by assumption)))⟩
      case rest =>
        obtain ⟨rfl, hkc⟩ := hcut
        obtain ⟨W8, hW8⟩ : ∃ x, x = wc := ⟨_, rfl⟩
        subst hW8
        have HQ8 := Lib.hid (hkc.heap HQ7.out (fun h => h))
        have HROW8 := Lib.hid (HROW7.out.kept hkc (fun h => h))
        have HK18 := Lib.hid (HK17.out.step hkc)
        have hz8 := hkc.size
        have hq8 : w3.heap.size < W8.heap.size := by omega
        have hg8 : w.heap.size < W8.heap.size := by omega
        clear hkc g0 g1 g2 g3 q0 q1 q2 q3
        have g0 := (HK18.out).cell G0.out (fun h => h)
        have g1 := (HK18.out).cell G1.out (fun h => h)
        have g2 := (HK18.out).cell G2.out (fun h => h)
        have g3 := (HK18.out).cell G3.out (fun h => h)
        have q0 : W8.cell? ⟨w3.heap.size, 0, none⟩ = some (.int .i64 ver) := by rw [cell_of (HQ8.out)]; rfl
        have q1 : W8.cell? ⟨w3.heap.size, 1, none⟩ = some (.slice (some ⟨g, 0, none⟩) (ps.length + 1) cap) := by rw [cell_of (HQ8.out)]; rfl
        have q2 : W8.cell? ⟨w3.heap.size, 2, none⟩ = some (.slice la ls.length lc) := by rw [cell_of (HQ8.out)]; rfl
        have q3 : W8.cell? ⟨w3.heap.size, 3, none⟩ = some (.slice ea es.length ec) := by rw [cell_of (HQ8.out)]; rfl
        by_cases h0 : ps.length = 0
        · have z0 : ((ps.length : Int) == 0) = true := by simp [h0]
          clear h0
          go_wp2_with fail
          go_ret
          exact ⟨rfl, HK.out.step HK18.out⟩
        · have z0 : ((ps.length : Int) == 0) = false := beq_eq_false_iff_ne.2 (by omega)
          have hn0 : 0 < ps.length := by omega
          obtain ⟨a, ha⟩ : ∃ a : Nat, bits .and .i64 i 255 = (a : Int) := ⟨(i % 256).toNat, by rw [i64_and255]; omega⟩
          have ha2 : a ≤ 255 := by rw [i64_and255] at ha; omega
          obtain ⟨k, hk⟩ : ∃ k : Nat, Int.tmod (a : Int) (ps.length : Int) = (k : Int) := ⟨a % ps.length, by rw [Int.tmod_eq_emod_of_nonneg (by omega)]; exact (Int.natCast_emod a ps.length).symm⟩
          have hkl : k < ps.length := by rw [Int.tmod_eq_emod_of_nonneg (by omega)] at hk; have := Int.emod_lt_of_pos (a : Int) (show (0 : Int) < (ps.length : Int) by omega); omega
          clear h0
          go_upto_region 12 with fail
          clear hk ha ha2 z0
          obtain ⟨p, ep⟩ : ∃ v, ps[k]? = some v := ⟨_, List.getElem?_eq_getElem hkl⟩
          obtain ⟨b, off, e1, c0w, -, -, -⟩ := HM1.out.p.at ep
          simp only at e1
          have hbw : b < W1.heap.size := World.block_lt_of_cell? _ _ c0w
          have c0 := HK18.out.cell c0w (fun h => h)
          clear c0w
          have HEP := Lib.hid ep
          clear ep
          subst e1
          have hbs : b < W8.heap.size := World.block_lt_of_cell? _ _ c0
          have hlast : (ps ++ [newP freshOne])[ps.length]? = some (newP freshOne) := by simp
          have x0 : W8.cell? ⟨g, ps.length * 4, none⟩ = some (.string freshOne) := HROW8.out.cell hlast (c := 0) (by decide)
          have x1 : W8.frozen? ⟨g, ps.length * 4, none⟩ = false := HROW8.out.frozen _
          have hgs : g < W8.heap.size := HROW8.out.lt
          have HC0 := Lib.hid c0
          have HLAST := Lib.hid hlast
          clear hlast
          go_cut [57] from 45 to 57 (fun x wx => Kept (fun b => b = g) W8 wx ∧ RowAt wx g 39 4 prCells (ps ++ [newP p.name]))
          case first =>
            go_region
            all_goals (go_wp2_with fail)
            go_meet
            have hset := HROW8.out.set prCells_len HLAST.out (o' := newP p.name) (c := 0) (u := .string p.name) (by decide) rfl
            rw [show (ps ++ [newP freshOne]).set ps.length (newP p.name) = ps ++ [newP p.name] by simp] at hset
            exact ⟨((Kept.refl (fun b => b = g) W8).setCell (.inl rfl) _).drew, hset.kept ((Kept.refl Nil _).drew) (fun h => h)⟩
          case rest =>
            obtain ⟨hkc, hrow⟩ := hcut
            obtain ⟨W9, hW9⟩ : ∃ x, x = wc := ⟨_, rfl⟩
            subst hW9
            have HQ9 := Lib.hid (hkc.heap HQ8.out (by omega))
            have HROW9 := Lib.hid hrow
            have HK19 := Lib.hid (HK18.out.trans hkc (fun i hi => .inr (by omega)))
            have d0 := hkc.cell HC0.out (by simp only; omega)
            have HD0 := Lib.hid d0
            have hz9 := hkc.size
            have hq9 : w3.heap.size < W9.heap.size := by omega
            have hg9 : w.heap.size < W9.heap.size := by omega
            have hb9 : b < W9.heap.size := by omega
            clear hkc hrow c0 x0 x1 g0 g1 g2 g3 q0 q1 q2 q3
            have g0 := (HK19.out).cell G0.out (fun h => h)
            have g1 := (HK19.out).cell G1.out (fun h => h)
            have g2 := (HK19.out).cell G2.out (fun h => h)
            have g3 := (HK19.out).cell G3.out (fun h => h)
            have q0 : W9.cell? ⟨w3.heap.size, 0, none⟩ = some (.int .i64 ver) := by rw [cell_of (HQ9.out)]; rfl
            have q1 : W9.cell? ⟨w3.heap.size, 1, none⟩ = some (.slice (some ⟨g, 0, none⟩) (ps.length + 1) cap) := by rw [cell_of (HQ9.out)]; rfl
            have q2 : W9.cell? ⟨w3.heap.size, 2, none⟩ = some (.slice la ls.length lc) := by rw [cell_of (HQ9.out)]; rfl
            have q3 : W9.cell? ⟨w3.heap.size, 3, none⟩ = some (.slice ea es.length ec) := by rw [cell_of (HQ9.out)]; rfl
            have hfe : ∀ w : World, (binOp .eql 33 (.agg #[.int .i64 5, .int .i64 ((ps.length : Int) + 1)]) (.agg #[.int .i64 5, .int .i64 ((ps.length : Int) + 1)])).run Try.prog w = .ok (.bool true) w := fun w => by rw [fault_eq]; simp
            have hw9 : IntKind.i64.wrap ((ps.length : Int) + 1) = (ps.length : Int) + 1 := by rw [IntKind.wrap_i64]; omega
            have hkk9 : ((k : Int) == (k : Int)) = true := beq_self_eq_true _
            go_upto_region 13 with fail
            go_region_held3 (fun w' => w'.cell? ⟨w.heap.size, 0, none⟩ = some (.int .i64 ver) ∧ w'.cell? ⟨w.heap.size, 1, none⟩ = some (.slice (some ⟨b, off, none⟩) ps.length pc) ∧ w'.cell? ⟨w.heap.size, 2, none⟩ = some (.slice la ls.length lc) ∧ w'.cell? ⟨w.heap.size, 3, none⟩ = some (.slice ea es.length ec) ∧ w'.cell? ⟨w3.heap.size, 0, none⟩ = some (.int .i64 ver) ∧ w'.cell? ⟨w3.heap.size, 1, none⟩ = some (.slice (some ⟨g, 0, none⟩) (ps.length + 1) cap) ∧ w'.cell? ⟨w3.heap.size, 2, none⟩ = some (.slice la ls.length lc) ∧ w'.cell? ⟨w3.heap.size, 3, none⟩ = some (.slice ea es.length ec) ∧ w'.cell? ⟨b, off + k * 4, none⟩ = some (.string p.name)) (go_keep) (first
              | (go_at_call 11
                 with_reducible refine (Check_twice p.name ((HZ.out.p p (List.mem_of_getElem? HEP.out)).n) (some ⟨g, 0, none⟩) cap _ ?_ HZ.out HVL.out hpl ?_ HRT.out k p HEP.out rfl ((ps.length : Int) + 1) rfl).mono ?_
                 · exact (HM1.out.nil HK19.out).nil (by repeat (first | exact Kept.refl _ _ | assumption | refine Kept.drew ?_ | refine Kept.drewN ?_ _ | refine Kept.alloc ?_ _ | refine Kept.step ?_ (by assumption)))
                 · exact RProcs.nil (RProcs.ofRow HROW9.out.row) (by repeat (first | exact Kept.refl _ _ | assumption | refine Kept.drew ?_ | refine Kept.drewN ?_ _ | refine Kept.alloc ?_ _ | refine Kept.step ?_ (by assumption)))
                 rintro e w59 ⟨rfl, hk59⟩
                 have hz : Kept Nil W9 w59 := (by repeat (first | exact Kept.refl _ _ | assumption | refine Kept.drew ?_ | refine Kept.drewN ?_ _ | refine Kept.alloc ?_ _ | refine Kept.step ?_ (by assumption)))
                 have w59_0 := (HK19.out.step hz).cell G0.out (fun h => h)
                 have w59_1 := (HK19.out.step hz).cell G1.out (fun h => h)
                 have w59_2 := (HK19.out.step hz).cell G2.out (fun h => h)
                 have w59_3 := (HK19.out.step hz).cell G3.out (fun h => h)
                 have w59_q0 : w59.cell? ⟨w3.heap.size, 0, none⟩ = some (.int .i64 ver) := by rw [cell_of (hz.heap HQ9.out (fun h => h))]; rfl
                 have w59_q1 : w59.cell? ⟨w3.heap.size, 1, none⟩ = some (.slice (some ⟨g, 0, none⟩) (ps.length + 1) cap) := by rw [cell_of (hz.heap HQ9.out (fun h => h))]; rfl
                 have w59_q2 : w59.cell? ⟨w3.heap.size, 2, none⟩ = some (.slice la ls.length lc) := by rw [cell_of (hz.heap HQ9.out (fun h => h))]; rfl
                 have w59_q3 : w59.cell? ⟨w3.heap.size, 3, none⟩ = some (.slice ea es.length ec) := by rw [cell_of (hz.heap HQ9.out (fun h => h))]; rfl
                 have w59_b := hz.cell HD0.out (fun h => h)
                 clear hz)
              | (go_at_call 16
                 with_reducible refine (Proc_twice p.name (some ⟨g, 0, none⟩) cap _ ?_ hpl ?_ HRT.out k p HEP.out rfl).mono ?_
                 · exact (HM1.out.nil HK19.out).nil (by repeat (first | exact Kept.refl _ _ | assumption | refine Kept.drew ?_ | refine Kept.drewN ?_ _ | refine Kept.alloc ?_ _ | refine Kept.step ?_ (by assumption)))
                 · exact RProcs.nil (RProcs.ofRow HROW9.out.row) (by repeat (first | exact Kept.refl _ _ | assumption | refine Kept.drew ?_ | refine Kept.drewN ?_ _ | refine Kept.alloc ?_ _ | refine Kept.step ?_ (by assumption)))
                 rintro e w74 ⟨rfl, hk74⟩
                 have hz : Kept Nil W9 w74 := (by repeat (first | exact Kept.refl _ _ | assumption | refine Kept.drew ?_ | refine Kept.drewN ?_ _ | refine Kept.alloc ?_ _ | refine Kept.step ?_ (by assumption)))
                 have w74_0 := (HK19.out.step hz).cell G0.out (fun h => h)
                 have w74_1 := (HK19.out.step hz).cell G1.out (fun h => h)
                 have w74_2 := (HK19.out.step hz).cell G2.out (fun h => h)
                 have w74_3 := (HK19.out.step hz).cell G3.out (fun h => h)
                 have w74_q0 : w74.cell? ⟨w3.heap.size, 0, none⟩ = some (.int .i64 ver) := by rw [cell_of (hz.heap HQ9.out (fun h => h))]; rfl
                 have w74_q1 : w74.cell? ⟨w3.heap.size, 1, none⟩ = some (.slice (some ⟨g, 0, none⟩) (ps.length + 1) cap) := by rw [cell_of (hz.heap HQ9.out (fun h => h))]; rfl
                 have w74_q2 : w74.cell? ⟨w3.heap.size, 2, none⟩ = some (.slice la ls.length lc) := by rw [cell_of (hz.heap HQ9.out (fun h => h))]; rfl
                 have w74_q3 : w74.cell? ⟨w3.heap.size, 3, none⟩ = some (.slice ea es.length ec) := by rw [cell_of (hz.heap HQ9.out (fun h => h))]; rfl
                 have w74_b := hz.cell HD0.out (fun h => h)
                 clear hz)
              )
            all_goals (try go_wp2_with fail)
            all_goals (go_ret; exact ⟨rfl, HK.out.step (HK19.out.step (by repeat (first | exact Kept.refl _ _ | assumption | refine Kept.drew ?_ | refine Kept.drewN ?_ _ | refine Kept.alloc ?_ _ | refine Kept.step ?_ (by assumption))))⟩)
    · have f0 : (r.1 != 0) = true := by simp [hr0]
      clear hr0 hrr
      go_wp2_with (go_at_call 11; refine (Check_at w2 (HM1.out.nil HK2.out) HZ.out HVL.out).mono ?_; rintro e w3 ⟨rfl, hk3⟩; rw [HRR.out]; have HK3 := Lib.hid (HK2.out.step hk3); clear hk3)
      go_ret
      exact ⟨rfl, HK.out.step HK3.out⟩
end Go.Proofs.Ytehecolejeonaaa.Mo
