/- The walk of sandtableref16.ahead; The walk of sandtableref16.events: events are put in by their order, one by one. -/
import Derived.Test.YtniocgnfgpaioaaGreatG15
import Derived.Test.YtniocgnfgpaioaaGreatG37
import Derived.Deep.RegionHeld3
set_option linter.unusedVariables false
set_option linter.unusedSimpArgs false
section
namespace Go.Proofs.YtniocgnfgpaioaaGreat
open Go Go.RowKit Go.Proofs.YtniocgnfgpaioaaGreat.Lb
set_option maxRecDepth 8000
namespace HpEv
open HpPure Mo
set_option maxHeartbeats 4000000 in
theorem refAhead_is (x y : It) (w : World) : Calls Tryz.prog 80 #[x.val, y.val] w fun e w' => e = .returned (.bool (evlt x y)) ∧ Kept Nil w w' := by
 have hiff := evlt_iff x y
 unfold It.val
 obtain ⟨W1, hW⟩ : ∃ W, ((w.alloc (.cells #[.string x.f0, .int .i64 x.f1, .int .i64 x.f2] 48)).alloc (.cells #[.string y.f0, .int .i64 y.f1, .int .i64 y.f2] 48)) = W := ⟨_, rfl⟩
 have hk : Kept Nil w W1 := by rw [← hW]; exact (((Kept.refl Nil w).alloc _).alloc _)
 have hsz : W1.heap.size = w.heap.size + 2 := by rw [← hW]; simp
 have hb : W1.heap[w.heap.size]? = some (.cells #[.string x.f0, .int .i64 x.f1, .int .i64 x.f2] 48 (0, 0)) := by
  rw [← hW]
  rw [heap_old _ _ (by simp only [World.size_alloc]; omega)]
  have h9 := heap_new w (.cells #[.string x.f0, .int .i64 x.f1, .int .i64 x.f2] 48)
  exact h9
 have A0 := Lib.hid (show W1.cell? ⟨w.heap.size, 0, none⟩ = some (.string x.f0) by rw [cell_of hb]; rfl)
 have A1 := Lib.hid (show W1.cell? ⟨w.heap.size, 1, none⟩ = some (.int .i64 x.f1) by rw [cell_of hb]; rfl)
 have A2 := Lib.hid (show W1.cell? ⟨w.heap.size, 2, none⟩ = some (.int .i64 x.f2) by rw [cell_of hb]; rfl)
 have AB := Lib.hid hb
 have hza : w.heap.size < W1.heap.size := by omega
 clear hb
 have hb : W1.heap[w.heap.size + 1]? = some (.cells #[.string y.f0, .int .i64 y.f1, .int .i64 y.f2] 48 (0, 0)) := by
  rw [← hW]
  have h9 := heap_new (w.alloc (.cells #[.string x.f0, .int .i64 x.f1, .int .i64 x.f2] 48)) (.cells #[.string y.f0, .int .i64 y.f1, .int .i64 y.f2] 48)
  simp only [World.size_alloc] at h9
  exact h9
 have B0 := Lib.hid (show W1.cell? ⟨w.heap.size + 1, 0, none⟩ = some (.string y.f0) by rw [cell_of hb]; rfl)
 have B1 := Lib.hid (show W1.cell? ⟨w.heap.size + 1, 1, none⟩ = some (.int .i64 y.f1) by rw [cell_of hb]; rfl)
 have B2 := Lib.hid (show W1.cell? ⟨w.heap.size + 1, 2, none⟩ = some (.int .i64 y.f2) by rw [cell_of hb]; rfl)
 have BB := Lib.hid hb
 have hzb : w.heap.size + 1 < W1.heap.size := by omega
 clear hb
 have HW := Lib.hid hW
 have HK := Lib.hid hk
 have HSZ := Lib.hid hsz
 clear hW hk hsz
 by_cases h1 : x.f1 = y.f1
 ·have b1 : (x.f1 != y.f1) = false := by simp [h1]
  by_cases h2 : x.f0.toList = y.f0.toList
  ·have b2 : (x.f0.toList == y.f0.toList) = true := by simp [h2]
   have b2n : (x.f0.toList != y.f0.toList) = false := by simp [h2]
   have l0 : Op.bytesLess x.f0.toList y.f0.toList = false := by rw [h2]; exact bytesLess_irr _
   by_cases h3 : x.f2 < y.f2
   ·have b3 : decide (x.f2 < y.f2) = true := decide_eq_true h3
    have he : evlt x y = true := hiff.2 (.inr ⟨h1, .inr ⟨h2, h3⟩⟩)
    clear h1 h2 h3 hiff l0
    rw [he]
    clear he
    go_enter Tryz.func80, Tryz.ntmps80
    go_upto_region 1 with fail
    rw [HW.out]
    have a0 := ((Kept.refl Nil W1)).cell A0.out (fun h => h)
    have a1 := ((Kept.refl Nil W1)).cell A1.out (fun h => h)
    have a2 := ((Kept.refl Nil W1)).cell A2.out (fun h => h)
    have b0 := ((Kept.refl Nil W1)).cell B0.out (fun h => h)
    have b1 := ((Kept.refl Nil W1)).cell B1.out (fun h => h)
    have b2 := ((Kept.refl Nil W1)).cell B2.out (fun h => h)
    go_wp2_with fail
    go_ret
    exact ⟨rfl, HK.out⟩
   ·have b3 : decide (x.f2 < y.f2) = false := decide_eq_false h3
    have he : evlt x y = false := by
     cases hc : evlt x y with
     | false => rfl
     | true => (rcases hiff.1 hc with h | ⟨_, h | ⟨_, h⟩⟩; omega; (rw [l0] at h; cases h); exact absurd h h3)
    clear h1 h2 h3 hiff l0
    rw [he]
    clear he
    go_enter Tryz.func80, Tryz.ntmps80
    go_upto_region 1 with fail
    rw [HW.out]
    have a0 := ((Kept.refl Nil W1)).cell A0.out (fun h => h)
    have a1 := ((Kept.refl Nil W1)).cell A1.out (fun h => h)
    have a2 := ((Kept.refl Nil W1)).cell A2.out (fun h => h)
    have b0 := ((Kept.refl Nil W1)).cell B0.out (fun h => h)
    have b1 := ((Kept.refl Nil W1)).cell B1.out (fun h => h)
    have b2 := ((Kept.refl Nil W1)).cell B2.out (fun h => h)
    go_wp2_with fail
    go_ret
    exact ⟨rfl, HK.out⟩
  ·have b2 : (x.f0.toList == y.f0.toList) = false := by simp [h2]
   have b2n : (x.f0.toList != y.f0.toList) = true := by simp [h2]
   cases hl : Op.bytesLess x.f0.toList y.f0.toList with
   | true =>
    have he : evlt x y = true := hiff.2 (.inr ⟨h1, .inl hl⟩)
    clear h1 h2 hiff
    rw [he]
    clear he
    go_enter Tryz.func80, Tryz.ntmps80
    go_upto_region 1 with fail
    rw [HW.out]
    have a0 := ((Kept.refl Nil W1)).cell A0.out (fun h => h)
    have a1 := ((Kept.refl Nil W1)).cell A1.out (fun h => h)
    have a2 := ((Kept.refl Nil W1)).cell A2.out (fun h => h)
    have b0 := ((Kept.refl Nil W1)).cell B0.out (fun h => h)
    have b1 := ((Kept.refl Nil W1)).cell B1.out (fun h => h)
    have b2 := ((Kept.refl Nil W1)).cell B2.out (fun h => h)
    go_wp2_with fail
    go_ret
    exact ⟨rfl, HK.out⟩
   | false =>
    have he : evlt x y = false := by
     cases hc : evlt x y with
     | false => rfl
     | true => (rcases hiff.1 hc with h | ⟨_, h | ⟨h, _⟩⟩; omega; (rw [hl] at h; cases h); exact absurd h h2)
    clear h1 h2 hiff
    rw [he]
    clear he
    go_enter Tryz.func80, Tryz.ntmps80
    go_upto_region 1 with fail
    rw [HW.out]
    have a0 := ((Kept.refl Nil W1)).cell A0.out (fun h => h)
    have a1 := ((Kept.refl Nil W1)).cell A1.out (fun h => h)
    have a2 := ((Kept.refl Nil W1)).cell A2.out (fun h => h)
    have b0 := ((Kept.refl Nil W1)).cell B0.out (fun h => h)
    have b1 := ((Kept.refl Nil W1)).cell B1.out (fun h => h)
    have b2 := ((Kept.refl Nil W1)).cell B2.out (fun h => h)
    go_wp2_with fail
    go_ret
    exact ⟨rfl, HK.out⟩
 ·have b1 : (x.f1 != y.f1) = true := by simp [h1]
  by_cases h3 : x.f1 < y.f1
  ·have b3 : decide (x.f1 < y.f1) = true := decide_eq_true h3
   have he : evlt x y = true := hiff.2 (.inl h3)
   clear h1 h3 hiff
   rw [he]
   clear he
   go_enter Tryz.func80, Tryz.ntmps80
   go_upto_region 1 with fail
   rw [HW.out]
   have a0 := ((Kept.refl Nil W1)).cell A0.out (fun h => h)
   have a1 := ((Kept.refl Nil W1)).cell A1.out (fun h => h)
   have a2 := ((Kept.refl Nil W1)).cell A2.out (fun h => h)
   have b0 := ((Kept.refl Nil W1)).cell B0.out (fun h => h)
   have b1 := ((Kept.refl Nil W1)).cell B1.out (fun h => h)
   have b2 := ((Kept.refl Nil W1)).cell B2.out (fun h => h)
   go_wp2_with fail
   go_ret
   exact ⟨rfl, HK.out⟩
  ·have b3 : decide (x.f1 < y.f1) = false := decide_eq_false h3
   have he : evlt x y = false := by
    cases hc : evlt x y with
    | false => rfl
    | true => (rcases hiff.1 hc with h | ⟨h, _⟩; exact absurd h h3; exact absurd h h1)
   clear h1 h3 hiff
   rw [he]
   clear he
   go_enter Tryz.func80, Tryz.ntmps80
   go_upto_region 1 with fail
   rw [HW.out]
   have a0 := ((Kept.refl Nil W1)).cell A0.out (fun h => h)
   have a1 := ((Kept.refl Nil W1)).cell A1.out (fun h => h)
   have a2 := ((Kept.refl Nil W1)).cell A2.out (fun h => h)
   have b0 := ((Kept.refl Nil W1)).cell B0.out (fun h => h)
   have b1 := ((Kept.refl Nil W1)).cell B1.out (fun h => h)
   have b2 := ((Kept.refl Nil W1)).cell B2.out (fun h => h)
   go_wp2_with fail
   go_ret
   exact ⟨rfl, HK.out⟩
end HpEv
end Go.Proofs.YtniocgnfgpaioaaGreat
end
section
namespace Go.Proofs.YtniocgnfgpaioaaGreat.Mo
open Go Go.RowKit Go.Proofs.YtniocgnfgpaioaaGreat.Lb Go.Proofs.YtniocgnfgpaioaaGreat.HpPure
set_option maxRecDepth 8000
set_option maxHeartbeats 16000000 in
theorem insE_is (l : List Ev) (A0 : Option Addr) (c0 : Nat) (w : World) (hr : RowOf w A0 3 evCells l) (hn : l.length ≤ 100000) :
  Calls Tryz.prog 41 #[.slice A0 l.length c0] w fun e w' => ∃ v, e = .returned v ∧ w'.ownsRow w.heap.size 48 3 v l.length ((insAll elt l).flatMap evCells) ∧ Kept Nil w w' := by
 obtain ⟨j0, hjnf, hy0, hy1, hy2⟩ := info_parts infoCE
 have HR := Lib.hid hr
 clear hr
 go_enter Tryz.func41, Tryz.ntmps41
 go_upto_region 3 with fail
 go_loopw [3, 4] (fun o i wr => ∃ (k g c : Nat) (out : List Ev), k ≤ l.length ∧ i = .int .i64 k ∧ out = insAll elt (l.take k) ∧ out.length = k ∧ o = .slice (some ⟨g, 0, none⟩) k c ∧ wr.ownsRow w.heap.size 48 3 o k (out.flatMap evCells) ∧ Kept Nil w wr) (fun _ i _ => l.length - (intOf i).toNat)
 case atStart => exact ⟨0, w.heap.size, 0, [], Nat.zero_le _, rfl, by rw [List.take_zero]; rfl, rfl, rfl, World.ownsRow_lit (base := w.heap.size) (e := 48) (size := 3) w #[] 0 (Nat.le_refl _) (by decide) rfl, (Kept.refl Nil w).alloc _⟩
 case round =>
  obtain ⟨k, g, c, out, hk, rfl, ho, hol, rfl, hown, hK⟩ := hrel
  obtain ⟨wo, hwo⟩ : ∃ x, x = wr := ⟨_, rfl⟩
  subst hwo
  have HO := Lib.hid ho
  have HOL := Lib.hid hol
  have HOW := Lib.hid hown
  have HK := Lib.hid hK
  have hzr := hK.size
  have hkc : k ≤ c := by have := le_of_own hown; omega
  have hcm : c ≤ maxLen := by
   rcases own_form hown with ⟨h1, h2, h3⟩ | ⟨g9, c9, h1, h2, h3, h4, h5⟩
   ·cases h1
   ·cases h1; exact h5
  unfold maxLen at hcm
  have hgb : w.heap.size ≤ g ∧ g < wo.heap.size := hown.lt g rfl
  clear ho hol hown hK
  by_cases hlt : k < l.length
  ·obtain ⟨x, ex⟩ : ∃ v, l[k]? = some v := ⟨_, List.getElem?_eq_getElem hlt⟩
   have HEX := Lib.hid ex
   have hlt2 : (k : Int) < (l.length : Int) := by omega
   have hw : IntKind.i64.wrap ((k : Int) + 1) = (k : Int) + 1 := by rw [IntKind.wrap_i64]; omega
   clear ex
   obtain ⟨b, off, e1, hxc⟩ : ∃ b off, A0 = some ⟨b, off, none⟩ ∧ ∀ W, Kept Nil wo W → W.cell? ⟨b, off + k * 3, none⟩ = some (.string x.to) ∧ W.cell? ⟨b, off + k * 3 + 1, none⟩ = some (.int .i64 x.at_) ∧ W.cell? ⟨b, off + k * 3 + 2, none⟩ = some (.int .i64 x.value) := by
    rcases HR.out with h | ⟨b, off, e, hc⟩
    ·rw [h] at hlt; simp at hlt
    ·refine ⟨b, off, e, fun W hW => ?_⟩
     have hkk := HK.out.step hW
     exact ⟨hkk.cell (hc k x HEX.out 0 (by decide)) (fun h => h), hkk.cell (hc k x HEX.out 1 (by decide)) (fun h => h), hkk.cell (hc k x HEX.out 2 (by decide)) (fun h => h)⟩
   subst e1
   have HXC := Lib.hid hxc
   have hbs : b < wo.heap.size := World.block_lt_of_cell? _ _ (hxc wo (Kept.refl _ _)).1
   clear hxc
   go_upto_region 6 with fail
   go_loopw [5] (fun a wq => ∃ at_ : Nat, at_ ≤ k ∧ a = .int .i64 at_ ∧ posR elt x out k = posR elt x out at_ ∧ Kept Nil wo wq) (fun a _ => (intOf a).toNat)
   case atStart => exact ⟨k, Nat.le_refl _, rfl, rfl, Kept.refl _ _⟩
   case round =>
    obtain ⟨at_, hat, rfl, hpos, hKq⟩ := hrel
    obtain ⟨wq, hwq⟩ : ∃ x, x = wr := ⟨_, rfl⟩
    subst hwq
    have HPOS := Lib.hid hpos
    have HKQ := Lib.hid hKq
    have hzq := hKq.size
    have hxw := HXC.out _ hKq
    obtain ⟨x0, x1, x2⟩ := hxw
    have hbq : b < wq.heap.size := by omega
    have hgq : g < wq.heap.size := by omega
    clear hpos hKq
    by_cases h0 : at_ = 0
    ·subst h0
     have hg0 : decide ((0 : Int) < 0) = false := by decide
     go_upto_region 6 with fail
     go_big_quiet (fail)
     have hp : posR elt x out out.length = 0 := by rw [HOL.out]; exact HPOS.out.trans rfl
     have HP := Lib.hid hp
     clear hp
     have htn : (0 : Int).toNat = 0 := by omega
     have ht : Tryz.prog.underlying 24 = some (.slice (Tryz.prog.elem 24)) := by kernel_rfl
     have hs1 : ∀ w' : World, (Instr.slice 24 (.slice (some ⟨g, 0, none⟩) k c) none (some (.int .i64 0)) none).run Tryz.prog w' = .ok (.slice (some ⟨g, 0, none⟩) 0 c) w' := by
      intro w'
      rw [run_slice_h w' _ (some ⟨g, 0, none⟩) k c ht .i64 0 (by omega) (by omega)]
      simp [go_sem, sliced, Result.andThen, Addr.add, htn]
     obtain ⟨sb, hsb⟩ : ∃ sb, (if c = 0 then some (⟨g, 0, none⟩ : Addr) else some (⟨g, 0 + 0 * 3, none⟩ : Addr)) = sb := ⟨_, rfl⟩
     have hs2 : ∀ w' : World, (Instr.slice 24 (.slice (some ⟨g, 0, none⟩) k c) (some (.int .i64 0)) none none).run Tryz.prog w' = .ok (.slice sb (k - 0) (c - 0)) w' := by
      intro w'
      rw [run_slice_l w' _ (some ⟨g, 0, none⟩) k c ht .i64 0 (by omega) (by omega)]
      simp [go_sem, sliced, Result.andThen, Addr.add, htn, ← hsb]
     have HSB := Lib.hid hsb
     clear hsb ht htn
     go_upto_region 8 with fail
     obtain ⟨wz, hwz⟩ : ∃ wz, wq.drewN nq = wz := ⟨_, rfl⟩
     rw [hwz]
     have hkz : Kept Nil wo wz := by rw [← hwz]; exact HKQ.out.drewN _
     have HKZ := Lib.hid hkz
     have hzz := hkz.size
     have hbz : b < wz.heap.size := by omega
     have hgz : g < wz.heap.size := by omega
     clear hkz hwz
     have hro : RowOf wz (some ⟨g, 0, none⟩) 3 evCells out := (newRow_of_own (HKZ.out.own HOW.out (fun _ _ h => h)) evCells_len (by decide)).row
     have HRO := Lib.hid hro
     clear hro
     have hsrc : ∀ W, Kept (fun i => wz.heap.size ≤ i) wz W → SrcRow W 3 (.slice (some ⟨g, 0, none⟩) 0 c) (0) ((out.take 0).flatMap evCells) ∧ SrcRow W 3 (.slice sb (k - 0) (c - 0)) (k - 0) ((out.drop 0).flatMap evCells) := by
      intro W hW
      have hr := rowOf_kept evCells_len hW (fun b off hn e h => by cases e; omega) HRO.out
      have h1 := (rowOf_take hr (0)).src (cap := c) evCells_len (by decide) (fun h => by cases h)
      have h2 := (rowOf_drop hr (0)).src (cap := c - 0) evCells_len (by decide) (fun h => by cases h)
      rw [show (out.take 0).length = 0 by rw [List.length_take, HOL.out]; omega] at h1
      rw [show (out.drop 0).length = k - 0 by rw [List.length_drop, HOL.out]] at h2
      refine ⟨h1, ?_⟩
      by_cases hc : c = 0
      ·have hkp : k - 0 = 0 := by omega
       rw [show out.drop 0 = [] by exact List.drop_eq_nil_of_le (by rw [HOL.out]; omega)]
       refine .inr ⟨_, _, by rw [← HSB.out, if_pos hc], by first | (simp [hkp]; done) | simp, fun j u hj => by simp at hj⟩
      ·rw [← HSB.out, if_neg hc]
       exact h2
     have HSRC := Lib.hid hsrc
     clear hsrc
     go_wp2_with (at_builtin; refine stop_append _ _ _ rfl ?_)
     unfold StopA
     refine wpList_append_src rfl _ _ 24 rfl wz.heap.size 48 j0 (.agg #[.string ⟨#[]⟩, .int .i64 0, .int .i64 0]) 3 32 Tryz.underlying24 hjnf hy0 hy1 hy2 rfl (by decide) (.slice (some ⟨wz.heap.size, 0, none⟩) 0 0) 0 [] rfl ?_ (.slice (some ⟨g, 0, none⟩) (0) c) (0) ((out.take 0).flatMap evCells) rfl ?_ (evCells_one _) (by unfold maxLen; omega) (by omega) (by simp) ?_
     ·exact World.ownsRow_lit (base := wz.heap.size) (e := 48) (size := 3) wz #[] 0 (Nat.le_refl _) (by decide) rfl
     ·exact (HSRC.out _ ((Kept.refl _ wz).alloc _)).1
     intro v5 w5 hown5 hgrow5
     rw [Nat.zero_add, List.nil_append] at hown5
     have hk5 : Kept (fun i => wz.heap.size ≤ i) wz w5 := ((Kept.refl _ wz).alloc (.cells #[] 48)).grown hgrow5 (fun j e => .inl (by have h9 : wz.heap.size = j := (by simpa [Value.ownBlock] using e); omega))
     obtain ⟨A5, c5, rfl⟩ := own_slice hown5
     have HO5 := Lib.hid hown5
     have HK5 := Lib.hid hk5
     have hz5 := hk5.size
     clear hown5 hgrow5 hk5 hs1
     have hw5 : Kept Nil wo w5 := HKZ.out.trans HK5.out (fun i h => .inr (by omega))
     have hx5 := HXC.out _ hw5
     obtain ⟨z0, z1, z2⟩ := hx5
     have hb5 : b < w5.heap.size := by omega
     clear hw5
     go_wp2_with (at_builtin; refine stop_append _ _ _ rfl ?_)
     unfold StopA
     refine wpList_append_own_at _ rfl _ _ 24 rfl wz.heap.size 48 j0 (.agg #[.string ⟨#[]⟩, .int .i64 0, .int .i64 0]) 3 32 Tryz.underlying24 hjnf hy0 hy1 hy2 rfl (by decide) (.slice A5 (0) c5) (0) ((out.take 0).flatMap evCells) rfl (HO5.out.alloc _) ⟨w5.heap.size, 0, none⟩ 1 1 [.string x.to, .int .i64 x.at_, .int .i64 x.value] rfl rfl (cells_new _ _ _) (by simp [Value.oneCell']) (by unfold maxLen; omega) (by omega) (by simp; omega) ?_
     intro v7 w7 hown7 hgrow7 _ _
     obtain ⟨g7, c7, rfl⟩ := ownsRow_succ hown7
     have hk7 : Kept (fun i => wz.heap.size ≤ i) wz w7 := HK5.out.trans (((Kept.refl (fun i => wz.heap.size ≤ i) w5).alloc _).grown hgrow7 (fun j e => .inl (HO5.out.lt j e).1)) (fun i h => .inl h)
     have HO7 := Lib.hid hown7
     have HK7 := Lib.hid hk7
     have hz7 := hk7.size
     clear hown7 hgrow7 hk7 z0 z1 z2
     go_wp2_with (at_builtin; refine stop_append _ _ _ rfl ?_)
     unfold StopA
     refine wpList_append_src rfl _ _ 24 rfl wz.heap.size 48 j0 (.agg #[.string ⟨#[]⟩, .int .i64 0, .int .i64 0]) 3 32 Tryz.underlying24 hjnf hy0 hy1 hy2 rfl (by decide) (.slice (some ⟨g7, 0, none⟩) (0 + 1) c7) (0 + 1) _ rfl HO7.out (.slice sb (k - 0) (c - 0)) (k - 0) ((out.drop 0).flatMap evCells) rfl (HSRC.out _ HK7.out).2 (evCells_one _) (by unfold maxLen; omega) (by omega) (by omega) ?_
     intro v8 w8 hown8 hgrow8
     rw [show 0 + 1 + (k - 0) = k + 1 by omega] at hown8
     obtain ⟨g8, c8, rfl⟩ := ownsRow_succ hown8
     have hk8 : Kept (fun i => wz.heap.size ≤ i) wz w8 := HK7.out.trans ((Kept.refl (fun i => wz.heap.size ≤ i) w7).grown hgrow8 (fun j e => .inl (HO7.out.lt j e).1)) (fun i h => .inl h)
     have hins : (out.take (0)).flatMap evCells ++ [.string x.to, .int .i64 x.at_, .int .i64 x.value] ++ (out.drop (0)).flatMap evCells = (insR elt out x).flatMap evCells := by rw [← ins_split elt x out _ HP.out, List.flatMap_append, List.flatMap_append]; rfl
     rw [hins] at hown8
     have HO8 := Lib.hid (own_lower hown8 (base' := w.heap.size) (fun j e => by have h9 := (hown8.lt j e).1; omega))
     have HK8 := Lib.hid hk8
     clear hown8 hgrow8 hk8 hins hs2
     go_wp2_with fail
     go_round
     exact ⟨k + 1, g8, c8, insR elt out x, by omega, by go_num, by rw [HO.out]; exact (insAll_take HEX.out).symm, by rw [insR_length, HOL.out], rfl, HO8.out, HK.out.trans (HKZ.out.trans HK8.out (fun i h => .inr (by omega))) (fun i h => .inl h)⟩
     case measure => (simp [intOf] <;> omega)
    ·obtain ⟨t, rfl⟩ : ∃ t, at_ = t + 1 := ⟨at_ - 1, by omega⟩
     obtain ⟨y, ey⟩ : ∃ v, out[t]? = some v := ⟨_, List.getElem?_eq_getElem (by have := HOL.out; omega)⟩
     have hyo := HKQ.out.own HOW.out (fun _ _ h => h)
     have y0 : wq.cell? ⟨g, t * 3, none⟩ = some (.string y.to) := own_cell hyo (flat_get evCells_len ey (c := 0) (by decide))
     have y1 : wq.cell? ⟨g, t * 3 + 1, none⟩ = some (.int .i64 y.at_) := own_cell hyo (flat_get evCells_len ey (c := 1) (by decide))
     have y2 : wq.cell? ⟨g, t * 3 + 2, none⟩ = some (.int .i64 y.value) := own_cell hyo (flat_get evCells_len ey (c := 2) (by decide))
     have e0 : ((t + 1 : Nat) : Int) = (t : Int) + 1 := by omega
     rw [e0]
     clear e0 hyo h0
     have hg1 : decide ((0 : Int) < (t : Int) + 1) = true := decide_eq_true (by omega)
     have hg2 : IntKind.i64.wrap ((t : Int) + 1 - 1) = (t : Int) := by rw [IntKind.wrap_i64]; omega
     have hg3 : t < k := by omega
     have hg4 : IntKind.i64.wrap (t : Int) = (t : Int) := by rw [IntKind.wrap_i64]; omega
     have hg5 : (t : Int) < (k : Int) := by omega
     have HEY := Lib.hid ey
     clear ey
     have hah := fun W => HpEv.refAhead_is (itE x) (itE y) W
     cases hl : elt x y with
     | true =>
      have hah2 : ∀ W, Calls Tryz.prog 80 #[.agg #[.string x.to, .int .i64 x.at_, .int .i64 x.value], .agg #[.string y.to, .int .i64 y.at_, .int .i64 y.value]] W fun e w' => e = .returned (.bool true) ∧ Kept Nil W w' := fun W => by rw [← hl]; exact hah W
      have HL := Lib.hid hl
      clear hl hah
      go_upto_region 6 with fail
      have C9_0 := Lib.hid (show wq.cell? ⟨b, off + k * 3, none⟩ = some (.string x.to) from x0)
      have C9_1 := Lib.hid (show wq.cell? ⟨b, off + k * 3 + 1, none⟩ = some (.int .i64 x.at_) from x1)
      have C9_2 := Lib.hid (show wq.cell? ⟨b, off + k * 3 + 2, none⟩ = some (.int .i64 x.value) from x2)
      have C9_3 := Lib.hid (show wq.cell? ⟨g, t * 3, none⟩ = some (.string y.to) from y0)
      have C9_4 := Lib.hid (show wq.cell? ⟨g, t * 3 + 1, none⟩ = some (.int .i64 y.at_) from y1)
      have C9_5 := Lib.hid (show wq.cell? ⟨g, t * 3 + 2, none⟩ = some (.int .i64 y.value) from y2)
      have c9_0 := C9_0.out
      have c9_1 := C9_1.out
      have c9_2 := C9_2.out
      have c9_3 := C9_3.out
      have c9_4 := C9_4.out
      have c9_5 := C9_5.out
      (go_region_held3 (fun w' => w'.cell? ⟨b, off + k * 3, none⟩ = some (.string x.to) ∧ w'.cell? ⟨b, off + k * 3 + 1, none⟩ = some (.int .i64 x.at_) ∧ w'.cell? ⟨b, off + k * 3 + 2, none⟩ = some (.int .i64 x.value) ∧ w'.cell? ⟨g, t * 3, none⟩ = some (.string y.to) ∧ w'.cell? ⟨g, t * 3 + 1, none⟩ = some (.int .i64 y.at_) ∧ w'.cell? ⟨g, t * 3 + 2, none⟩ = some (.int .i64 y.value)) (go_keep) (first
       | (
         go_at_call 80
         with_reducible refine (hah2 _).mono ?_
         rintro e w71 ⟨rfl, hk71⟩
         have hz : Kept Nil wq w71 := (by repeat (first | exact kzr _ _ | assumption | refine kzd ?_ | refine kzn ?_ _ | refine kza ?_ _ | refine kzs ?_ (by assumption)))
         have w71_0 := hz.cell C9_0.out (fun h => h)
         have w71_1 := hz.cell C9_1.out (fun h => h)
         have w71_2 := hz.cell C9_2.out (fun h => h)
         have w71_3 := hz.cell C9_3.out (fun h => h)
         have w71_4 := hz.cell C9_4.out (fun h => h)
         have w71_5 := hz.cell C9_5.out (fun h => h)
         clear hz)
       ))
      go_wp2_with fail
      go_round
      exact ⟨t, by omega, by go_num, HPOS.out.trans (posR_go HEY.out HL.out), HKQ.out.step (by repeat (first | exact kzr _ _ | assumption | refine kzd ?_ | refine kzn ?_ _ | refine kza ?_ _ | refine kzs ?_ (by assumption)))⟩
      case measure => (simp [intOf] <;> omega)
     | false =>
      have hah2 : ∀ W, Calls Tryz.prog 80 #[.agg #[.string x.to, .int .i64 x.at_, .int .i64 x.value], .agg #[.string y.to, .int .i64 y.at_, .int .i64 y.value]] W fun e w' => e = .returned (.bool false) ∧ Kept Nil W w' := fun W => by rw [← hl]; exact hah W
      have HL := Lib.hid hl
      clear hl hah
      go_upto_region 6 with fail
      have C9_0 := Lib.hid (show wq.cell? ⟨b, off + k * 3, none⟩ = some (.string x.to) from x0)
      have C9_1 := Lib.hid (show wq.cell? ⟨b, off + k * 3 + 1, none⟩ = some (.int .i64 x.at_) from x1)
      have C9_2 := Lib.hid (show wq.cell? ⟨b, off + k * 3 + 2, none⟩ = some (.int .i64 x.value) from x2)
      have C9_3 := Lib.hid (show wq.cell? ⟨g, t * 3, none⟩ = some (.string y.to) from y0)
      have C9_4 := Lib.hid (show wq.cell? ⟨g, t * 3 + 1, none⟩ = some (.int .i64 y.at_) from y1)
      have C9_5 := Lib.hid (show wq.cell? ⟨g, t * 3 + 2, none⟩ = some (.int .i64 y.value) from y2)
      have c9_0 := C9_0.out
      have c9_1 := C9_1.out
      have c9_2 := C9_2.out
      have c9_3 := C9_3.out
      have c9_4 := C9_4.out
      have c9_5 := C9_5.out
      (go_region_held3 (fun w' => w'.cell? ⟨b, off + k * 3, none⟩ = some (.string x.to) ∧ w'.cell? ⟨b, off + k * 3 + 1, none⟩ = some (.int .i64 x.at_) ∧ w'.cell? ⟨b, off + k * 3 + 2, none⟩ = some (.int .i64 x.value) ∧ w'.cell? ⟨g, t * 3, none⟩ = some (.string y.to) ∧ w'.cell? ⟨g, t * 3 + 1, none⟩ = some (.int .i64 y.at_) ∧ w'.cell? ⟨g, t * 3 + 2, none⟩ = some (.int .i64 y.value)) (go_keep) (first
       | (
         go_at_call 80
         with_reducible refine (hah2 _).mono ?_
         rintro e w71 ⟨rfl, hk71⟩
         have hz : Kept Nil wq w71 := (by repeat (first | exact kzr _ _ | assumption | refine kzd ?_ | refine kzn ?_ _ | refine kza ?_ _ | refine kzs ?_ (by assumption)))
         have w71_0 := hz.cell C9_0.out (fun h => h)
         have w71_1 := hz.cell C9_1.out (fun h => h)
         have w71_2 := hz.cell C9_2.out (fun h => h)
         have w71_3 := hz.cell C9_3.out (fun h => h)
         have w71_4 := hz.cell C9_4.out (fun h => h)
         have w71_5 := hz.cell C9_5.out (fun h => h)
         clear hz)
       ))
      have hp : posR elt x out out.length = (t + 1) := by rw [HOL.out]; exact HPOS.out.trans (posR_stop HEY.out HL.out)
      have HP := Lib.hid hp
      clear hp
      have htn : (((t : Int) + 1) : Int).toNat = (t + 1) := by omega
      have ht : Tryz.prog.underlying 24 = some (.slice (Tryz.prog.elem 24)) := by kernel_rfl
      have hs1 : ∀ w' : World, (Instr.slice 24 (.slice (some ⟨g, 0, none⟩) k c) none (some (.int .i64 ((t : Int) + 1))) none).run Tryz.prog w' = .ok (.slice (some ⟨g, 0, none⟩) (t + 1) c) w' := by
       intro w'
       rw [run_slice_h w' _ (some ⟨g, 0, none⟩) k c ht .i64 ((t : Int) + 1) (by omega) (by omega)]
       simp [go_sem, sliced, Result.andThen, Addr.add, htn]
      obtain ⟨sb, hsb⟩ : ∃ sb, (if c = (t + 1) then some (⟨g, 0, none⟩ : Addr) else some (⟨g, 0 + (t + 1) * 3, none⟩ : Addr)) = sb := ⟨_, rfl⟩
      have hs2 : ∀ w' : World, (Instr.slice 24 (.slice (some ⟨g, 0, none⟩) k c) (some (.int .i64 ((t : Int) + 1))) none none).run Tryz.prog w' = .ok (.slice sb (k - (t + 1)) (c - (t + 1))) w' := by
       intro w'
       rw [run_slice_l w' _ (some ⟨g, 0, none⟩) k c ht .i64 ((t : Int) + 1) (by omega) (by omega)]
       simp [go_sem, sliced, Result.andThen, Addr.add, htn, ← hsb]
      have HSB := Lib.hid hsb
      clear hsb ht htn
      go_upto_region 8 with fail
      obtain ⟨wz, hwz⟩ : ∃ wz, w71 = wz := ⟨_, rfl⟩
      rw [hwz]
      have hkz : Kept Nil wo wz := by rw [← hwz]; exact (HKQ.out.step (by repeat (first | exact kzr _ _ | assumption | refine kzd ?_ | refine kzn ?_ _ | refine kza ?_ _ | refine kzs ?_ (by assumption))))
      have HKZ := Lib.hid hkz
      have hzz := hkz.size
      have hbz : b < wz.heap.size := by omega
      have hgz : g < wz.heap.size := by omega
      clear hkz hwz
      have hro : RowOf wz (some ⟨g, 0, none⟩) 3 evCells out := (newRow_of_own (HKZ.out.own HOW.out (fun _ _ h => h)) evCells_len (by decide)).row
      have HRO := Lib.hid hro
      clear hro
      have hsrc : ∀ W, Kept (fun i => wz.heap.size ≤ i) wz W → SrcRow W 3 (.slice (some ⟨g, 0, none⟩) (t + 1) c) ((t + 1)) ((out.take (t + 1)).flatMap evCells) ∧ SrcRow W 3 (.slice sb (k - (t + 1)) (c - (t + 1))) (k - (t + 1)) ((out.drop (t + 1)).flatMap evCells) := by
       intro W hW
       have hr := rowOf_kept evCells_len hW (fun b off hn e h => by cases e; omega) HRO.out
       have h1 := (rowOf_take hr ((t + 1))).src (cap := c) evCells_len (by decide) (fun h => by cases h)
       have h2 := (rowOf_drop hr ((t + 1))).src (cap := c - (t + 1)) evCells_len (by decide) (fun h => by cases h)
       rw [show (out.take (t + 1)).length = (t + 1) by rw [List.length_take, HOL.out]; omega] at h1
       rw [show (out.drop (t + 1)).length = k - (t + 1) by rw [List.length_drop, HOL.out]] at h2
       refine ⟨h1, ?_⟩
       by_cases hc : c = (t + 1)
       ·have hkp : k - (t + 1) = 0 := by omega
        rw [show out.drop (t + 1) = [] by exact List.drop_eq_nil_of_le (by rw [HOL.out]; omega)]
        refine .inr ⟨_, _, by rw [← HSB.out, if_pos hc], by first | (simp [hkp]; done) | simp, fun j u hj => by simp at hj⟩
       ·rw [← HSB.out, if_neg hc]
        exact h2
      have HSRC := Lib.hid hsrc
      clear hsrc
      go_wp2_with (at_builtin; refine stop_append _ _ _ rfl ?_)
      unfold StopA
      refine wpList_append_src rfl _ _ 24 rfl wz.heap.size 48 j0 (.agg #[.string ⟨#[]⟩, .int .i64 0, .int .i64 0]) 3 32 Tryz.underlying24 hjnf hy0 hy1 hy2 rfl (by decide) (.slice (some ⟨wz.heap.size, 0, none⟩) 0 0) 0 [] rfl ?_ (.slice (some ⟨g, 0, none⟩) ((t + 1)) c) ((t + 1)) ((out.take (t + 1)).flatMap evCells) rfl ?_ (evCells_one _) (by unfold maxLen; omega) (by omega) (by simp) ?_
      ·exact World.ownsRow_lit (base := wz.heap.size) (e := 48) (size := 3) wz #[] 0 (Nat.le_refl _) (by decide) rfl
      ·exact (HSRC.out _ ((Kept.refl _ wz).alloc _)).1
      intro v5 w5 hown5 hgrow5
      rw [Nat.zero_add, List.nil_append] at hown5
      have hk5 : Kept (fun i => wz.heap.size ≤ i) wz w5 := ((Kept.refl _ wz).alloc (.cells #[] 48)).grown hgrow5 (fun j e => .inl (by have h9 : wz.heap.size = j := (by simpa [Value.ownBlock] using e); omega))
      obtain ⟨A5, c5, rfl⟩ := own_slice hown5
      have HO5 := Lib.hid hown5
      have HK5 := Lib.hid hk5
      have hz5 := hk5.size
      clear hown5 hgrow5 hk5 hs1
      have hw5 : Kept Nil wo w5 := HKZ.out.trans HK5.out (fun i h => .inr (by omega))
      have hx5 := HXC.out _ hw5
      obtain ⟨z0, z1, z2⟩ := hx5
      have hb5 : b < w5.heap.size := by omega
      clear hw5
      go_wp2_with (at_builtin; refine stop_append _ _ _ rfl ?_)
      unfold StopA
      refine wpList_append_own_at _ rfl _ _ 24 rfl wz.heap.size 48 j0 (.agg #[.string ⟨#[]⟩, .int .i64 0, .int .i64 0]) 3 32 Tryz.underlying24 hjnf hy0 hy1 hy2 rfl (by decide) (.slice A5 ((t + 1)) c5) ((t + 1)) ((out.take (t + 1)).flatMap evCells) rfl (HO5.out.alloc _) ⟨w5.heap.size, 0, none⟩ 1 1 [.string x.to, .int .i64 x.at_, .int .i64 x.value] rfl rfl (cells_new _ _ _) (by simp [Value.oneCell']) (by unfold maxLen; omega) (by omega) (by simp; omega) ?_
      intro v7 w7 hown7 hgrow7 _ _
      obtain ⟨g7, c7, rfl⟩ := ownsRow_succ hown7
      have hk7 : Kept (fun i => wz.heap.size ≤ i) wz w7 := HK5.out.trans (((Kept.refl (fun i => wz.heap.size ≤ i) w5).alloc _).grown hgrow7 (fun j e => .inl (HO5.out.lt j e).1)) (fun i h => .inl h)
      have HO7 := Lib.hid hown7
      have HK7 := Lib.hid hk7
      have hz7 := hk7.size
      clear hown7 hgrow7 hk7 z0 z1 z2
      go_wp2_with (at_builtin; refine stop_append _ _ _ rfl ?_)
      unfold StopA
      refine wpList_append_src rfl _ _ 24 rfl wz.heap.size 48 j0 (.agg #[.string ⟨#[]⟩, .int .i64 0, .int .i64 0]) 3 32 Tryz.underlying24 hjnf hy0 hy1 hy2 rfl (by decide) (.slice (some ⟨g7, 0, none⟩) ((t + 1) + 1) c7) ((t + 1) + 1) _ rfl HO7.out (.slice sb (k - (t + 1)) (c - (t + 1))) (k - (t + 1)) ((out.drop (t + 1)).flatMap evCells) rfl (HSRC.out _ HK7.out).2 (evCells_one _) (by unfold maxLen; omega) (by omega) (by omega) ?_
      intro v8 w8 hown8 hgrow8
      rw [show (t + 1) + 1 + (k - (t + 1)) = k + 1 by omega] at hown8
      obtain ⟨g8, c8, rfl⟩ := ownsRow_succ hown8
      have hk8 : Kept (fun i => wz.heap.size ≤ i) wz w8 := HK7.out.trans ((Kept.refl (fun i => wz.heap.size ≤ i) w7).grown hgrow8 (fun j e => .inl (HO7.out.lt j e).1)) (fun i h => .inl h)
      have hins : (out.take ((t + 1))).flatMap evCells ++ [.string x.to, .int .i64 x.at_, .int .i64 x.value] ++ (out.drop ((t + 1))).flatMap evCells = (insR elt out x).flatMap evCells := by rw [← ins_split elt x out _ HP.out, List.flatMap_append, List.flatMap_append]; rfl
      rw [hins] at hown8
      have HO8 := Lib.hid (own_lower hown8 (base' := w.heap.size) (fun j e => by have h9 := (hown8.lt j e).1; omega))
      have HK8 := Lib.hid hk8
      clear hown8 hgrow8 hk8 hins hs2
      go_wp2_with fail
      go_round
      exact ⟨k + 1, g8, c8, insR elt out x, by omega, by go_num, by rw [HO.out]; exact (insAll_take HEX.out).symm, by rw [insR_length, HOL.out], rfl, HO8.out, HK.out.trans (HKZ.out.trans HK8.out (fun i h => .inr (by omega))) (fun i h => .inl h)⟩
      case measure => (simp [intOf] <;> omega)
  ·have hkl : k = l.length := by omega
   subst hkl
   go_wp2_with fail
   go_ret
   have hO := HO.out
   rw [List.take_length] at hO
   rw [← hO]
   exact ⟨_, rfl, HOW.out, HK.out⟩
end Go.Proofs.YtniocgnfgpaioaaGreat.Mo
end
