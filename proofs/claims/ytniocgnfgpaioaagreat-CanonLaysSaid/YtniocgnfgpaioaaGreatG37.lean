/- The walks of sandtableref16.vars, procs, links: things are put in by their names, one by one. -/
import Derived.Test.YtniocgnfgpaioaaGreatG15
import Derived.Test.YtniocgnfgpaioaaGreatG19
import Derived.BigQuiet
import Derived.Deep.Cut
set_option linter.unusedVariables false
set_option linter.unusedSimpArgs false
namespace Go.Proofs.YtniocgnfgpaioaaGreat.Mo
open Go Go.RowKit Go.Proofs.YtniocgnfgpaioaaGreat.Lb Go.Proofs.YtniocgnfgpaioaaGreat.HpPure
set_option maxRecDepth 8000
theorem rowOf_take {α : Type} {w : World} {A : Option Addr} {C : Nat} {cells : α → List Value} {l : List α} (h : RowOf w A C cells l) (n : Nat) : RowOf w A C cells (l.take n) := by
 rcases h with h | ⟨b, off, e, hc⟩
 ·exact .inl (by rw [h, List.take_nil])
 ·refine .inr ⟨b, off, e, fun j o hj c hcc => hc j o ?_ c hcc⟩
  rw [List.getElem?_take] at hj
  split at hj
  ·exact hj
  ·cases hj
theorem rowOf_drop {α : Type} {w : World} {b off C : Nat} {cells : α → List Value} {l : List α} (h : RowOf w (some ⟨b, off, none⟩) C cells l) (n : Nat) : RowOf w (some ⟨b, off + n * C, none⟩) C cells (l.drop n) := by
 rcases h with h | ⟨b', off', e, hc⟩
 ·exact .inl (by rw [h, List.drop_nil])
 ·cases e
  refine .inr ⟨b, off + n * C, rfl, fun j o hj c hcc => ?_⟩
  rw [List.getElem?_drop] at hj
  have h9 := hc _ o hj c hcc
  rw [Nat.add_mul] at h9
  rw [← h9]
  congr 2
  omega
theorem ins_split {α : Type} (lt : α → α → Bool) (x : α) (out : List α) (p : Nat) (h : posR lt x out out.length = p) : out.take p ++ [x] ++ out.drop p = insR lt out x := by
 unfold insR
 rw [h, List.append_assoc]
 rfl
set_option maxHeartbeats 16000000 in
theorem insV_is (l : List V) (A0 : Option Addr) (c0 : Nat) (w : World) (hr : RowOf w A0 2 vrCells l) (hn : l.length ≤ 100000) :
  Calls Tryz.prog 42 #[.slice A0 l.length c0] w fun e w' => ∃ v, e = .returned v ∧ w'.ownsRow w.heap.size 40 2 v l.length ((insAll vlt l).flatMap vrCells) ∧ Kept Nil w w' := by
 obtain ⟨j0, hjnf, hy0, hy1, hy2⟩ := info_parts infoCV
 have HR := Lib.hid hr
 clear hr
 go_enter Tryz.func42, Tryz.ntmps42
 go_upto_region 3 with fail
 go_loopw [3, 4] (fun o i wr => ∃ (k g c : Nat) (out : List V), k ≤ l.length ∧ i = .int .i64 k ∧ out = insAll vlt (l.take k) ∧ out.length = k ∧ o = .slice (some ⟨g, 0, none⟩) k c ∧ wr.ownsRow w.heap.size 40 2 o k (out.flatMap vrCells) ∧ Kept Nil w wr) (fun _ i _ => l.length - (intOf i).toNat)
 case atStart => exact ⟨0, w.heap.size, 0, [], Nat.zero_le _, rfl, by rw [List.take_zero]; rfl, rfl, rfl, World.ownsRow_lit (base := w.heap.size) (e := 40) (size := 2) w #[] 0 (Nat.le_refl _) (by decide) rfl, (Kept.refl Nil w).alloc _⟩
 case round =>
  obtain ⟨k, g, c, out, hk, rfl, ho, hol, rfl, hown, hK⟩ := hrel
  obtain ⟨wo, hwo⟩ : ∃ x, x = wr := ⟨_, rfl⟩
  subst hwo
  have HO := Lib.hid ho
  have HOL := Lib.hid hol
  have HOW := Lib.hid hown
  have HK := Lib.hid hK
  have hzr := hK.size
  have hkc : k ≤ c := by have := le_of_own hown; omega
  have hcm : c ≤ maxLen := by
   rcases own_form hown with ⟨h1, h2, h3⟩ | ⟨g9, c9, h1, h2, h3, h4, h5⟩
   ·cases h1
   ·cases h1; exact h5
  unfold maxLen at hcm
  have hgb : w.heap.size ≤ g ∧ g < wo.heap.size := hown.lt g rfl
  clear ho hol hown hK
  by_cases hlt : k < l.length
  ·obtain ⟨x, ex⟩ : ∃ v, l[k]? = some v := ⟨_, List.getElem?_eq_getElem hlt⟩
   have HEX := Lib.hid ex
   have hlt2 : (k : Int) < (l.length : Int) := by omega
   have hw : IntKind.i64.wrap ((k : Int) + 1) = (k : Int) + 1 := by rw [IntKind.wrap_i64]; omega
   clear ex
   obtain ⟨b, off, e1, hxc⟩ : ∃ b off, A0 = some ⟨b, off, none⟩ ∧ ∀ W, Kept Nil wo W → W.cell? ⟨b, off + k * 2, none⟩ = some (.string x.name) ∧ W.cell? ⟨b, off + k * 2 + 1, none⟩ = some (.int .i64 x.init) := by
    rcases HR.out with h | ⟨b, off, e, hc⟩
    ·rw [h] at hlt; simp at hlt
    ·refine ⟨b, off, e, fun W hW => ?_⟩
     have hkk := HK.out.step hW
     exact ⟨hkk.cell (hc k x HEX.out 0 (by decide)) (fun h => h), hkk.cell (hc k x HEX.out 1 (by decide)) (fun h => h)⟩
   subst e1
   have HXC := Lib.hid hxc
   have hbs : b < wo.heap.size := World.block_lt_of_cell? _ _ (hxc wo (Kept.refl _ _)).1
   clear hxc
   go_upto_region 6 with fail
   go_loopw [5] (fun a wq => ∃ at_ : Nat, at_ ≤ k ∧ a = .int .i64 at_ ∧ posR vlt x out k = posR vlt x out at_ ∧ Kept Nil wo wq) (fun a _ => (intOf a).toNat)
   case atStart => exact ⟨k, Nat.le_refl _, rfl, rfl, Kept.refl _ _⟩
   case round =>
    obtain ⟨at_, hat, rfl, hpos, hKq⟩ := hrel
    obtain ⟨wq, hwq⟩ : ∃ x, x = wr := ⟨_, rfl⟩
    subst hwq
    have HPOS := Lib.hid hpos
    have HKQ := Lib.hid hKq
    have hzq := hKq.size
    have hxw := HXC.out _ hKq
    obtain ⟨x0, x1⟩ := hxw
    have hbq : b < wq.heap.size := by omega
    have hgq : g < wq.heap.size := by omega
    clear hpos hKq
    by_cases h0 : at_ = 0
    ·subst h0
     have hg0 : decide ((0 : Int) < 0) = false := by decide
     go_upto_region 6 with fail
     go_big_quiet (fail)
     have hp : posR vlt x out out.length = 0 := by rw [HOL.out]; exact HPOS.out.trans rfl
     have HP := Lib.hid hp
     clear hp
     have htn : (0 : Int).toNat = 0 := by omega
     have ht : Tryz.prog.underlying 31 = some (.slice (Tryz.prog.elem 31)) := by kernel_rfl
     have hs1 : ∀ w' : World, (Instr.slice 31 (.slice (some ⟨g, 0, none⟩) k c) none (some (.int .i64 0)) none).run Tryz.prog w' = .ok (.slice (some ⟨g, 0, none⟩) 0 c) w' := by
      intro w'
      rw [run_slice_h w' _ (some ⟨g, 0, none⟩) k c ht .i64 0 (by omega) (by omega)]
      simp [go_sem, sliced, Result.andThen, Addr.add, htn]
     obtain ⟨sb, hsb⟩ : ∃ sb, (if c = 0 then some (⟨g, 0, none⟩ : Addr) else some (⟨g, 0 + 0 * 2, none⟩ : Addr)) = sb := ⟨_, rfl⟩
     have hs2 : ∀ w' : World, (Instr.slice 31 (.slice (some ⟨g, 0, none⟩) k c) (some (.int .i64 0)) none none).run Tryz.prog w' = .ok (.slice sb (k - 0) (c - 0)) w' := by
      intro w'
      rw [run_slice_l w' _ (some ⟨g, 0, none⟩) k c ht .i64 0 (by omega) (by omega)]
      simp [go_sem, sliced, Result.andThen, Addr.add, htn, ← hsb]
     have HSB := Lib.hid hsb
     clear hsb ht htn
     go_upto_region 8 with fail
     obtain ⟨wz, hwz⟩ : ∃ wz, wq.drewN nq = wz := ⟨_, rfl⟩
     rw [hwz]
     have hkz : Kept Nil wo wz := by rw [← hwz]; exact HKQ.out.drewN _
     have HKZ := Lib.hid hkz
     have hzz := hkz.size
     have hbz : b < wz.heap.size := by omega
     have hgz : g < wz.heap.size := by omega
     clear hkz hwz
     have hro : RowOf wz (some ⟨g, 0, none⟩) 2 vrCells out := (newRow_of_own (HKZ.out.own HOW.out (fun _ _ h => h)) vrCells_len (by decide)).row
     have HRO := Lib.hid hro
     clear hro
     have hsrc : ∀ W, Kept (fun i => wz.heap.size ≤ i) wz W → SrcRow W 2 (.slice (some ⟨g, 0, none⟩) 0 c) (0) ((out.take 0).flatMap vrCells) ∧ SrcRow W 2 (.slice sb (k - 0) (c - 0)) (k - 0) ((out.drop 0).flatMap vrCells) := by
      intro W hW
      have hr := rowOf_kept vrCells_len hW (fun b off hn e h => by cases e; omega) HRO.out
      have h1 := (rowOf_take hr (0)).src (cap := c) vrCells_len (by decide) (fun h => by cases h)
      have h2 := (rowOf_drop hr (0)).src (cap := c - 0) vrCells_len (by decide) (fun h => by cases h)
      rw [show (out.take 0).length = 0 by rw [List.length_take, HOL.out]; omega] at h1
      rw [show (out.drop 0).length = k - 0 by rw [List.length_drop, HOL.out]] at h2
      refine ⟨h1, ?_⟩
      by_cases hc : c = 0
      ·have hkp : k - 0 = 0 := by omega
       rw [show out.drop 0 = [] by exact List.drop_eq_nil_of_le (by rw [HOL.out]; omega)]
       refine .inr ⟨_, _, by rw [← HSB.out, if_pos hc], by first | (simp [hkp]; done) | simp, fun j u hj => by simp at hj⟩
      ·rw [← HSB.out, if_neg hc]
       exact h2
     have HSRC := Lib.hid hsrc
     clear hsrc
     go_wp2_with (at_builtin; refine stop_append _ _ _ rfl ?_)
     unfold StopA
     refine wpList_append_src rfl _ _ 31 rfl wz.heap.size 40 j0 (.agg #[.string ⟨#[]⟩, .int .i64 0]) 2 24 Tryz.underlying31 hjnf hy0 hy1 hy2 rfl (by decide) (.slice (some ⟨wz.heap.size, 0, none⟩) 0 0) 0 [] rfl ?_ (.slice (some ⟨g, 0, none⟩) (0) c) (0) ((out.take 0).flatMap vrCells) rfl ?_ (vrCells_one _) (by unfold maxLen; omega) (by omega) (by simp) ?_
     ·exact World.ownsRow_lit (base := wz.heap.size) (e := 40) (size := 2) wz #[] 0 (Nat.le_refl _) (by decide) rfl
     ·exact (HSRC.out _ ((Kept.refl _ wz).alloc _)).1
     intro v5 w5 hown5 hgrow5
     rw [Nat.zero_add, List.nil_append] at hown5
     have hk5 : Kept (fun i => wz.heap.size ≤ i) wz w5 := ((Kept.refl _ wz).alloc (.cells #[] 40)).grown hgrow5 (fun j e => .inl (by have h9 : wz.heap.size = j := (by simpa [Value.ownBlock] using e); omega))
     obtain ⟨A5, c5, rfl⟩ := own_slice hown5
     have HO5 := Lib.hid hown5
     have HK5 := Lib.hid hk5
     have hz5 := hk5.size
     clear hown5 hgrow5 hk5 hs1
     have hw5 : Kept Nil wo w5 := HKZ.out.trans HK5.out (fun i h => .inr (by omega))
     have hx5 := HXC.out _ hw5
     obtain ⟨z0, z1⟩ := hx5
     have hb5 : b < w5.heap.size := by omega
     clear hw5
     go_wp2_with (at_builtin; refine stop_append _ _ _ rfl ?_)
     unfold StopA
     refine wpList_append_own_at _ rfl _ _ 31 rfl wz.heap.size 40 j0 (.agg #[.string ⟨#[]⟩, .int .i64 0]) 2 24 Tryz.underlying31 hjnf hy0 hy1 hy2 rfl (by decide) (.slice A5 (0) c5) (0) ((out.take 0).flatMap vrCells) rfl (HO5.out.alloc _) ⟨w5.heap.size, 0, none⟩ 1 1 [.string x.name, .int .i64 x.init] rfl rfl (cells_new _ _ _) (by simp [Value.oneCell']) (by unfold maxLen; omega) (by omega) (by simp; omega) ?_
     intro v7 w7 hown7 hgrow7 _ _
     obtain ⟨g7, c7, rfl⟩ := ownsRow_succ hown7
     have hk7 : Kept (fun i => wz.heap.size ≤ i) wz w7 := HK5.out.trans (((Kept.refl (fun i => wz.heap.size ≤ i) w5).alloc _).grown hgrow7 (fun j e => .inl (HO5.out.lt j e).1)) (fun i h => .inl h)
     have HO7 := Lib.hid hown7
     have HK7 := Lib.hid hk7
     have hz7 := hk7.size
     clear hown7 hgrow7 hk7 z0 z1
     go_wp2_with (at_builtin; refine stop_append _ _ _ rfl ?_)
     unfold StopA
     refine wpList_append_src rfl _ _ 31 rfl wz.heap.size 40 j0 (.agg #[.string ⟨#[]⟩, .int .i64 0]) 2 24 Tryz.underlying31 hjnf hy0 hy1 hy2 rfl (by decide) (.slice (some ⟨g7, 0, none⟩) (0 + 1) c7) (0 + 1) _ rfl HO7.out (.slice sb (k - 0) (c - 0)) (k - 0) ((out.drop 0).flatMap vrCells) rfl (HSRC.out _ HK7.out).2 (vrCells_one _) (by unfold maxLen; omega) (by omega) (by omega) ?_
     intro v8 w8 hown8 hgrow8
     rw [show 0 + 1 + (k - 0) = k + 1 by omega] at hown8
     obtain ⟨g8, c8, rfl⟩ := ownsRow_succ hown8
     have hk8 : Kept (fun i => wz.heap.size ≤ i) wz w8 := HK7.out.trans ((Kept.refl (fun i => wz.heap.size ≤ i) w7).grown hgrow8 (fun j e => .inl (HO7.out.lt j e).1)) (fun i h => .inl h)
     have hins : (out.take (0)).flatMap vrCells ++ [.string x.name, .int .i64 x.init] ++ (out.drop (0)).flatMap vrCells = (insR vlt out x).flatMap vrCells := by rw [← ins_split vlt x out _ HP.out, List.flatMap_append, List.flatMap_append]; rfl
     rw [hins] at hown8
     have HO8 := Lib.hid (own_lower hown8 (base' := w.heap.size) (fun j e => by have h9 := (hown8.lt j e).1; omega))
     have HK8 := Lib.hid hk8
     clear hown8 hgrow8 hk8 hins hs2
     go_wp2_with fail
     go_round
     exact ⟨k + 1, g8, c8, insR vlt out x, by omega, by go_num, by rw [HO.out]; exact (insAll_take HEX.out).symm, by rw [insR_length, HOL.out], rfl, HO8.out, HK.out.trans (HKZ.out.trans HK8.out (fun i h => .inr (by omega))) (fun i h => .inl h)⟩
     case measure => (simp [intOf] <;> omega)
    ·obtain ⟨t, rfl⟩ : ∃ t, at_ = t + 1 := ⟨at_ - 1, by omega⟩
     obtain ⟨y, ey⟩ : ∃ v, out[t]? = some v := ⟨_, List.getElem?_eq_getElem (by have := HOL.out; omega)⟩
     have hyc := own_cell (HKQ.out.own HOW.out (fun _ _ h => h)) (flat_get vrCells_len ey (c := 0) (by decide))
     have y0 : wq.cell? ⟨g, t * 2, none⟩ = some (.string y.name) := hyc
     have e0 : ((t + 1 : Nat) : Int) = (t : Int) + 1 := by omega
     rw [e0]
     clear e0 hyc h0
     have hg1 : decide ((0 : Int) < (t : Int) + 1) = true := decide_eq_true (by omega)
     have hg2 : IntKind.i64.wrap ((t : Int) + 1 - 1) = (t : Int) := by rw [IntKind.wrap_i64]; omega
     have hg3 : t < k := by omega
     have HEY := Lib.hid ey
     clear ey
     cases hl : Op.bytesLess x.name.toList y.name.toList with
     | true =>
      have hl2 : vlt x y = true := hl
      have HL := Lib.hid hl2
      clear hl2
      go_upto_region 6 with fail
      go_big_quiet (fail)
      go_wp2_with fail
      go_round
      exact ⟨t, by omega, by go_num, HPOS.out.trans (posR_go HEY.out HL.out), HKQ.out.drewN _⟩
      case measure => (simp [intOf] <;> omega)
     | false =>
      have hl2 : vlt x y = false := hl
      have HL := Lib.hid hl2
      clear hl2
      go_upto_region 6 with fail
      go_big_quiet (fail)
      have hp : posR vlt x out out.length = (t + 1) := by rw [HOL.out]; exact HPOS.out.trans (posR_stop HEY.out HL.out)
      have HP := Lib.hid hp
      clear hp
      have htn : (((t : Int) + 1) : Int).toNat = (t + 1) := by omega
      have ht : Tryz.prog.underlying 31 = some (.slice (Tryz.prog.elem 31)) := by kernel_rfl
      have hs1 : ∀ w' : World, (Instr.slice 31 (.slice (some ⟨g, 0, none⟩) k c) none (some (.int .i64 ((t : Int) + 1))) none).run Tryz.prog w' = .ok (.slice (some ⟨g, 0, none⟩) (t + 1) c) w' := by
       intro w'
       rw [run_slice_h w' _ (some ⟨g, 0, none⟩) k c ht .i64 ((t : Int) + 1) (by omega) (by omega)]
       simp [go_sem, sliced, Result.andThen, Addr.add, htn]
      obtain ⟨sb, hsb⟩ : ∃ sb, (if c = (t + 1) then some (⟨g, 0, none⟩ : Addr) else some (⟨g, 0 + (t + 1) * 2, none⟩ : Addr)) = sb := ⟨_, rfl⟩
      have hs2 : ∀ w' : World, (Instr.slice 31 (.slice (some ⟨g, 0, none⟩) k c) (some (.int .i64 ((t : Int) + 1))) none none).run Tryz.prog w' = .ok (.slice sb (k - (t + 1)) (c - (t + 1))) w' := by
       intro w'
       rw [run_slice_l w' _ (some ⟨g, 0, none⟩) k c ht .i64 ((t : Int) + 1) (by omega) (by omega)]
       simp [go_sem, sliced, Result.andThen, Addr.add, htn, ← hsb]
      have HSB := Lib.hid hsb
      clear hsb ht htn
      go_upto_region 8 with fail
      obtain ⟨wz, hwz⟩ : ∃ wz, wq.drewN nq = wz := ⟨_, rfl⟩
      rw [hwz]
      have hkz : Kept Nil wo wz := by rw [← hwz]; exact HKQ.out.drewN _
      have HKZ := Lib.hid hkz
      have hzz := hkz.size
      have hbz : b < wz.heap.size := by omega
      have hgz : g < wz.heap.size := by omega
      clear hkz hwz
      have hro : RowOf wz (some ⟨g, 0, none⟩) 2 vrCells out := (newRow_of_own (HKZ.out.own HOW.out (fun _ _ h => h)) vrCells_len (by decide)).row
      have HRO := Lib.hid hro
      clear hro
      have hsrc : ∀ W, Kept (fun i => wz.heap.size ≤ i) wz W → SrcRow W 2 (.slice (some ⟨g, 0, none⟩) (t + 1) c) ((t + 1)) ((out.take (t + 1)).flatMap vrCells) ∧ SrcRow W 2 (.slice sb (k - (t + 1)) (c - (t + 1))) (k - (t + 1)) ((out.drop (t + 1)).flatMap vrCells) := by
       intro W hW
       have hr := rowOf_kept vrCells_len hW (fun b off hn e h => by cases e; omega) HRO.out
       have h1 := (rowOf_take hr ((t + 1))).src (cap := c) vrCells_len (by decide) (fun h => by cases h)
       have h2 := (rowOf_drop hr ((t + 1))).src (cap := c - (t + 1)) vrCells_len (by decide) (fun h => by cases h)
       rw [show (out.take (t + 1)).length = (t + 1) by rw [List.length_take, HOL.out]; omega] at h1
       rw [show (out.drop (t + 1)).length = k - (t + 1) by rw [List.length_drop, HOL.out]] at h2
       refine ⟨h1, ?_⟩
       by_cases hc : c = (t + 1)
       ·have hkp : k - (t + 1) = 0 := by omega
        rw [show out.drop (t + 1) = [] by exact List.drop_eq_nil_of_le (by rw [HOL.out]; omega)]
        refine .inr ⟨_, _, by rw [← HSB.out, if_pos hc], by first | (simp [hkp]; done) | simp, fun j u hj => by simp at hj⟩
       ·rw [← HSB.out, if_neg hc]
        exact h2
      have HSRC := Lib.hid hsrc
      clear hsrc
      go_wp2_with (at_builtin; refine stop_append _ _ _ rfl ?_)
      unfold StopA
      refine wpList_append_src rfl _ _ 31 rfl wz.heap.size 40 j0 (.agg #[.string ⟨#[]⟩, .int .i64 0]) 2 24 Tryz.underlying31 hjnf hy0 hy1 hy2 rfl (by decide) (.slice (some ⟨wz.heap.size, 0, none⟩) 0 0) 0 [] rfl ?_ (.slice (some ⟨g, 0, none⟩) ((t + 1)) c) ((t + 1)) ((out.take (t + 1)).flatMap vrCells) rfl ?_ (vrCells_one _) (by unfold maxLen; omega) (by omega) (by simp) ?_
      ·exact World.ownsRow_lit (base := wz.heap.size) (e := 40) (size := 2) wz #[] 0 (Nat.le_refl _) (by decide) rfl
      ·exact (HSRC.out _ ((Kept.refl _ wz).alloc _)).1
      intro v5 w5 hown5 hgrow5
      rw [Nat.zero_add, List.nil_append] at hown5
      have hk5 : Kept (fun i => wz.heap.size ≤ i) wz w5 := ((Kept.refl _ wz).alloc (.cells #[] 40)).grown hgrow5 (fun j e => .inl (by have h9 : wz.heap.size = j := (by simpa [Value.ownBlock] using e); omega))
      obtain ⟨A5, c5, rfl⟩ := own_slice hown5
      have HO5 := Lib.hid hown5
      have HK5 := Lib.hid hk5
      have hz5 := hk5.size
      clear hown5 hgrow5 hk5 hs1
      have hw5 : Kept Nil wo w5 := HKZ.out.trans HK5.out (fun i h => .inr (by omega))
      have hx5 := HXC.out _ hw5
      obtain ⟨z0, z1⟩ := hx5
      have hb5 : b < w5.heap.size := by omega
      clear hw5
      go_wp2_with (at_builtin; refine stop_append _ _ _ rfl ?_)
      unfold StopA
      refine wpList_append_own_at _ rfl _ _ 31 rfl wz.heap.size 40 j0 (.agg #[.string ⟨#[]⟩, .int .i64 0]) 2 24 Tryz.underlying31 hjnf hy0 hy1 hy2 rfl (by decide) (.slice A5 ((t + 1)) c5) ((t + 1)) ((out.take (t + 1)).flatMap vrCells) rfl (HO5.out.alloc _) ⟨w5.heap.size, 0, none⟩ 1 1 [.string x.name, .int .i64 x.init] rfl rfl (cells_new _ _ _) (by simp [Value.oneCell']) (by unfold maxLen; omega) (by omega) (by simp; omega) ?_
      intro v7 w7 hown7 hgrow7 _ _
      obtain ⟨g7, c7, rfl⟩ := ownsRow_succ hown7
      have hk7 : Kept (fun i => wz.heap.size ≤ i) wz w7 := HK5.out.trans (((Kept.refl (fun i => wz.heap.size ≤ i) w5).alloc _).grown hgrow7 (fun j e => .inl (HO5.out.lt j e).1)) (fun i h => .inl h)
      have HO7 := Lib.hid hown7
      have HK7 := Lib.hid hk7
      have hz7 := hk7.size
      clear hown7 hgrow7 hk7 z0 z1
      go_wp2_with (at_builtin; refine stop_append _ _ _ rfl ?_)
      unfold StopA
      refine wpList_append_src rfl _ _ 31 rfl wz.heap.size 40 j0 (.agg #[.string ⟨#[]⟩, .int .i64 0]) 2 24 Tryz.underlying31 hjnf hy0 hy1 hy2 rfl (by decide) (.slice (some ⟨g7, 0, none⟩) ((t + 1) + 1) c7) ((t + 1) + 1) _ rfl HO7.out (.slice sb (k - (t + 1)) (c - (t + 1))) (k - (t + 1)) ((out.drop (t + 1)).flatMap vrCells) rfl (HSRC.out _ HK7.out).2 (vrCells_one _) (by unfold maxLen; omega) (by omega) (by omega) ?_
      intro v8 w8 hown8 hgrow8
      rw [show (t + 1) + 1 + (k - (t + 1)) = k + 1 by omega] at hown8
      obtain ⟨g8, c8, rfl⟩ := ownsRow_succ hown8
      have hk8 : Kept (fun i => wz.heap.size ≤ i) wz w8 := HK7.out.trans ((Kept.refl (fun i => wz.heap.size ≤ i) w7).grown hgrow8 (fun j e => .inl (HO7.out.lt j e).1)) (fun i h => .inl h)
      have hins : (out.take ((t + 1))).flatMap vrCells ++ [.string x.name, .int .i64 x.init] ++ (out.drop ((t + 1))).flatMap vrCells = (insR vlt out x).flatMap vrCells := by rw [← ins_split vlt x out _ HP.out, List.flatMap_append, List.flatMap_append]; rfl
      rw [hins] at hown8
      have HO8 := Lib.hid (own_lower hown8 (base' := w.heap.size) (fun j e => by have h9 := (hown8.lt j e).1; omega))
      have HK8 := Lib.hid hk8
      clear hown8 hgrow8 hk8 hins hs2
      go_wp2_with fail
      go_round
      exact ⟨k + 1, g8, c8, insR vlt out x, by omega, by go_num, by rw [HO.out]; exact (insAll_take HEX.out).symm, by rw [insR_length, HOL.out], rfl, HO8.out, HK.out.trans (HKZ.out.trans HK8.out (fun i h => .inr (by omega))) (fun i h => .inl h)⟩
      case measure => (simp [intOf] <;> omega)
  ·have hkl : k = l.length := by omega
   subst hkl
   go_wp2_with fail
   go_ret
   have hO := HO.out
   rw [List.take_length] at hO
   rw [← hO]
   exact ⟨_, rfl, HOW.out, HK.out⟩
set_option maxHeartbeats 16000000 in
theorem insP_is (l : List Pr) (A0 : Option Addr) (c0 : Nat) (w : World) (hr : RowOf w A0 4 prCells l) (hn : l.length ≤ 100000) :
  Calls Tryz.prog 39 #[.slice A0 l.length c0] w fun e w' => ∃ v, e = .returned v ∧ w'.ownsRow w.heap.size 34 4 v l.length ((insAll plt l).flatMap prCells) ∧ Kept Nil w w' := by
 obtain ⟨j0, hjnf, hy0, hy1, hy2⟩ := info_parts infoCP
 have HR := Lib.hid hr
 clear hr
 go_enter Tryz.func39, Tryz.ntmps39
 go_upto_region 3 with fail
 go_loopw [3, 4] (fun o i wr => ∃ (k g c : Nat) (out : List Pr), k ≤ l.length ∧ i = .int .i64 k ∧ out = insAll plt (l.take k) ∧ out.length = k ∧ o = .slice (some ⟨g, 0, none⟩) k c ∧ wr.ownsRow w.heap.size 34 4 o k (out.flatMap prCells) ∧ Kept Nil w wr) (fun _ i _ => l.length - (intOf i).toNat)
 case atStart => exact ⟨0, w.heap.size, 0, [], Nat.zero_le _, rfl, by rw [List.take_zero]; rfl, rfl, rfl, World.ownsRow_lit (base := w.heap.size) (e := 34) (size := 4) w #[] 0 (Nat.le_refl _) (by decide) rfl, (Kept.refl Nil w).alloc _⟩
 case round =>
  obtain ⟨k, g, c, out, hk, rfl, ho, hol, rfl, hown, hK⟩ := hrel
  obtain ⟨wo, hwo⟩ : ∃ x, x = wr := ⟨_, rfl⟩
  subst hwo
  have HO := Lib.hid ho
  have HOL := Lib.hid hol
  have HOW := Lib.hid hown
  have HK := Lib.hid hK
  have hzr := hK.size
  have hkc : k ≤ c := by have := le_of_own hown; omega
  have hcm : c ≤ maxLen := by
   rcases own_form hown with ⟨h1, h2, h3⟩ | ⟨g9, c9, h1, h2, h3, h4, h5⟩
   ·cases h1
   ·cases h1; exact h5
  unfold maxLen at hcm
  have hgb : w.heap.size ≤ g ∧ g < wo.heap.size := hown.lt g rfl
  clear ho hol hown hK
  by_cases hlt : k < l.length
  ·obtain ⟨x, ex⟩ : ∃ v, l[k]? = some v := ⟨_, List.getElem?_eq_getElem hlt⟩
   have HEX := Lib.hid ex
   have hlt2 : (k : Int) < (l.length : Int) := by omega
   have hw : IntKind.i64.wrap ((k : Int) + 1) = (k : Int) + 1 := by rw [IntKind.wrap_i64]; omega
   clear ex
   obtain ⟨b, off, e1, hxc⟩ : ∃ b off, A0 = some ⟨b, off, none⟩ ∧ ∀ W, Kept Nil wo W → W.cell? ⟨b, off + k * 4, none⟩ = some (.string x.name) ∧ W.cell? ⟨b, off + k * 4 + 1, none⟩ = some (.int .i64 x.weight) ∧ W.cell? ⟨b, off + k * 4 + 2, none⟩ = some (.slice x.va x.vs.length x.vc) ∧ W.cell? ⟨b, off + k * 4 + 3, none⟩ = some (.slice x.sa x.ss.length x.sc) := by
    rcases HR.out with h | ⟨b, off, e, hc⟩
    ·rw [h] at hlt; simp at hlt
    ·refine ⟨b, off, e, fun W hW => ?_⟩
     have hkk := HK.out.step hW
     exact ⟨hkk.cell (hc k x HEX.out 0 (by decide)) (fun h => h), hkk.cell (hc k x HEX.out 1 (by decide)) (fun h => h), hkk.cell (hc k x HEX.out 2 (by decide)) (fun h => h), hkk.cell (hc k x HEX.out 3 (by decide)) (fun h => h)⟩
   subst e1
   have HXC := Lib.hid hxc
   have hbs : b < wo.heap.size := World.block_lt_of_cell? _ _ (hxc wo (Kept.refl _ _)).1
   clear hxc
   go_upto_region 6 with fail
   go_loopw [5] (fun a wq => ∃ at_ : Nat, at_ ≤ k ∧ a = .int .i64 at_ ∧ posR plt x out k = posR plt x out at_ ∧ Kept Nil wo wq) (fun a _ => (intOf a).toNat)
   case atStart => exact ⟨k, Nat.le_refl _, rfl, rfl, Kept.refl _ _⟩
   case round =>
    obtain ⟨at_, hat, rfl, hpos, hKq⟩ := hrel
    obtain ⟨wq, hwq⟩ : ∃ x, x = wr := ⟨_, rfl⟩
    subst hwq
    have HPOS := Lib.hid hpos
    have HKQ := Lib.hid hKq
    have hzq := hKq.size
    have hxw := HXC.out _ hKq
    obtain ⟨x0, x1, x2, x3⟩ := hxw
    have hbq : b < wq.heap.size := by omega
    have hgq : g < wq.heap.size := by omega
    clear hpos hKq
    by_cases h0 : at_ = 0
    ·subst h0
     have hg0 : decide ((0 : Int) < 0) = false := by decide
     go_upto_region 6 with fail
     go_big_quiet (fail)
     have hp : posR plt x out out.length = 0 := by rw [HOL.out]; exact HPOS.out.trans rfl
     have HP := Lib.hid hp
     clear hp
     have htn : (0 : Int).toNat = 0 := by omega
     have ht : Tryz.prog.underlying 22 = some (.slice (Tryz.prog.elem 22)) := by kernel_rfl
     have hs1 : ∀ w' : World, (Instr.slice 22 (.slice (some ⟨g, 0, none⟩) k c) none (some (.int .i64 0)) none).run Tryz.prog w' = .ok (.slice (some ⟨g, 0, none⟩) 0 c) w' := by
      intro w'
      rw [run_slice_h w' _ (some ⟨g, 0, none⟩) k c ht .i64 0 (by omega) (by omega)]
      simp [go_sem, sliced, Result.andThen, Addr.add, htn]
     obtain ⟨sb, hsb⟩ : ∃ sb, (if c = 0 then some (⟨g, 0, none⟩ : Addr) else some (⟨g, 0 + 0 * 4, none⟩ : Addr)) = sb := ⟨_, rfl⟩
     have hs2 : ∀ w' : World, (Instr.slice 22 (.slice (some ⟨g, 0, none⟩) k c) (some (.int .i64 0)) none none).run Tryz.prog w' = .ok (.slice sb (k - 0) (c - 0)) w' := by
      intro w'
      rw [run_slice_l w' _ (some ⟨g, 0, none⟩) k c ht .i64 0 (by omega) (by omega)]
      simp [go_sem, sliced, Result.andThen, Addr.add, htn, ← hsb]
     have HSB := Lib.hid hsb
     clear hsb ht htn
     go_upto_region 8 with fail
     obtain ⟨wz, hwz⟩ : ∃ wz, wq.drewN nq = wz := ⟨_, rfl⟩
     rw [hwz]
     have hkz : Kept Nil wo wz := by rw [← hwz]; exact HKQ.out.drewN _
     have HKZ := Lib.hid hkz
     have hzz := hkz.size
     have hbz : b < wz.heap.size := by omega
     have hgz : g < wz.heap.size := by omega
     clear hkz hwz
     have hro : RowOf wz (some ⟨g, 0, none⟩) 4 prCells out := (newRow_of_own (HKZ.out.own HOW.out (fun _ _ h => h)) prCells_len (by decide)).row
     have HRO := Lib.hid hro
     clear hro
     have hsrc : ∀ W, Kept (fun i => wz.heap.size ≤ i) wz W → SrcRow W 4 (.slice (some ⟨g, 0, none⟩) 0 c) (0) ((out.take 0).flatMap prCells) ∧ SrcRow W 4 (.slice sb (k - 0) (c - 0)) (k - 0) ((out.drop 0).flatMap prCells) := by
      intro W hW
      have hr := rowOf_kept prCells_len hW (fun b off hn e h => by cases e; omega) HRO.out
      have h1 := (rowOf_take hr (0)).src (cap := c) prCells_len (by decide) (fun h => by cases h)
      have h2 := (rowOf_drop hr (0)).src (cap := c - 0) prCells_len (by decide) (fun h => by cases h)
      rw [show (out.take 0).length = 0 by rw [List.length_take, HOL.out]; omega] at h1
      rw [show (out.drop 0).length = k - 0 by rw [List.length_drop, HOL.out]] at h2
      refine ⟨h1, ?_⟩
      by_cases hc : c = 0
      ·have hkp : k - 0 = 0 := by omega
       rw [show out.drop 0 = [] by exact List.drop_eq_nil_of_le (by rw [HOL.out]; omega)]
       refine .inr ⟨_, _, by rw [← HSB.out, if_pos hc], by first | (simp [hkp]; done) | simp, fun j u hj => by simp at hj⟩
      ·rw [← HSB.out, if_neg hc]
       exact h2
     have HSRC := Lib.hid hsrc
     clear hsrc
     go_wp2_with (at_builtin; refine stop_append _ _ _ rfl ?_)
     unfold StopA
     refine wpList_append_src rfl _ _ 22 rfl wz.heap.size 34 j0 (.agg #[.string ⟨#[]⟩, .int .i64 0, .slice none 0 0, .slice none 0 0]) 4 72 Tryz.underlying22 hjnf hy0 hy1 hy2 rfl (by decide) (.slice (some ⟨wz.heap.size, 0, none⟩) 0 0) 0 [] rfl ?_ (.slice (some ⟨g, 0, none⟩) (0) c) (0) ((out.take 0).flatMap prCells) rfl ?_ (prCells_one _) (by unfold maxLen; omega) (by omega) (by simp) ?_
     ·exact World.ownsRow_lit (base := wz.heap.size) (e := 34) (size := 4) wz #[] 0 (Nat.le_refl _) (by decide) rfl
     ·exact (HSRC.out _ ((Kept.refl _ wz).alloc _)).1
     intro v5 w5 hown5 hgrow5
     rw [Nat.zero_add, List.nil_append] at hown5
     have hk5 : Kept (fun i => wz.heap.size ≤ i) wz w5 := ((Kept.refl _ wz).alloc (.cells #[] 34)).grown hgrow5 (fun j e => .inl (by have h9 : wz.heap.size = j := (by simpa [Value.ownBlock] using e); omega))
     obtain ⟨A5, c5, rfl⟩ := own_slice hown5
     have HO5 := Lib.hid hown5
     have HK5 := Lib.hid hk5
     have hz5 := hk5.size
     clear hown5 hgrow5 hk5 hs1
     have hw5 : Kept Nil wo w5 := HKZ.out.trans HK5.out (fun i h => .inr (by omega))
     have hx5 := HXC.out _ hw5
     obtain ⟨z0, z1, z2, z3⟩ := hx5
     have hb5 : b < w5.heap.size := by omega
     clear hw5
     go_wp2_with (at_builtin; refine stop_append _ _ _ rfl ?_)
     unfold StopA
     refine wpList_append_own_at _ rfl _ _ 22 rfl wz.heap.size 34 j0 (.agg #[.string ⟨#[]⟩, .int .i64 0, .slice none 0 0, .slice none 0 0]) 4 72 Tryz.underlying22 hjnf hy0 hy1 hy2 rfl (by decide) (.slice A5 (0) c5) (0) ((out.take 0).flatMap prCells) rfl (HO5.out.alloc _) ⟨w5.heap.size, 0, none⟩ 1 1 [.string x.name, .int .i64 x.weight, .slice x.va x.vs.length x.vc, .slice x.sa x.ss.length x.sc] rfl rfl (cells_new _ _ _) (by simp [Value.oneCell']) (by unfold maxLen; omega) (by omega) (by simp; omega) ?_
     intro v7 w7 hown7 hgrow7 _ _
     obtain ⟨g7, c7, rfl⟩ := ownsRow_succ hown7
     have hk7 : Kept (fun i => wz.heap.size ≤ i) wz w7 := HK5.out.trans (((Kept.refl (fun i => wz.heap.size ≤ i) w5).alloc _).grown hgrow7 (fun j e => .inl (HO5.out.lt j e).1)) (fun i h => .inl h)
     have HO7 := Lib.hid hown7
     have HK7 := Lib.hid hk7
     have hz7 := hk7.size
     clear hown7 hgrow7 hk7 z0 z1 z2 z3
     go_wp2_with (at_builtin; refine stop_append _ _ _ rfl ?_)
     unfold StopA
     refine wpList_append_src rfl _ _ 22 rfl wz.heap.size 34 j0 (.agg #[.string ⟨#[]⟩, .int .i64 0, .slice none 0 0, .slice none 0 0]) 4 72 Tryz.underlying22 hjnf hy0 hy1 hy2 rfl (by decide) (.slice (some ⟨g7, 0, none⟩) (0 + 1) c7) (0 + 1) _ rfl HO7.out (.slice sb (k - 0) (c - 0)) (k - 0) ((out.drop 0).flatMap prCells) rfl (HSRC.out _ HK7.out).2 (prCells_one _) (by unfold maxLen; omega) (by omega) (by omega) ?_
     intro v8 w8 hown8 hgrow8
     rw [show 0 + 1 + (k - 0) = k + 1 by omega] at hown8
     obtain ⟨g8, c8, rfl⟩ := ownsRow_succ hown8
     have hk8 : Kept (fun i => wz.heap.size ≤ i) wz w8 := HK7.out.trans ((Kept.refl (fun i => wz.heap.size ≤ i) w7).grown hgrow8 (fun j e => .inl (HO7.out.lt j e).1)) (fun i h => .inl h)
     have hins : (out.take (0)).flatMap prCells ++ [.string x.name, .int .i64 x.weight, .slice x.va x.vs.length x.vc, .slice x.sa x.ss.length x.sc] ++ (out.drop (0)).flatMap prCells = (insR plt out x).flatMap prCells := by rw [← ins_split plt x out _ HP.out, List.flatMap_append, List.flatMap_append]; rfl
     rw [hins] at hown8
     have HO8 := Lib.hid (own_lower hown8 (base' := w.heap.size) (fun j e => by have h9 := (hown8.lt j e).1; omega))
     have HK8 := Lib.hid hk8
     clear hown8 hgrow8 hk8 hins hs2
     go_wp2_with fail
     go_round
     exact ⟨k + 1, g8, c8, insR plt out x, by omega, by go_num, by rw [HO.out]; exact (insAll_take HEX.out).symm, by rw [insR_length, HOL.out], rfl, HO8.out, HK.out.trans (HKZ.out.trans HK8.out (fun i h => .inr (by omega))) (fun i h => .inl h)⟩
     case measure => (simp [intOf] <;> omega)
    ·obtain ⟨t, rfl⟩ : ∃ t, at_ = t + 1 := ⟨at_ - 1, by omega⟩
     obtain ⟨y, ey⟩ : ∃ v, out[t]? = some v := ⟨_, List.getElem?_eq_getElem (by have := HOL.out; omega)⟩
     have hyc := own_cell (HKQ.out.own HOW.out (fun _ _ h => h)) (flat_get prCells_len ey (c := 0) (by decide))
     have y0 : wq.cell? ⟨g, t * 4, none⟩ = some (.string y.name) := hyc
     have e0 : ((t + 1 : Nat) : Int) = (t : Int) + 1 := by omega
     rw [e0]
     clear e0 hyc h0
     have hg1 : decide ((0 : Int) < (t : Int) + 1) = true := decide_eq_true (by omega)
     have hg2 : IntKind.i64.wrap ((t : Int) + 1 - 1) = (t : Int) := by rw [IntKind.wrap_i64]; omega
     have hg3 : t < k := by omega
     have HEY := Lib.hid ey
     clear ey
     cases hl : Op.bytesLess x.name.toList y.name.toList with
     | true =>
      have hl2 : plt x y = true := hl
      have HL := Lib.hid hl2
      clear hl2
      go_upto_region 6 with fail
      go_big_quiet (fail)
      go_wp2_with fail
      go_round
      exact ⟨t, by omega, by go_num, HPOS.out.trans (posR_go HEY.out HL.out), HKQ.out.drewN _⟩
      case measure => (simp [intOf] <;> omega)
     | false =>
      have hl2 : plt x y = false := hl
      have HL := Lib.hid hl2
      clear hl2
      go_upto_region 6 with fail
      go_big_quiet (fail)
      have hp : posR plt x out out.length = (t + 1) := by rw [HOL.out]; exact HPOS.out.trans (posR_stop HEY.out HL.out)
      have HP := Lib.hid hp
      clear hp
      have htn : (((t : Int) + 1) : Int).toNat = (t + 1) := by omega
      have ht : Tryz.prog.underlying 22 = some (.slice (Tryz.prog.elem 22)) := by kernel_rfl
      have hs1 : ∀ w' : World, (Instr.slice 22 (.slice (some ⟨g, 0, none⟩) k c) none (some (.int .i64 ((t : Int) + 1))) none).run Tryz.prog w' = .ok (.slice (some ⟨g, 0, none⟩) (t + 1) c) w' := by
       intro w'
       rw [run_slice_h w' _ (some ⟨g, 0, none⟩) k c ht .i64 ((t : Int) + 1) (by omega) (by omega)]
       simp [go_sem, sliced, Result.andThen, Addr.add, htn]
      obtain ⟨sb, hsb⟩ : ∃ sb, (if c = (t + 1) then some (⟨g, 0, none⟩ : Addr) else some (⟨g, 0 + (t + 1) * 4, none⟩ : Addr)) = sb := ⟨_, rfl⟩
      have hs2 : ∀ w' : World, (Instr.slice 22 (.slice (some ⟨g, 0, none⟩) k c) (some (.int .i64 ((t : Int) + 1))) none none).run Tryz.prog w' = .ok (.slice sb (k - (t + 1)) (c - (t + 1))) w' := by
       intro w'
       rw [run_slice_l w' _ (some ⟨g, 0, none⟩) k c ht .i64 ((t : Int) + 1) (by omega) (by omega)]
       simp [go_sem, sliced, Result.andThen, Addr.add, htn, ← hsb]
      have HSB := Lib.hid hsb
      clear hsb ht htn
      go_upto_region 8 with fail
      obtain ⟨wz, hwz⟩ : ∃ wz, wq.drewN nq = wz := ⟨_, rfl⟩
      rw [hwz]
      have hkz : Kept Nil wo wz := by rw [← hwz]; exact HKQ.out.drewN _
      have HKZ := Lib.hid hkz
      have hzz := hkz.size
      have hbz : b < wz.heap.size := by omega
      have hgz : g < wz.heap.size := by omega
      clear hkz hwz
      have hro : RowOf wz (some ⟨g, 0, none⟩) 4 prCells out := (newRow_of_own (HKZ.out.own HOW.out (fun _ _ h => h)) prCells_len (by decide)).row
      have HRO := Lib.hid hro
      clear hro
      have hsrc : ∀ W, Kept (fun i => wz.heap.size ≤ i) wz W → SrcRow W 4 (.slice (some ⟨g, 0, none⟩) (t + 1) c) ((t + 1)) ((out.take (t + 1)).flatMap prCells) ∧ SrcRow W 4 (.slice sb (k - (t + 1)) (c - (t + 1))) (k - (t + 1)) ((out.drop (t + 1)).flatMap prCells) := by
       intro W hW
       have hr := rowOf_kept prCells_len hW (fun b off hn e h => by cases e; omega) HRO.out
       have h1 := (rowOf_take hr ((t + 1))).src (cap := c) prCells_len (by decide) (fun h => by cases h)
       have h2 := (rowOf_drop hr ((t + 1))).src (cap := c - (t + 1)) prCells_len (by decide) (fun h => by cases h)
       rw [show (out.take (t + 1)).length = (t + 1) by rw [List.length_take, HOL.out]; omega] at h1
       rw [show (out.drop (t + 1)).length = k - (t + 1) by rw [List.length_drop, HOL.out]] at h2
       refine ⟨h1, ?_⟩
       by_cases hc : c = (t + 1)
       ·have hkp : k - (t + 1) = 0 := by omega
        rw [show out.drop (t + 1) = [] by exact List.drop_eq_nil_of_le (by rw [HOL.out]; omega)]
        refine .inr ⟨_, _, by rw [← HSB.out, if_pos hc], by first | (simp [hkp]; done) | simp, fun j u hj => by simp at hj⟩
       ·rw [← HSB.out, if_neg hc]
        exact h2
      have HSRC := Lib.hid hsrc
      clear hsrc
      go_wp2_with (at_builtin; refine stop_append _ _ _ rfl ?_)
      unfold StopA
      refine wpList_append_src rfl _ _ 22 rfl wz.heap.size 34 j0 (.agg #[.string ⟨#[]⟩, .int .i64 0, .slice none 0 0, .slice none 0 0]) 4 72 Tryz.underlying22 hjnf hy0 hy1 hy2 rfl (by decide) (.slice (some ⟨wz.heap.size, 0, none⟩) 0 0) 0 [] rfl ?_ (.slice (some ⟨g, 0, none⟩) ((t + 1)) c) ((t + 1)) ((out.take (t + 1)).flatMap prCells) rfl ?_ (prCells_one _) (by unfold maxLen; omega) (by omega) (by simp) ?_
      ·exact World.ownsRow_lit (base := wz.heap.size) (e := 34) (size := 4) wz #[] 0 (Nat.le_refl _) (by decide) rfl
      ·exact (HSRC.out _ ((Kept.refl _ wz).alloc _)).1
      intro v5 w5 hown5 hgrow5
      rw [Nat.zero_add, List.nil_append] at hown5
      have hk5 : Kept (fun i => wz.heap.size ≤ i) wz w5 := ((Kept.refl _ wz).alloc (.cells #[] 34)).grown hgrow5 (fun j e => .inl (by have h9 : wz.heap.size = j := (by simpa [Value.ownBlock] using e); omega))
      obtain ⟨A5, c5, rfl⟩ := own_slice hown5
      have HO5 := Lib.hid hown5
      have HK5 := Lib.hid hk5
      have hz5 := hk5.size
      clear hown5 hgrow5 hk5 hs1
      have hw5 : Kept Nil wo w5 := HKZ.out.trans HK5.out (fun i h => .inr (by omega))
      have hx5 := HXC.out _ hw5
      obtain ⟨z0, z1, z2, z3⟩ := hx5
      have hb5 : b < w5.heap.size := by omega
      clear hw5
      go_wp2_with (at_builtin; refine stop_append _ _ _ rfl ?_)
      unfold StopA
      refine wpList_append_own_at _ rfl _ _ 22 rfl wz.heap.size 34 j0 (.agg #[.string ⟨#[]⟩, .int .i64 0, .slice none 0 0, .slice none 0 0]) 4 72 Tryz.underlying22 hjnf hy0 hy1 hy2 rfl (by decide) (.slice A5 ((t + 1)) c5) ((t + 1)) ((out.take (t + 1)).flatMap prCells) rfl (HO5.out.alloc _) ⟨w5.heap.size, 0, none⟩ 1 1 [.string x.name, .int .i64 x.weight, .slice x.va x.vs.length x.vc, .slice x.sa x.ss.length x.sc] rfl rfl (cells_new _ _ _) (by simp [Value.oneCell']) (by unfold maxLen; omega) (by omega) (by simp; omega) ?_
      intro v7 w7 hown7 hgrow7 _ _
      obtain ⟨g7, c7, rfl⟩ := ownsRow_succ hown7
      have hk7 : Kept (fun i => wz.heap.size ≤ i) wz w7 := HK5.out.trans (((Kept.refl (fun i => wz.heap.size ≤ i) w5).alloc _).grown hgrow7 (fun j e => .inl (HO5.out.lt j e).1)) (fun i h => .inl h)
      have HO7 := Lib.hid hown7
      have HK7 := Lib.hid hk7
      have hz7 := hk7.size
      clear hown7 hgrow7 hk7 z0 z1 z2 z3
      go_wp2_with (at_builtin; refine stop_append _ _ _ rfl ?_)
      unfold StopA
      refine wpList_append_src rfl _ _ 22 rfl wz.heap.size 34 j0 (.agg #[.string ⟨#[]⟩, .int .i64 0, .slice none 0 0, .slice none 0 0]) 4 72 Tryz.underlying22 hjnf hy0 hy1 hy2 rfl (by decide) (.slice (some ⟨g7, 0, none⟩) ((t + 1) + 1) c7) ((t + 1) + 1) _ rfl HO7.out (.slice sb (k - (t + 1)) (c - (t + 1))) (k - (t + 1)) ((out.drop (t + 1)).flatMap prCells) rfl (HSRC.out _ HK7.out).2 (prCells_one _) (by unfold maxLen; omega) (by omega) (by omega) ?_
      intro v8 w8 hown8 hgrow8
      rw [show (t + 1) + 1 + (k - (t + 1)) = k + 1 by omega] at hown8
      obtain ⟨g8, c8, rfl⟩ := ownsRow_succ hown8
      have hk8 : Kept (fun i => wz.heap.size ≤ i) wz w8 := HK7.out.trans ((Kept.refl (fun i => wz.heap.size ≤ i) w7).grown hgrow8 (fun j e => .inl (HO7.out.lt j e).1)) (fun i h => .inl h)
      have hins : (out.take ((t + 1))).flatMap prCells ++ [.string x.name, .int .i64 x.weight, .slice x.va x.vs.length x.vc, .slice x.sa x.ss.length x.sc] ++ (out.drop ((t + 1))).flatMap prCells = (insR plt out x).flatMap prCells := by rw [← ins_split plt x out _ HP.out, List.flatMap_append, List.flatMap_append]; rfl
      rw [hins] at hown8
      have HO8 := Lib.hid (own_lower hown8 (base' := w.heap.size) (fun j e => by have h9 := (hown8.lt j e).1; omega))
      have HK8 := Lib.hid hk8
      clear hown8 hgrow8 hk8 hins hs2
      go_wp2_with fail
      go_round
      exact ⟨k + 1, g8, c8, insR plt out x, by omega, by go_num, by rw [HO.out]; exact (insAll_take HEX.out).symm, by rw [insR_length, HOL.out], rfl, HO8.out, HK.out.trans (HKZ.out.trans HK8.out (fun i h => .inr (by omega))) (fun i h => .inl h)⟩
      case measure => (simp [intOf] <;> omega)
  ·have hkl : k = l.length := by omega
   subst hkl
   go_wp2_with fail
   go_ret
   have hO := HO.out
   rw [List.take_length] at hO
   rw [← hO]
   exact ⟨_, rfl, HOW.out, HK.out⟩
set_option maxHeartbeats 16000000 in
theorem insL_is (l : List Lk) (A0 : Option Addr) (c0 : Nat) (w : World) (hr : RowOf w A0 5 lkCells l) (hn : l.length ≤ 100000) :
  Calls Tryz.prog 40 #[.slice A0 l.length c0] w fun e w' => ∃ v, e = .returned v ∧ w'.ownsRow w.heap.size 42 5 v l.length ((insAll llt l).flatMap lkCells) ∧ Kept Nil w w' := by
 obtain ⟨j0, hjnf, hy0, hy1, hy2⟩ := info_parts infoCL
 have HR := Lib.hid hr
 clear hr
 go_enter Tryz.func40, Tryz.ntmps40
 go_upto_region 3 with fail
 go_loopw [3, 4] (fun o i wr => ∃ (k g c : Nat) (out : List Lk), k ≤ l.length ∧ i = .int .i64 k ∧ out = insAll llt (l.take k) ∧ out.length = k ∧ o = .slice (some ⟨g, 0, none⟩) k c ∧ wr.ownsRow w.heap.size 42 5 o k (out.flatMap lkCells) ∧ Kept Nil w wr) (fun _ i _ => l.length - (intOf i).toNat)
 case atStart => exact ⟨0, w.heap.size, 0, [], Nat.zero_le _, rfl, by rw [List.take_zero]; rfl, rfl, rfl, World.ownsRow_lit (base := w.heap.size) (e := 42) (size := 5) w #[] 0 (Nat.le_refl _) (by decide) rfl, (Kept.refl Nil w).alloc _⟩
 case round =>
  obtain ⟨k, g, c, out, hk, rfl, ho, hol, rfl, hown, hK⟩ := hrel
  obtain ⟨wo, hwo⟩ : ∃ x, x = wr := ⟨_, rfl⟩
  subst hwo
  have HO := Lib.hid ho
  have HOL := Lib.hid hol
  have HOW := Lib.hid hown
  have HK := Lib.hid hK
  have hzr := hK.size
  have hkc : k ≤ c := by have := le_of_own hown; omega
  have hcm : c ≤ maxLen := by
   rcases own_form hown with ⟨h1, h2, h3⟩ | ⟨g9, c9, h1, h2, h3, h4, h5⟩
   ·cases h1
   ·cases h1; exact h5
  unfold maxLen at hcm
  have hgb : w.heap.size ≤ g ∧ g < wo.heap.size := hown.lt g rfl
  clear ho hol hown hK
  by_cases hlt : k < l.length
  ·obtain ⟨x, ex⟩ : ∃ v, l[k]? = some v := ⟨_, List.getElem?_eq_getElem hlt⟩
   have HEX := Lib.hid ex
   have hlt2 : (k : Int) < (l.length : Int) := by omega
   have hw : IntKind.i64.wrap ((k : Int) + 1) = (k : Int) + 1 := by rw [IntKind.wrap_i64]; omega
   clear ex
   obtain ⟨b, off, e1, hxc⟩ : ∃ b off, A0 = some ⟨b, off, none⟩ ∧ ∀ W, Kept Nil wo W → W.cell? ⟨b, off + k * 5, none⟩ = some (.string x.name) ∧ W.cell? ⟨b, off + k * 5 + 1, none⟩ = some (.string x.src) ∧ W.cell? ⟨b, off + k * 5 + 2, none⟩ = some (.string x.dst) ∧ W.cell? ⟨b, off + k * 5 + 3, none⟩ = some (.int .i64 x.delay) ∧ W.cell? ⟨b, off + k * 5 + 4, none⟩ = some (.int .i64 x.weight) := by
    rcases HR.out with h | ⟨b, off, e, hc⟩
    ·rw [h] at hlt; simp at hlt
    ·refine ⟨b, off, e, fun W hW => ?_⟩
     have hkk := HK.out.step hW
     exact ⟨hkk.cell (hc k x HEX.out 0 (by decide)) (fun h => h), hkk.cell (hc k x HEX.out 1 (by decide)) (fun h => h), hkk.cell (hc k x HEX.out 2 (by decide)) (fun h => h), hkk.cell (hc k x HEX.out 3 (by decide)) (fun h => h), hkk.cell (hc k x HEX.out 4 (by decide)) (fun h => h)⟩
   subst e1
   have HXC := Lib.hid hxc
   have hbs : b < wo.heap.size := World.block_lt_of_cell? _ _ (hxc wo (Kept.refl _ _)).1
   clear hxc
   go_upto_region 6 with fail
   go_loopw [5] (fun a wq => ∃ at_ : Nat, at_ ≤ k ∧ a = .int .i64 at_ ∧ posR llt x out k = posR llt x out at_ ∧ Kept Nil wo wq) (fun a _ => (intOf a).toNat)
   case atStart => exact ⟨k, Nat.le_refl _, rfl, rfl, Kept.refl _ _⟩
   case round =>
    obtain ⟨at_, hat, rfl, hpos, hKq⟩ := hrel
    obtain ⟨wq, hwq⟩ : ∃ x, x = wr := ⟨_, rfl⟩
    subst hwq
    have HPOS := Lib.hid hpos
    have HKQ := Lib.hid hKq
    have hzq := hKq.size
    have hxw := HXC.out _ hKq
    obtain ⟨x0, x1, x2, x3, x4⟩ := hxw
    have hbq : b < wq.heap.size := by omega
    have hgq : g < wq.heap.size := by omega
    clear hpos hKq
    by_cases h0 : at_ = 0
    ·subst h0
     have hg0 : decide ((0 : Int) < 0) = false := by decide
     go_upto_region 6 with fail
     go_big_quiet (fail)
     have hp : posR llt x out out.length = 0 := by rw [HOL.out]; exact HPOS.out.trans rfl
     have HP := Lib.hid hp
     clear hp
     have htn : (0 : Int).toNat = 0 := by omega
     have ht : Tryz.prog.underlying 23 = some (.slice (Tryz.prog.elem 23)) := by kernel_rfl
     have hs1 : ∀ w' : World, (Instr.slice 23 (.slice (some ⟨g, 0, none⟩) k c) none (some (.int .i64 0)) none).run Tryz.prog w' = .ok (.slice (some ⟨g, 0, none⟩) 0 c) w' := by
      intro w'
      rw [run_slice_h w' _ (some ⟨g, 0, none⟩) k c ht .i64 0 (by omega) (by omega)]
      simp [go_sem, sliced, Result.andThen, Addr.add, htn]
     obtain ⟨sb, hsb⟩ : ∃ sb, (if c = 0 then some (⟨g, 0, none⟩ : Addr) else some (⟨g, 0 + 0 * 5, none⟩ : Addr)) = sb := ⟨_, rfl⟩
     have hs2 : ∀ w' : World, (Instr.slice 23 (.slice (some ⟨g, 0, none⟩) k c) (some (.int .i64 0)) none none).run Tryz.prog w' = .ok (.slice sb (k - 0) (c - 0)) w' := by
      intro w'
      rw [run_slice_l w' _ (some ⟨g, 0, none⟩) k c ht .i64 0 (by omega) (by omega)]
      simp [go_sem, sliced, Result.andThen, Addr.add, htn, ← hsb]
     have HSB := Lib.hid hsb
     clear hsb ht htn
     go_upto_region 8 with fail
     obtain ⟨wz, hwz⟩ : ∃ wz, wq.drewN nq = wz := ⟨_, rfl⟩
     rw [hwz]
     have hkz : Kept Nil wo wz := by rw [← hwz]; exact HKQ.out.drewN _
     have HKZ := Lib.hid hkz
     have hzz := hkz.size
     have hbz : b < wz.heap.size := by omega
     have hgz : g < wz.heap.size := by omega
     clear hkz hwz
     have hro : RowOf wz (some ⟨g, 0, none⟩) 5 lkCells out := (newRow_of_own (HKZ.out.own HOW.out (fun _ _ h => h)) lkCells_len (by decide)).row
     have HRO := Lib.hid hro
     clear hro
     have hsrc : ∀ W, Kept (fun i => wz.heap.size ≤ i) wz W → SrcRow W 5 (.slice (some ⟨g, 0, none⟩) 0 c) (0) ((out.take 0).flatMap lkCells) ∧ SrcRow W 5 (.slice sb (k - 0) (c - 0)) (k - 0) ((out.drop 0).flatMap lkCells) := by
      intro W hW
      have hr := rowOf_kept lkCells_len hW (fun b off hn e h => by cases e; omega) HRO.out
      have h1 := (rowOf_take hr (0)).src (cap := c) lkCells_len (by decide) (fun h => by cases h)
      have h2 := (rowOf_drop hr (0)).src (cap := c - 0) lkCells_len (by decide) (fun h => by cases h)
      rw [show (out.take 0).length = 0 by rw [List.length_take, HOL.out]; omega] at h1
      rw [show (out.drop 0).length = k - 0 by rw [List.length_drop, HOL.out]] at h2
      refine ⟨h1, ?_⟩
      by_cases hc : c = 0
      ·have hkp : k - 0 = 0 := by omega
       rw [show out.drop 0 = [] by exact List.drop_eq_nil_of_le (by rw [HOL.out]; omega)]
       refine .inr ⟨_, _, by rw [← HSB.out, if_pos hc], by first | (simp [hkp]; done) | simp, fun j u hj => by simp at hj⟩
      ·rw [← HSB.out, if_neg hc]
       exact h2
     have HSRC := Lib.hid hsrc
     clear hsrc
     go_wp2_with (at_builtin; refine stop_append _ _ _ rfl ?_)
     unfold StopA
     refine wpList_append_src rfl _ _ 23 rfl wz.heap.size 42 j0 (.agg #[.string ⟨#[]⟩, .string ⟨#[]⟩, .string ⟨#[]⟩, .int .i64 0, .int .i64 0]) 5 64 Tryz.underlying23 hjnf hy0 hy1 hy2 rfl (by decide) (.slice (some ⟨wz.heap.size, 0, none⟩) 0 0) 0 [] rfl ?_ (.slice (some ⟨g, 0, none⟩) (0) c) (0) ((out.take 0).flatMap lkCells) rfl ?_ (lkCells_one _) (by unfold maxLen; omega) (by omega) (by simp) ?_
     ·exact World.ownsRow_lit (base := wz.heap.size) (e := 42) (size := 5) wz #[] 0 (Nat.le_refl _) (by decide) rfl
     ·exact (HSRC.out _ ((Kept.refl _ wz).alloc _)).1
     intro v5 w5 hown5 hgrow5
     rw [Nat.zero_add, List.nil_append] at hown5
     have hk5 : Kept (fun i => wz.heap.size ≤ i) wz w5 := ((Kept.refl _ wz).alloc (.cells #[] 42)).grown hgrow5 (fun j e => .inl (by have h9 : wz.heap.size = j := (by simpa [Value.ownBlock] using e); omega))
     obtain ⟨A5, c5, rfl⟩ := own_slice hown5
     have HO5 := Lib.hid hown5
     have HK5 := Lib.hid hk5
     have hz5 := hk5.size
     clear hown5 hgrow5 hk5 hs1
     have hw5 : Kept Nil wo w5 := HKZ.out.trans HK5.out (fun i h => .inr (by omega))
     have hx5 := HXC.out _ hw5
     obtain ⟨z0, z1, z2, z3, z4⟩ := hx5
     have hb5 : b < w5.heap.size := by omega
     clear hw5
     go_wp2_with (at_builtin; refine stop_append _ _ _ rfl ?_)
     unfold StopA
     refine wpList_append_own_at _ rfl _ _ 23 rfl wz.heap.size 42 j0 (.agg #[.string ⟨#[]⟩, .string ⟨#[]⟩, .string ⟨#[]⟩, .int .i64 0, .int .i64 0]) 5 64 Tryz.underlying23 hjnf hy0 hy1 hy2 rfl (by decide) (.slice A5 (0) c5) (0) ((out.take 0).flatMap lkCells) rfl (HO5.out.alloc _) ⟨w5.heap.size, 0, none⟩ 1 1 [.string x.name, .string x.src, .string x.dst, .int .i64 x.delay, .int .i64 x.weight] rfl rfl (cells_new _ _ _) (by simp [Value.oneCell']) (by unfold maxLen; omega) (by omega) (by simp; omega) ?_
     intro v7 w7 hown7 hgrow7 _ _
     obtain ⟨g7, c7, rfl⟩ := ownsRow_succ hown7
     have hk7 : Kept (fun i => wz.heap.size ≤ i) wz w7 := HK5.out.trans (((Kept.refl (fun i => wz.heap.size ≤ i) w5).alloc _).grown hgrow7 (fun j e => .inl (HO5.out.lt j e).1)) (fun i h => .inl h)
     have HO7 := Lib.hid hown7
     have HK7 := Lib.hid hk7
     have hz7 := hk7.size
     clear hown7 hgrow7 hk7 z0 z1 z2 z3 z4
     go_wp2_with (at_builtin; refine stop_append _ _ _ rfl ?_)
     unfold StopA
     refine wpList_append_src rfl _ _ 23 rfl wz.heap.size 42 j0 (.agg #[.string ⟨#[]⟩, .string ⟨#[]⟩, .string ⟨#[]⟩, .int .i64 0, .int .i64 0]) 5 64 Tryz.underlying23 hjnf hy0 hy1 hy2 rfl (by decide) (.slice (some ⟨g7, 0, none⟩) (0 + 1) c7) (0 + 1) _ rfl HO7.out (.slice sb (k - 0) (c - 0)) (k - 0) ((out.drop 0).flatMap lkCells) rfl (HSRC.out _ HK7.out).2 (lkCells_one _) (by unfold maxLen; omega) (by omega) (by omega) ?_
     intro v8 w8 hown8 hgrow8
     rw [show 0 + 1 + (k - 0) = k + 1 by omega] at hown8
     obtain ⟨g8, c8, rfl⟩ := ownsRow_succ hown8
     have hk8 : Kept (fun i => wz.heap.size ≤ i) wz w8 := HK7.out.trans ((Kept.refl (fun i => wz.heap.size ≤ i) w7).grown hgrow8 (fun j e => .inl (HO7.out.lt j e).1)) (fun i h => .inl h)
     have hins : (out.take (0)).flatMap lkCells ++ [.string x.name, .string x.src, .string x.dst, .int .i64 x.delay, .int .i64 x.weight] ++ (out.drop (0)).flatMap lkCells = (insR llt out x).flatMap lkCells := by rw [← ins_split llt x out _ HP.out, List.flatMap_append, List.flatMap_append]; rfl
     rw [hins] at hown8
     have HO8 := Lib.hid (own_lower hown8 (base' := w.heap.size) (fun j e => by have h9 := (hown8.lt j e).1; omega))
     have HK8 := Lib.hid hk8
     clear hown8 hgrow8 hk8 hins hs2
     go_wp2_with fail
     go_round
     exact ⟨k + 1, g8, c8, insR llt out x, by omega, by go_num, by rw [HO.out]; exact (insAll_take HEX.out).symm, by rw [insR_length, HOL.out], rfl, HO8.out, HK.out.trans (HKZ.out.trans HK8.out (fun i h => .inr (by omega))) (fun i h => .inl h)⟩
     case measure => (simp [intOf] <;> omega)
    ·obtain ⟨t, rfl⟩ : ∃ t, at_ = t + 1 := ⟨at_ - 1, by omega⟩
     obtain ⟨y, ey⟩ : ∃ v, out[t]? = some v := ⟨_, List.getElem?_eq_getElem (by have := HOL.out; omega)⟩
     have hyc := own_cell (HKQ.out.own HOW.out (fun _ _ h => h)) (flat_get lkCells_len ey (c := 0) (by decide))
     have y0 : wq.cell? ⟨g, t * 5, none⟩ = some (.string y.name) := hyc
     have e0 : ((t + 1 : Nat) : Int) = (t : Int) + 1 := by omega
     rw [e0]
     clear e0 hyc h0
     have hg1 : decide ((0 : Int) < (t : Int) + 1) = true := decide_eq_true (by omega)
     have hg2 : IntKind.i64.wrap ((t : Int) + 1 - 1) = (t : Int) := by rw [IntKind.wrap_i64]; omega
     have hg3 : t < k := by omega
     have HEY := Lib.hid ey
     clear ey
     cases hl : Op.bytesLess x.name.toList y.name.toList with
     | true =>
      have hl2 : llt x y = true := hl
      have HL := Lib.hid hl2
      clear hl2
      go_upto_region 6 with fail
      go_big_quiet (fail)
      go_wp2_with fail
      go_round
      exact ⟨t, by omega, by go_num, HPOS.out.trans (posR_go HEY.out HL.out), HKQ.out.drewN _⟩
      case measure => (simp [intOf] <;> omega)
     | false =>
      have hl2 : llt x y = false := hl
      have HL := Lib.hid hl2
      clear hl2
      go_upto_region 6 with fail
      go_big_quiet (fail)
      have hp : posR llt x out out.length = (t + 1) := by rw [HOL.out]; exact HPOS.out.trans (posR_stop HEY.out HL.out)
      have HP := Lib.hid hp
      clear hp
      have htn : (((t : Int) + 1) : Int).toNat = (t + 1) := by omega
      have ht : Tryz.prog.underlying 23 = some (.slice (Tryz.prog.elem 23)) := by kernel_rfl
      have hs1 : ∀ w' : World, (Instr.slice 23 (.slice (some ⟨g, 0, none⟩) k c) none (some (.int .i64 ((t : Int) + 1))) none).run Tryz.prog w' = .ok (.slice (some ⟨g, 0, none⟩) (t + 1) c) w' := by
       intro w'
       rw [run_slice_h w' _ (some ⟨g, 0, none⟩) k c ht .i64 ((t : Int) + 1) (by omega) (by omega)]
       simp [go_sem, sliced, Result.andThen, Addr.add, htn]
      obtain ⟨sb, hsb⟩ : ∃ sb, (if c = (t + 1) then some (⟨g, 0, none⟩ : Addr) else some (⟨g, 0 + (t + 1) * 5, none⟩ : Addr)) = sb := ⟨_, rfl⟩
      have hs2 : ∀ w' : World, (Instr.slice 23 (.slice (some ⟨g, 0, none⟩) k c) (some (.int .i64 ((t : Int) + 1))) none none).run Tryz.prog w' = .ok (.slice sb (k - (t + 1)) (c - (t + 1))) w' := by
       intro w'
       rw [run_slice_l w' _ (some ⟨g, 0, none⟩) k c ht .i64 ((t : Int) + 1) (by omega) (by omega)]
       simp [go_sem, sliced, Result.andThen, Addr.add, htn, ← hsb]
      have HSB := Lib.hid hsb
      clear hsb ht htn
      go_upto_region 8 with fail
      obtain ⟨wz, hwz⟩ : ∃ wz, wq.drewN nq = wz := ⟨_, rfl⟩
      rw [hwz]
      have hkz : Kept Nil wo wz := by rw [← hwz]; exact HKQ.out.drewN _
      have HKZ := Lib.hid hkz
      have hzz := hkz.size
      have hbz : b < wz.heap.size := by omega
      have hgz : g < wz.heap.size := by omega
      clear hkz hwz
      have hro : RowOf wz (some ⟨g, 0, none⟩) 5 lkCells out := (newRow_of_own (HKZ.out.own HOW.out (fun _ _ h => h)) lkCells_len (by decide)).row
      have HRO := Lib.hid hro
      clear hro
      have hsrc : ∀ W, Kept (fun i => wz.heap.size ≤ i) wz W → SrcRow W 5 (.slice (some ⟨g, 0, none⟩) (t + 1) c) ((t + 1)) ((out.take (t + 1)).flatMap lkCells) ∧ SrcRow W 5 (.slice sb (k - (t + 1)) (c - (t + 1))) (k - (t + 1)) ((out.drop (t + 1)).flatMap lkCells) := by
       intro W hW
       have hr := rowOf_kept lkCells_len hW (fun b off hn e h => by cases e; omega) HRO.out
       have h1 := (rowOf_take hr ((t + 1))).src (cap := c) lkCells_len (by decide) (fun h => by cases h)
       have h2 := (rowOf_drop hr ((t + 1))).src (cap := c - (t + 1)) lkCells_len (by decide) (fun h => by cases h)
       rw [show (out.take (t + 1)).length = (t + 1) by rw [List.length_take, HOL.out]; omega] at h1
       rw [show (out.drop (t + 1)).length = k - (t + 1) by rw [List.length_drop, HOL.out]] at h2
       refine ⟨h1, ?_⟩
       by_cases hc : c = (t + 1)
       ·have hkp : k - (t + 1) = 0 := by omega
        rw [show out.drop (t + 1) = [] by exact List.drop_eq_nil_of_le (by rw [HOL.out]; omega)]
        refine .inr ⟨_, _, by rw [← HSB.out, if_pos hc], by first | (simp [hkp]; done) | simp, fun j u hj => by simp at hj⟩
       ·rw [← HSB.out, if_neg hc]
        exact h2
      have HSRC := Lib.hid hsrc
      clear hsrc
      go_wp2_with (at_builtin; refine stop_append _ _ _ rfl ?_)
      unfold StopA
      refine wpList_append_src rfl _ _ 23 rfl wz.heap.size 42 j0 (.agg #[.string ⟨#[]⟩, .string ⟨#[]⟩, .string ⟨#[]⟩, .int .i64 0, .int .i64 0]) 5 64 Tryz.underlying23 hjnf hy0 hy1 hy2 rfl (by decide) (.slice (some ⟨wz.heap.size, 0, none⟩) 0 0) 0 [] rfl ?_ (.slice (some ⟨g, 0, none⟩) ((t + 1)) c) ((t + 1)) ((out.take (t + 1)).flatMap lkCells) rfl ?_ (lkCells_one _) (by unfold maxLen; omega) (by omega) (by simp) ?_
      ·exact World.ownsRow_lit (base := wz.heap.size) (e := 42) (size := 5) wz #[] 0 (Nat.le_refl _) (by decide) rfl
      ·exact (HSRC.out _ ((Kept.refl _ wz).alloc _)).1
      intro v5 w5 hown5 hgrow5
      rw [Nat.zero_add, List.nil_append] at hown5
      have hk5 : Kept (fun i => wz.heap.size ≤ i) wz w5 := ((Kept.refl _ wz).alloc (.cells #[] 42)).grown hgrow5 (fun j e => .inl (by have h9 : wz.heap.size = j := (by simpa [Value.ownBlock] using e); omega))
      obtain ⟨A5, c5, rfl⟩ := own_slice hown5
      have HO5 := Lib.hid hown5
      have HK5 := Lib.hid hk5
      have hz5 := hk5.size
      clear hown5 hgrow5 hk5 hs1
      have hw5 : Kept Nil wo w5 := HKZ.out.trans HK5.out (fun i h => .inr (by omega))
      have hx5 := HXC.out _ hw5
      obtain ⟨z0, z1, z2, z3, z4⟩ := hx5
      have hb5 : b < w5.heap.size := by omega
      clear hw5
      go_wp2_with (at_builtin; refine stop_append _ _ _ rfl ?_)
      unfold StopA
      refine wpList_append_own_at _ rfl _ _ 23 rfl wz.heap.size 42 j0 (.agg #[.string ⟨#[]⟩, .string ⟨#[]⟩, .string ⟨#[]⟩, .int .i64 0, .int .i64 0]) 5 64 Tryz.underlying23 hjnf hy0 hy1 hy2 rfl (by decide) (.slice A5 ((t + 1)) c5) ((t + 1)) ((out.take (t + 1)).flatMap lkCells) rfl (HO5.out.alloc _) ⟨w5.heap.size, 0, none⟩ 1 1 [.string x.name, .string x.src, .string x.dst, .int .i64 x.delay, .int .i64 x.weight] rfl rfl (cells_new _ _ _) (by simp [Value.oneCell']) (by unfold maxLen; omega) (by omega) (by simp; omega) ?_
      intro v7 w7 hown7 hgrow7 _ _
      obtain ⟨g7, c7, rfl⟩ := ownsRow_succ hown7
      have hk7 : Kept (fun i => wz.heap.size ≤ i) wz w7 := HK5.out.trans (((Kept.refl (fun i => wz.heap.size ≤ i) w5).alloc _).grown hgrow7 (fun j e => .inl (HO5.out.lt j e).1)) (fun i h => .inl h)
      have HO7 := Lib.hid hown7
      have HK7 := Lib.hid hk7
      have hz7 := hk7.size
      clear hown7 hgrow7 hk7 z0 z1 z2 z3 z4
      go_wp2_with (at_builtin; refine stop_append _ _ _ rfl ?_)
      unfold StopA
      refine wpList_append_src rfl _ _ 23 rfl wz.heap.size 42 j0 (.agg #[.string ⟨#[]⟩, .string ⟨#[]⟩, .string ⟨#[]⟩, .int .i64 0, .int .i64 0]) 5 64 Tryz.underlying23 hjnf hy0 hy1 hy2 rfl (by decide) (.slice (some ⟨g7, 0, none⟩) ((t + 1) + 1) c7) ((t + 1) + 1) _ rfl HO7.out (.slice sb (k - (t + 1)) (c - (t + 1))) (k - (t + 1)) ((out.drop (t + 1)).flatMap lkCells) rfl (HSRC.out _ HK7.out).2 (lkCells_one _) (by unfold maxLen; omega) (by omega) (by omega) ?_
      intro v8 w8 hown8 hgrow8
      rw [show (t + 1) + 1 + (k - (t + 1)) = k + 1 by omega] at hown8
      obtain ⟨g8, c8, rfl⟩ := ownsRow_succ hown8
      have hk8 : Kept (fun i => wz.heap.size ≤ i) wz w8 := HK7.out.trans ((Kept.refl (fun i => wz.heap.size ≤ i) w7).grown hgrow8 (fun j e => .inl (HO7.out.lt j e).1)) (fun i h => .inl h)
      have hins : (out.take ((t + 1))).flatMap lkCells ++ [.string x.name, .string x.src, .string x.dst, .int .i64 x.delay, .int .i64 x.weight] ++ (out.drop ((t + 1))).flatMap lkCells = (insR llt out x).flatMap lkCells := by rw [← ins_split llt x out _ HP.out, List.flatMap_append, List.flatMap_append]; rfl
      rw [hins] at hown8
      have HO8 := Lib.hid (own_lower hown8 (base' := w.heap.size) (fun j e => by have h9 := (hown8.lt j e).1; omega))
      have HK8 := Lib.hid hk8
      clear hown8 hgrow8 hk8 hins hs2
      go_wp2_with fail
      go_round
      exact ⟨k + 1, g8, c8, insR llt out x, by omega, by go_num, by rw [HO.out]; exact (insAll_take HEX.out).symm, by rw [insR_length, HOL.out], rfl, HO8.out, HK.out.trans (HKZ.out.trans HK8.out (fun i h => .inr (by omega))) (fun i h => .inl h)⟩
      case measure => (simp [intOf] <;> omega)
  ·have hkl : k = l.length := by omega
   subst hkl
   go_wp2_with fail
   go_ret
   have hO := HO.out
   rw [List.take_length] at hO
   rw [← hO]
   exact ⟨_, rfl, HOW.out, HK.out⟩
end Go.Proofs.YtniocgnfgpaioaaGreat.Mo
