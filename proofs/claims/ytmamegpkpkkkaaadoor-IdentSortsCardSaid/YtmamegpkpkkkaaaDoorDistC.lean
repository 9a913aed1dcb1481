/- The walk of sandtablelaw05.distinct. -/
import Derived.Test.YtmamegpkpkkkaaaDoorDistinct
import Derived.Test.YtmamegpkpkkkaaaDoorCollM
import Derived.Shelf.Abstract
namespace Go.Proofs.YtmamegpkpkkkaaaDoor.Mo
open Go Go.RowKit Go.Maps Go.Shelf Go.Proofs.YtmamegpkpkkkaaaDoor.Lb
set_option linter.unusedVariables false
set_option linter.unusedSimpArgs false
attribute [local go_sem] Oper.semAt_some

set_option maxHeartbeats 8000000 in
theorem distinct_is (ns : List ByteArray) (A : Option Addr) (cp : Nat) (most : Int) (w : World) (hr : RStrs w A ns) (hl : ns.length ≤ 100000) (hs : ∀ s ∈ ns, s.size ≤ maxLen) (hm0 : 0 ≤ most) :
    Calls Tryd.prog 19 #[.slice A ns.length cp, .int .i64 most] w fun e w' => ∃ v, e = .returned v ∧ w'.ownsRow w.heap.size 9 1 v ((dist ns).take most.toNat).length (((dist ns).take most.toNat).map Value.string) ∧ Kept Nil w w' := by
  have HR := Lib.hid hr
  have HWS := Lib.hid hs
  obtain ⟨res, hres⟩ : ∃ res, (dist ns).take most.toNat = res := ⟨_, rfl⟩
  rw [hres]
  have HRES := Lib.hid hres
  clear hres
  have hdl : (dist ns).length ≤ 100000 := Nat.le_trans (dist_len _) hl
  clear hr hs
  obtain ⟨nn, hnn⟩ : ∃ nn : Nat, nn = nn := ⟨0, rfl⟩
  refine (callsIn_wide (n := nn)).1 ?_
  clear hnn
  refine callsIn_of_wp_marks Tryd.func19 rfl trivial ?_ rfl
  simp only [Tryd.ntmps19, List.size_toArray, List.length_cons, List.length_nil, Nat.reduceAdd, Nat.reduceSub, Array.replicate_succ, Array.replicate_zero, List.push_toArray, List.append_toArray, List.nil_append, List.cons_append]
  obtain ⟨j0, hjnf, hy0, hy1, hy2⟩ := info_parts infoStr
  gi_wp2_with fail
  obtain ⟨W1, hW1⟩ : ∃ W1, ((((w.alloc (Obj.cells #[Value.int IntKind.i64 most] 3)).alloc (Obj.cells #[Value.slice none 0 0] 22)).alloc (Obj.cells #[] 9)).alloc (Obj.cells #[Value.slice (some { block := w.heap.size + 1 + 1, off := 0 }) 0 0] 22)) = W1 := ⟨_, rfl⟩
  have hs1 : W1.heap.size = w.heap.size + 4 := by rw [← hW1]; simp
  have hk1 : Kept Nil w W1 := by rw [← hW1]; exact ((((Kept.refl Nil w).alloc _).alloc _).alloc _).alloc _
  have hbM : Boxed W1 w.heap.size 3 (.int .i64 most) := by rw [← hW1]; have := Boxed.new w 3 (.int .i64 most); exact ((this.alloc _).alloc _).alloc _
  have hbR : Boxed W1 (w.heap.size + 1) 22 (.slice none 0 0) := by rw [← hW1]; have := Boxed.new (w.alloc (Obj.cells #[Value.int IntKind.i64 most] 3)) 22 (.slice none 0 0); simp only [World.size_alloc] at this; exact (this.alloc _).alloc _
  have hbO : Boxed W1 (w.heap.size + 1 + 1 + 1) 22 (.slice (some ⟨w.heap.size + 1 + 1, 0, none⟩) 0 0) := by rw [← hW1]; have := Boxed.new (((w.alloc (Obj.cells #[Value.int IntKind.i64 most] 3)).alloc (Obj.cells #[Value.slice none 0 0] 22)).alloc (Obj.cells #[] 9)) 22 (.slice (some ⟨w.heap.size + 1 + 1, 0, none⟩) 0 0); simpa only [World.size_alloc] using this
  have hrow : W1.ownsRow w.heap.size 9 1 (.slice (some ⟨w.heap.size + 1 + 1, 0, none⟩) 0 0) 0 [] := by
    rw [← hW1]
    have := World.ownsRow_lit (base := w.heap.size) (e := 9) (size := 1) ((w.alloc (Obj.cells #[Value.int IntKind.i64 most] 3)).alloc (Obj.cells #[Value.slice none 0 0] 22)) #[] 0 (by simp; omega) (by decide) rfl
    simp only [World.size_alloc] at this
    exact this.alloc _
  rw [hW1]
  clear hW1
  refine at_wide ((Distinct_is A ns.length cp W1).mono ?_)
  rintro e w2 ⟨rfl, hw2⟩
  obtain ⟨Bx, hBx⟩ : ∃ Bx, W1.heap.size = Bx := ⟨_, rfl⟩
  have hk2 : Kept Nil W1 w2 := by rw [hw2]; exact (Kept.refl Nil W1).alloc _
  have hbx : Boxed w2 Bx 22 (.slice A ns.length cp) := by rw [hw2, ← hBx]; exact Boxed.new _ _ _
  have hs2 : Bx < w2.heap.size := by rw [hw2, ← hBx]; simp
  have hs3 : w.heap.size + 4 ≤ Bx := by omega
  rw [hBx]
  clear hw2 hs1
  replace hbM : Boxed w2 w.heap.size 3 (.int .i64 most) := hk2.heap hbM (fun h => h)
  replace hbR : Boxed w2 (w.heap.size + 1) 22 (.slice none 0 0) := hk2.heap hbR (fun h => h)
  replace hbO : Boxed w2 (w.heap.size + 1 + 1 + 1) 22 (.slice (some ⟨w.heap.size + 1 + 1, 0, none⟩) 0 0) := hk2.heap hbO (fun h => h)
  replace hrow := hk2.own hrow (fun _ _ h => h)
  have hk02 : Kept Nil w w2 := hk1.step hk2
  clear hk1 hk2 hBx
  gi_wp2_with fail
  refine range_stmt' rfl (fun h => by cases h) (gf := 27) (lb := #[.pointer (some ⟨Bx, 0, none⟩)]) rfl trivial (enters_of Tryd.func27 (by kernel_rfl) rfl) ?_
  intro fn ro _ hro
  have HRO := Lib.hid hro
  clear hro
  refine (Distinct1_in (nn - 1) (w2.heap.size + 1) Bx cp (w2.heap.size + 2) A ns
    (fun pre W => (pre.length : Int) ≤ most ∧ ∃ vo, Coll (w.heap.size + 1 + 1 + 1) w2.heap.size (w2.heap.size + 1) 1 9 22 [(w.heap.size + 1, 22, .slice none 0 0), (w.heap.size, 3, .int .i64 most)] Nil w (.loop (ro .ready none)) pre.length (pre.map Value.string) vo W)
    (fun pre' W => ∃ pre x, pre' = pre ++ [x] ∧ (pre.length : Int) = most ∧ ∃ vo, Coll (w.heap.size + 1 + 1 + 1) w2.heap.size (w2.heap.size + 1) 1 9 22 [(w.heap.size + 1, 22, vo), (w.heap.size, 3, .int .i64 most)] Nil w (.loop (ro .done (some .ret))) pre.length (pre.map Value.string) vo W)
    ?_ ?_ ?_ ?_ HWS.out hl _ (by simp) ?_ ?_).mono ?_
  case refine_1 => exact fun pre W ⟨_, _, hC⟩ => HR.out.kept hC.kept (fun _ _ _ _ h => h)
  case refine_2 => exact fun pre W W' ⟨h1, vo, h2⟩ hk => ⟨h1, vo, h2.nil hk⟩
  case refine_3 =>
    rintro pre W W' mb es clk ⟨h1, vo, h2⟩ hge hmb hk
    exact ⟨h1, vo, Coll.mapped h2 hmb (by omega) ⟨_, rfl⟩ hk⟩
  case refine_5 =>
    have := ((hbx.alloc (.deferred (some []))).alloc (.loop (ro .ready none))).cell
    exact this
  case refine_6 =>
    refine ⟨by simp; omega, .slice (some ⟨w.heap.size + 1 + 1, 0, none⟩) 0 0, ?_⟩
    refine { hB := by omega, hD := by omega, hl := by omega, hO := fun _ h => h.elim, hL := ?_, bx := ?_, box := (hbO.alloc _).alloc _, row := (hrow.alloc _).alloc _, lp := ?_, roc := rfl, dfr := ?_, dl := by omega, kept := (hk02.alloc _).alloc _ }
    · intro q hq
      simp only [List.mem_cons, List.not_mem_nil, or_false] at hq
      rcases hq with rfl | rfl <;> refine ⟨?_, ?_, ?_⟩ <;> simp <;> omega
    · intro q hq
      simp only [List.mem_cons, List.not_mem_nil, or_false] at hq
      rcases hq with rfl | rfl
      · exact (hbR.alloc _).alloc _
      · exact (hbM.alloc _).alloc _
    · have := heap_new (w2.alloc (.deferred (some []))) (.loop (ro .ready none))
      rw [World.size_alloc] at this
      exact this
    · exact (heap_old _ _ (by simp)).trans (heap_new w2 _)
  case refine_4 =>
    rintro pre x W mb es clk hpre ⟨hltm, vo, hC⟩ hge hmb
    have HC := Lib.hid hC
    have HMB := Lib.hid hmb
    refine yield_round' HRO.out trivial hC.lp rfl ?_
    clear hC hmb
    simp only [List.zip_toArray, List.zip_cons_cons, List.zip_nil_left, List.zip_nil_right, List.foldl_toArray, List.foldl_cons, List.foldl_nil, List.setIfInBounds_toArray, List.set_cons_succ, List.set_cons_zero, List.size_toArray, List.length_cons, List.length_nil]
    gi_wp2_with fail
    refine ⟨HC.out.lp, ?_⟩
    have hCb := HC.out.put (ro' := .loop (ro .busy none)) rfl
    have hmb1 := (heap_put_other (o' := .loop (ro .busy none)) (lp_ne HC.out.lp HMB.out)).trans HMB.out
    obtain ⟨Wb, hWb⟩ : ∃ Wb, W.putObj (w2.heap.size + 1) (.loop (ro .busy none)) = Wb := ⟨_, rfl⟩
    rw [hWb] at hCb hmb1 ⊢
    have hlen : pre.length + 1 ≤ 100000 := by
      have h9 := hpre.length_le
      rw [List.length_append] at h9
      simp only [List.length_cons, List.length_nil] at h9
      omega
    obtain ⟨Av, cv, rfl⟩ := own_slice hCb.row
    have hbc := hCb.box.cell
    have hbf := hCb.box.frozen
    have hbm := (hCb.bx _ (.tail _ (.head _))).cell
    have hbr := (hCb.bx _ (.head _)).cell
    have hbrf := (hCb.bx _ (.head _)).frozen
    simp only at hbm hbr hbrf
    have HCB := Lib.hid hCb
    have HM1 := Lib.hid hmb1
    have HPRE := Lib.hid hpre
    clear hWb hCb hmb1 hpre
    by_cases he : (pre.length : Int) = most
    · have he' : ((pre.length : Int) == most) = true := by simpa using he
      have HEE := Lib.hid he
      clear he
      gi_wp2_with fail
      have hC4 := HCB.out.store (by intro q hq; simp only [List.mem_cons, List.not_mem_nil, or_false] at hq; rcases hq with rfl; simp) (.slice Av pre.length cv)
      have hC5 := hC4.put (ro' := .loop (ro .done (some .ret))) rfl
      exact ⟨hC4.lp, .inr ⟨rfl, HEE.out, .slice Av pre.length cv, hC5⟩⟩
    · have he' : ((pre.length : Int) == most) = false := by simpa using he
      gi_wp2_with (gi_at_builtin; refine wpListIn_append_own_at _ rfl _ _ 22 rfl w.heap.size 9 j0 (.string ⟨#[]⟩) 1 16 Tryd.underlying22 hjnf hy0 hy1 hy2 rfl (by decide) (.slice Av pre.length cv) pre.length (pre.map Value.string) rfl (HCB.out.row.alloc _) ⟨Wb.heap.size, 0, none⟩ 1 1 [.string x] rfl rfl (cells_new _ _ _) (by simp [Value.oneCell']) (by unfold maxLen; omega) (by omega) (by have := HCB.out.kept.size; simp; omega) ?_; intro vo' w3 hown' hgrow _ hat; obtain ⟨g', cap', rfl⟩ := ownsRow_succ hown'; obtain ⟨hb3, hC3, hK3⟩ := HCB.out.appended (by decide) hown' hgrow; have hc3 := hb3.cell; have hf3 := hb3.frozen; have HM3 := Lib.hid (mb_grown HCB.out.row HM1.out hgrow); have HB3 := Lib.hid hb3; have HC3 := Lib.hid hC3; have HG3 := Lib.hid hgrow; clear hown' hgrow hb3 hC3 hK3 hat)
      have hC4 := HC3.out.put (ro' := .loop (ro .ready none)) rfl
      have hm9 : ((w3.setCell ⟨w.heap.size + 1 + 1 + 1, 0, none⟩ (.slice (some ⟨g', 0, none⟩) (pre.length + 1) cap')).putObj (w2.heap.size + 1) (.loop (ro .ready none))).heap[mb]? = some (Obj.map es clk) := by
        rw [heap_put_other (lp_ne HC.out.lp HMB.out), heap_set_other (mb_ne HB3.out HM3.out)]
        exact HM3.out
      refine ⟨HC3.out.lp, .inl ⟨rfl, ⟨by omega, .slice (some ⟨g', 0, none⟩) (pre.length + 1) cap', ?_⟩, hm9.trans HMB.out.symm⟩⟩
      simpa using hC4
  rintro e W' ⟨⟨u, rfl⟩, ⟨hltm, vo, hC⟩ | ⟨pre', hpre, pre, x, rfl, hm2, vo, hC⟩⟩
  · obtain ⟨A9, cap9, rfl⟩ := own_slice hC.row
    have HC := Lib.hid hC
    refine ⟨⟨u, rfl⟩, .inl ⟨HC.out.lp, ?_⟩⟩
    have hC2 := HC.out.put (ro' := .loop (ro .exhausted none)) rfl
    have HC2 := Lib.hid hC2
    have hc2 := hC2.box.cell
    have hr2 := (hC2.bx _ (.head _)).cell
    have hrf2 := (hC2.bx _ (.head _)).frozen
    clear hC hC2
    gi_wp2
    have hC3 := HC2.out.store (by intro q hq; simp only [List.mem_cons, List.not_mem_nil, or_false] at hq; rcases hq with rfl; simp) (.slice A9 (dist ns).length cap9)
    obtain ⟨hr5, hk5, hb5⟩ := hC3.last
    have hrr := (hb5 _ (.head _)).cell
    refine ⟨by simp, .inl ⟨_, _, rfl, run_takeDeferred hC3.dfr, ?_⟩⟩
    refine ⟨.slice A9 (dist ns).length cap9, by simp [results, Tryd.results19, go_sem, hrr], ?_⟩
    have e9 : res = dist ns := by rw [← HRES.out]; exact List.take_of_length_le (by omega)
    rw [e9]
    exact ⟨_, rfl, hr5, hk5⟩
  · obtain ⟨A9, cap9, rfl⟩ := own_slice hC.row
    have HC := Lib.hid hC
    refine ⟨⟨u, rfl⟩, .inr ⟨.ret, HC.out.lp, ?_⟩⟩
    have hC2 := HC.out.put (ro' := .loop (ro .exhausted (some .ret))) rfl
    have HC2 := Lib.hid hC2
    clear hC hC2
    gi_wp2
    obtain ⟨hr5, hk5, hb5⟩ := HC2.out.last
    have hrr := (hb5 _ (.head _)).cell
    refine ⟨by simp, .inl ⟨_, _, rfl, run_takeDeferred HC2.out.dfr, ?_⟩⟩
    refine ⟨.slice A9 pre.length cap9, by simp [results, Tryd.results19, go_sem, hrr], ?_⟩
    have e9 : res = pre := by
      rw [← HRES.out, show most.toNat = pre.length by omega]
      exact (List.prefix_iff_eq_take.1 ((List.prefix_append pre [x]).trans hpre)).symm
    rw [e9]
    exact ⟨_, rfl, hr5, hk5⟩
end Go.Proofs.YtmamegpkpkkkaaaDoor.Mo
