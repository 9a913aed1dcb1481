/- The walk of sandtablelaw26.writes. -/
import Derived.Test.YtnohhpinigkccaaWrites
import Derived.Shelf.Abstract
namespace Go.Proofs.Ytnohhpinigkccaa.Mo
open Go Go.RowKit Go.Maps Go.Shelf Go.Proofs.Ytnohhpinigkccaa.Lb
set_option linter.unusedVariables false
set_option linter.unusedSimpArgs false
attribute [local go_sem] Oper.semAt_some

theorem mb_grown {base e size n : Nat} {vo : Value} {xs : List Value} {Wb w3 : World} {mb : Nat} {es : Array MapEntry} {clk : Nat} {tmp : Obj} (row : Wb.ownsRow base e size vo n xs) (hm : Wb.heap[mb]? = some (Obj.map es clk)) (hgrow : (Wb.alloc tmp).grownBy w3 vo.ownBlock) : w3.heap[mb]? = some (Obj.map es clk) := by
  have hlt := (Array.getElem?_eq_some_iff.1 hm).1
  rw [hgrow.block mb (by rw [World.size_alloc]; omega) (fun h => by
    rcases row.2 with ⟨h1, _⟩ | ⟨g, cap, cur, h1, _, h2, _⟩
    · rw [h1] at h; cases h
    · rw [h1] at h
      have e' : mb = g := by simpa [Value.ownBlock] using h
      rw [← e', hm] at h2; cases h2), heap_old _ _ hlt]
  exact hm
theorem mb_ne {W : World} {b mb : Nat} {t : TypeId} {u : Value} {es : Array MapEntry} {clk : Nat} (h : Boxed W b t u) (hm : W.heap[mb]? = some (Obj.map es clk)) : mb ≠ b := fun e => by
  have h2 : W.heap[b]? = _ := h
  rw [← e, hm] at h2; cases h2
theorem lp_ne {W : World} {l mb : Nat} {lp : Loop} {es : Array MapEntry} {clk : Nat} (h : W.heap[l]? = some (.loop lp)) (hm : W.heap[mb]? = some (Obj.map es clk)) : mb ≠ l := fun e => by
  rw [← e, hm] at h; cases h
set_option maxHeartbeats 8000000 in
theorem writes_is (p : Pr) (most : Int) (w : World) (hr : RProc w p) (hl : p.ss.length ≤ 100000) (hs : ∀ s ∈ p.ss, s.name.size ≤ maxLen) :
    Calls Try.prog 17 #[p.val, .int .i64 most] w fun e w' => ∃ v, e = .returned v ∧ w'.ownsRow w.heap.size 9 1 v ((dist (wNames p.ss)).take most.toNat).length (((dist (wNames p.ss)).take most.toNat).map Value.string) ∧ Kept Nil w w' := by
  have HR := Lib.hid hr
  have HS := Lib.hid hs
  obtain ⟨res, hres⟩ : ∃ res, (dist (wNames p.ss)).take most.toNat = res := ⟨_, rfl⟩
  rw [hres]
  have HRES := Lib.hid hres
  clear hres
  obtain ⟨pv, hpv⟩ : ∃ pv, p.val = pv := ⟨_, rfl⟩
  have hcell : pv = .agg #[.string p.name, .int .i64 p.weight, .slice p.va p.vs.length p.vc, .slice p.sa p.ss.length p.sc] := hpv.symm
  have HPV := Lib.hid hpv
  rw [hpv]
  subst hcell
  have hdl : (dist (wNames p.ss)).length ≤ 100000 := Nat.le_trans (dist_len _) (Nat.le_trans (wNames_len _) hl)
  have hwl : (wNames p.ss).length ≤ 100000 := Nat.le_trans (wNames_len _) hl
  have hws : ∀ s ∈ wNames p.ss, s.size ≤ maxLen := fun s h => by
    unfold wNames at h
    obtain ⟨q, hq, rfl⟩ := List.mem_map.1 h
    exact hs q (List.mem_filter.1 hq).1
  have HWS := Lib.hid hws
  clear hr hs hpv hws
  obtain ⟨nn, hnn⟩ : ∃ nn : Nat, nn = nn := ⟨0, rfl⟩
  refine (callsIn_wide (n := nn)).1 ?_
  clear hnn
  refine callsIn_of_wp_marks Try.func17 rfl trivial ?_ rfl
  simp only [Try.ntmps17, List.size_toArray, List.length_cons, List.length_nil, Nat.reduceAdd, Nat.reduceSub, Array.replicate_succ, Array.replicate_zero, List.push_toArray, List.append_toArray, List.nil_append, List.cons_append]
  obtain ⟨j0, hjnf, hy0, hy1, hy2⟩ := info_parts infoStr
  by_cases hm : most ≤ 0
  · gi_wp2
    refine ⟨.slice (some ⟨w.heap.size + 1 + 1 + 1, 0, none⟩) 0 0, by simp [results, Try.results17, go_sem], ?_⟩
    have e0 : most.toNat = 0 := by omega
    refine ⟨_, rfl, ?_, (((((Kept.refl Nil w).alloc _).alloc _).alloc _).alloc _).alloc _⟩
    have e1 : res = [] := by rw [← HRES.out, e0]; rfl
    subst e1
    have := World.ownsRow_lit (base := w.heap.size) (e := 9) (size := 1) (((w.alloc (Obj.cells #[.string p.name, .int .i64 p.weight, .slice p.va p.vs.length p.vc, .slice p.sa p.ss.length p.sc] 25)).alloc (Obj.cells #[Value.int IntKind.i64 most] 3)).alloc (Obj.cells #[Value.slice (some { block := w.heap.size + 1 + 1 + 1, off := 0 }) 0 0] 36)) #[] 0 (by simp; omega) (by decide) rfl
    simp only [World.size_alloc] at this
    exact this.alloc _
  · gi_wp2_with fail
    obtain ⟨W1, hW1⟩ : ∃ W1, (((((w.alloc (Obj.cells #[.string p.name, .int .i64 p.weight, .slice p.va p.vs.length p.vc, .slice p.sa p.ss.length p.sc] 25)).alloc (Obj.cells #[Value.int IntKind.i64 most] 3)).alloc (Obj.cells #[Value.slice none 0 0] 36)).alloc (Obj.cells #[] 9)).alloc (Obj.cells #[Value.slice (some { block := w.heap.size + 1 + 1 + 1, off := 0 }) 0 0] 36)) = W1 := ⟨_, rfl⟩
    have hs1 : W1.heap.size = w.heap.size + 5 := by rw [← hW1]; simp
    have hk1 : Kept Nil w W1 := by rw [← hW1]; exact (((((Kept.refl Nil w).alloc _).alloc _).alloc _).alloc _).alloc _
    have hbM : Boxed W1 (w.heap.size + 1) 3 (.int .i64 most) := by rw [← hW1]; have := Boxed.new (w.alloc (Obj.cells #[.string p.name, .int .i64 p.weight, .slice p.va p.vs.length p.vc, .slice p.sa p.ss.length p.sc] 25)) 3 (.int .i64 most); simp only [World.size_alloc] at this; exact ((this.alloc _).alloc _).alloc _
    have hbR : Boxed W1 (w.heap.size + 1 + 1) 36 (.slice none 0 0) := by rw [← hW1]; have := Boxed.new ((w.alloc (Obj.cells #[.string p.name, .int .i64 p.weight, .slice p.va p.vs.length p.vc, .slice p.sa p.ss.length p.sc] 25)).alloc (Obj.cells #[Value.int IntKind.i64 most] 3)) 36 (.slice none 0 0); simp only [World.size_alloc] at this; exact (this.alloc _).alloc _
    have hbO : Boxed W1 (w.heap.size + 1 + 1 + 1 + 1) 36 (.slice (some ⟨w.heap.size + 1 + 1 + 1, 0, none⟩) 0 0) := by rw [← hW1]; have := Boxed.new ((((w.alloc (Obj.cells #[.string p.name, .int .i64 p.weight, .slice p.va p.vs.length p.vc, .slice p.sa p.ss.length p.sc] 25)).alloc (Obj.cells #[Value.int IntKind.i64 most] 3)).alloc (Obj.cells #[Value.slice none 0 0] 36)).alloc (Obj.cells #[] 9)) 36 (.slice (some ⟨w.heap.size + 1 + 1 + 1, 0, none⟩) 0 0); simpa only [World.size_alloc] using this
    have hrow : W1.ownsRow w.heap.size 9 1 (.slice (some ⟨w.heap.size + 1 + 1 + 1, 0, none⟩) 0 0) 0 [] := by
      rw [← hW1]
      have := World.ownsRow_lit (base := w.heap.size) (e := 9) (size := 1) (((w.alloc (Obj.cells #[.string p.name, .int .i64 p.weight, .slice p.va p.vs.length p.vc, .slice p.sa p.ss.length p.sc] 25)).alloc (Obj.cells #[Value.int IntKind.i64 most] 3)).alloc (Obj.cells #[Value.slice none 0 0] 36)) #[] 0 (by simp; omega) (by decide) rfl
      simp only [World.size_alloc] at this
      exact this.alloc _
    rw [hW1]
    have hwr := Writes_is p W1 (HR.out.nil hk1) hl
    rw [HPV.out] at hwr
    clear hW1
    refine at_wide (hwr.mono ?_)
    clear hwr
    rintro e w2 ⟨Bx, A, cp, rfl, hBx, hbx, hSt, hAb, hk2⟩
    have hs2 := hk2.size
    replace hbM : Boxed w2 (w.heap.size + 1) 3 (.int .i64 most) := hk2.heap hbM (fun h => h)
    replace hbR : Boxed w2 (w.heap.size + 1 + 1) 36 (.slice none 0 0) := hk2.heap hbR (fun h => h)
    replace hbO : Boxed w2 (w.heap.size + 1 + 1 + 1 + 1) 36 (.slice (some ⟨w.heap.size + 1 + 1 + 1, 0, none⟩) 0 0) := hk2.heap hbO (fun h => h)
    replace hrow := hk2.own hrow (fun _ _ h => h)
    have hk02 : Kept Nil w w2 := hk1.step hk2
    clear hk1 hk2
    have HSt := Lib.hid hSt
    have HAb := Lib.hid hAb
    have hBx2 : Bx < w2.heap.size := hbx.lt
    clear hSt hAb
    gi_wp2_with fail
    refine range_stmt' rfl (fun h => by cases h) (gf := 41) (lb := #[.pointer (some ⟨Bx, 0, none⟩)]) rfl trivial (enters_of Try.func41 (by kernel_rfl) rfl) ?_
    intro fn ro _ hro
    have HRO := Lib.hid hro
    clear hro
    refine (Distinct1_in (nn - 1) (w2.heap.size + 1) Bx cp (w2.heap.size + 2) A (wNames p.ss)
      (fun pre W => (pre.length : Int) < most ∧ ∃ vo, Coll (w.heap.size + 1 + 1 + 1 + 1) w2.heap.size (w2.heap.size + 1) 1 9 36 [(w.heap.size + 1 + 1, 36, .slice none 0 0), (w.heap.size + 1, 3, .int .i64 most)] Nil w (.loop (ro .ready none)) pre.length (pre.map Value.string) vo W ∧
        RStrs W A (wNames p.ss) ∧ (vo.ownBlock = some (w.heap.size + 3) ∨ ∃ j, vo.ownBlock = some j ∧ w2.heap.size ≤ j))
      (fun pre W => (pre.length : Int) = most ∧ ∃ vo, Coll (w.heap.size + 1 + 1 + 1 + 1) w2.heap.size (w2.heap.size + 1) 1 9 36 [(w.heap.size + 1 + 1, 36, vo), (w.heap.size + 1, 3, .int .i64 most)] Nil w (.loop (ro .done (some .ret))) pre.length (pre.map Value.string) vo W)
      ?_ ?_ ?_ ?_ HWS.out hwl _ (by simp) ?_ ?_).mono ?_
    case refine_1 => exact fun pre W ⟨_, _, _, h, _⟩ => h
    case refine_2 => exact fun pre W W' ⟨h1, vo, h2, h3, h4⟩ hk => ⟨h1, vo, h2.nil hk, h3.kept hk (fun _ _ _ _ h => h), h4⟩
    case refine_3 =>
      rintro pre W W' mb es clk ⟨h1, vo, h2, h3, h4⟩ hge hmb hk
      exact ⟨h1, vo, Coll.mapped h2 hmb (by omega) ⟨_, rfl⟩ hk, h3.kept hk (fun b off hne e h => by have := (HAb.out b off e).2; omega), h4⟩
    case refine_5 =>
      have := ((hbx.alloc (.deferred (some []))).alloc (.loop (ro .ready none))).cell
      exact this
    case refine_6 =>
      refine ⟨by simp; omega, .slice (some ⟨w.heap.size + 1 + 1 + 1, 0, none⟩) 0 0, ?_, HSt.out.kept (((Kept.refl Nil w2).alloc _).alloc _) (fun _ _ _ _ h => h), .inl rfl⟩
      refine { hB := by omega, hD := by omega, hl := by omega, hO := fun _ h => h.elim, hL := ?_, bx := ?_, box := (hbO.alloc _).alloc _, row := (hrow.alloc _).alloc _, lp := ?_, roc := rfl, dfr := ?_, dl := by omega, kept := (hk02.alloc _).alloc _ }
      · intro q hq
        simp only [List.mem_cons, List.not_mem_nil, or_false] at hq
        rcases hq with rfl | rfl <;> refine ⟨?_, ?_, ?_⟩ <;> simp <;> omega
      · intro q hq
        simp only [List.mem_cons, List.not_mem_nil, or_false] at hq
        rcases hq with rfl | rfl
        · exact (hbR.alloc _).alloc _
        · exact (hbM.alloc _).alloc _
      · have := heap_new (w2.alloc (.deferred (some []))) (.loop (ro .ready none))
        rw [World.size_alloc] at this
        exact this
      · exact (heap_old _ _ (by simp)).trans (heap_new w2 _)
    case refine_4 =>
      rintro pre x W mb es clk hpre ⟨hltm, vo, hC, hS, hvo⟩ hge hmb
      have HC := Lib.hid hC
      have HSx := Lib.hid hS
      have HVO := Lib.hid hvo
      have HMB := Lib.hid hmb
      refine yield_round' HRO.out trivial hC.lp rfl ?_
      clear hC hS hvo hmb
      simp only [List.zip_toArray, List.zip_cons_cons, List.zip_nil_left, List.zip_nil_right, List.foldl_toArray, List.foldl_cons, List.foldl_nil, List.setIfInBounds_toArray, List.set_cons_succ, List.set_cons_zero, List.size_toArray, List.length_cons, List.length_nil]
      gi_wp2_with fail
      refine ⟨HC.out.lp, ?_⟩
      have hCb := HC.out.put (ro' := .loop (ro .busy none)) rfl
      have hmb1 := (heap_put_other (o' := .loop (ro .busy none)) (lp_ne HC.out.lp HMB.out)).trans HMB.out
      have hkb : Kept (fun i => i = w2.heap.size + 1) W (W.putObj (w2.heap.size + 1) (.loop (ro .busy none))) := Kept.putObj (Kept.refl (fun i => i = w2.heap.size + 1) W) (.inl rfl) _
      have hSb := HSx.out.kept hkb (fun b off hne e h => by have := (HAb.out b off e).2; omega)
      obtain ⟨Wb, hWb⟩ : ∃ Wb, W.putObj (w2.heap.size + 1) (.loop (ro .busy none)) = Wb := ⟨_, rfl⟩
      rw [hWb] at hCb hmb1 hSb hkb ⊢
      have hlen : pre.length + 1 ≤ 100000 := by
        have h9 := hpre.length_le
        rw [List.length_append] at h9
        simp only [List.length_cons, List.length_nil] at h9
        omega
      have hbc := hCb.box.cell
      have hbf := hCb.box.frozen
      have HCB := Lib.hid hCb
      have HM1 := Lib.hid hmb1
      have HSB := Lib.hid hSb
      have HPRE := Lib.hid hpre
      clear hWb hCb hmb1 hSb hkb hpre
      by_cases he : (pre.length : Int) + 1 = most
      · have he' : ((pre.length : Int) + 1 == most) = true := by simpa using he
        gi_wp2_with (gi_at_builtin; refine wpListIn_append_own_at _ rfl _ _ 36 rfl w.heap.size 9 j0 (.string ⟨#[]⟩) 1 16 Try.underlying36 hjnf hy0 hy1 hy2 rfl (by decide) vo pre.length (pre.map Value.string) rfl (HCB.out.row.alloc _) ⟨Wb.heap.size, 0, none⟩ 1 1 [.string x] rfl rfl (cells_new _ _ _) (by simp [Value.oneCell']) (by unfold maxLen; omega) (by omega) (by have := HCB.out.kept.size; simp; omega) ?_; intro vo' w3 hown' hgrow _ hat; obtain ⟨g', cap', rfl⟩ := ownsRow_succ hown'; obtain ⟨hb3, hC3, hK3⟩ := HCB.out.appended (by decide) hown' hgrow; have hc3 := hb3.cell; have hf3 := hb3.frozen; have hM3 := (hC3.bx _ (.tail _ (.head _))).cell; have hR3 := (hC3.bx _ (.head _)).cell; have hRf3 := (hC3.bx _ (.head _)).frozen; have HM3 := Lib.hid (mb_grown HCB.out.row HM1.out hgrow); have HB3 := Lib.hid hb3; have HC3 := Lib.hid hC3; have HG3 := Lib.hid hgrow; have HAT := Lib.hid hat; clear hown' hgrow hb3 hC3 hK3 hat)
        have hC4 := HC3.out.store (by intro q hq; simp only [List.mem_cons, List.not_mem_nil, or_false] at hq; rcases hq with rfl; simp) (.slice (some ⟨g', 0, none⟩) (pre.length + 1) cap')
        have hC5 := hC4.put (ro' := .loop (ro .done (some .ret))) rfl
        refine ⟨hC4.lp, rfl, .slice (some ⟨g', 0, none⟩) (pre.length + 1) cap', ?_⟩
        simpa using hC5
      · have he' : ((pre.length : Int) + 1 == most) = false := by simpa using he
        gi_wp2_with (gi_at_builtin; refine wpListIn_append_own_at _ rfl _ _ 36 rfl w.heap.size 9 j0 (.string ⟨#[]⟩) 1 16 Try.underlying36 hjnf hy0 hy1 hy2 rfl (by decide) vo pre.length (pre.map Value.string) rfl (HCB.out.row.alloc _) ⟨Wb.heap.size, 0, none⟩ 1 1 [.string x] rfl rfl (cells_new _ _ _) (by simp [Value.oneCell']) (by unfold maxLen; omega) (by omega) (by have := HCB.out.kept.size; simp; omega) ?_; intro vo' w3 hown' hgrow _ hat; obtain ⟨g', cap', rfl⟩ := ownsRow_succ hown'; obtain ⟨hb3, hC3, hK3⟩ := HCB.out.appended (by decide) hown' hgrow; have hc3 := hb3.cell; have hf3 := hb3.frozen; have hM3 := (hC3.bx _ (.tail _ (.head _))).cell; have hR3 := (hC3.bx _ (.head _)).cell; have hRf3 := (hC3.bx _ (.head _)).frozen; have HM3 := Lib.hid (mb_grown HCB.out.row HM1.out hgrow); have HB3 := Lib.hid hb3; have HC3 := Lib.hid hC3; have HG3 := Lib.hid hgrow; have HAT := Lib.hid hat; clear hown' hgrow hb3 hC3 hK3 hat)
        have hC4 := HC3.out.put (ro' := .loop (ro .ready none)) rfl
        have hk9 : Kept (fun i => vo.ownBlock = some i ∨ i = w.heap.size + 1 + 1 + 1 + 1 ∨ i = w2.heap.size + 1) Wb ((w3.setCell ⟨w.heap.size + 1 + 1 + 1 + 1, 0, none⟩ (.slice (some ⟨g', 0, none⟩) (pre.length + 1) cap')).putObj (w2.heap.size + 1) (.loop (ro .ready none))) :=
          (((((Kept.refl _ Wb).alloc _).grown HG3.out (fun j e => .inl (.inl e))).setCell (p := ⟨w.heap.size + 1 + 1 + 1 + 1, 0, none⟩) (.inl (.inr (.inl rfl))) _)).putObj (.inl (.inr (.inr rfl))) _
        have hS9 := HSB.out.kept hk9 (fun b off hne e h => by
          have h8 := HAb.out b off e
          rcases h with h | h | h
          · rcases HVO.out with h7 | ⟨j, h7, h6⟩
            · rw [h7] at h; cases h; omega
            · rw [h7] at h; cases h; omega
          · omega
          · omega)
        have hm9 : ((w3.setCell ⟨w.heap.size + 1 + 1 + 1 + 1, 0, none⟩ (.slice (some ⟨g', 0, none⟩) (pre.length + 1) cap')).putObj (w2.heap.size + 1) (.loop (ro .ready none))).heap[mb]? = some (Obj.map es clk) := by
          rw [heap_put_other (lp_ne HC.out.lp HMB.out), heap_set_other (mb_ne HB3.out HM3.out)]
          exact HM3.out
        refine ⟨HC3.out.lp, rfl, ⟨by omega, .slice (some ⟨g', 0, none⟩) (pre.length + 1) cap', ?_, hS9, ?_⟩, hm9.trans HMB.out.symm⟩
        · simpa using hC4
        · rcases HAT.out with h | h
          · rw [h]; exact HVO.out
          · refine .inr ⟨_, h, ?_⟩
            have := HMB.out
            have h9 := (Array.getElem?_eq_some_iff.1 HCB.out.lp).1
            simp; omega
    rintro e W' ⟨⟨u, rfl⟩, ⟨hltm, vo, hC, _, _⟩ | ⟨pre, hpre, hm2, vo, hC⟩⟩
    · obtain ⟨A9, cap9, rfl⟩ := own_slice hC.row
      have HC := Lib.hid hC
      refine ⟨⟨u, rfl⟩, .inl ⟨HC.out.lp, ?_⟩⟩
      have hC2 := HC.out.put (ro' := .loop (ro .exhausted none)) rfl
      have HC2 := Lib.hid hC2
      have hc2 := hC2.box.cell
      have hr2 := (hC2.bx _ (.head _)).cell
      have hrf2 := (hC2.bx _ (.head _)).frozen
      clear hC hC2
      gi_wp2
      have hC3 := HC2.out.store (by intro q hq; simp only [List.mem_cons, List.not_mem_nil, or_false] at hq; rcases hq with rfl; simp) (.slice A9 (dist (wNames p.ss)).length cap9)
      obtain ⟨hr5, hk5, hb5⟩ := hC3.last
      have hrr := (hb5 _ (.head _)).cell
      refine ⟨by simp, .inl ⟨_, _, rfl, run_takeDeferred hC3.dfr, ?_⟩⟩
      refine ⟨.slice A9 (dist (wNames p.ss)).length cap9, by simp [results, Try.results17, go_sem, hrr], ?_⟩
      have e9 : res = dist (wNames p.ss) := by rw [← HRES.out]; exact List.take_of_length_le (by omega)
      rw [e9]
      exact ⟨_, rfl, hr5, hk5⟩
    · obtain ⟨A9, cap9, rfl⟩ := own_slice hC.row
      have HC := Lib.hid hC
      refine ⟨⟨u, rfl⟩, .inr ⟨.ret, HC.out.lp, ?_⟩⟩
      have hC2 := HC.out.put (ro' := .loop (ro .exhausted (some .ret))) rfl
      have HC2 := Lib.hid hC2
      clear hC hC2
      gi_wp2
      obtain ⟨hr5, hk5, hb5⟩ := HC2.out.last
      have hrr := (hb5 _ (.head _)).cell
      refine ⟨by simp, .inl ⟨_, _, rfl, run_takeDeferred HC2.out.dfr, ?_⟩⟩
      refine ⟨.slice A9 pre.length cap9, by simp [results, Try.results17, go_sem, hrr], ?_⟩
      have e9 : res = pre := by
        rw [← HRES.out, show most.toNat = pre.length by omega]
        exact (List.prefix_iff_eq_take.1 hpre).symm
      rw [e9]
      exact ⟨_, rfl, hr5, hk5⟩
end Go.Proofs.Ytnohhpinigkccaa.Mo
