/- The walk of sandtablelaw15.names. -/
import Derived.Test.YtehecolejeonaaaNamesIt
import Derived.Test.YtehecolejeonaaaCkBare
import Derived.Test.YtehecolejeonaaaColl
import Derived.Shelf.Abstract
namespace Go.Proofs.Ytehecolejeonaaa.Mo
open Go Go.RowKit Go.Maps Go.Shelf Go.Proofs.Ytehecolejeonaaa.Lb
set_option linter.unusedVariables false
set_option linter.unusedSimpArgs false
attribute [local go_sem] Oper.semAt_some

set_option maxHeartbeats 8000000 in
theorem names_is (m : Md) (most : Int) (w : World) (hm : RModel w m) (hnl : m.ps.length ≤ 100000) (hll : m.ls.length ≤ 100000) (hvl : ∀ p ∈ m.ps, p.vs.length ≤ 100000) (hmx : (mdNames m).length ≤ 1000000000) :
    Calls Try.prog 21 #[m.val, .int .i64 most] w fun e w' => ∃ v, e = .returned v ∧ w'.ownsRow w.heap.size 9 1 v ((mdNames m).take most.toNat).length (((mdNames m).take most.toNat).map Value.string) ∧ Kept Nil w w' := by
  have HR := Lib.hid hm
  have HVL := Lib.hid hvl
  obtain ⟨res, hres⟩ : ∃ res, (mdNames m).take most.toNat = res := ⟨_, rfl⟩
  rw [hres]
  have HRES := Lib.hid hres
  clear hres
  obtain ⟨pv, hpv⟩ : ∃ pv, m.val = pv := ⟨_, rfl⟩
  have hcell : pv = .agg #[.int .i64 m.version, .slice m.pa m.ps.length m.pc, .slice m.la m.ls.length m.lc, .slice m.ea m.es.length m.ec] := hpv.symm
  have HPV := Lib.hid hpv
  rw [hpv]
  subst hcell
  clear hm hvl hpv
  obtain ⟨nn, hnn⟩ : ∃ nn : Nat, nn = nn := ⟨0, rfl⟩
  refine (callsIn_wide (n := nn)).1 ?_
  clear hnn
  refine callsIn_of_wp_marks Try.func21 rfl trivial ?_ rfl
  simp only [Try.ntmps21, List.size_toArray, List.length_cons, List.length_nil, Nat.reduceAdd, Nat.reduceSub, Array.replicate_succ, Array.replicate_zero, List.push_toArray, List.append_toArray, List.nil_append, List.cons_append]
  obtain ⟨j0, hjnf, hy0, hy1, hy2⟩ := info_parts infoStr
  by_cases hm : most ≤ 0
  · gi_wp2
    refine ⟨.slice (some ⟨w.heap.size + 1 + 1 + 1, 0, none⟩) 0 0, by simp [results, Try.results21, go_sem], ?_⟩
    have e0 : most.toNat = 0 := by omega
    refine ⟨_, rfl, ?_, (((((Kept.refl Nil w).alloc _).alloc _).alloc _).alloc _).alloc _⟩
    have e1 : res = [] := by rw [← HRES.out, e0]; rfl
    subst e1
    have := World.ownsRow_lit (base := w.heap.size) (e := 9) (size := 1) (((w.alloc (Obj.cells #[.int .i64 m.version, .slice m.pa m.ps.length m.pc, .slice m.la m.ls.length m.lc, .slice m.ea m.es.length m.ec] 26)).alloc (Obj.cells #[Value.int IntKind.i64 most] 3)).alloc (Obj.cells #[Value.slice (some { block := w.heap.size + 1 + 1 + 1, off := 0 }) 0 0] 40)) #[] 0 (by simp; omega) (by decide) rfl
    simp only [World.size_alloc] at this
    exact this.alloc _
  · gi_wp2_with fail
    obtain ⟨W1, hW1⟩ : ∃ W1, (((((w.alloc (Obj.cells #[.int .i64 m.version, .slice m.pa m.ps.length m.pc, .slice m.la m.ls.length m.lc, .slice m.ea m.es.length m.ec] 26)).alloc (Obj.cells #[Value.int IntKind.i64 most] 3)).alloc (Obj.cells #[Value.slice none 0 0] 40)).alloc (Obj.cells #[] 9)).alloc (Obj.cells #[Value.slice (some { block := w.heap.size + 1 + 1 + 1, off := 0 }) 0 0] 40)) = W1 := ⟨_, rfl⟩
    have hs1 : W1.heap.size = w.heap.size + 5 := by rw [← hW1]; simp
    have hk1 : Kept Nil w W1 := by rw [← hW1]; exact (((((Kept.refl Nil w).alloc _).alloc _).alloc _).alloc _).alloc _
    have hbM : Boxed W1 (w.heap.size + 1) 3 (.int .i64 most) := by rw [← hW1]; have := Boxed.new (w.alloc (Obj.cells #[.int .i64 m.version, .slice m.pa m.ps.length m.pc, .slice m.la m.ls.length m.lc, .slice m.ea m.es.length m.ec] 26)) 3 (.int .i64 most); simp only [World.size_alloc] at this; exact ((this.alloc _).alloc _).alloc _
    have hbR : Boxed W1 (w.heap.size + 1 + 1) 40 (.slice none 0 0) := by rw [← hW1]; have := Boxed.new ((w.alloc (Obj.cells #[.int .i64 m.version, .slice m.pa m.ps.length m.pc, .slice m.la m.ls.length m.lc, .slice m.ea m.es.length m.ec] 26)).alloc (Obj.cells #[Value.int IntKind.i64 most] 3)) 40 (.slice none 0 0); simp only [World.size_alloc] at this; exact (this.alloc _).alloc _
    have hbO : Boxed W1 (w.heap.size + 1 + 1 + 1 + 1) 40 (.slice (some ⟨w.heap.size + 1 + 1 + 1, 0, none⟩) 0 0) := by rw [← hW1]; have := Boxed.new ((((w.alloc (Obj.cells #[.int .i64 m.version, .slice m.pa m.ps.length m.pc, .slice m.la m.ls.length m.lc, .slice m.ea m.es.length m.ec] 26)).alloc (Obj.cells #[Value.int IntKind.i64 most] 3)).alloc (Obj.cells #[Value.slice none 0 0] 40)).alloc (Obj.cells #[] 9)) 40 (.slice (some ⟨w.heap.size + 1 + 1 + 1, 0, none⟩) 0 0); simpa only [World.size_alloc] using this
    have hrow : W1.ownsRow w.heap.size 9 1 (.slice (some ⟨w.heap.size + 1 + 1 + 1, 0, none⟩) 0 0) 0 [] := by
      rw [← hW1]
      have := World.ownsRow_lit (base := w.heap.size) (e := 9) (size := 1) (((w.alloc (Obj.cells #[.int .i64 m.version, .slice m.pa m.ps.length m.pc, .slice m.la m.ls.length m.lc, .slice m.ea m.es.length m.ec] 26)).alloc (Obj.cells #[Value.int IntKind.i64 most] 3)).alloc (Obj.cells #[Value.slice none 0 0] 40)) #[] 0 (by simp; omega) (by decide) rfl
      simp only [World.size_alloc] at this
      exact this.alloc _
    rw [hW1]
    have hwr := NamesM_is m W1
    rw [HPV.out] at hwr
    clear hW1
    refine at_wide (hwr.mono ?_)
    clear hwr
    rintro e w2 ⟨rfl, hw2⟩
    obtain ⟨Bx, hBx⟩ : ∃ Bx, W1.heap.size = Bx := ⟨_, rfl⟩
    have hk2 : Kept Nil W1 w2 := by rw [hw2]; exact (Kept.refl Nil W1).alloc _
    have hmb : w2.heap[Bx]? = some (.cells #[.int .i64 m.version, .slice m.pa m.ps.length m.pc, .slice m.la m.ls.length m.lc, .slice m.ea m.es.length m.ec] 26 (0, 0)) := by rw [hw2, ← hBx]; exact heap_new _ _
    have hs2 : Bx < w2.heap.size := by rw [hw2, ← hBx]; simp
    have hs3 : w.heap.size + 5 ≤ Bx := by omega
    rw [hBx]
    clear hw2 hs1
    replace hbM : Boxed w2 (w.heap.size + 1) 3 (.int .i64 most) := hk2.heap hbM (fun h => h)
    replace hbR : Boxed w2 (w.heap.size + 1 + 1) 40 (.slice none 0 0) := hk2.heap hbR (fun h => h)
    replace hbO : Boxed w2 (w.heap.size + 1 + 1 + 1 + 1) 40 (.slice (some ⟨w.heap.size + 1 + 1 + 1, 0, none⟩) 0 0) := hk2.heap hbO (fun h => h)
    replace hrow := hk2.own hrow (fun _ _ h => h)
    have hk02 : Kept Nil w w2 := hk1.step hk2
    clear hk1 hk2 hBx
    have HMB := Lib.hid hmb
    clear hmb
    gi_wp2_with fail
    refine range_stmt' rfl (fun h => by cases h) (gf := 44) (lb := #[.pointer (some ⟨Bx, 0, none⟩)]) rfl trivial (enters_of Try.func44 (by kernel_rfl) rfl) ?_
    intro fn ro _ hro
    have HRO := Lib.hid hro
    clear hro
    refine (NamesIt_in (nn - 1) (w2.heap.size + 1) Bx (w2.heap.size + 2) m
      (fun pre W => (pre.length : Int) < most ∧ ∃ vo, Coll (w.heap.size + 1 + 1 + 1 + 1) w2.heap.size (w2.heap.size + 1) 1 9 40 [(w.heap.size + 1 + 1, 40, .slice none 0 0), (w.heap.size + 1, 3, .int .i64 most)] Nil w (.loop (ro .ready none)) pre.length (pre.map Value.string) vo W ∧
        W.heap[Bx]? = some (.cells #[.int .i64 m.version, .slice m.pa m.ps.length m.pc, .slice m.la m.ls.length m.lc, .slice m.ea m.es.length m.ec] 26 (0, 0)) ∧ (vo.ownBlock = some (w.heap.size + 3) ∨ ∃ j, vo.ownBlock = some j ∧ w2.heap.size ≤ j))
      (fun pre W => (pre.length : Int) = most ∧ ∃ vo, Coll (w.heap.size + 1 + 1 + 1 + 1) w2.heap.size (w2.heap.size + 1) 1 9 40 [(w.heap.size + 1 + 1, 40, vo), (w.heap.size + 1, 3, .int .i64 most)] Nil w (.loop (ro .done (some .ret))) pre.length (pre.map Value.string) vo W)
      ?_ ?_ ?_ hnl hll HVL.out _ (by simp) ?_).mono ?_
    case refine_1 => exact fun pre W ⟨_, vo, hC, hb, _⟩ => ⟨HR.out.nil hC.kept, by rw [cell_of hb]; rfl, by rw [cell_of hb]; rfl⟩
    case refine_2 => exact fun pre W W' ⟨h1, vo, h2, h3, h4⟩ hk => ⟨h1, vo, h2.nil hk, hk.heap h3 (fun h => h), h4⟩
    case refine_4 =>
      refine ⟨by simp; omega, .slice (some ⟨w.heap.size + 1 + 1 + 1, 0, none⟩) 0 0, ?_, (((Kept.refl Nil w2).alloc _).alloc _).heap HMB.out (fun h => h), .inl rfl⟩
      refine { hB := by omega, hD := by omega, hl := by omega, hO := fun _ h => h.elim, hL := ?_, bx := ?_, box := (hbO.alloc _).alloc _, row := (hrow.alloc _).alloc _, lp := ?_, roc := rfl, dfr := ?_, dl := by omega, kept := (hk02.alloc _).alloc _ }
      · intro q hq
        simp only [List.mem_cons, List.not_mem_nil, or_false] at hq
        rcases hq with rfl | rfl <;> refine ⟨?_, ?_, ?_⟩ <;> simp <;> omega
      · intro q hq
        simp only [List.mem_cons, List.not_mem_nil, or_false] at hq
        rcases hq with rfl | rfl
        · exact (hbR.alloc _).alloc _
        · exact (hbM.alloc _).alloc _
      · have := heap_new (w2.alloc (.deferred (some []))) (.loop (ro .ready none))
        rw [World.size_alloc] at this
        exact this
      · exact (heap_old _ _ (by simp)).trans (heap_new w2 _)
    case refine_3 =>
      rintro pre x W hpre ⟨hltm, vo, hC, hS, hvo⟩
      have HC := Lib.hid hC
      have HSx := Lib.hid hS
      have HVO := Lib.hid hvo
      refine yield_round' HRO.out trivial hC.lp rfl ?_
      clear hC hS hvo
      simp only [List.zip_toArray, List.zip_cons_cons, List.zip_nil_left, List.zip_nil_right, List.foldl_toArray, List.foldl_cons, List.foldl_nil, List.setIfInBounds_toArray, List.set_cons_succ, List.set_cons_zero, List.size_toArray, List.length_cons, List.length_nil]
      gi_wp2_with fail
      refine ⟨HC.out.lp, ?_⟩
      have hCb := HC.out.put (ro' := .loop (ro .busy none)) rfl
      have hkb : Kept (fun i => i = w2.heap.size + 1) W (W.putObj (w2.heap.size + 1) (.loop (ro .busy none))) := Kept.putObj (Kept.refl (fun i => i = w2.heap.size + 1) W) (.inl rfl) _
      have hSb := hkb.heap HSx.out (by omega)
      obtain ⟨Wb, hWb⟩ : ∃ Wb, W.putObj (w2.heap.size + 1) (.loop (ro .busy none)) = Wb := ⟨_, rfl⟩
      rw [hWb] at hCb hSb hkb ⊢
      have hlen : pre.length + 1 ≤ 1000000000 := by
        have h9 := hpre.length_le
        rw [List.length_append] at h9
        simp only [List.length_cons, List.length_nil] at h9
        omega
      have hbc := hCb.box.cell
      have hbf := hCb.box.frozen
      have HCB := Lib.hid hCb
      have HKB := Lib.hid hkb
      have HSB := Lib.hid hSb
      have HPRE := Lib.hid hpre
      clear hWb hCb hSb hkb hpre
      by_cases he : (pre.length : Int) + 1 = most
      · have he' : ((pre.length : Int) + 1 == most) = true := by simpa using he
        gi_wp2_with (gi_at_builtin; refine wpListIn_append_own_at _ rfl _ _ 40 rfl w.heap.size 9 j0 (.string ⟨#[]⟩) 1 16 Try.underlying40 hjnf hy0 hy1 hy2 rfl (by decide) vo pre.length (pre.map Value.string) rfl (HCB.out.row.alloc _) ⟨Wb.heap.size, 0, none⟩ 1 1 [.string x] rfl rfl (cells_new _ _ _) (by simp [Value.oneCell']) (by unfold maxLen; omega) (by omega) (by have := HCB.out.kept.size; simp; omega) ?_; intro vo' w3 hown' hgrow _ hat; obtain ⟨g', cap', rfl⟩ := ownsRow_succ hown'; obtain ⟨hb3, hC3, hK3⟩ := HCB.out.appended (by decide) hown' hgrow; have hc3 := hb3.cell; have hf3 := hb3.frozen; have hM3 := (hC3.bx _ (.tail _ (.head _))).cell; have hR3 := (hC3.bx _ (.head _)).cell; have hRf3 := (hC3.bx _ (.head _)).frozen; have HB3 := Lib.hid hb3; have HC3 := Lib.hid hC3; have HG3 := Lib.hid hgrow; have HAT := Lib.hid hat; clear hown' hgrow hb3 hC3 hK3 hat)
        have hC4 := HC3.out.store (by intro q hq; simp only [List.mem_cons, List.not_mem_nil, or_false] at hq; rcases hq with rfl; simp) (.slice (some ⟨g', 0, none⟩) (pre.length + 1) cap')
        have hC5 := hC4.put (ro' := .loop (ro .done (some .ret))) rfl
        refine ⟨hC4.lp, rfl, .slice (some ⟨g', 0, none⟩) (pre.length + 1) cap', ?_⟩
        simpa using hC5
      · have he' : ((pre.length : Int) + 1 == most) = false := by simpa using he
        gi_wp2_with (gi_at_builtin; refine wpListIn_append_own_at _ rfl _ _ 40 rfl w.heap.size 9 j0 (.string ⟨#[]⟩) 1 16 Try.underlying40 hjnf hy0 hy1 hy2 rfl (by decide) vo pre.length (pre.map Value.string) rfl (HCB.out.row.alloc _) ⟨Wb.heap.size, 0, none⟩ 1 1 [.string x] rfl rfl (cells_new _ _ _) (by simp [Value.oneCell']) (by unfold maxLen; omega) (by omega) (by have := HCB.out.kept.size; simp; omega) ?_; intro vo' w3 hown' hgrow _ hat; obtain ⟨g', cap', rfl⟩ := ownsRow_succ hown'; obtain ⟨hb3, hC3, hK3⟩ := HCB.out.appended (by decide) hown' hgrow; have hc3 := hb3.cell; have hf3 := hb3.frozen; have hM3 := (hC3.bx _ (.tail _ (.head _))).cell; have hR3 := (hC3.bx _ (.head _)).cell; have hRf3 := (hC3.bx _ (.head _)).frozen; have HB3 := Lib.hid hb3; have HC3 := Lib.hid hC3; have HG3 := Lib.hid hgrow; have HAT := Lib.hid hat; clear hown' hgrow hb3 hC3 hK3 hat)
        have hC4 := HC3.out.put (ro' := .loop (ro .ready none)) rfl
        have hk9 : Kept (fun i => vo.ownBlock = some i ∨ i = w.heap.size + 1 + 1 + 1 + 1 ∨ i = w2.heap.size + 1) Wb ((w3.setCell ⟨w.heap.size + 1 + 1 + 1 + 1, 0, none⟩ (.slice (some ⟨g', 0, none⟩) (pre.length + 1) cap')).putObj (w2.heap.size + 1) (.loop (ro .ready none))) :=
          (((((Kept.refl _ Wb).alloc _).grown HG3.out (fun j e => .inl (.inl e))).setCell (p := ⟨w.heap.size + 1 + 1 + 1 + 1, 0, none⟩) (.inl (.inr (.inl rfl))) _)).putObj (.inl (.inr (.inr rfl))) _
        have hS9 := hk9.heap HSB.out (by
          rintro (h | h | h)
          · rcases HVO.out with h7 | ⟨j, h7, h6⟩
            · rw [h7] at h; cases h; omega
            · rw [h7] at h; cases h; omega
          · omega
          · omega)
        refine ⟨HC3.out.lp, rfl, ⟨by omega, .slice (some ⟨g', 0, none⟩) (pre.length + 1) cap', ?_, hS9, ?_⟩, ?_, ?_⟩
        · simpa using hC4
        · rcases HAT.out with h | h
          · rw [h]; exact HVO.out
          · refine .inr ⟨_, h, ?_⟩
            have h9 := (Array.getElem?_eq_some_iff.1 HCB.out.lp).1
            simp; omega
        · exact Nat.le_trans HKB.out.size hk9.size
        · intro b cs hb hcs
          have hcs1 := HKB.out.heap hcs (by omega)
          refine hk9.heap hcs1 ?_
          rintro (h | h | h)
          · rcases HCB.out.row.2 with ⟨h1, _⟩ | ⟨g, cap, cur, h1, _, h2, _⟩
            · rw [h1] at h; cases h
            · rw [h1] at h
              have e' : b = g := by have h9 : g = b := by simpa [Value.ownBlock] using h
                                    exact h9.symm
              rw [← e', hcs1] at h2; cases h2
          · omega
          · omega
    rintro e W' ⟨⟨u, rfl⟩, ⟨hltm, vo, hC, _, _⟩ | ⟨pre, hpre, hm2, vo, hC⟩⟩
    · obtain ⟨A9, cap9, rfl⟩ := own_slice hC.row
      have HC := Lib.hid hC
      refine ⟨⟨u, rfl⟩, .inl ⟨HC.out.lp, ?_⟩⟩
      have hC2 := HC.out.put (ro' := .loop (ro .exhausted none)) rfl
      have HC2 := Lib.hid hC2
      have hc2 := hC2.box.cell
      have hr2 := (hC2.bx _ (.head _)).cell
      have hrf2 := (hC2.bx _ (.head _)).frozen
      clear hC hC2
      gi_wp2
      have hC3 := HC2.out.store (by intro q hq; simp only [List.mem_cons, List.not_mem_nil, or_false] at hq; rcases hq with rfl; simp) (.slice A9 (mdNames m).length cap9)
      obtain ⟨hr5, hk5, hb5⟩ := hC3.last
      have hrr := (hb5 _ (.head _)).cell
      refine ⟨by simp, .inl ⟨_, _, rfl, run_takeDeferred hC3.dfr, ?_⟩⟩
      refine ⟨.slice A9 (mdNames m).length cap9, by simp [results, Try.results21, go_sem, hrr], ?_⟩
      have e9 : res = mdNames m := by rw [← HRES.out]; exact List.take_of_length_le (by omega)
      rw [e9]
      exact ⟨_, rfl, hr5, hk5⟩
    · obtain ⟨A9, cap9, rfl⟩ := own_slice hC.row
      have HC := Lib.hid hC
      refine ⟨⟨u, rfl⟩, .inr ⟨.ret, HC.out.lp, ?_⟩⟩
      have hC2 := HC.out.put (ro' := .loop (ro .exhausted (some .ret))) rfl
      have HC2 := Lib.hid hC2
      clear hC hC2
      gi_wp2
      obtain ⟨hr5, hk5, hb5⟩ := HC2.out.last
      have hrr := (hb5 _ (.head _)).cell
      refine ⟨by simp, .inl ⟨_, _, rfl, run_takeDeferred HC2.out.dfr, ?_⟩⟩
      refine ⟨.slice A9 pre.length cap9, by simp [results, Try.results21, go_sem, hrr], ?_⟩
      have e9 : res = pre := by
        rw [← HRES.out, show most.toNat = pre.length by omega]
        exact (List.prefix_iff_eq_take.1 hpre).symm
      rw [e9]
      exact ⟨_, rfl, hr5, hk5⟩
end Go.Proofs.Ytehecolejeonaaa.Mo
