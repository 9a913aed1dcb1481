/- The walk of model.index. -/
import Derived.Test.YthgbahlkflmgiaaNamesIt
import Derived.Test.YthgbahlkflmgiaaCkMap
import Derived.RangeFuncBox
import Derived.Shelf.Abstract
import Derived.WalkArith
namespace Go.Proofs.Ythgbahlkflmgiaa.Mo
open Go Go.RowKit Go.Maps Go.Shelf Go.Proofs.Ythgbahlkflmgiaa.Lb
set_option linter.unusedVariables false
set_option linter.unusedSimpArgs false
attribute [local go_sem] Oper.semAt_some

/-- What holds of the index's blocks between two names. -/
structure IxC (B D l : Nat) (ro : Obj) (w0 : World) (pre : List ByteArray) (W : World) : Prop where
  ix : IxS Try.prog 9 3 B pre.length (ixF pre) W
  bo : W.heap[B + 1]? = some (.cells #[.map (some B)] 65 (0, 0))
  bn : W.heap[B + 2]? = some (.cells #[.int .i64 (pre.length : Int)] 3 (0, 0))
  df : W.heap[D]? = some (.deferred (some []))
  lp : W.heap[l]? = some ro
  hB : w0.heap.size = B
  hD : D = B + 3
  hl : l = D + 1
  kept : Kept Nil w0 W
theorem IxC.nil {B D l : Nat} {ro : Obj} {w0 W W' : World} {pre : List ByteArray} (h : IxC B D l ro w0 pre W) (hk : Kept Nil W W') : IxC B D l ro w0 pre W' :=
  ⟨h.ix.nil hk, hk.heap h.bo (fun h => h), hk.heap h.bn (fun h => h), hk.heap h.df (fun h => h), hk.heap h.lp (fun h => h), h.hB, h.hD, h.hl, h.kept.step hk⟩
theorem IxC.put {B D l : Nat} {ro ro' : Obj} {w0 W : World} {pre : List ByteArray} (h : IxC B D l ro w0 pre W) : IxC B D l ro' w0 pre (W.putObj l ro') := by
  have ho : ∀ k, k ≠ l → (W.putObj l ro').heap[k]? = W.heap[k]? := fun k hk => heap_put_other hk
  have h1 := h.hD
  have h2 := h.hl
  have h3 := h.hB
  exact ⟨h.ix.same (ho _ (by omega)), (ho _ (by omega)).trans h.bo, (ho _ (by omega)).trans h.bn, (ho _ (by omega)).trans h.df, heap_put h.lp, h.hB, h.hD, h.hl, h.kept.putObj (.inr (by omega)) _⟩
theorem IxC.step {B D l : Nat} {ro : Obj} {w0 W W5 : World} {pre : List ByteArray} {x : ByteArray} (h : IxC B D l ro w0 pre W) (hix : IxS Try.prog 9 3 B (pre.length + 1) (ixF (pre ++ [x])) W5) (hk : Kept (fun i => i = B) W W5) (ro' : Obj) :
    (W5.setCell ⟨B + 1 + 1, 0, none⟩ (.int .i64 ((pre.length : Int) + 1))).heap[l]? = some ro ∧ IxC B D l ro' w0 (pre ++ [x]) ((W5.setCell ⟨B + 1 + 1, 0, none⟩ (.int .i64 ((pre.length : Int) + 1))).putObj l ro') ∧
    W.heap.size ≤ ((W5.setCell ⟨B + 1 + 1, 0, none⟩ (.int .i64 ((pre.length : Int) + 1))).putObj l ro').heap.size ∧
    ∀ (b : Nat) (o : Obj), l + 1 ≤ b → W.heap[b]? = some o → ((W5.setCell ⟨B + 1 + 1, 0, none⟩ (.int .i64 ((pre.length : Int) + 1))).putObj l ro').heap[b]? = some o := by
  have h1 := h.hD
  have h2 := h.hl
  have h3 := h.hB
  obtain ⟨Ws, hWs⟩ : ∃ Ws, W5.setCell ⟨B + 1 + 1, 0, none⟩ (.int .i64 ((pre.length : Int) + 1)) = Ws := ⟨_, rfl⟩
  have ho : ∀ k, k ≠ B + 2 → Ws.heap[k]? = W5.heap[k]? := fun k hk => by rw [← hWs]; exact heap_set_other (p := ⟨B + 1 + 1, 0, none⟩) hk _
  have hlp : Ws.heap[l]? = some ro := (ho l (by omega)).trans (hk.heap h.lp (by omega))
  have hp : ∀ k, k ≠ l → (Ws.putObj l ro').heap[k]? = Ws.heap[k]? := fun k hk => heap_put_other hk
  have hsz : W5.heap.size ≤ (Ws.putObj l ro').heap.size := by rw [← hWs]; simp [World.putObj, World.setCell]
  have hkp : Kept Nil w0 (Ws.putObj l ro') := by
    rw [← hWs]
    have hk0 : Kept Nil w0 W5 := h.kept.trans hk (fun i hi => .inr (by omega))
    exact (hk0.setCell (p := ⟨B + 1 + 1, 0, none⟩) (.inr (by simp only; omega)) _).putObj (.inr (by omega)) _
  rw [hWs]
  refine ⟨hlp, ⟨?_, ?_, ?_, ?_, heap_put hlp, h3, h1, h2, hkp⟩, Nat.le_trans hk.size hsz, fun b o hb ho' => ?_⟩
  · have := hix.same (W' := Ws.putObj l ro') ((hp B (by omega)).trans (ho B (by omega)))
    simpa using this
  · exact (hp _ (by omega)).trans ((ho _ (by omega)).trans (hk.heap h.bo (by omega)))
  · rw [hp _ (by omega), ← hWs]
    have h9 := heap_set (hk.heap h.bn (by omega)) 0 (.int .i64 ((pre.length : Int) + 1))
    rw [show B + 1 + 1 = B + 2 from rfl, h9]
    simp
  · exact (hp _ (by omega)).trans ((ho _ (by omega)).trans (hk.heap h.df (by omega)))
  · rw [hp _ (by omega), ho _ (by omega)]
    exact hk.heap ho' (by omega)
set_option maxRecDepth 4000 in
set_option maxHeartbeats 8000000 in
theorem index_is (m : Md) (Bx : Nat) (w : World) (hb1 : w.cell? ⟨Bx, 1, none⟩ = some (.slice m.pa m.ps.length m.pc)) (hb2 : w.cell? ⟨Bx, 2, none⟩ = some (.slice m.la m.ls.length m.lc)) (hm : RModel w m) (hsz : ∀ s ∈ mdNames m, s.size ≤ maxLen) (hnl : m.ps.length ≤ 100000) (hll : m.ls.length ≤ 100000) (hvl : ∀ p ∈ m.ps, p.vs.length ≤ 100000) (hmx : (mdNames m).length ≤ 1000000000) :
    Calls Try.prog 31 #[.func (.func 52) #[] #[.pointer (some ⟨Bx, 0, none⟩)]] w fun e w' => e = .returned (.map (some w.heap.size)) ∧ IxS Try.prog 9 3 w.heap.size (mdNames m).length (ixF (mdNames m)) w' ∧ Kept Nil w w' := by
  have HM := Lib.hid hm
  have HS := Lib.hid hsz
  have HVL := Lib.hid hvl
  have HB1 := Lib.hid hb1
  have HB2 := Lib.hid hb2
  have hBx : Bx < w.heap.size := World.block_lt_of_cell? _ _ hb1
  clear hm hsz hvl hb1 hb2
  obtain ⟨nn, hnn⟩ : ∃ nn : Nat, nn = nn := ⟨0, rfl⟩
  refine (callsIn_wide (n := nn)).1 ?_
  clear hnn
  refine callsIn_of_wp_marks Try.func31 rfl trivial ?_ rfl
  simp only [Try.ntmps31, List.size_toArray, List.length_cons, List.length_nil, Nat.reduceAdd, Nat.reduceSub, Array.replicate_succ, Array.replicate_zero, List.push_toArray, List.append_toArray, List.nil_append, List.cons_append]
  have hmm := @run_makeMap Try.prog
  gi_wp2_with fail
  obtain ⟨W1, hW1⟩ : ∃ W1, ((w.alloc (.map #[] 0)).alloc (.cells #[.map (some w.heap.size)] 65)).alloc (.cells #[.int .i64 0] 3) = W1 := ⟨_, rfl⟩
  rw [hW1]
  have hs1 : W1.heap.size = w.heap.size + 3 := by rw [← hW1]; simp
  have hk1 : Kept Nil w W1 := by rw [← hW1]; exact (((Kept.refl Nil w).alloc _).alloc _).alloc _
  have h0 : IxS Try.prog 9 3 w.heap.size 0 (ixF []) W1 := by
    rw [← hW1]
    exact ((IxS.made w _ _ _).congr (fun t => rfl)).nil (((Kept.refl Nil _).alloc _).alloc _)
  have h1 : W1.heap[w.heap.size + 1]? = some (.cells #[.map (some w.heap.size)] 65 (0, 0)) := by
    rw [← hW1, heap_old _ _ (by simp only [World.size_alloc]; omega)]
    have h9 := heap_new (w.alloc (.map #[] 0)) (.cells #[.map (some w.heap.size)] 65)
    rw [World.size_alloc] at h9
    exact h9
  have h2 : W1.heap[w.heap.size + 2]? = some (.cells #[.int .i64 0] 3 (0, 0)) := by
    rw [← hW1]
    have h9 := heap_new ((w.alloc (.map #[] 0)).alloc (.cells #[.map (some w.heap.size)] 65)) (.cells #[.int .i64 0] 3)
    simp only [World.size_alloc] at h9
    exact h9
  have H0 := Lib.hid h0
  have H1 := Lib.hid h1
  have H2 := Lib.hid h2
  have HK1 := Lib.hid hk1
  have HS1 := Lib.hid hs1
  clear hW1 h0 h1 h2 hk1 hmm hs1
  refine range_stmt' rfl (fun h => by cases h) (gf := 52) (lb := #[.pointer (some ⟨Bx, 0, none⟩)]) rfl trivial (enters_of Try.func52 (by kernel_rfl) rfl) ?_
  intro fn ro _ hro
  have HRO := Lib.hid hro
  clear hro
  refine (NamesIt_in (nn - 1) (W1.heap.size + 1) Bx (W1.heap.size + 2) m
    (fun pre W => IxC w.heap.size W1.heap.size (W1.heap.size + 1) (.loop (ro .ready none)) w pre W) (fun _ _ => False)
    ?_ ?_ ?_ hnl hll HVL.out _ (by simp) ?_).mono ?_
  case refine_1 => exact fun pre W h => ⟨HM.out.nil h.kept, h.kept.cell HB1.out (fun h => h), h.kept.cell HB2.out (fun h => h)⟩
  case refine_2 => exact fun pre W W' h hk => h.nil hk
  case refine_4 =>
    have hk2 : Kept Nil W1 ((W1.alloc (.deferred (some []))).alloc (.loop (ro .ready none))) := ((Kept.refl Nil W1).alloc _).alloc _
    refine ⟨H0.out.nil hk2, hk2.heap H1.out (fun h => h), hk2.heap H2.out (fun h => h), ?_, ?_, rfl, HS1.out, rfl, HK1.out.step hk2⟩
    · exact (heap_old (W1.alloc (.deferred (some []))) (.loop (ro .ready none)) (k := W1.heap.size) (by simp)).trans (heap_new W1 _)
    · have := heap_new (W1.alloc (.deferred (some []))) (.loop (ro .ready none))
      rw [World.size_alloc] at this
      exact this
  case refine_3 =>
    intro pre x W hpre hC
    have HC := Lib.hid hC
    have HPRE := Lib.hid hpre
    have hlen : pre.length + 1 ≤ 1000000000 := by
      have h9 := hpre.length_le
      rw [List.length_append] at h9
      simp only [List.length_cons, List.length_nil] at h9
      omega
    have hx : x.size ≤ maxLen := HS.out x (hpre.subset (by simp))
    have HX := Lib.hid hx
    have HWF := Lib.hid (show (Lit.int .i64 (pre.length : Int)).wf = true by simp only [Lit.wf, Bool.and_eq_true, decide_eq_true_eq]; exact ⟨by first | (simp [IntKind.min, IntKind.bits, IntKind.signed]; done) | (simp [IntKind.min, IntKind.bits, IntKind.signed]; omega), by first | (simp [IntKind.max, IntKind.bits, IntKind.signed]; done) | (simp [IntKind.max, IntKind.bits, IntKind.signed]; omega)⟩)
    refine yield_round' HRO.out trivial hC.lp rfl ?_
    clear hC hpre hx
    simp only [List.zip_toArray, List.zip_cons_cons, List.zip_nil_left, List.zip_nil_right, List.foldl_toArray, List.foldl_cons, List.foldl_nil, List.setIfInBounds_toArray, List.set_cons_succ, List.set_cons_zero, List.size_toArray, List.length_cons, List.length_nil]
    gi_wp2_with fail
    refine ⟨HC.out.lp, ?_⟩
    have hCb := HC.out.put (ro' := .loop (ro .busy none))
    obtain ⟨Wb, hWb⟩ : ∃ Wb, W.putObj (W1.heap.size + 1) (.loop (ro .busy none)) = Wb := ⟨_, rfl⟩
    rw [hWb] at hCb ⊢
    have HCB := Lib.hid hCb
    have cb : Wb.cell? ⟨w.heap.size + 1, 0, none⟩ = some (.map (some w.heap.size)) := by rw [cell_of hCb.bo]; rfl
    have cn : Wb.cell? ⟨w.heap.size + 1 + 1, 0, none⟩ = some (.int .i64 (pre.length : Int)) := by rw [show w.heap.size + 1 + 1 = w.heap.size + 2 from rfl, cell_of hCb.bn]; rfl
    have fn0 : Wb.frozen? ⟨w.heap.size + 1 + 1, 0, none⟩ = false := frozen_of hCb.bn 0
    have hBs : w.heap.size < Wb.heap.size := by have := (Array.getElem?_eq_some_iff.1 hCb.bo).1; omega
    have hwb : ∀ b, b ≠ W1.heap.size + 1 → Wb.heap[b]? = W.heap[b]? := fun b hb => by rw [← hWb]; exact heap_put_other hb
    have hws : Wb.heap.size = W.heap.size := by rw [← hWb]; simp [World.putObj]
    have HWB := Lib.hid hwb
    have HWS := Lib.hid hws
    clear hWb hCb hwb hws
    rcases hix : ixF pre x.data.toList with _ | nx
    · have hlook : (Instr.lookup 65 (.map (some w.heap.size)) (.string x) true).run Try.prog Wb = .ok (.tuple #[.int .i64 0, .bool false]) Wb := by
        rw [HCB.out.ix.lookOk Try.underlying9 Try.underlying3 Try.underlying65 (fun w => by kernel_rfl) x HX.out, hix]; rfl
      have HIX := Lib.hid hix
      clear hix
      obtain ⟨D, hD, hE⟩ := HCB.out.ix.own
      have HD := Lib.hid hD
      have HE := Lib.hid hE
      clear hD hE
      gi_wp2_with (gi_at_mapUpdate; refine wpListIn_mapUpdate_own _ rfl _ _ _ 65 rfl 9 3 (string_keyed Try.underlying9) Try.underlying65 _ w.heap.size pre.length D rfl HD.out (by unfold maxLen; omega) _ _ _ rfl rfl (show keyOf Try.prog 9 (.string x) = some (.string x.data.toList) by simp [keyOf, Try.underlying9, mapKey, HX.out]) _ [] (plainElem_int Try.underlying3 HWF.out) ?_; intro w5 hown5 hgrow5; have q2 : w5.heap[w.heap.size + 2]? = some (.cells #[.int .i64 (pre.length : Int)] 3 (0, 0)) := (hgrow5.block _ (Array.getElem?_eq_some_iff.1 HCB.out.bn).1 (fun e => by have := Option.some.inj e; omega)).trans HCB.out.bn; have cn5 : w5.cell? ⟨w.heap.size + 1 + 1, 0, none⟩ = some (.int .i64 (pre.length : Int)) := (by rw [show w.heap.size + 1 + 1 = w.heap.size + 2 from rfl, cell_of q2]; rfl); have fn5 : w5.frozen? ⟨w.heap.size + 1 + 1, 0, none⟩ = false := frozen_of q2 0; have HO5 := Lib.hid hown5; have HG5 := Lib.hid hgrow5; have HQ2 := Lib.hid q2; clear hown5 hgrow5 q2)
      have hix2 : IxS Try.prog 9 3 w.heap.size (pre.length + 1) (ixF (pre ++ [x])) w5 :=
        (IxS.put HD.out.isMap HE.out _ _ HO5.out).congr (fun t => by rw [ixF_snoc, show ky x = x.data.toList from rfl, HIX.out]; simp)
      obtain ⟨r1, r2, r3, r4⟩ := HCB.out.step hix2 (Kept.grown (Kept.refl (fun i => i = w.heap.size) Wb) HG5.out (fun j e => .inl (by cases e; rfl))) (.loop (ro .ready none))
      exact ⟨r1, rfl, r2, by rw [← HWS.out]; exact r3, fun b cs hb hcs => r4 b _ hb ((HWB.out b (by omega)).trans hcs)⟩
    · have hlook : (Instr.lookup 65 (.map (some w.heap.size)) (.string x) true).run Try.prog Wb = .ok (.tuple #[.int .i64 nx, .bool true]) Wb := by
        rw [HCB.out.ix.lookOk Try.underlying9 Try.underlying3 Try.underlying65 (fun w => by kernel_rfl) x HX.out, hix]; rfl
      have HIX := Lib.hid hix
      clear hix
      gi_wp2
      have hix2 : IxS Try.prog 9 3 w.heap.size (pre.length + 1) (ixF (pre ++ [x])) Wb :=
        (HCB.out.ix.weak (Nat.le_succ _)).congr (fun t => by rw [ixF_snoc, show ky x = x.data.toList from rfl, HIX.out]; simp)
      obtain ⟨r1, r2, r3, r4⟩ := HCB.out.step hix2 (Kept.refl _ Wb) (.loop (ro .ready none))
      exact ⟨r1, rfl, r2, by rw [← HWS.out]; exact r3, fun b cs hb hcs => r4 b _ hb ((HWB.out b (by omega)).trans hcs)⟩
  rintro e W' ⟨⟨u, rfl⟩, hC | ⟨pre, hpre, hf⟩⟩
  · have HC := Lib.hid hC
    clear hC
    refine ⟨⟨u, rfl⟩, .inl ⟨HC.out.lp, ?_⟩⟩
    have hC2 := HC.out.put (ro' := .loop (ro .exhausted none))
    obtain ⟨W6, hW6⟩ : ∃ W6, W'.putObj (W1.heap.size + 1) (.loop (ro .exhausted none)) = W6 := ⟨_, rfl⟩
    rw [hW6] at hC2 ⊢
    have cb : W6.cell? ⟨w.heap.size + 1, 0, none⟩ = some (.map (some w.heap.size)) := by rw [cell_of hC2.bo]; rfl
    have HC2 := Lib.hid hC2
    clear hW6 hC2
    gi_wp2
    refine ⟨by simp, .inl ⟨_, _, rfl, run_takeDeferred HC2.out.df, ?_⟩⟩
    refine ⟨.map (some w.heap.size), by simp [results, Try.results31, go_sem], rfl, ?_, ?_⟩
    · exact HC2.out.ix.same (heap_put_other (by have := HC2.out.hD; omega))
    · exact HC2.out.kept.putObj (.inr (by have := HC2.out.hD; omega)) _
  · exact hf.elim
end Go.Proofs.Ythgbahlkflmgiaa.Mo
