/- The walk of sandtablelaw20.ways. -/
import Derived.Test.YthgbahlkflmgiaaWayIt
import Derived.Test.YthgbahlkflmgiaaColl
import Derived.Shelf.Abstract
namespace Go.Proofs.Ythgbahlkflmgiaa
open Go Go.RowKit Go.Maps Go.Shelf Go.Proofs.Ythgbahlkflmgiaa.Lb
set_option linter.unusedVariables false
set_option linter.unusedVariables false
set_option linter.unusedSimpArgs false
set_option maxRecDepth 8000
attribute [local go_sem] Oper.semAt_some
/-- Stores aside of what a collecting body holds. -/
theorem Lb.Coll.aside {B D l sz : Nat} {E T : TypeId} {L : List (Nat × TypeId × Value)} {O : Nat → Prop} {w0 : World} {ro : Obj} {k : Nat} {cs : List Value} {vo : Value} {W W' : World} (h : Coll B D l sz E T L O w0 ro k cs vo W)
    {S : Nat → Prop} (hk : Kept S W W') (hS : ∀ i, S i → w0.heap.size ≤ i ∧ i ≠ B ∧ i ≠ D ∧ i ≠ l ∧ (∀ q ∈ L, i ≠ q.1) ∧ vo.ownBlock ≠ some i) : Coll B D l sz E T L O w0 ro k cs vo W' :=
  { hB := h.hB, hD := h.hD, hl := h.hl, hO := h.hO, hL := h.hL, bx := fun q hq => hk.heap (h.bx q hq) (fun hs => (hS _ hs).2.2.2.2.1 q hq rfl), box := hk.heap h.box (fun hs => (hS _ hs).2.1 rfl), row := hk.own h.row (fun j hj hs => (hS _ hs).2.2.2.2.2 hj), lp := hk.heap h.lp (fun hs => (hS _ hs).2.2.2.1 rfl), roc := h.roc,
    dfr := hk.heap h.dfr (fun hs => (hS _ hs).2.2.1 rfl), dl := h.dl, kept := h.kept.trans hk (fun i hi => .inr (hS i hi).1) }
namespace Mo
def mdCells (m : Md) : List Value := [.int .i64 m.version, .slice m.pa m.ps.length m.pc, .slice m.la m.ls.length m.lc, .slice m.ea m.es.length m.ec]
theorem mdCells_len (m : Md) : (mdCells m).length = 4 := rfl
theorem infoMd : (Try.prog.info? 26).map (fun i => (i.zero, i.size, i.bytes)) = some (some (.agg #[.int .i64 0, .slice none 0 0, .slice none 0 0, .slice none 0 0]), 4, 80) := by kernel_rfl
/-- The blocks that the body writes. -/
def OwC (B l : Nat) (W : World) (i : Nat) : Prop := i = B ∨ i = l ∨ ∃ v, W.cell? ⟨B, 0, none⟩ = some v ∧ v.ownBlock = some i
theorem OwC.lt {B D l sz : Nat} {E T : TypeId} {L : List (Nat × TypeId × Value)} {O : Nat → Prop} {w0 : World} {ro : Obj} {k : Nat} {cs : List Value} {vo : Value} {W : World} (h : Coll B D l sz E T L O w0 ro k cs vo W) {i : Nat} (hi : OwC B l W i) : i < W.heap.size := by
  rcases hi with rfl | rfl | ⟨v, h1, h2⟩
  · exact (Array.getElem?_eq_some_iff.1 (show W.heap[i]? = _ from h.box)).1
  · exact (Array.getElem?_eq_some_iff.1 h.lp).1
  · have h3 := h.box.cell
    rw [h3] at h1
    cases h1
    exact (h.row.lt i h2).2
theorem OwC.same {B D l sz : Nat} {E T : TypeId} {L : List (Nat × TypeId × Value)} {O : Nat → Prop} {w0 : World} {ro ro' : Obj} {k k' : Nat} {cs cs' : List Value} {vo : Value} {W W' : World} (h : Coll B D l sz E T L O w0 ro k cs vo W) (h' : Coll B D l sz E T L O w0 ro' k' cs' vo W') {i : Nat} (hi : OwC B l W' i) : OwC B l W i := by
  rcases hi with rfl | rfl | ⟨v, h1, h2⟩
  · exact .inl rfl
  · exact .inr (.inl rfl)
  · rw [h'.box.cell] at h1
    cases h1
    exact .inr (.inr ⟨_, h.box.cell, h2⟩)
theorem OutM.mono {K K' : Nat → Prop} {m : Md} (h : OutM K m) (hk : ∀ i, K' i → K i) : OutM K' m :=
  ⟨fun g off hn e k => h.p g off hn e (hk _ k), fun q hq => ⟨fun g off hn e k => (h.pp q hq).v g off hn e (hk _ k), fun g off hn e k => (h.pp q hq).s g off hn e (hk _ k)⟩, fun g off hn e k => h.l g off hn e (hk _ k), fun g off hn e k => h.e g off hn e (hk _ k)⟩
theorem OutM.or {K K' : Nat → Prop} {m : Md} (h : OutM K m) (h' : OutM K' m) : OutM (fun i => K i ∨ K' i) m :=
  ⟨fun g off hn e k => k.elim (h.p g off hn e) (h'.p g off hn e), fun q hq => ⟨fun g off hn e k => k.elim ((h.pp q hq).v g off hn e) ((h'.pp q hq).v g off hn e), fun g off hn e k => k.elim ((h.pp q hq).s g off hn e) ((h'.pp q hq).s g off hn e)⟩, fun g off hn e k => k.elim (h.l g off hn e) (h'.l g off hn e), fun g off hn e k => k.elim (h.e g off hn e) (h'.e g off hn e)⟩
theorem HeldM.out {w w' : World} {m : Md} {K : Nat → Prop} (h : HeldM w m) (hf : OutM K m) (hk : Kept K w w') : HeldM w' m := ⟨h.r.out hf hk, h.o, h.s⟩
theorem FreshM.out {b : Nat} {m : Md} (h : FreshM b m) : OutM (fun i => i < b) m :=
  ⟨fun g off hn e k => by have := h.p g off hn e; omega, fun q hq => ⟨fun g off hn e k => by have := (h.pp q hq).v g off hn e; omega, fun g off hn e k => by have := (h.pp q hq).s g off hn e; omega⟩, fun g off hn e k => by have := h.l g off hn e; omega, fun g off hn e k => by have := h.e g off hn e; omega⟩
structure WayC (most : Int) (w w2 : World) (ro : Obj) (pre : List Md) (W : World) : Prop where
  n : (pre.length : Int) < most
  c : ∃ vo, Coll (w.heap.size + 1 + 1 + 1 + 1) w2.heap.size (w2.heap.size + 1) 4 26 38 [(w.heap.size + 1 + 1, 38, .slice none 0 0), (w.heap.size + 1, 3, .int .i64 most)] Nil w ro pre.length (pre.flatMap mdCells) vo W ∧ ∀ x ∈ pre, HeldM W x ∧ OutM (OwC (w.heap.size + 1 + 1 + 1 + 1) (w2.heap.size + 1) W) x ∧ FreshM (w2.heap.size + 2) x
structure WayJ (most : Int) (w w2 : World) (ro : Obj) (pre : List Md) (W : World) : Prop where
  n : (pre.length : Int) = most
  c : ∃ vo, Coll (w.heap.size + 1 + 1 + 1 + 1) w2.heap.size (w2.heap.size + 1) 4 26 38 [(w.heap.size + 1 + 1, 38, vo), (w.heap.size + 1, 3, .int .i64 most)] Nil w ro pre.length (pre.flatMap mdCells) vo W ∧ ∀ x ∈ pre, HeldM W x ∧ FreshM (w2.heap.size + 2) x
structure WaysEnd (m : Md) (most : Int) (w : World) (e : Ending) (w' : World) : Prop where
  k : Kept Nil w w'
  ok : ∃ (ws : List Md) (v : Value), e = .returned v ∧ w'.ownsRow w.heap.size 26 4 v ws.length (ws.flatMap mdCells) ∧ SameMs ((waysL m).take most.toNat) ws ∧ (∀ x ∈ ws, HeldM w' x ∧ FreshM w.heap.size x) ∧ ws.length ≤ 3
set_option maxHeartbeats 16000000 in
theorem ways_is (v0 : Int) (ps0 : List Pr) (ls0 : List Lk) (es0 : List Ev) (pa0 la0 ea0 : Option Addr) (pc0 lc0 ec0 : Nat) (most : Int) (w : World) (hm : HeldM w ⟨v0, pa0, ps0, pc0, la0, ls0, lc0, ea0, es0, ec0⟩) :
    Calls Try.prog 15 #[.agg #[.int .i64 v0, .slice pa0 ps0.length pc0, .slice la0 ls0.length lc0, .slice ea0 es0.length ec0], .int .i64 most] w fun e w' => WaysEnd ⟨v0, pa0, ps0, pc0, la0, ls0, lc0, ea0, es0, ec0⟩ most w e w' := by
  have HM := Lib.hid hm
  clear hm
  obtain ⟨nn, hnn⟩ : ∃ nn : Nat, nn = nn := ⟨0, rfl⟩
  refine (callsIn_wide (n := nn)).1 ?_
  clear hnn
  refine callsIn_of_wp_marks Try.func15 rfl trivial ?_ rfl
  simp only [Try.ntmps15, List.size_toArray, List.length_cons, List.length_nil, Nat.reduceAdd, Nat.reduceSub, Array.replicate_succ, Array.replicate_zero, List.push_toArray, List.append_toArray, List.nil_append, List.cons_append]
  obtain ⟨j0, hjnf, hy0, hy1, hy2⟩ := info_parts infoMd
  by_cases hm : most ≤ 0
  · gi_wp2
    refine ⟨.slice (some ⟨w.heap.size + 1 + 1 + 1, 0, none⟩) 0 0, by simp [results, Try.results15, go_sem], ?_⟩
    have e0 : most.toNat = 0 := by omega
    refine ⟨(((((Kept.refl Nil w).alloc _).alloc _).alloc _).alloc _).alloc _, [], _, rfl, ?_, by rw [e0]; exact SameMs.refl _, fun x hx => by simp at hx, by simp⟩
    have := World.ownsRow_lit (base := w.heap.size) (e := 26) (size := 4) (((w.alloc (Obj.cells #[.int .i64 v0, .slice pa0 ps0.length pc0, .slice la0 ls0.length lc0, .slice ea0 es0.length ec0] 26)).alloc (Obj.cells #[Value.int IntKind.i64 most] 3)).alloc (Obj.cells #[Value.slice (some { block := w.heap.size + 1 + 1 + 1, off := 0 }) 0 0] 38)) #[] 0 (by simp; omega) (by decide) rfl
    simp only [World.size_alloc] at this
    exact this.alloc _
  · gi_wp2_with fail
    obtain ⟨W1, hW1⟩ : ∃ W1, (((((w.alloc (Obj.cells #[.int .i64 v0, .slice pa0 ps0.length pc0, .slice la0 ls0.length lc0, .slice ea0 es0.length ec0] 26)).alloc (Obj.cells #[Value.int IntKind.i64 most] 3)).alloc (Obj.cells #[Value.slice none 0 0] 38)).alloc (Obj.cells #[] 26)).alloc (Obj.cells #[Value.slice (some { block := w.heap.size + 1 + 1 + 1, off := 0 }) 0 0] 38)) = W1 := ⟨_, rfl⟩
    have hs1 : W1.heap.size = w.heap.size + 5 := by rw [← hW1]; simp
    have hk1 : Kept Nil w W1 := by rw [← hW1]; exact (((((Kept.refl Nil w).alloc _).alloc _).alloc _).alloc _).alloc _
    have hbM : Boxed W1 (w.heap.size + 1) 3 (.int .i64 most) := by rw [← hW1]; have := Boxed.new (w.alloc (Obj.cells #[.int .i64 v0, .slice pa0 ps0.length pc0, .slice la0 ls0.length lc0, .slice ea0 es0.length ec0] 26)) 3 (.int .i64 most); simp only [World.size_alloc] at this; exact ((this.alloc _).alloc _).alloc _
    have hbR : Boxed W1 (w.heap.size + 1 + 1) 38 (.slice none 0 0) := by rw [← hW1]; have := Boxed.new ((w.alloc (Obj.cells #[.int .i64 v0, .slice pa0 ps0.length pc0, .slice la0 ls0.length lc0, .slice ea0 es0.length ec0] 26)).alloc (Obj.cells #[Value.int IntKind.i64 most] 3)) 38 (.slice none 0 0); simp only [World.size_alloc] at this; exact (this.alloc _).alloc _
    have hbO : Boxed W1 (w.heap.size + 1 + 1 + 1 + 1) 38 (.slice (some ⟨w.heap.size + 1 + 1 + 1, 0, none⟩) 0 0) := by rw [← hW1]; have := Boxed.new ((((w.alloc (Obj.cells #[.int .i64 v0, .slice pa0 ps0.length pc0, .slice la0 ls0.length lc0, .slice ea0 es0.length ec0] 26)).alloc (Obj.cells #[Value.int IntKind.i64 most] 3)).alloc (Obj.cells #[Value.slice none 0 0] 38)).alloc (Obj.cells #[] 26)) 38 (.slice (some ⟨w.heap.size + 1 + 1 + 1, 0, none⟩) 0 0); simpa only [World.size_alloc] using this
    have hrow : W1.ownsRow w.heap.size 26 4 (.slice (some ⟨w.heap.size + 1 + 1 + 1, 0, none⟩) 0 0) 0 [] := by
      rw [← hW1]
      have := World.ownsRow_lit (base := w.heap.size) (e := 26) (size := 4) (((w.alloc (Obj.cells #[.int .i64 v0, .slice pa0 ps0.length pc0, .slice la0 ls0.length lc0, .slice ea0 es0.length ec0] 26)).alloc (Obj.cells #[Value.int IntKind.i64 most] 3)).alloc (Obj.cells #[Value.slice none 0 0] 38)) #[] 0 (by simp; omega) (by decide) rfl
      simp only [World.size_alloc] at this
      exact this.alloc _
    rw [hW1]
    have hwr := Ways_is ⟨v0, pa0, ps0, pc0, la0, ls0, lc0, ea0, es0, ec0⟩ W1
    simp only at hwr
    clear hW1
    refine at_wide (hwr.mono ?_)
    clear hwr
    rintro e w2 ⟨rfl, hw2⟩
    obtain ⟨Bx, hBx⟩ : ∃ Bx, W1.heap.size = Bx := ⟨_, rfl⟩
    have hk2 : Kept Nil W1 w2 := by rw [hw2]; exact (Kept.refl Nil W1).alloc _
    have hmb : w2.heap[Bx]? = some (.cells #[.int .i64 v0, .slice pa0 ps0.length pc0, .slice la0 ls0.length lc0, .slice ea0 es0.length ec0] 26 (0, 0)) := by rw [hw2, ← hBx]; exact heap_new _ _
    have hs2 : Bx < w2.heap.size := by rw [hw2, ← hBx]; simp
    have hs3 : w.heap.size + 5 ≤ Bx := by omega
    rw [hBx]
    clear hw2 hs1
    replace hbM : Boxed w2 (w.heap.size + 1) 3 (.int .i64 most) := hk2.heap hbM (fun h => h)
    replace hbR : Boxed w2 (w.heap.size + 1 + 1) 38 (.slice none 0 0) := hk2.heap hbR (fun h => h)
    replace hbO : Boxed w2 (w.heap.size + 1 + 1 + 1 + 1) 38 (.slice (some ⟨w.heap.size + 1 + 1 + 1, 0, none⟩) 0 0) := hk2.heap hbO (fun h => h)
    replace hrow := hk2.own hrow (fun _ _ h => h)
    have hk02 : Kept Nil w w2 := hk1.step hk2
    clear hk1 hk2 hBx
    have HMB := Lib.hid hmb
    clear hmb
    gi_wp2_with fail
    refine range_stmt' rfl (fun h => by cases h) (gf := 46) (lb := #[.pointer (some ⟨Bx, 0, none⟩)]) rfl trivial (enters_of Try.func46 (by kernel_rfl) rfl) ?_
    intro fn ro _ hro
    have HRO := Lib.hid hro
    clear hro
    have hkx := ((Kept.refl Nil w2).alloc (.deferred (some []))).alloc (.loop (ro .ready none))
    refine (WaysIt_in (nn - 1) (w2.heap.size + 1) Bx (w2.heap.size + 2) v0 ps0 ls0 es0 pa0 la0 ea0 pc0 lc0 ec0
      (WayC most w w2 (.loop (ro .ready none)))
      (OwC (w.heap.size + 1 + 1 + 1 + 1) (w2.heap.size + 1))
      (WayJ most w w2 (.loop (ro .done (some .ret))))
      ?_ ?_ ?_ ?_ ?_ _ (by simp) (HM.out.nil (hk02.step hkx)) (hkx.heap HMB.out (fun h => h)) ?_).mono ?_
    case refine_1 => exact fun pre W i ⟨_, vo, hC, _⟩ hi => OwC.lt hC hi
    case refine_2 => exact fun pre W W' ⟨h1, vo, h2, h3⟩ hk => ⟨⟨h1, vo, h2.nil hk, fun x hx => ⟨(h3 x hx).1.nil hk, (h3 x hx).2.1.mono (fun i hi => OwC.same h2 (h2.nil hk) hi), (h3 x hx).2.2⟩⟩, fun i hi => OwC.same h2 (h2.nil hk) hi⟩
    case refine_3 =>
      rintro pre W W' a b ⟨h1, vo, h2, h3⟩ hk ha hb hna hnb hx
      have hown : ∀ i, vo.ownBlock = some i → OwC (w.heap.size + 1 + 1 + 1 + 1) (w2.heap.size + 1) W i := fun i hi => .inr (.inr ⟨_, h2.box.cell, hi⟩)
      have h2' := h2.aside hk (by
        rintro i (rfl | rfl)
        · exact ⟨by omega, by omega, by omega, by omega, fun q hq => by (simp only [List.mem_cons, List.not_mem_nil, or_false] at hq; rcases hq with rfl | rfl <;> simp <;> omega), fun h => hna (hown _ h)⟩
        · exact ⟨by omega, by omega, by omega, by omega, fun q hq => by (simp only [List.mem_cons, List.not_mem_nil, or_false] at hq; rcases hq with rfl | rfl <;> simp <;> omega), fun h => hnb (hown _ h)⟩)
      exact ⟨⟨h1, vo, h2', fun x hx' => ⟨(h3 x hx').1.out (hx x hx') hk, (h3 x hx').2.1.mono (fun i hi => OwC.same h2 h2' hi), (h3 x hx').2.2⟩⟩, fun i hi => OwC.same h2 h2' hi⟩
    case refine_4 => exact fun pre W x ⟨_, vo, _, h3⟩ hx => (h3 x hx).1.r
    case refine_6 =>
      refine ⟨by simp; omega, .slice (some ⟨w.heap.size + 1 + 1 + 1, 0, none⟩) 0 0, ?_, fun x hx => by simp at hx⟩
      refine { hB := by omega, hD := by omega, hl := by omega, hO := fun _ h => h.elim, hL := ?_, bx := ?_, box := (hbO.alloc _).alloc _, row := (hrow.alloc _).alloc _, lp := ?_, roc := rfl, dfr := ?_, dl := by omega, kept := (hk02.alloc _).alloc _ }
      · intro q hq
        simp only [List.mem_cons, List.not_mem_nil, or_false] at hq
        rcases hq with rfl | rfl <;> refine ⟨?_, ?_, ?_⟩ <;> simp <;> omega
      · intro q hq
        simp only [List.mem_cons, List.not_mem_nil, or_false] at hq
        rcases hq with rfl | rfl
        · exact (hbR.alloc _).alloc _
        · exact (hbM.alloc _).alloc _
      · have := heap_new (w2.alloc (.deferred (some []))) (.loop (ro .ready none))
        rw [World.size_alloc] at this
        exact this
      · exact (heap_old _ _ (by simp)).trans (heap_new w2 _)
    case refine_5 =>
      rintro pre x W hpre ⟨hltm, vo, hC, hP⟩ hxh hxo hxf
      have HC := Lib.hid hC
      have HP := Lib.hid hP
      have HXH := Lib.hid hxh
      have HXO := Lib.hid hxo
      have HXF := Lib.hid hxf
      refine yield_round' HRO.out trivial hC.lp rfl ?_
      clear hC hP hxh hxo hxf
      simp only [List.zip_toArray, List.zip_cons_cons, List.zip_nil_left, List.zip_nil_right, List.foldl_toArray, List.foldl_cons, List.foldl_nil, List.setIfInBounds_toArray, List.set_cons_succ, List.set_cons_zero, List.size_toArray, List.length_cons, List.length_nil]
      gi_wp2_with fail
      have hka : Kept Nil W (W.alloc (.cells #[.int .i64 x.version, .slice x.pa x.ps.length x.pc, .slice x.la x.ls.length x.lc, .slice x.ea x.es.length x.ec] 26)) := ((Kept.refl Nil W).alloc _)
      have hCa := HC.out.nil hka
      refine ⟨hCa.lp, ?_⟩
      have hCb := hCa.put (ro' := .loop (ro .busy none)) rfl
      have hkb : Kept (fun i => i = w2.heap.size + 1) (W.alloc (.cells #[.int .i64 x.version, .slice x.pa x.ps.length x.pc, .slice x.la x.ls.length x.lc, .slice x.ea x.es.length x.ec] 26)) ((W.alloc (.cells #[.int .i64 x.version, .slice x.pa x.ps.length x.pc, .slice x.la x.ls.length x.lc, .slice x.ea x.es.length x.ec] 26)).putObj (w2.heap.size + 1) (.loop (ro .busy none))) := Kept.putObj (S := fun i => i = w2.heap.size + 1) (k := w2.heap.size + 1) (Kept.refl _ _) (.inl rfl) _
      obtain ⟨Wb, hWb⟩ : ∃ Wb, (W.alloc (.cells #[.int .i64 x.version, .slice x.pa x.ps.length x.pc, .slice x.la x.ls.length x.lc, .slice x.ea x.es.length x.ec] 26)).putObj (w2.heap.size + 1) (.loop (ro .busy none)) = Wb := ⟨_, rfl⟩
      rw [hWb] at hCb hkb ⊢
      have hlW : w2.heap.size + 1 < W.heap.size := (Array.getElem?_eq_some_iff.1 HC.out.lp).1
      have hxb : Wb.heap[W.heap.size]? = some (.cells #[.int .i64 x.version, .slice x.pa x.ps.length x.pc, .slice x.la x.ls.length x.lc, .slice x.ea x.es.length x.ec] 26 (0, 0)) := hkb.heap (heap_new W _) (by omega)
      have hszb : W.heap.size < Wb.heap.size := (Array.getElem?_eq_some_iff.1 hxb).1
      have hx0 : Wb.cell? ⟨W.heap.size, 0, none⟩ = some (.int .i64 x.version) := by rw [cell_of hxb]; rfl
      have hx1 : Wb.cell? ⟨W.heap.size, 1, none⟩ = some (.slice x.pa x.ps.length x.pc) := by rw [cell_of hxb]; rfl
      have hx2 : Wb.cell? ⟨W.heap.size, 2, none⟩ = some (.slice x.la x.ls.length x.lc) := by rw [cell_of hxb]; rfl
      have hx3 : Wb.cell? ⟨W.heap.size, 3, none⟩ = some (.slice x.ea x.es.length x.ec) := by rw [cell_of hxb]; rfl
      have hlen : pre.length + 1 ≤ 3 := by
        have h9 := hpre.len
        rw [List.length_append] at h9
        simpa using h9
      have hbc := hCb.box.cell
      have hbf := hCb.box.frozen
      have HCB := Lib.hid hCb
      have HKB := Lib.hid hkb
      have HKA := Lib.hid hka
      have HPRE := Lib.hid hpre
      clear hWb hCa hka hCb hkb hpre hxb
      by_cases he : (pre.length : Int) + 1 = most
      · have he' : ((pre.length : Int) + 1 == most) = true := by simpa using he
        gi_wp2_with (gi_at_builtin; refine wpListIn_append_own_at _ rfl _ _ 38 rfl w.heap.size 26 j0 (.agg #[.int .i64 0, .slice none 0 0, .slice none 0 0, .slice none 0 0]) 4 80 Try.underlying38 hjnf hy0 hy1 hy2 rfl (by decide) vo pre.length (pre.flatMap mdCells) rfl (HCB.out.row.alloc _) ⟨Wb.heap.size, 0, none⟩ 1 1 [.int .i64 x.version, .slice x.pa x.ps.length x.pc, .slice x.la x.ls.length x.lc, .slice x.ea x.es.length x.ec] rfl rfl (cells_new _ _ _) (by simp [Value.oneCell']) (by unfold maxLen; omega) (by omega) (by have := HCB.out.kept.size; simp; omega) ?_; intro vo' w3 hown' hgrow _ hat; obtain ⟨g', cap', rfl⟩ := ownsRow_succ hown'; obtain ⟨hb3, hC3, hK3⟩ := HCB.out.appended (by decide) hown' hgrow; have hc3 := hb3.cell; have hf3 := hb3.frozen; have hM3 := (hC3.bx _ (.tail _ (.head _))).cell; have hR3 := (hC3.bx _ (.head _)).cell; have hRf3 := (hC3.bx _ (.head _)).frozen; have HB3 := Lib.hid hb3; have HC3 := Lib.hid hC3; have HG3 := Lib.hid hgrow; have HAT := Lib.hid hat; clear hown' hgrow hb3 hC3 hK3 hat)
        have hC4 := HC3.out.store (by intro q hq; simp only [List.mem_cons, List.not_mem_nil, or_false] at hq; rcases hq with rfl; simp) (.slice (some ⟨g', 0, none⟩) (pre.length + 1) cap')
        have hC5 := hC4.put (ro' := .loop (ro .done (some .ret))) rfl
        refine ⟨hC4.lp, .inr ⟨rfl, by simp; omega, .slice (some ⟨g', 0, none⟩) (pre.length + 1) cap', by simpa [mdCells] using hC5, ?_⟩⟩
        have hk8 : Kept (fun i => vo.ownBlock = some i ∨ i = w.heap.size + 1 + 1 + 1 + 1 ∨ i = w.heap.size + 1 + 1 ∨ i = w2.heap.size + 1) Wb (((w3.setCell ⟨w.heap.size + 1 + 1 + 1 + 1, 0, none⟩ (.slice (some ⟨g', 0, none⟩) (pre.length + 1) cap')).setCell ⟨w.heap.size + 1 + 1, 0, none⟩ (.slice (some ⟨g', 0, none⟩) (pre.length + 1) cap')).putObj (w2.heap.size + 1) (.loop (ro .done (some .ret)))) :=
          (((((Kept.refl _ Wb).alloc _).grown HG3.out (fun j e => .inl (.inl e))).setCell (p := ⟨w.heap.size + 1 + 1 + 1 + 1, 0, none⟩) (.inl (.inr (.inl rfl))) _).setCell (p := ⟨w.heap.size + 1 + 1, 0, none⟩) (.inl (.inr (.inr (.inl rfl)))) _).putObj (.inl (.inr (.inr (.inr rfl)))) _
        have hk9 : Kept (fun i => vo.ownBlock = some i ∨ i = w.heap.size + 1 + 1 + 1 + 1 ∨ i = w.heap.size + 1 + 1 ∨ i = w2.heap.size + 1) W _ := (Kept.any HKA.out).trans ((HKB.out.mono (S' := fun i => vo.ownBlock = some i ∨ i = w.heap.size + 1 + 1 + 1 + 1 ∨ i = w.heap.size + 1 + 1 ∨ i = w2.heap.size + 1) (fun i _ h => .inr (.inr (.inr h)))).trans hk8 (fun i hi => .inl hi)) (fun i hi => .inl hi)
        intro y hy
        have hyy : HeldM W y ∧ OutM (OwC (w.heap.size + 1 + 1 + 1 + 1) (w2.heap.size + 1) W) y ∧ FreshM (w2.heap.size + 2) y := by
          rcases List.mem_append.1 hy with h | h
          · exact HP.out y h
          · simp only [List.mem_cons, List.not_mem_nil, or_false] at h
            subst h
            exact ⟨HXH.out, HXO.out, HXF.out⟩
        refine ⟨hyy.1.out ((hyy.2.1.or hyy.2.2.out).mono ?_) hk9, hyy.2.2⟩
        rintro i (h | h | h | h)
        · exact .inl (.inr (.inr ⟨_, HC.out.box.cell, h⟩))
        · exact .inr (by omega)
        · exact .inr (by omega)
        · exact .inr (by omega)
      · have he' : ((pre.length : Int) + 1 == most) = false := by simpa using he
        gi_wp2_with (gi_at_builtin; refine wpListIn_append_own_at _ rfl _ _ 38 rfl w.heap.size 26 j0 (.agg #[.int .i64 0, .slice none 0 0, .slice none 0 0, .slice none 0 0]) 4 80 Try.underlying38 hjnf hy0 hy1 hy2 rfl (by decide) vo pre.length (pre.flatMap mdCells) rfl (HCB.out.row.alloc _) ⟨Wb.heap.size, 0, none⟩ 1 1 [.int .i64 x.version, .slice x.pa x.ps.length x.pc, .slice x.la x.ls.length x.lc, .slice x.ea x.es.length x.ec] rfl rfl (cells_new _ _ _) (by simp [Value.oneCell']) (by unfold maxLen; omega) (by omega) (by have := HCB.out.kept.size; simp; omega) ?_; intro vo' w3 hown' hgrow _ hat; obtain ⟨g', cap', rfl⟩ := ownsRow_succ hown'; obtain ⟨hb3, hC3, hK3⟩ := HCB.out.appended (by decide) hown' hgrow; have hc3 := hb3.cell; have hf3 := hb3.frozen; have hM3 := (hC3.bx _ (.tail _ (.head _))).cell; have hR3 := (hC3.bx _ (.head _)).cell; have hRf3 := (hC3.bx _ (.head _)).frozen; have HB3 := Lib.hid hb3; have HC3 := Lib.hid hC3; have HG3 := Lib.hid hgrow; have HAT := Lib.hid hat; clear hown' hgrow hb3 hC3 hK3 hat)
        have hC4 := HC3.out.put (ro' := .loop (ro .ready none)) rfl
        have hk8 : Kept (fun i => vo.ownBlock = some i ∨ i = w.heap.size + 1 + 1 + 1 + 1 ∨ i = w2.heap.size + 1) Wb ((w3.setCell ⟨w.heap.size + 1 + 1 + 1 + 1, 0, none⟩ (.slice (some ⟨g', 0, none⟩) (pre.length + 1) cap')).putObj (w2.heap.size + 1) (.loop (ro .ready none))) :=
          (((((Kept.refl _ Wb).alloc _).grown HG3.out (fun j e => .inl (.inl e))).setCell (p := ⟨w.heap.size + 1 + 1 + 1 + 1, 0, none⟩) (.inl (.inr (.inl rfl))) _)).putObj (.inl (.inr (.inr rfl))) _
        have hk9 : Kept (OwC (w.heap.size + 1 + 1 + 1 + 1) (w2.heap.size + 1) W) W _ := (Kept.any HKA.out).trans ((HKB.out.mono (S' := fun i => vo.ownBlock = some i ∨ i = w.heap.size + 1 + 1 + 1 + 1 ∨ i = w2.heap.size + 1) (fun i _ h => .inr (.inr h))).trans hk8 (fun i hi => .inl hi)) (fun i hi => .inl (by
          rcases hi with h | h | h
          · exact .inr (.inr ⟨_, HC.out.box.cell, h⟩)
          · exact .inl h
          · exact .inr (.inl h)))
        have how : ∀ i, OwC (w.heap.size + 1 + 1 + 1 + 1) (w2.heap.size + 1) ((w3.setCell ⟨w.heap.size + 1 + 1 + 1 + 1, 0, none⟩ (.slice (some ⟨g', 0, none⟩) (pre.length + 1) cap')).putObj (w2.heap.size + 1) (.loop (ro .ready none))) i → OwC (w.heap.size + 1 + 1 + 1 + 1) (w2.heap.size + 1) W i ∨ W.heap.size ≤ i := by
          rintro i (h | h | ⟨v, h, h'⟩)
          · exact .inl (.inl h)
          · exact .inl (.inr (.inl h))
          · rw [hC4.box.cell] at h
            cases h
            rcases HAT.out with h | h
            · rw [h] at h'; exact .inl (.inr (.inr ⟨_, HC.out.box.cell, h'⟩))
            · rw [h] at h'; cases h'; refine .inr ?_; simp; omega
        refine ⟨HC3.out.lp, .inl ⟨rfl, ⟨by simp; omega, .slice (some ⟨g', 0, none⟩) (pre.length + 1) cap', by simpa [mdCells] using hC4, ?_⟩, hk9, how⟩⟩
        intro y hy
        have hyy : HeldM W y ∧ OutM (OwC (w.heap.size + 1 + 1 + 1 + 1) (w2.heap.size + 1) W) y ∧ FreshM (w2.heap.size + 2) y := by
          rcases List.mem_append.1 hy with h | h
          · exact HP.out y h
          · simp only [List.mem_cons, List.not_mem_nil, or_false] at h
            subst h
            exact ⟨HXH.out, HXO.out, HXF.out⟩
        exact ⟨hyy.1.out hyy.2.1 hk9, (hyy.2.1.or hyy.1.r.low).mono how, hyy.2.2⟩
    rintro e W' ⟨⟨u, rfl⟩, ⟨pre, hsame, ⟨hltm, vo, hC, hP⟩⟩ | ⟨pre, hpre, ⟨hm2, vo, hC, hP⟩⟩⟩
    · obtain ⟨A9, cap9, rfl⟩ := own_slice hC.row
      have HC := Lib.hid hC
      have HP := Lib.hid hP
      have HSM := Lib.hid hsame
      clear hP hsame
      refine ⟨⟨u, rfl⟩, .inl ⟨HC.out.lp, ?_⟩⟩
      have hC2 := HC.out.put (ro' := .loop (ro .exhausted none)) rfl
      have HC2 := Lib.hid hC2
      have hc2 := hC2.box.cell
      have hr2 := (hC2.bx _ (.head _)).cell
      have hrf2 := (hC2.bx _ (.head _)).frozen
      clear hC hC2
      gi_wp2
      have hC3 := HC2.out.store (by intro q hq; simp only [List.mem_cons, List.not_mem_nil, or_false] at hq; rcases hq with rfl; simp) (.slice A9 pre.length cap9)
      obtain ⟨hr5, hk5, hb5⟩ := hC3.last
      have hrr := (hb5 _ (.head _)).cell
      refine ⟨by simp, .inl ⟨_, _, rfl, run_takeDeferred hC3.dfr, ?_⟩⟩
      refine ⟨.slice A9 pre.length cap9, by simp [results, Try.results15, go_sem, hrr], ?_⟩
      refine ⟨hk5, pre, _, rfl, hr5, ?_, fun x hx => ⟨(HP.out x hx).1.out (HP.out x hx).2.2.out (((Kept.putObj (Kept.refl _ W') (.inl (by omega)) _).setCell (.inl (by simp only; omega)) _).putObj (.inl (by omega)) _), (HP.out x hx).2.2.mono (by omega)⟩, by have h1 := HSM.out.l; have h2 := waysL_len ⟨v0, pa0, ps0, pc0, la0, ls0, lc0, ea0, es0, ec0⟩; omega⟩
      have h1 := HSM.out.l
      rw [List.take_of_length_le (by omega)]
      exact HSM.out
    · obtain ⟨A9, cap9, rfl⟩ := own_slice hC.row
      have HC := Lib.hid hC
      have HP := Lib.hid hP
      refine ⟨⟨u, rfl⟩, .inr ⟨.ret, HC.out.lp, ?_⟩⟩
      have hC2 := HC.out.put (ro' := .loop (ro .exhausted (some .ret))) rfl
      have HC2 := Lib.hid hC2
      have HPRE := Lib.hid hpre
      clear hC hC2 hP hpre
      gi_wp2
      obtain ⟨hr5, hk5, hb5⟩ := HC2.out.last
      have hrr := (hb5 _ (.head _)).cell
      refine ⟨by simp, .inl ⟨_, _, rfl, run_takeDeferred HC2.out.dfr, ?_⟩⟩
      refine ⟨.slice A9 pre.length cap9, by simp [results, Try.results15, go_sem, hrr], ?_⟩
      refine ⟨hk5, pre, _, rfl, hr5, ?_, fun x hx => ⟨(HP.out x hx).1.out (HP.out x hx).2.out ((Kept.putObj (Kept.refl _ W') (.inl (by omega)) _).putObj (.inl (by omega)) _), (HP.out x hx).2.mono (by omega)⟩, HPRE.out.len⟩
      rw [show most.toNat = pre.length by omega]
      exact HPRE.out.take
end Mo
end Go.Proofs.Ythgbahlkflmgiaa
