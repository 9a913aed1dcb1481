/- The walk of sandtablelaw06.take: so many are taken out. -/
import Derived.Test.YtfkhnhpphcpmmaaRef06
namespace Go.Proofs.Ytfkhnhpphcpmmaa.HpItem
open Go Go.RowKit Go.Shelf Go.Proofs.Ytfkhnhpphcpmmaa.Lb Go.Proofs.Ytfkhnhpphcpmmaa.HpPure
set_option linter.unusedVariables false
set_option linter.unusedSimpArgs false
attribute [local go_sem] Oper.semAt_some

set_option maxHeartbeats 4000000 in
theorem take_is {lt : It → It → Bool} {Inv : World → Prop} {w : World} {base h lf : Nat} {lcap : Array Value} {v : Value} {xs : List (It × Int)} {seq : Int} (L : Less lt lf lcap base Inv) (H : IsHeap w base h lf lcap v xs seq) (hI : Inv w) (most : Int) :
    Calls Try.prog 18 #[.pointer (some ⟨h, 0, none⟩), .int .i64 most] w fun e w' => ∃ u v' tk ys, e = .returned u ∧ IsHeap w' base h lf lcap v' ys seq ∧ Dr lt xs tk ys ∧ tk.length = min most.toNat xs.length ∧ w'.ownsRow w.heap.size 27 2 u tk.length ((tk.map Prod.fst).flatMap It.cells) ∧ Kept (Own h v) w w' ∧ v'.ownBlock = v.ownBlock := by
  have hO : ∀ i, Own h v i → i < w.heap.size := fun i hi => by
    rcases hi with rfl | hi
    · exact H.cells.2.2.2.2
    · exact (H.own.lt i hi).2
  have LL := Lib.hid L
  have HH := Lib.hid H
  clear L H
  obtain ⟨nn, hnn⟩ : ∃ nn : Nat, nn = nn := ⟨0, rfl⟩
  refine (callsIn_wide (n := nn)).1 ?_
  clear hnn
  refine callsIn_of_wp_marks Try.func18 rfl trivial ?_ rfl
  simp only [Try.ntmps18, List.size_toArray, List.length_cons, List.length_nil, Nat.reduceAdd, Nat.reduceSub, Array.replicate_succ, Array.replicate_zero, List.push_toArray, List.append_toArray, List.nil_append, List.cons_append]
  by_cases hm : most ≤ 0
  · gi_wp2
    refine ⟨.slice (some ⟨w.heap.size + 1 + 1, 0, none⟩) 0 0, by simp [results, Try.results18, go_sem], ?_⟩
    have kk : ∀ S : Nat → Prop, Kept S w ((((w.alloc (Obj.cells #[Value.int IntKind.i64 most] 3)).alloc (Obj.cells #[Value.slice (some { block := w.heap.size + 1 + 1, off := 0 }) 0 0] 29)).alloc (Obj.cells #[] 27)).alloc (Obj.cells #[Value.slice (some { block := w.heap.size + 1 + 1, off := 0 }) 0 0] 29)) := fun S => ((((Kept.refl S w).alloc _).alloc _).alloc _).alloc _
    refine ⟨_, v, [], xs, rfl, HH.out.nil (kk _), ⟨rfl, fun _ h => h⟩, by simp; omega, ?_, kk _, rfl⟩
    have := World.ownsRow_lit (base := w.heap.size) (e := 27) (size := 2) ((w.alloc (Obj.cells #[Value.int IntKind.i64 most] 3)).alloc (Obj.cells #[Value.slice (some { block := w.heap.size + 1 + 1, off := 0 }) 0 0] 29)) #[] 0 (by simp; omega) (by decide) rfl
    simp only [World.size_alloc] at this
    exact this.alloc _
  · gi_wp2_with fail
    refine at_wide ((Drain_is h _).mono ?_)
    rintro e w2 ⟨rfl, rfl⟩
    gi_wp2_with fail
    obtain ⟨W0, hW0⟩ : ∃ W0, (((((w.alloc (Obj.cells #[Value.int IntKind.i64 most] 3)).alloc (Obj.cells #[Value.slice none 0 0] 29)).alloc (Obj.cells #[] 27)).alloc (Obj.cells #[Value.slice (some { block := w.heap.size + 1 + 1, off := 0 }) 0 0] 29)).alloc (Obj.cells #[Value.pointer (some { block := h, off := 0 })] 24)) = W0 := ⟨_, rfl⟩
    have hsz : w.heap.size + 5 ≤ W0.heap.size := by rw [← hW0]; simp
    have hk0 : Kept Nil w W0 := by rw [← hW0]; exact (((((Kept.refl Nil w).alloc _).alloc _).alloc _).alloc _).alloc _
    have hbM : Boxed W0 w.heap.size 3 (.int .i64 most) := by rw [← hW0]; exact ((((Boxed.new w _ _).alloc _).alloc _).alloc _).alloc _
    have hbR : Boxed W0 (w.heap.size + 1) 29 (.slice none 0 0) := by rw [← hW0]; have := Boxed.new (w.alloc (Obj.cells #[Value.int IntKind.i64 most] 3)) 29 (.slice none 0 0); rw [World.size_alloc] at this; exact ((this.alloc _).alloc _).alloc _
    have hbO : Boxed W0 (w.heap.size + 1 + 1 + 1) 29 (.slice (some ⟨w.heap.size + 1 + 1, 0, none⟩) 0 0) := by
      rw [← hW0]
      have := Boxed.new (((w.alloc (Obj.cells #[Value.int IntKind.i64 most] 3)).alloc (Obj.cells #[Value.slice none 0 0] 29)).alloc (Obj.cells #[] 27)) 29 (.slice (some ⟨w.heap.size + 1 + 1, 0, none⟩) 0 0)
      simp only [World.size_alloc] at this
      exact this.alloc _
    have hbx : Boxed W0 (w.heap.size + 1 + 1 + 1 + 1) 24 (.pointer (some ⟨h, 0, none⟩)) := by
      rw [← hW0]
      have := Boxed.new ((((w.alloc (Obj.cells #[Value.int IntKind.i64 most] 3)).alloc (Obj.cells #[Value.slice none 0 0] 29)).alloc (Obj.cells #[] 27)).alloc (Obj.cells #[Value.slice (some { block := w.heap.size + 1 + 1, off := 0 }) 0 0] 29)) 24 (.pointer (some ⟨h, 0, none⟩))
      simpa only [World.size_alloc] using this
    have hrow : W0.ownsRow w.heap.size 27 2 (.slice (some ⟨w.heap.size + 1 + 1, 0, none⟩) 0 0) 0 [] := by
      rw [← hW0]
      have := World.ownsRow_lit (base := w.heap.size) (e := 27) (size := 2) ((w.alloc (Obj.cells #[Value.int IntKind.i64 most] 3)).alloc (Obj.cells #[Value.slice none 0 0] 29)) #[] 0 (by simp; omega) (by decide) rfl
      simp only [World.size_alloc] at this
      exact (this.alloc _).alloc _
    rw [hW0]
    have HH0 : IsHeap W0 base h lf lcap v xs seq := HH.out.nil hk0
    have hI0 : Inv W0 := LL.out.stable _ _ hI (Kept.any hk0)
    have hhw : h < w.heap.size := hO _ (.inl rfl)
    clear hW0
    refine range_stmt' rfl (fun h => by cases h) (gf := 32) (lb := #[.pointer (some ⟨w.heap.size + 1 + 1 + 1 + 1, 0, none⟩)]) rfl trivial (enters_of Try.func32 (by kernel_rfl) rfl) ?_
    intro fn ro _ hro
    have HRO := Lib.hid hro
    clear hro
    refine (Drain1_in LL.out (nn - 1) (W0.heap.size + 1) (Bx := w.heap.size + 1 + 1 + 1 + 1) (h := h) (seq := seq) (by omega) xs
      (fun pre v' W => v'.ownBlock = v.ownBlock ∧ (pre.length : Int) < most ∧ ∃ vo, Coll (w.heap.size + 1 + 1 + 1) W0.heap.size (W0.heap.size + 1) 2 27 29 [(w.heap.size + 1, 29, .slice none 0 0), (w.heap.size, 3, .int .i64 most), (w.heap.size + 1 + 1 + 1 + 1, 24, .pointer (some ⟨h, 0, none⟩))] (Own h v) w (.loop (ro .ready none)) pre.length ((pre.map Prod.fst).flatMap It.cells) vo W)
      (fun pre v' ys W => v'.ownBlock = v.ownBlock ∧ (pre.length : Int) = most ∧ IsHeap W base h lf lcap v' ys seq ∧ ∃ vo, Coll (w.heap.size + 1 + 1 + 1) W0.heap.size (W0.heap.size + 1) 2 27 29 [(w.heap.size + 1, 29, vo), (w.heap.size, 3, .int .i64 most), (w.heap.size + 1 + 1 + 1 + 1, 24, .pointer (some ⟨h, 0, none⟩))] (Own h v) w (.loop (ro .done (some .ret))) pre.length ((pre.map Prod.fst).flatMap It.cells) vo W) ?_ ?_ v _ ?_).mono ?_
    case refine_1 =>
      rintro pre v1 v2 S W W' ⟨hv, hlt, vo, hc⟩ hk hS hv'
      have hS' : ∀ i, S i → Own h v i := fun i hi => by
        have := hS i hi
        unfold Own at this ⊢
        rwa [hv] at this
      refine ⟨fun e => ?_, hv'.trans hv, hlt, vo, hc.step hk hS'⟩
      have := hO (w.heap.size + 1 + 1 + 1 + 1) (.inr (hv ▸ e))
      omega
    case refine_3 =>
      refine ⟨HH0.nil (((Kept.refl Nil W0).alloc _).alloc _), LL.out.stable _ _ hI0 (Kept.any (((Kept.refl Nil W0).alloc _).alloc _)), ?_, rfl, by simp; omega, .slice (some ⟨w.heap.size + 1 + 1, 0, none⟩) 0 0, ?_⟩
      · exact (((Kept.refl Nil W0).alloc _).alloc _).cell hbx.cell (fun h => h)
      · refine { hB := by omega, hD := by omega, hl := by omega, hO := hO, hL := ?_, bx := ?_, box := (hbO.alloc _).alloc _, row := (hrow.alloc _).alloc _, lp := ?_, roc := rfl, dfr := ?_, dl := by omega, kept := Kept.any ((hk0.alloc _).alloc _) }
        · intro q hq
          simp only [List.mem_cons, List.not_mem_nil, or_false] at hq
          rcases hq with rfl | rfl | rfl <;> refine ⟨?_, ?_, ?_⟩ <;> simp <;> omega
        · intro q hq
          simp only [List.mem_cons, List.not_mem_nil, or_false] at hq
          rcases hq with rfl | rfl | rfl
          · exact (hbR.alloc _).alloc _
          · exact (hbM.alloc _).alloc _
          · exact (hbx.alloc _).alloc _
        · have := heap_new (W0.alloc (.deferred (some []))) (.loop (ro .ready none))
          rw [World.size_alloc] at this
          exact this
        · exact (heap_old _ _ (by simp)).trans (heap_new W0 _)
    case refine_2 =>
      rintro pre v' ys ⟨⟨a0, a1⟩, a2⟩ W hd hst
      obtain ⟨hh, hi, hb1, hv', hltm, vo, hC⟩ := hst
      have HC := Lib.hid hC
      refine yield_round' HRO.out trivial hC.lp rfl ?_
      clear hC
      simp only [It.val, List.zip_toArray, List.zip_cons_cons, List.zip_nil_left, List.zip_nil_right, List.foldl_toArray, List.foldl_cons, List.foldl_nil, List.setIfInBounds_toArray, List.set_cons_succ, List.set_cons_zero, List.size_toArray, List.length_cons, List.length_nil]
      gi_wp2_with fail
      have hka : Kept Nil W (W.alloc (.cells #[.int .i64 a0, .int .i64 a1] 27)) := ((Kept.refl Nil W).alloc _)
      have hCa := HC.out.nil hka
      refine ⟨hCa.lp, ?_⟩
      have hCb := hCa.put (ro' := .loop (ro .busy none)) rfl
      have hkb : Kept (fun i => i = W0.heap.size + 1) (W.alloc (.cells #[.int .i64 a0, .int .i64 a1] 27)) ((W.alloc (.cells #[.int .i64 a0, .int .i64 a1] 27)).putObj (W0.heap.size + 1) (.loop (ro .busy none))) := Kept.putObj (S := fun i => i = W0.heap.size + 1) (k := W0.heap.size + 1) (Kept.refl _ _) (.inl rfl) _
      obtain ⟨Wb, hWb⟩ : ∃ Wb, (W.alloc (.cells #[.int .i64 a0, .int .i64 a1] 27)).putObj (W0.heap.size + 1) (.loop (ro .busy none)) = Wb := ⟨_, rfl⟩
      rw [hWb] at hCb hkb ⊢
      have hlW : W0.heap.size + 1 < W.heap.size := (Array.getElem?_eq_some_iff.1 HC.out.lp).1
      have hx0 : Wb.cell? ⟨W.heap.size, 0, none⟩ = some (.int .i64 a0) := hkb.cell (p := ⟨W.heap.size, 0, none⟩) (by simp) (by simp; omega)
      have hx1 : Wb.cell? ⟨W.heap.size, 1, none⟩ = some (.int .i64 a1) := hkb.cell (p := ⟨W.heap.size, 1, none⟩) (by simp) (by simp; omega)
      have hbc := hCb.box.cell
      have hbf := hCb.box.frozen
      have HCB := Lib.hid hCb
      have HKB := Lib.hid hkb
      have HKA := Lib.hid hka
      have HWB := Lib.hid hWb
      obtain ⟨i0, hinf, hz0, hz1, hz2⟩ := info_parts infoE
      have hfew := HH.out.few
      have hlen : pre.length + 1 ≤ xs.length := by
        have := congrArg List.length hd.1
        rw [(drain_perm lt _).length_eq] at this
        simp at this; omega
      have HD := Lib.hid hd
      have HINV := Lib.hid hi
      have HST := Lib.hid hh
      clear hCa hka hCb hkb hWb hd hi hh
      by_cases he : (pre.length : Int) + 1 = most
      · have he' : ((pre.length : Int) + 1 == most) = true := by simpa using he
        gi_wp2_with (gi_at_builtin; refine wpListIn_append_own _ rfl _ _ 29 rfl w.heap.size 27 i0 (.agg #[.int .i64 0, .int .i64 0]) 2 16 Try.underlying29 hinf hz0 hz1 hz2 rfl (by decide) vo pre.length ((pre.map Prod.fst).flatMap It.cells) rfl (HCB.out.row.alloc _) ⟨Wb.heap.size, 0, none⟩ 1 1 [.int .i64 a0, .int .i64 a1] rfl rfl (cells_new _ _ _) (by simp [Value.oneCell']) (by unfold maxLen; omega) (by omega) (by have := HCB.out.kept.size; simp; omega) ?_; intro vo' w3 hown' hgrow _; obtain ⟨g', cap', rfl⟩ := ownsRow_succ hown'; obtain ⟨hb3, hC3, hK3⟩ := HCB.out.appended (by decide) hown' hgrow; have hc3 := hb3.cell; have hf3 := hb3.frozen; have hM3 := (hC3.bx _ (.tail _ (.head _))).cell; have hR3 := (hC3.bx _ (.head _)).cell; have hRf3 := (hC3.bx _ (.head _)).frozen; have HC3 := Lib.hid hC3; have HK3 := Lib.hid hK3; clear hown' hgrow hb3 hC3 hK3)
        have hC4 := HC3.out.store (by intro q hq; simp only [List.mem_cons, List.not_mem_nil, or_false] at hq; rcases hq with rfl | rfl <;> simp <;> omega) (.slice (some ⟨g', 0, none⟩) (pre.length + 1) cap')
        have hC5 := hC4.put (ro' := .loop (ro .done (some .ret))) rfl
        have hk4 : Kept (fun i => w.heap.size ≤ i) W (((w3.setCell ⟨w.heap.size + 1 + 1 + 1, 0, none⟩ (.slice (some ⟨g', 0, none⟩) (pre.length + 1) cap')).setCell ⟨w.heap.size + 1, 0, none⟩ (.slice (some ⟨g', 0, none⟩) (pre.length + 1) cap')).putObj (W0.heap.size + 1) (.loop (ro .done (some .ret)))) :=
          (((Kept.trans (Kept.any HKA.out) HKB.out (S' := fun i => i = W0.heap.size + 1) (S := fun i => w.heap.size ≤ i) (fun i e => .inl (by omega))).trans HK3.out (fun i hi => .inl hi)).setCell (.inl (by simp)) _).putObj (.inl (by omega)) _
        refine ⟨hC4.lp, .inr ⟨rfl, ?_, .slice (some ⟨g', 0, none⟩) (pre.length + 1) cap', ?_⟩⟩
        · exact HST.out.kept hk4 (by have := hO _ (.inl rfl); omega) (fun i hi => by have := hO i (.inr (hv' ▸ hi)); omega)
        · simpa [It.cells] using hC5
      · have he' : ((pre.length : Int) + 1 == most) = false := by simpa using he
        gi_wp2_with (gi_at_builtin; refine wpListIn_append_own _ rfl _ _ 29 rfl w.heap.size 27 i0 (.agg #[.int .i64 0, .int .i64 0]) 2 16 Try.underlying29 hinf hz0 hz1 hz2 rfl (by decide) vo pre.length ((pre.map Prod.fst).flatMap It.cells) rfl (HCB.out.row.alloc _) ⟨Wb.heap.size, 0, none⟩ 1 1 [.int .i64 a0, .int .i64 a1] rfl rfl (cells_new _ _ _) (by simp [Value.oneCell']) (by unfold maxLen; omega) (by omega) (by have := HCB.out.kept.size; simp; omega) ?_; intro vo' w3 hown' hgrow _; obtain ⟨g', cap', rfl⟩ := ownsRow_succ hown'; obtain ⟨hb3, hC3, hK3⟩ := HCB.out.appended (by decide) hown' hgrow; have hc3 := hb3.cell; have hf3 := hb3.frozen; have hM3 := (hC3.bx _ (.tail _ (.head _))).cell; have hR3 := (hC3.bx _ (.head _)).cell; have hRf3 := (hC3.bx _ (.head _)).frozen; have HC3 := Lib.hid hC3; have HK3 := Lib.hid hK3; clear hown' hgrow hb3 hC3 hK3)
        have hC4 := HC3.out.put (ro' := .loop (ro .ready none)) rfl
        have hk4 : Kept (fun i => w.heap.size ≤ i) W ((w3.setCell ⟨w.heap.size + 1 + 1 + 1, 0, none⟩ (.slice (some ⟨g', 0, none⟩) (pre.length + 1) cap')).putObj (W0.heap.size + 1) (.loop (ro .ready none))) :=
          ((Kept.trans (Kept.any HKA.out) HKB.out (S' := fun i => i = W0.heap.size + 1) (S := fun i => w.heap.size ≤ i) (fun i e => .inl (by omega))).trans HK3.out (fun i hi => .inl hi)).putObj (.inl (by omega)) _
        refine ⟨HC3.out.lp, rfl, ?_, ?_, (hC4.bx _ (.tail _ (.tail _ (.head _)))).cell, hv', by simp; omega, .slice (some ⟨g', 0, none⟩) (pre.length + 1) cap', ?_⟩
        · exact HST.out.kept hk4 (by have := hO _ (.inl rfl); omega) (fun i hi => by have := hO i (.inr (hv' ▸ hi)); omega)
        · exact LL.out.stable _ _ HINV.out (hk4.mono (fun i _ hi => by have := HH.out.hb; omega))
        · simpa [It.cells] using hC4
    rintro e W' ⟨⟨u, rfl⟩, ⟨v1, hst⟩ | ⟨pre, v1, ys, hd, hv, hm2, hH, vo, hC⟩⟩
    · obtain ⟨hH, _, _, hv, hlt, vo, hC⟩ := hst
      obtain ⟨A9, cap9, rfl⟩ := own_slice hC.row
      have HC := Lib.hid hC
      refine ⟨⟨u, rfl⟩, .inl ⟨HC.out.lp, ?_⟩⟩
      have hC2 := HC.out.put (ro' := .loop (ro .exhausted none)) rfl
      have HC2 := Lib.hid hC2
      have hc2 := hC2.box.cell
      have hr2 := (hC2.bx _ (.head _)).cell
      have hrf2 := (hC2.bx _ (.head _)).frozen
      have HHH := Lib.hid hH
      clear hC hC2 hH
      gi_wp2
      have hC3 := HC2.out.store (by intro q hq; simp only [List.mem_cons, List.not_mem_nil, or_false] at hq; rcases hq with rfl | rfl <;> simp <;> omega) (.slice A9 (HpPure.drain lt xs).length cap9)
      obtain ⟨hr5, hk5, hb5⟩ := hC3.last
      have hrr := (hb5 _ (.head _)).cell
      have hkk : Kept (fun i => w.heap.size ≤ i) W' _ := (((Kept.refl (fun i => w.heap.size ≤ i) W').putObj (k := W0.heap.size + 1) (.inl (by omega)) (.loop (ro .exhausted none))).setCell (p := ⟨w.heap.size + 1, 0, none⟩) (.inl (by simp)) (.slice A9 (HpPure.drain lt xs).length cap9)).putObj (k := W0.heap.size) (.inl (by omega)) (.deferred none)
      refine ⟨by simp, .inl ⟨_, _, rfl, run_takeDeferred hC3.dfr, ?_⟩⟩
      refine ⟨.slice A9 (HpPure.drain lt xs).length cap9, by simp [results, Try.results18, go_sem, hrr], ?_⟩
      have hl9 := (drain_perm lt xs).length_eq
      refine ⟨_, rfl, v1, HpPure.drain lt xs, [], HHH.out.kept hkk (by have := hO _ (.inl rfl); omega) (fun i hi => by have := hO i (.inr (hv ▸ hi)); omega), ⟨by simp [drain_nil], fun _ _ => heap_nil lt⟩, by omega, hr5, hk5, hv⟩
    · obtain ⟨A9, cap9, rfl⟩ := own_slice hC.row
      have HC := Lib.hid hC
      refine ⟨⟨u, rfl⟩, .inr ⟨.ret, HC.out.lp, ?_⟩⟩
      have hC2 := HC.out.put (ro' := .loop (ro .exhausted (some .ret))) rfl
      have HC2 := Lib.hid hC2
      have HHH := Lib.hid hH
      clear hC hC2 hH
      gi_wp2
      obtain ⟨hr5, hk5, hb5⟩ := HC2.out.last
      have hrr := (hb5 _ (.head _)).cell
      have hkk : Kept (fun i => w.heap.size ≤ i) W' _ := ((Kept.refl (fun i => w.heap.size ≤ i) W').putObj (k := W0.heap.size + 1) (.inl (by omega)) (.loop (ro .exhausted (some .ret)))).putObj (k := W0.heap.size) (.inl (by omega)) (.deferred none)
      refine ⟨by simp, .inl ⟨_, _, rfl, run_takeDeferred HC2.out.dfr, ?_⟩⟩
      refine ⟨.slice A9 pre.length cap9, by simp [results, Try.results18, go_sem, hrr], ?_⟩
      have hl9 : pre.length ≤ xs.length := by
        have h1 := (drain_perm lt xs).length_eq
        have h2 := congrArg List.length hd.1
        rw [List.length_append] at h2
        omega
      refine ⟨_, rfl, v1, pre, ys, HHH.out.kept hkk (by have := hO _ (.inl rfl); omega) (fun i hi => by have := hO i (.inr (hv ▸ hi)); omega), hd, by omega, hr5, hk5, hv⟩
end Go.Proofs.Ytfkhnhpphcpmmaa.HpItem
