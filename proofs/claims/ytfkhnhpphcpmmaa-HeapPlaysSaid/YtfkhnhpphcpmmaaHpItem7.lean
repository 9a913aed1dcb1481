/- The walks of package heap at the element type sandtable/sandtableref06.Item, seventh part: Sort. Conditions: 'less' answers an order and turns nothing. -/
import Derived.Test.YtfkhnhpphcpmmaaHpItem6
import Derived.Test.YtfkhnhpphcpmmaaColl
import Derived.Test.YtfkhnhpphcpmmaaHpSort
import Derived.Shelf.Abstract
import Derived.Shelf.RegionOpen
namespace Go.Proofs.Ytfkhnhpphcpmmaa.HpItem
open Go Go.RowKit Go.Shelf Go.Proofs.Ytfkhnhpphcpmmaa.Lb Go.Proofs.Ytfkhnhpphcpmmaa.HpPure
set_option linter.unusedVariables false
set_option linter.unusedSimpArgs false
attribute [local go_sem] Oper.semAt_some

/-- A row of elements, as it is read. -/
def Row (w : World) (A : Option Addr) (xs : List It) : Prop :=
  xs = [] ∨ ∃ b off, A = some ⟨b, off, none⟩ ∧ ∀ j x, xs[j]? = some x → (w.cell? ⟨b, off + j * 2, none⟩ = some (.int .i64 x.f0) ∧ w.cell? ⟨b, off + j * 2 + 1, none⟩ = some (.int .i64 x.f1))
theorem Row.kept {w w' : World} {A : Option Addr} {xs : List It} {S : Nat → Prop} (h : Row w A xs) (hk : Kept S w w') (hS : ∀ b, (∃ off, A = some ⟨b, off, none⟩) → ¬ S b) : Row w' A xs := by
  rcases h with h | ⟨b, off, h, hc⟩
  · exact .inl h
  · exact .inr ⟨b, off, h, fun j x hj => ⟨hk.cell (hc j x hj).1 (hS b ⟨off, h⟩), hk.cell (hc j x hj).2 (hS b ⟨off, h⟩)⟩⟩
theorem Less.up {lt : It → It → Bool} {lf : Nat} {lcap : Array Value} {base base' : Nat} {Inv : World → Prop} (L : Less lt lf lcap base Inv) (hb : base ≤ base') : Less lt lf lcap base' Inv :=
  ⟨L.ent, fun W W' h k => L.stable W W' h (k.mono (fun i _ hi => by omega)), L.call⟩

theorem infoE : (Try.prog.info? 27).map (fun i => (i.zero, i.size, i.bytes)) = some (some (.agg #[.int .i64 0, .int .i64 0]), 2, 16) := by kernel_rfl
set_option maxHeartbeats 2000000 in
theorem Sort_is {lt : It → It → Bool} {Inv : World → Prop} {w : World} {base lf : Nat} {lcap : Array Value} (L0 : Less lt lf lcap base Inv) (hI : Inv w) (hb : base ≤ w.heap.size) (A : Option Addr) (cap : Nat) (xs : List It) (hr : Row w A xs) (hn : xs.length ≤ 4294967295) :
    Calls Try.prog 20 #[.slice A xs.length cap, .func (.func lf) #[] lcap] w fun e w' => ∃ v, e = .returned v ∧ w'.ownsRow w.heap.size 27 2 v xs.length ((sortedBy lt xs).flatMap It.cells) ∧ Kept Nil w w' := by
  have L := L0.up hb
  have LL := Lib.hid L
  have HR := Lib.hid hr
  clear L L0 hr
  obtain ⟨nn, hnn⟩ : ∃ nn : Nat, nn = nn := ⟨0, rfl⟩
  refine (callsIn_wide (n := nn)).1 ?_
  clear hnn
  refine callsIn_of_wp_marks Try.func20 rfl trivial ?_ rfl
  simp only [Try.ntmps20, List.size_toArray, List.length_cons, List.length_nil, Nat.reduceAdd, Nat.reduceSub, Array.replicate_succ, Array.replicate_zero, List.push_toArray, List.append_toArray, List.nil_append, List.cons_append]
  gi_wp2_with fail
  refine at_wide ((New_is lf lcap w).mono ?_)
  rintro e w1 ⟨rfl, H1, hk1⟩
  have HH1 := Lib.hid H1
  have HK1 := Lib.hid hk1
  clear H1 hk1
  gi_wp2_with fail
  gi_loopw [14] (fun i wr => ∃ (k : Nat) (v : Value), i = .int .i64 k ∧ k ≤ xs.length ∧ IsHeap wr w.heap.size w.heap.size lf lcap v (pushes lt [] (numbered 0 (xs.take k))) k ∧ Kept Nil w wr) (fun i wr => xs.length - (intOf i).toNat)
  case atStart => exact ⟨0, _, rfl, Nat.zero_le _, HH1.out, HK1.out⟩
  case round =>
    obtain ⟨k, v, rfl, hk, hH, hK⟩ := hrel
    have HH := Lib.hid hH
    have HK := Lib.hid hK
    have hzz := hK.size
    clear hH hK
    by_cases hlt : k < xs.length
    · obtain ⟨⟨a0, a1⟩, ea⟩ : ∃ x, xs[k]? = some x := ⟨_, List.getElem?_eq_getElem hlt⟩
      have hr1 : Row wr A xs := HR.out.kept HK.out (fun _ _ h => h)
      obtain ⟨b, off, rfl, hc0, hc1⟩ : ∃ b off, A = some ⟨b, off, none⟩ ∧ wr.cell? ⟨b, off + k * 2, none⟩ = some (.int .i64 a0) ∧ wr.cell? ⟨b, off + k * 2 + 1, none⟩ = some (.int .i64 a1) := by
        rcases hr1 with rfl | ⟨b, off, h, hc⟩
        · simp at hlt
        · exact ⟨b, off, h, hc k _ ea⟩
      have HEA := Lib.hid ea
      clear hr1 ea
      gi_wp2_with fail
      refine at_wide ((Push_is LL.out (HH.out.nil ((Kept.refl Nil wr).alloc _)) (LL.out.stable _ _ hI (Kept.any (HK.out.step ((Kept.refl Nil wr).alloc _)))) a0 a1 (by rw [pushes_length, numbered_length]; simp; omega) (by omega) (by omega)).mono ?_)
      rintro e w2 ⟨v2, rfl, H2, hk2, hv2⟩
      have H2' := Lib.hid H2
      have hkk : Kept Nil w w2 := (HK.out.step ((Kept.refl Nil wr).alloc _)).trans hk2 (fun i hi => .inr (HH.out.own_base i hi))
      have HKK := Lib.hid hkk
      clear H2 hk2 hv2 hkk
      gi_wp2_with fail
      go_roundw
      case rel =>
        refine ⟨k + 1, v2, by simp, hlt, ?_, HKK.out⟩
        have e1 : numbered 0 (xs.take (k + 1)) = numbered 0 (xs.take k) ++ [((⟨a0, a1⟩ : It), (k : Int))] := by
          rw [List.take_add_one, HEA.out, numbered_append]
          simp [numbered, Nat.min_eq_left (Nat.le_of_lt hlt)]
        rw [e1, pushes_snoc]
        exact_mod_cast H2'.out
      case measure => simp [intOf]; omega
    · obtain rfl : k = xs.length := by omega
      rw [List.take_length] at HH
      gi_wp2_with fail
      refine at_wide ((Drain_is w.heap.size _).mono ?_)
      rintro e w2 ⟨rfl, rfl⟩
      gi_wp2_with fail
      obtain ⟨W0, hW0⟩ : ∃ W0, ((wr.alloc (.cells #[.slice none 0 0] 29)).alloc (.cells #[.pointer (some ⟨w.heap.size, 0, none⟩)] 24)) = W0 := ⟨_, rfl⟩
      have hsz : W0.heap.size = wr.heap.size + 2 := by rw [← hW0]; simp
      have hk0 : Kept Nil wr W0 := by rw [← hW0]; exact ((Kept.refl Nil wr).alloc _).alloc _
      have hbx : Boxed W0 (wr.heap.size + 1) 24 (.pointer (some ⟨w.heap.size, 0, none⟩)) := by rw [← hW0]; have := Boxed.new (wr.alloc (.cells #[.slice none 0 0] 29)) 24 (.pointer (some ⟨w.heap.size, 0, none⟩)); rwa [World.size_alloc] at this
      have hbo : Boxed W0 wr.heap.size 29 (.slice none 0 0) := by rw [← hW0]; exact (Boxed.new wr _ _).alloc _
      rw [hW0]
      have HH0 : IsHeap W0 w.heap.size w.heap.size lf lcap v (pushes lt [] (numbered 0 xs)) xs.length := HH.out.nil hk0
      have hO : ∀ i, Own w.heap.size v i → i < wr.heap.size := fun i hi => by
        rcases hi with rfl | hi
        · exact HH.out.cells.2.2.2.2
        · exact (HH.out.own.lt i hi).2
      have hI0 : Inv W0 := LL.out.stable _ _ hI (Kept.any (HK.out.trans hk0 (fun i hi => .inl hi)))
      have hsz1 : wr.heap.size + 2 ≤ W0.heap.size := by omega
      clear hW0 hsz
      refine range_stmt' rfl (fun h => by cases h) (gf := 32) (lb := #[.pointer (some ⟨wr.heap.size + 1, 0, none⟩)]) rfl trivial (enters_of Try.func32 (by kernel_rfl) rfl) ?_
      intro fn ro _ hro
      have HRO := Lib.hid hro
      clear hro
      refine (Drain1_in LL.out (nn - 1) (W0.heap.size + 1) (Bx := wr.heap.size + 1) (h := w.heap.size) (seq := xs.length) (by omega) (pushes lt [] (numbered 0 xs))
        (fun pre v' W => v'.ownBlock = v.ownBlock ∧ ∃ vo, Coll wr.heap.size W0.heap.size (W0.heap.size + 1) 2 27 29 [(wr.heap.size + 1, 24, .pointer (some ⟨w.heap.size, 0, none⟩))] (Own w.heap.size v) wr (.loop (ro .ready none)) pre.length ((pre.map Prod.fst).flatMap It.cells) vo W)
        (fun _ _ _ _ => False) ?_ ?_ v _ ?_).mono ?_
      case refine_1 =>
        rintro pre v1 v2 S W W' ⟨hv, vo, hc⟩ hk hS hv'
        have hS' : ∀ i, S i → Own w.heap.size v i := fun i hi => by
          have := hS i hi
          unfold Own at this ⊢
          rwa [hv] at this
        refine ⟨fun e => ?_, hv'.trans hv, vo, hc.step hk hS'⟩
        have := hO (wr.heap.size + 1) (.inr (hv ▸ e))
        omega
      case refine_3 =>
        refine ⟨HH0.nil (((Kept.refl Nil W0).alloc _).alloc _), LL.out.stable _ _ hI0 (Kept.any (((Kept.refl Nil W0).alloc _).alloc _)), ?_, rfl, .slice none 0 0, ?_⟩
        · exact (((Kept.refl Nil W0).alloc _).alloc _).cell hbx.cell (fun h => h)
        · refine { hB := Nat.le_refl _, hD := by omega, hl := by omega, hO := hO, hL := fun q hq => by obtain rfl := List.mem_singleton.1 hq; exact ⟨by simp, by simp, by simp⟩, bx := fun q hq => by obtain rfl := List.mem_singleton.1 hq; exact (hbx.alloc _).alloc _, box := (hbo.alloc _).alloc _, row := World.ownsRow_nil _ _ _ _, lp := ?_, roc := rfl, dfr := ?_, dl := by omega, kept := Kept.any ((hk0.alloc _).alloc _) }
          · have := heap_new (W0.alloc (.deferred (some []))) (.loop (ro .ready none))
            rw [World.size_alloc] at this
            exact this
          · exact (heap_old _ _ (by simp)).trans (heap_new W0 _)
      case refine_2 =>
        rintro pre v' ys ⟨⟨a0, a1⟩, a2⟩ W hd hst
        obtain ⟨hh, hi, hb1, hv', vo, hC⟩ := hst
        have HC := Lib.hid hC
        refine yield_round' HRO.out trivial hC.lp rfl ?_
        clear hC
        simp only [It.val, List.zip_toArray, List.zip_cons_cons, List.zip_nil_left, List.zip_nil_right, List.foldl_toArray, List.foldl_cons, List.foldl_nil, List.setIfInBounds_toArray, List.set_cons_succ, List.set_cons_zero, List.size_toArray, List.length_cons, List.length_nil]
        gi_wp2_with fail
        have hka : Kept Nil W (W.alloc (.cells #[.int .i64 a0, .int .i64 a1] 27)) := ((Kept.refl Nil W).alloc _)
        have hCa := HC.out.nil hka
        refine ⟨hCa.lp, ?_⟩
        have hCb := hCa.put (ro' := .loop (ro .busy none)) rfl
        have hkb : Kept (fun i => i = W0.heap.size + 1) (W.alloc (.cells #[.int .i64 a0, .int .i64 a1] 27)) ((W.alloc (.cells #[.int .i64 a0, .int .i64 a1] 27)).putObj (W0.heap.size + 1) (.loop (ro .busy none))) := Kept.putObj (S := fun i => i = W0.heap.size + 1) (k := W0.heap.size + 1) (Kept.refl _ (W.alloc (.cells #[.int .i64 a0, .int .i64 a1] 27))) (.inl rfl) _
        obtain ⟨Wb, hWb⟩ : ∃ Wb, (W.alloc (.cells #[.int .i64 a0, .int .i64 a1] 27)).putObj (W0.heap.size + 1) (.loop (ro .busy none)) = Wb := ⟨_, rfl⟩
        rw [hWb] at hCb hkb ⊢
        have hlW : W0.heap.size + 1 < W.heap.size := (Array.getElem?_eq_some_iff.1 HC.out.lp).1
        have hx0 : Wb.cell? ⟨W.heap.size, 0, none⟩ = some (.int .i64 a0) := hkb.cell (p := ⟨W.heap.size, 0, none⟩) (by simp) (by simp; omega)
        have hx1 : Wb.cell? ⟨W.heap.size, 1, none⟩ = some (.int .i64 a1) := hkb.cell (p := ⟨W.heap.size, 1, none⟩) (by simp) (by simp; omega)
        have hbc := hCb.box.cell
        have hbf := hCb.box.frozen
        have HCB := Lib.hid hCb
        have HKB := Lib.hid hkb
        have HKA := Lib.hid hka
        have HWB := Lib.hid hWb
        obtain ⟨i0, hinf, hz0, hz1, hz2⟩ := info_parts infoE
        have hlen : pre.length ≤ xs.length := by
          have := congrArg List.length hd.1
          rw [(drain_perm lt _).length_eq, pushes_length, numbered_length] at this
          simp at this; omega
        have HD := Lib.hid hd
        have HINV := Lib.hid hi
        have HST := Lib.hid hh
        clear hCa hka hCb hkb hWb hd hi hh
        gi_wp2_with (gi_at_builtin; refine wpListIn_append_own _ rfl _ _ 29 rfl wr.heap.size 27 i0 (.agg #[.int .i64 0, .int .i64 0]) 2 16 Try.underlying29 hinf hz0 hz1 hz2 rfl (by decide) vo pre.length ((pre.map Prod.fst).flatMap It.cells) rfl (HCB.out.row.alloc _) ⟨Wb.heap.size, 0, none⟩ 1 1 [.int .i64 a0, .int .i64 a1] rfl rfl (cells_new _ _ _) (by simp [Value.oneCell']) (by unfold maxLen; omega) (by omega) (by have := HCB.out.kept.size; simp; omega) ?_; intro vo' w3 hown' hgrow _; obtain ⟨g', cap', rfl⟩ := ownsRow_succ hown'; obtain ⟨hb3, hC3, hK3⟩ := HCB.out.appended (by decide) hown' hgrow; have hc3 := hb3.cell; have hf3 := hb3.frozen; have HC3 := Lib.hid hC3; have HK3 := Lib.hid hK3; clear hown' hgrow hb3 hC3 hK3)
        have hC4 := HC3.out.put (ro' := .loop (ro .ready none)) rfl
        have hk4 : Kept (fun i => wr.heap.size ≤ i) W ((w3.setCell ⟨wr.heap.size, 0, none⟩ (.slice (some ⟨g', 0, none⟩) (pre.length + 1) cap')).putObj (W0.heap.size + 1) (.loop (ro .ready none))) :=
          ((Kept.trans (Kept.any HKA.out) HKB.out (S' := fun i => i = W0.heap.size + 1) (S := fun i => wr.heap.size ≤ i) (fun i e => .inl (by omega))).trans HK3.out (fun i hi => .inl hi)).putObj (.inl (by omega)) _
        refine ⟨HC3.out.lp, rfl, ?_, ?_, (hC4.bx _ (List.mem_singleton.2 rfl)).cell, hv', .slice (some ⟨g', 0, none⟩) (pre.length + 1) cap', ?_⟩
        · exact HST.out.kept hk4 (by have := hO _ (.inl rfl); omega) (fun i hi => by have := hO i (.inr (hv' ▸ hi)); omega)
        · exact LL.out.stable _ _ HINV.out (hk4.mono (fun i _ hi => by omega))
        · simpa [It.cells] using hC4
      rintro e W' ⟨⟨u, rfl⟩, ⟨v1, hst⟩ | ⟨_, _, _, _, hf⟩⟩
      · refine ⟨⟨u, rfl⟩, .inl ?_⟩
        obtain ⟨_, _, _, _, vo, hC⟩ := hst
        have HC := Lib.hid hC
        refine ⟨HC.out.lp, ?_⟩
        have hC2 := HC.out.put (ro' := .loop (ro .exhausted none)) rfl
        have HC2 := Lib.hid hC2
        have hc2 := hC2.box.cell
        clear hC hC2
        gi_wp2
        refine ⟨by simp, .inl ⟨_, _, rfl, run_takeDeferred HC2.out.dfr, ?_⟩⟩
        refine ⟨_, results_tmp rfl _ _ _, ?_⟩
        obtain ⟨hr5, hk5, _⟩ := HC2.out.last
        have e5 : (HpPure.drain lt (pushes lt [] (numbered 0 xs))).length = xs.length := by rw [(drain_perm lt _).length_eq, pushes_length, numbered_length]; simp
        rw [e5] at hr5
        refine ⟨vo, rfl, own_lower hr5 (fun k hk => Nat.le_trans hzz (hr5.lt k hk).1), HK.out.trans hk5 (fun i hi => .inr ?_)⟩
        exact HH.out.own_base i hi
      · exact hf.elim
end Go.Proofs.Ytfkhnhpphcpmmaa.HpItem
