/- The walks of package heap at the element type int, fifth part: Pop. Conditions: 'less' answers an order and turns nothing. -/
import Derived.Test.YtfkhnhpphcpmmaaHpInt4
import Derived.Outline
namespace Go.Proofs.Ytfkhnhpphcpmmaa.HpInt
open Go Go.RowKit Go.Proofs.Ytfkhnhpphcpmmaa.Lb Go.Proofs.Ytfkhnhpphcpmmaa.HpPure
set_option linter.unusedVariables false
set_option linter.unusedSimpArgs false

theorem Pop_none {w : World} {base h lf : Nat} {lcap : Array Value} {v : Value} {xs : List (It × Int)} {seq : Int} (H : IsHeap w base h lf lcap v xs seq) (hx : xs = []) :
    Calls Try.prog 35 #[.pointer (some ⟨h, 0, none⟩)] w fun e w' => e = .returned (.tuple #[.int .i64 0, .bool false]) ∧ Kept Nil w w' := by
  have HH := Lib.hid H
  have HX := Lib.hid hx
  clear H hx
  go_enter Try.func35, Try.ntmps35
  go_wp2_with fail
  refine (Peek_none (HH.out.nil ?_) HX.out).mono ?_
  · repeat (first | exact Kept.refl _ _ | refine Kept.drew ?_ | refine Kept.alloc ?_ _)
  rintro e w1 ⟨rfl, hk⟩
  have HK1 : Kept Nil w w1 := Kept.step (by (repeat (first | exact Kept.refl _ _ | refine Kept.drew ?_ | refine Kept.alloc ?_ _))) hk
  obtain ⟨hc1, hf1⟩ := hk.rulesAt (w.heap.size + 0) (by simp)
  have hz : w.heap.size + 0 ≤ w1.heap.size := by have := hk.size; simpa using this
  skip
  clear hk
  go_wp2
  go_ret2
  refine ⟨rfl, ?_⟩
  repeat (first | exact HK1 | refine Kept.drew ?_ | refine Kept.alloc ?_ _ | refine Kept.setCell ?_ (Or.inr (Nat.le_refl _)) _ | refine Kept.setCell ?_ (Or.inr (by simp)) _)

theorem pop_mid {w : World} {base h lf g cap m : Nat} {lcap : Array Value} {xs : List (It × Int)} {seq : Int} (H : IsHeap w base h lf lcap (.slice (some ⟨g, 0, none⟩) (m + 1) cap) xs seq) (hl : xs.length = m + 1) (hg : g ≠ h) :
    IsHeap (((w.setCell ⟨g, m * 2, none⟩ (.int .i64 0)).setCell ⟨g, m * 2 + 1, none⟩ (.int .u64 0)).setCell ⟨h, 1, none⟩ (.slice (some ⟨g, 0, none⟩) m cap)) base h lf lcap (.slice (some ⟨g, 0, none⟩) m cap) (xs.take m) seq ∧
    Kept (Own h (.slice (some ⟨g, 0, none⟩) (m + 1) cap)) w (((w.setCell ⟨g, m * 2, none⟩ (.int .i64 0)).setCell ⟨g, m * 2 + 1, none⟩ (.int .u64 0)).setCell ⟨h, 1, none⟩ (.slice (some ⟨g, 0, none⟩) m cap)) := by
  have ho := H.own
  rw [hl] at ho
  have hS : Own h (.slice (some ⟨g, 0, none⟩) (m + 1) cap) g := .inr rfl
  have hS2 : Own h (.slice (some ⟨g, 0, none⟩) (m + 1) cap) h := .inl rfl
  refine ⟨⟨H.hb, ?_, ?_, by simp [Value.ownBlock, hg], by have := H.few; simp; omega⟩, ?_⟩
  · have h0 : ((w.setCell ⟨g, m * 2, none⟩ (.int .i64 0)).setCell ⟨g, m * 2 + 1, none⟩ (.int .u64 0)).heap[h]? = some (.cells #[.func (.func lf) #[] lcap, .slice (some ⟨g, 0, none⟩) (m + 1) cap, .int .u64 seq] 71 (0, 0)) := by
      rw [heap_set_other hg.symm, heap_set_other hg.symm]
      exact H.hd
    exact heap_set h0 1 _
  · have h1 := own_shrink (m := m) ((ho.stored (m * 2) (.int .i64 0)).1.stored (m * 2 + 1) (.int .u64 0)).1 (by omega)
    rw [List.take_set_of_le (by omega), List.take_set_of_le (by omega), flat_take pc_len] at h1
    have hlt : (xs.take m).length = m := by rw [List.length_take]; omega
    rw [hlt]
    have k : Kept (fun k => k = h) ((w.setCell ⟨g, m * 2, none⟩ (.int .i64 0)).setCell ⟨g, m * 2 + 1, none⟩ (.int .u64 0)) (((w.setCell ⟨g, m * 2, none⟩ (.int .i64 0)).setCell ⟨g, m * 2 + 1, none⟩ (.int .u64 0)).setCell ⟨h, 1, none⟩ (.slice (some ⟨g, 0, none⟩) m cap)) := (Kept.refl (fun k => k = h) _).setCell (p := ⟨h, 1, none⟩) (.inl rfl) _
    exact k.own h1 (fun i hi => by simp [Value.ownBlock] at hi; omega)
  · exact (((Kept.refl (Own h (.slice (some ⟨g, 0, none⟩) (m + 1) cap)) w).setCell (p := ⟨g, m * 2, none⟩) (.inl hS) (.int .i64 0)).setCell (p := ⟨g, m * 2 + 1, none⟩) (.inl hS) (.int .u64 0)).setCell (p := ⟨h, 1, none⟩) (.inl hS2) _

theorem zero_run (w : World) : (zeroValue 73).run Try.prog w = .ok (.agg #[.int .i64 0, .int .u64 0]) w := by kernel_rfl
theorem run_clear (g m c : Nat) (w : World) {b0 : Int} {b1 : Int} (cb0 : w.cell? ⟨g, m * 2, none⟩ = some (.int .i64 b0)) (cb1 : w.cell? ⟨g, m * 2 + 1, none⟩ = some (.int .u64 b1)) (hf : ∀ k, w.frozen? ⟨g, k, none⟩ = false) :
    (Builtin.clear_ #[69] 0 #[.slice (some ⟨g, m * 2, none⟩) 1 c]).run Try.prog w = .ok (.tuple #[]) ((w.setCell ⟨g, m * 2, none⟩ (.int .i64 0)).setCell ⟨g, m * 2 + 1, none⟩ (.int .u64 0)) := by
  have hu := run_underlying (w := w) Try.underlying69
  have hz := zero_run w
  simp [Builtin.clear_, go_sem, hu, hz, Builtin.zeroCells, Value.cells, cb0, cb1, hf]

set_option maxHeartbeats 2000000 in
theorem Pop_some {lt : It → It → Bool} {Inv : World → Prop} {w : World} {base h lf : Nat} {lcap : Array Value} {v : Value} {xs : List (It × Int)} {seq : Int} (L : Less lt lf lcap base Inv) (H : IsHeap w base h lf lcap v xs seq) (hI : Inv w) {a0 : Int} {a1 : Int} (hx : xs[0]? = some (⟨a0⟩, a1)) :
    Calls Try.prog 35 #[.pointer (some ⟨h, 0, none⟩)] w fun e w' => ∃ v', e = .returned (.tuple #[.int .i64 a0, .bool true]) ∧ IsHeap w' base h lf lcap v' (pop lt xs) seq ∧ Kept (Own h v) w w' ∧ v'.ownBlock = v.ownBlock := by
  have hn := (List.getElem?_eq_some_iff.1 hx).1
  have HH := Lib.hid H
  have LL := Lib.hid L
  have HX := Lib.hid hx
  clear H L hx
  go_enter Try.func35, Try.ntmps35
  go_wp2_with fail
  refine (Peek_some (HH.out.nil ?_) HX.out).mono ?_
  · repeat (first | exact Kept.refl _ _ | refine Kept.drew ?_ | refine Kept.alloc ?_ _)
  rintro e w1 ⟨rfl, hk⟩
  have HK1 : Kept Nil w w1 := Kept.step (by (repeat (first | exact Kept.refl _ _ | refine Kept.drew ?_ | refine Kept.alloc ?_ _))) hk
  obtain ⟨hc1, hf1⟩ := hk.rulesAt (w.heap.size + 0) (by simp)
  have hz : w.heap.size + 0 ≤ w1.heap.size := by have := hk.size; simpa using this
  skip
  clear hk
  have H1 := HH.out.nil HK1
  have hfew := H1.few
  obtain ⟨c0, c1, c2, cf, hh⟩ := HH.out.cells
  have hh2 : h < w.heap.size + 0 := by omega
  have hh3 : h < w1.heap.size := by omega
  obtain ⟨g, cap, rfl, hbg, hne, hgs, hcap, hm, hf⟩ := HH.out.row hn
  have hp : ((xs.length : Int) - 1) = ((xs.length - 1 : Nat) : Int) := by omega
  have HP := Lib.hid hp
  have HH1 := Lib.hid H1
  have HHK1 := Lib.hid HK1
  clear hp H1 HK1
  go_wp2_with fail
  rw [HP.out]
  refine (swap_is (HH1.out.nil ?_) 0 (xs.length - 1) hn (by omega)).mono ?_
  · repeat (first | exact Kept.refl _ _ | refine Kept.drew ?_ | refine Kept.alloc ?_ _)
  rintro e w2 ⟨rfl, H2, hk2⟩
  have e2 : (swap xs 0 (xs.length - 1))[xs.length - 1]? = some (⟨a0⟩, a1) := by rw [swap_get hn (by omega), if_pos rfl]; exact HX.out
  obtain ⟨l0c, l1c⟩ := H2.at (by rw [swap_length]) e2
  obtain ⟨d0, d1, d2, df, dh⟩ := H2.cells
  have fz : ∀ k, w2.frozen? ⟨g, k, none⟩ = false := fun k => by
    have ho := H2.own
    rw [swap_length] at ho
    exact ho.frozenAt k
  have H2l : (swap xs 0 (xs.length - 1)).length = xs.length := swap_length _ _ _
  have hpop : pop lt xs = down lt ((swap xs 0 (xs.length - 1)).take (xs.length - 1)) 0 := rfl
  have HPOP := Lib.hid hpop
  have HK2 := Lib.hid hk2
  generalize hys : swap xs 0 (xs.length - 1) = ys at *
  have HYS := Lib.hid hys
  clear e2 hpop hk2 hys
  generalize hlen : xs.length = n at *
  obtain ⟨m, rfl⟩ : ∃ m, n = m + 1 := ⟨n - 1, by omega⟩
  simp only [Nat.add_sub_cancel] at *
  have HLEN := Lib.hid hlen
  have H2L := Lib.hid H2l
  have PM := Lib.hid (pop_mid H2 H2l hne)
  clear hlen H2l H2
  have RC := run_clear g m (cap - m) w2 l0c l1c fz
  go_wp2_with fail
  refine (down_is LL.out PM.out.1 ?_ 0 (by simp)).mono ?_
  · refine LL.out.stable _ _ (LL.out.stable _ _ hI (Kept.any (S := fun k => base ≤ k) HHK1.out)) ?_
    have k1 : Kept (fun k => base ≤ k) w1 w2 := Kept.trans (S := fun k => base ≤ k) (by (repeat (first | exact Kept.refl _ _ | refine Kept.drew ?_ | refine Kept.alloc ?_ _))) HK2.out (fun i hi => .inl (HH1.out.own_base i hi))
    exact k1.trans PM.out.2 (fun i hi => .inl (HH1.out.own_base i hi))
  rintro e w5 ⟨rfl, H5, hk5⟩
  have kW := (HK2.out.trans PM.out.2 (fun i hi => .inl hi)).trans hk5 (fun i hi => .inl hi)
  have hsz5 := kW.size
  have hW5 : w1.heap.size ≤ w5.heap.size := by omega
  have hw5 : w.heap.size ≤ w5.heap.size := by omega

  have KF : Kept (Own h (Value.slice (some ⟨g, 0, none⟩) (m + 1) cap)) w w5 := (Kept.step (Kept.any HHK1.out) (by (repeat (first | exact Kept.refl _ _ | refine Kept.drew ?_ | refine Kept.alloc ?_ _)))).trans kW (fun i hi => .inl hi)
  have H5' : IsHeap w5 base h lf lcap (.slice (some ⟨g, 0, none⟩) m cap) (pop lt xs) seq := by rw [HPOP.out]; exact H5
  have HH5 := Lib.hid H5'
  have HKF := Lib.hid KF
  clear hc1 hf1 kW hk5 H5 H5' KF hsz5 RC l0c l1c
  go_wp2
  go_ret2
  exact ⟨.slice (some ⟨g, 0, none⟩) m cap, rfl, HH5.out, HKF.out, rfl⟩

end Go.Proofs.Ytfkhnhpphcpmmaa.HpInt
