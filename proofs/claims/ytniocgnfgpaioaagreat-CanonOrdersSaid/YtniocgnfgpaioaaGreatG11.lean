/- The walks of package heap at the element type sandtable/api.Link, fifth part: Pop. Conditions: 'less' answers an order and turns nothing; The walks of package heap at the element type sandtable/api.Link, sixth part: Drain and its iterator. Conditions: 'less' answers an order and turns nothing; the loop's body leaves the heap alone; The walks of package heap at the element type sandtable/api.Link, seventh part: Sort. Conditions: 'less' answers an order and turns nothing. -/
import Derived.Test.YtniocgnfgpaioaaGreatG10
import Derived.Outline
import Derived.Test.YtniocgnfgpaioaaGreatG4
import Derived.Test.YtniocgnfgpaioaaGreatG7
import Derived.Shelf.Abstract
import Derived.Shelf.RegionOpen
set_option linter.unusedVariables false
set_option linter.unusedSimpArgs false
section
namespace Go.Proofs.YtniocgnfgpaioaaGreat.HpLi
open Go Go.RowKit Go.Proofs.YtniocgnfgpaioaaGreat.Lb Go.Proofs.YtniocgnfgpaioaaGreat.HpPure
set_option maxRecDepth 8000

set_option maxHeartbeats 4000000 in
theorem Pop_none {w : World} {base h lf : Nat} {lcap : Array Value} {v : Value} {xs : List (It × Int)} {seq : Int} (H : IsHeap w base h lf lcap v xs seq) (hx : xs = []) :
  Calls Tryz.prog 135 #[.pointer (some ⟨h, 0, none⟩)] w fun e w' => e = .returned (.tuple #[.agg #[.string ⟨#[]⟩, .string ⟨#[]⟩, .string ⟨#[]⟩, .int .i64 0, .int .i64 0], .bool false]) ∧ Kept Nil w w' := by
 have HH := Lib.hid H
 have HX := Lib.hid hx
 clear H hx
 go_enter Tryz.func135, Tryz.ntmps135
 go_wp2_with fail
 refine (Peek_none (HH.out.nil ?_) HX.out).mono ?_
 ·repeat (first | exact Kept.refl _ _ | refine Kept.drew ?_ | refine Kept.alloc ?_ _)
 rintro e w1 ⟨rfl, hk⟩
 have HK1 : Kept Nil w w1 := Kept.step (by (repeat (first | exact Kept.refl _ _ | refine Kept.drew ?_ | refine Kept.alloc ?_ _))) hk
 obtain ⟨hc1, hf1⟩ := hk.rulesAt (w.heap.size + 1) (by simp)
 have hz : w.heap.size + 1 ≤ w1.heap.size := by have := hk.size; simpa using this
 have hz1 : w.heap.size < w1.heap.size := by omega
 clear hk
 go_wp2
 refine bodyPost_ret (v := .tuple #[.agg #[.string ⟨#[]⟩, .string ⟨#[]⟩, .string ⟨#[]⟩, .int .i64 0, .int .i64 0], .bool false]) (by simp [results, Tryz.results135, go_sem, hc1, hz1]) rfl ⟨rfl, ?_⟩
 repeat (first | exact HK1 | refine Kept.drew ?_ | refine Kept.alloc ?_ _ | refine Kept.setCell ?_ (Or.inr (Nat.le_refl _)) _ | refine Kept.setCell ?_ (Or.inr (by simp)) _)

set_option maxHeartbeats 4000000 in
theorem pop_mid {w : World} {base h lf g cap m : Nat} {lcap : Array Value} {xs : List (It × Int)} {seq : Int} (H : IsHeap w base h lf lcap (.slice (some ⟨g, 0, none⟩) (m + 1) cap) xs seq) (hl : xs.length = m + 1) (hg : g ≠ h) :
  IsHeap (((((((w.setCell ⟨g, m * 6, none⟩ (.string ⟨#[]⟩)).setCell ⟨g, m * 6 + 1, none⟩ (.string ⟨#[]⟩)).setCell ⟨g, m * 6 + 2, none⟩ (.string ⟨#[]⟩)).setCell ⟨g, m * 6 + 3, none⟩ (.int .i64 0)).setCell ⟨g, m * 6 + 4, none⟩ (.int .i64 0)).setCell ⟨g, m * 6 + 5, none⟩ (.int .u64 0)).setCell ⟨h, 1, none⟩ (.slice (some ⟨g, 0, none⟩) m cap)) base h lf lcap (.slice (some ⟨g, 0, none⟩) m cap) (xs.take m) seq ∧
  Kept (Own h (.slice (some ⟨g, 0, none⟩) (m + 1) cap)) w (((((((w.setCell ⟨g, m * 6, none⟩ (.string ⟨#[]⟩)).setCell ⟨g, m * 6 + 1, none⟩ (.string ⟨#[]⟩)).setCell ⟨g, m * 6 + 2, none⟩ (.string ⟨#[]⟩)).setCell ⟨g, m * 6 + 3, none⟩ (.int .i64 0)).setCell ⟨g, m * 6 + 4, none⟩ (.int .i64 0)).setCell ⟨g, m * 6 + 5, none⟩ (.int .u64 0)).setCell ⟨h, 1, none⟩ (.slice (some ⟨g, 0, none⟩) m cap)) := by
 have ho := H.own
 rw [hl] at ho
 have hS : Own h (.slice (some ⟨g, 0, none⟩) (m + 1) cap) g := .inr rfl
 have hS2 : Own h (.slice (some ⟨g, 0, none⟩) (m + 1) cap) h := .inl rfl
 refine ⟨⟨H.hb, ?_, ?_, by simp [Value.ownBlock, hg], by have := H.few; simp; omega⟩, ?_⟩
 ·have h0 : ((((((w.setCell ⟨g, m * 6, none⟩ (.string ⟨#[]⟩)).setCell ⟨g, m * 6 + 1, none⟩ (.string ⟨#[]⟩)).setCell ⟨g, m * 6 + 2, none⟩ (.string ⟨#[]⟩)).setCell ⟨g, m * 6 + 3, none⟩ (.int .i64 0)).setCell ⟨g, m * 6 + 4, none⟩ (.int .i64 0)).setCell ⟨g, m * 6 + 5, none⟩ (.int .u64 0)).heap[h]? = some (.cells #[.func (.func lf) #[] lcap, .slice (some ⟨g, 0, none⟩) (m + 1) cap, .int .u64 seq] 204 (0, 0)) := by
   rw [heap_set_other hg.symm, heap_set_other hg.symm, heap_set_other hg.symm, heap_set_other hg.symm, heap_set_other hg.symm, heap_set_other hg.symm]
   exact H.hd
  exact heap_set h0 1 _
 ·have h1 := own_shrink (m := m) ((((((ho.stored (m * 6) (.string ⟨#[]⟩)).1.stored (m * 6 + 1) (.string ⟨#[]⟩)).1.stored (m * 6 + 2) (.string ⟨#[]⟩)).1.stored (m * 6 + 3) (.int .i64 0)).1.stored (m * 6 + 4) (.int .i64 0)).1.stored (m * 6 + 5) (.int .u64 0)).1 (by omega)
  rw [List.take_set_of_le (by omega), List.take_set_of_le (by omega), List.take_set_of_le (by omega), List.take_set_of_le (by omega), List.take_set_of_le (by omega), List.take_set_of_le (by omega), flat_take pc_len] at h1
  have hlt : (xs.take m).length = m := by rw [List.length_take]; omega
  rw [hlt]
  have k : Kept (fun k => k = h) ((((((w.setCell ⟨g, m * 6, none⟩ (.string ⟨#[]⟩)).setCell ⟨g, m * 6 + 1, none⟩ (.string ⟨#[]⟩)).setCell ⟨g, m * 6 + 2, none⟩ (.string ⟨#[]⟩)).setCell ⟨g, m * 6 + 3, none⟩ (.int .i64 0)).setCell ⟨g, m * 6 + 4, none⟩ (.int .i64 0)).setCell ⟨g, m * 6 + 5, none⟩ (.int .u64 0)) (((((((w.setCell ⟨g, m * 6, none⟩ (.string ⟨#[]⟩)).setCell ⟨g, m * 6 + 1, none⟩ (.string ⟨#[]⟩)).setCell ⟨g, m * 6 + 2, none⟩ (.string ⟨#[]⟩)).setCell ⟨g, m * 6 + 3, none⟩ (.int .i64 0)).setCell ⟨g, m * 6 + 4, none⟩ (.int .i64 0)).setCell ⟨g, m * 6 + 5, none⟩ (.int .u64 0)).setCell ⟨h, 1, none⟩ (.slice (some ⟨g, 0, none⟩) m cap)) := (Kept.refl (fun k => k = h) _).setCell (p := ⟨h, 1, none⟩) (.inl rfl) _
  exact k.own h1 (fun i hi => by simp [Value.ownBlock] at hi; omega)
 ·exact (((((((Kept.refl (Own h (.slice (some ⟨g, 0, none⟩) (m + 1) cap)) w).setCell (p := ⟨g, m * 6, none⟩) (.inl hS) (.string ⟨#[]⟩)).setCell (p := ⟨g, m * 6 + 1, none⟩) (.inl hS) (.string ⟨#[]⟩)).setCell (p := ⟨g, m * 6 + 2, none⟩) (.inl hS) (.string ⟨#[]⟩)).setCell (p := ⟨g, m * 6 + 3, none⟩) (.inl hS) (.int .i64 0)).setCell (p := ⟨g, m * 6 + 4, none⟩) (.inl hS) (.int .i64 0)).setCell (p := ⟨g, m * 6 + 5, none⟩) (.inl hS) (.int .u64 0)).setCell (p := ⟨h, 1, none⟩) (.inl hS2) _

set_option maxHeartbeats 4000000 in
theorem zero_run (w : World) : (zeroValue 206).run Tryz.prog w = .ok (.agg #[.string ⟨#[]⟩, .string ⟨#[]⟩, .string ⟨#[]⟩, .int .i64 0, .int .i64 0, .int .u64 0]) w := by kernel_rfl
set_option maxHeartbeats 4000000 in
theorem run_clear (g m c : Nat) (w : World) {b0 : ByteArray} {b1 : ByteArray} {b2 : ByteArray} {b3 : Int} {b4 : Int} {b5 : Int} (cb0 : w.cell? ⟨g, m * 6, none⟩ = some (.string b0)) (cb1 : w.cell? ⟨g, m * 6 + 1, none⟩ = some (.string b1)) (cb2 : w.cell? ⟨g, m * 6 + 2, none⟩ = some (.string b2)) (cb3 : w.cell? ⟨g, m * 6 + 3, none⟩ = some (.int .i64 b3)) (cb4 : w.cell? ⟨g, m * 6 + 4, none⟩ = some (.int .i64 b4)) (cb5 : w.cell? ⟨g, m * 6 + 5, none⟩ = some (.int .u64 b5)) (hf : ∀ k, w.frozen? ⟨g, k, none⟩ = false) :
  (Builtin.clear_ #[202] 0 #[.slice (some ⟨g, m * 6, none⟩) 1 c]).run Tryz.prog w = .ok (.tuple #[]) ((((((w.setCell ⟨g, m * 6, none⟩ (.string ⟨#[]⟩)).setCell ⟨g, m * 6 + 1, none⟩ (.string ⟨#[]⟩)).setCell ⟨g, m * 6 + 2, none⟩ (.string ⟨#[]⟩)).setCell ⟨g, m * 6 + 3, none⟩ (.int .i64 0)).setCell ⟨g, m * 6 + 4, none⟩ (.int .i64 0)).setCell ⟨g, m * 6 + 5, none⟩ (.int .u64 0)) := by
 have hu := run_underlying (w := w) Tryz.underlying202
 have hz := zero_run w
 simp [Builtin.clear_, go_sem, hu, hz, Builtin.zeroCells, Value.cells, cb0, cb1, cb2, cb3, cb4, cb5, hf]

set_option maxHeartbeats 2000000 in
theorem Pop_some {lt : It → It → Bool} {Inv : World → Prop} {w : World} {base h lf : Nat} {lcap : Array Value} {v : Value} {xs : List (It × Int)} {seq : Int} (L : Less lt lf lcap base Inv) (H : IsHeap w base h lf lcap v xs seq) (hI : Inv w) {a0 : ByteArray} {a1 : ByteArray} {a2 : ByteArray} {a3 : Int} {a4 : Int} {a5 : Int} (hx : xs[0]? = some (⟨a0, a1, a2, a3, a4⟩, a5)) :
  Calls Tryz.prog 135 #[.pointer (some ⟨h, 0, none⟩)] w fun e w' => ∃ v', e = .returned (.tuple #[.agg #[.string a0, .string a1, .string a2, .int .i64 a3, .int .i64 a4], .bool true]) ∧ IsHeap w' base h lf lcap v' (pop lt xs) seq ∧ Kept (Own h v) w w' ∧ v'.ownBlock = v.ownBlock := by
 have hn := (List.getElem?_eq_some_iff.1 hx).1
 have HH := Lib.hid H
 have LL := Lib.hid L
 have HX := Lib.hid hx
 clear H L hx
 go_enter Tryz.func135, Tryz.ntmps135
 go_wp2_with fail
 refine (Peek_some (HH.out.nil ?_) HX.out).mono ?_
 ·repeat (first | exact Kept.refl _ _ | refine Kept.drew ?_ | refine Kept.alloc ?_ _)
 rintro e w1 ⟨rfl, hk⟩
 have HK1 : Kept Nil w w1 := Kept.step (by (repeat (first | exact Kept.refl _ _ | refine Kept.drew ?_ | refine Kept.alloc ?_ _))) hk
 obtain ⟨hc1, hf1⟩ := hk.rulesAt (w.heap.size + 1) (by simp)
 have hz : w.heap.size + 1 ≤ w1.heap.size := by have := hk.size; simpa using this
 have hz1 : w.heap.size < w1.heap.size := by omega
 clear hk
 have H1 := HH.out.nil HK1
 have hfew := H1.few
 obtain ⟨c0, c1, c2, cf, hh⟩ := HH.out.cells
 have hh2 : h < w.heap.size + 1 := by omega
 have hh3 : h < w1.heap.size := by omega
 obtain ⟨g, cap, rfl, hbg, hne, hgs, hcap, hm, hf⟩ := HH.out.row hn
 have hp : ((xs.length : Int) - 1) = ((xs.length - 1 : Nat) : Int) := by omega
 have HP := Lib.hid hp
 have HH1 := Lib.hid H1
 have HHK1 := Lib.hid HK1
 clear hp H1 HK1
 go_wp2_with fail
 rw [HP.out]
 refine (swap_is (HH1.out.nil ?_) 0 (xs.length - 1) hn (by omega)).mono ?_
 ·repeat (first | exact Kept.refl _ _ | refine Kept.drew ?_ | refine Kept.alloc ?_ _)
 rintro e w2 ⟨rfl, H2, hk2⟩
 have e2 : (swap xs 0 (xs.length - 1))[xs.length - 1]? = some (⟨a0, a1, a2, a3, a4⟩, a5) := by rw [swap_get hn (by omega), if_pos rfl]; exact HX.out
 obtain ⟨l0c, l1c, l2c, l3c, l4c, l5c⟩ := H2.at (by rw [swap_length]) e2
 obtain ⟨d0, d1, d2, df, dh⟩ := H2.cells
 have fz : ∀ k, w2.frozen? ⟨g, k, none⟩ = false := fun k => by
  have ho := H2.own
  rw [swap_length] at ho
  exact ho.frozenAt k
 have H2l : (swap xs 0 (xs.length - 1)).length = xs.length := swap_length _ _ _
 have hpop : pop lt xs = down lt ((swap xs 0 (xs.length - 1)).take (xs.length - 1)) 0 := rfl
 have HPOP := Lib.hid hpop
 have HK2 := Lib.hid hk2
 generalize hys : swap xs 0 (xs.length - 1) = ys at *
 have HYS := Lib.hid hys
 clear e2 hpop hk2 hys
 generalize hlen : xs.length = n at *
 obtain ⟨m, rfl⟩ : ∃ m, n = m + 1 := ⟨n - 1, by omega⟩
 simp only [Nat.add_sub_cancel] at *
 have HLEN := Lib.hid hlen
 have H2L := Lib.hid H2l
 have PM := Lib.hid (pop_mid H2 H2l hne)
 clear hlen H2l H2
 have RC := run_clear g m (cap - m) w2 l0c l1c l2c l3c l4c l5c fz
 go_wp2_with fail
 refine (down_is LL.out PM.out.1 ?_ 0 (by simp)).mono ?_
 ·refine LL.out.stable _ _ (LL.out.stable _ _ hI (Kept.any (S := fun k => base ≤ k) HHK1.out)) ?_
  have k1 : Kept (fun k => base ≤ k) w1 w2 := Kept.trans (S := fun k => base ≤ k) (by (repeat (first | exact Kept.refl _ _ | refine Kept.drew ?_ | refine Kept.alloc ?_ _))) HK2.out (fun i hi => .inl (HH1.out.own_base i hi))
  exact k1.trans PM.out.2 (fun i hi => .inl (HH1.out.own_base i hi))
 rintro e w5 ⟨rfl, H5, hk5⟩
 have kW := (HK2.out.trans PM.out.2 (fun i hi => .inl hi)).trans hk5 (fun i hi => .inl hi)
 have hsz5 := kW.size
 have hW5 : w1.heap.size < w5.heap.size := by simp at hsz5; omega
 have hw5 : w.heap.size < w5.heap.size := by omega
 have b40 : w5.cell? ⟨w1.heap.size, 0, none⟩ = some (.string a0) := kW.cell (by simp) (by rintro (e | e) <;> simp [Value.ownBlock] at e <;> omega)
 have b41 : w5.cell? ⟨w1.heap.size, 1, none⟩ = some (.string a1) := kW.cell (by simp) (by rintro (e | e) <;> simp [Value.ownBlock] at e <;> omega)
 have b42 : w5.cell? ⟨w1.heap.size, 2, none⟩ = some (.string a2) := kW.cell (by simp) (by rintro (e | e) <;> simp [Value.ownBlock] at e <;> omega)
 have b43 : w5.cell? ⟨w1.heap.size, 3, none⟩ = some (.int .i64 a3) := kW.cell (by simp) (by rintro (e | e) <;> simp [Value.ownBlock] at e <;> omega)
 have b44 : w5.cell? ⟨w1.heap.size, 4, none⟩ = some (.int .i64 a4) := kW.cell (by simp) (by rintro (e | e) <;> simp [Value.ownBlock] at e <;> omega)
 have b20 : w5.cell? ⟨w.heap.size, 0, none⟩ = some (.string ⟨#[]⟩) := kW.cell (by rw [World.cell?_alloc_past _ _ _ hz1, hc1 _ _ (by omega)]; simp) (by rintro (e | e) <;> simp [Value.ownBlock] at e <;> omega)
 have f20 : w5.frozen? ⟨w.heap.size, 0, none⟩ = false := kW.frozen (by simp; omega) (by rw [World.frozen?_alloc_past _ _ _ hz1, hf1 _ _ (by omega)]; simp) (by rintro (e | e) <;> simp [Value.ownBlock] at e <;> omega)
 have b21 : w5.cell? ⟨w.heap.size, 1, none⟩ = some (.string ⟨#[]⟩) := kW.cell (by rw [World.cell?_alloc_past _ _ _ hz1, hc1 _ _ (by omega)]; simp) (by rintro (e | e) <;> simp [Value.ownBlock] at e <;> omega)
 have f21 : w5.frozen? ⟨w.heap.size, 1, none⟩ = false := kW.frozen (by simp; omega) (by rw [World.frozen?_alloc_past _ _ _ hz1, hf1 _ _ (by omega)]; simp) (by rintro (e | e) <;> simp [Value.ownBlock] at e <;> omega)
 have b22 : w5.cell? ⟨w.heap.size, 2, none⟩ = some (.string ⟨#[]⟩) := kW.cell (by rw [World.cell?_alloc_past _ _ _ hz1, hc1 _ _ (by omega)]; simp) (by rintro (e | e) <;> simp [Value.ownBlock] at e <;> omega)
 have f22 : w5.frozen? ⟨w.heap.size, 2, none⟩ = false := kW.frozen (by simp; omega) (by rw [World.frozen?_alloc_past _ _ _ hz1, hf1 _ _ (by omega)]; simp) (by rintro (e | e) <;> simp [Value.ownBlock] at e <;> omega)
 have b23 : w5.cell? ⟨w.heap.size, 3, none⟩ = some (.int .i64 0) := kW.cell (by rw [World.cell?_alloc_past _ _ _ hz1, hc1 _ _ (by omega)]; simp) (by rintro (e | e) <;> simp [Value.ownBlock] at e <;> omega)
 have f23 : w5.frozen? ⟨w.heap.size, 3, none⟩ = false := kW.frozen (by simp; omega) (by rw [World.frozen?_alloc_past _ _ _ hz1, hf1 _ _ (by omega)]; simp) (by rintro (e | e) <;> simp [Value.ownBlock] at e <;> omega)
 have b24 : w5.cell? ⟨w.heap.size, 4, none⟩ = some (.int .i64 0) := kW.cell (by rw [World.cell?_alloc_past _ _ _ hz1, hc1 _ _ (by omega)]; simp) (by rintro (e | e) <;> simp [Value.ownBlock] at e <;> omega)
 have f24 : w5.frozen? ⟨w.heap.size, 4, none⟩ = false := kW.frozen (by simp; omega) (by rw [World.frozen?_alloc_past _ _ _ hz1, hf1 _ _ (by omega)]; simp) (by rintro (e | e) <;> simp [Value.ownBlock] at e <;> omega)
 have KF : Kept (Own h (Value.slice (some ⟨g, 0, none⟩) (m + 1) cap)) w w5 := (Kept.step (Kept.any HHK1.out) (by (repeat (first | exact Kept.refl _ _ | refine Kept.drew ?_ | refine Kept.alloc ?_ _)))).trans kW (fun i hi => .inl hi)
 have H5' : IsHeap w5 base h lf lcap (.slice (some ⟨g, 0, none⟩) m cap) (pop lt xs) seq := by rw [HPOP.out]; exact H5
 have HH5 := Lib.hid H5'
 have HKF := Lib.hid KF
 clear hc1 hf1 kW hk5 H5 H5' KF hsz5 RC l0c l1c l2c l3c l4c l5c
 go_wp2
 refine bodyPost_ret (v := .tuple #[.agg #[.string a0, .string a1, .string a2, .int .i64 a3, .int .i64 a4], .bool true]) (by simp [results, Tryz.results135, go_sem, b20, b21, b22, b23, b24]) rfl ⟨.slice (some ⟨g, 0, none⟩) m cap, rfl, ?_, ?_, rfl⟩
 ·exact HH5.out.kept ((((((Kept.refl (fun k => w.heap.size ≤ k) w5).setCell (p := ⟨w.heap.size, 0, none⟩) (.inl (Nat.le_refl _)) (.string a0)).setCell (p := ⟨w.heap.size, 1, none⟩) (.inl (Nat.le_refl _)) (.string a1)).setCell (p := ⟨w.heap.size, 2, none⟩) (.inl (Nat.le_refl _)) (.string a2)).setCell (p := ⟨w.heap.size, 3, none⟩) (.inl (Nat.le_refl _)) (.int .i64 a3)).setCell (p := ⟨w.heap.size, 4, none⟩) (.inl (Nat.le_refl _)) (.int .i64 a4)) (by omega) (by intro k hk; simp [Value.ownBlock] at hk; omega)
 ·exact HKF.out.trans ((((((Kept.refl (fun k => w.heap.size ≤ k) w5).setCell (p := ⟨w.heap.size, 0, none⟩) (.inl (Nat.le_refl _)) (.string a0)).setCell (p := ⟨w.heap.size, 1, none⟩) (.inl (Nat.le_refl _)) (.string a1)).setCell (p := ⟨w.heap.size, 2, none⟩) (.inl (Nat.le_refl _)) (.string a2)).setCell (p := ⟨w.heap.size, 3, none⟩) (.inl (Nat.le_refl _)) (.int .i64 a3)).setCell (p := ⟨w.heap.size, 4, none⟩) (.inl (Nat.le_refl _)) (.int .i64 a4)) (fun i hi => .inr hi)

end Go.Proofs.YtniocgnfgpaioaaGreat.HpLi
end
section
namespace Go.Proofs.YtniocgnfgpaioaaGreat.HpLi
open Go Go.RowKit Go.Proofs.YtniocgnfgpaioaaGreat.Lb Go.Proofs.YtniocgnfgpaioaaGreat.HpPure
set_option maxRecDepth 8000
attribute [local go_sem] Oper.semAt_some

theorem Drain_is (h : Nat) (w : World) : Calls Tryz.prog 111 #[.pointer (some ⟨h, 0, none⟩)] w fun e w' => e = .returned (.func (.func 134) #[] #[.pointer (some ⟨w.heap.size, 0, none⟩)]) ∧ w' = w.alloc (.cells #[.pointer (some ⟨h, 0, none⟩)] 161) := by
 go_enter Tryz.func111, Tryz.ntmps111
 go_wp2
 go_ret
 exact ⟨rfl, rfl⟩

/-- What has come, and what lies in the heap still. -/
def Dr (lt : It → It → Bool) (xs pre ys : List (It × Int)) : Prop := HpPure.drain lt xs = pre ++ HpPure.drain lt ys ∧ (SWO lt → HeapP lt xs → HeapP lt ys)

/-- How many there are, read off the world. -/
def lenAt (h : Nat) (w : World) : Nat := match w.cell? ⟨h, 1, none⟩ with
 | some (.slice _ n _) => n
 | _ => 0
theorem lenAt_is {w : World} {base h lf : Nat} {lcap : Array Value} {v : Value} {xs : List (It × Int)} {seq : Int} (H : IsHeap w base h lf lcap v xs seq) : lenAt h w = xs.length := by
 obtain ⟨A, cap, rfl⟩ := H.slice
 unfold lenAt; rw [H.cells.2.1]

/-- The state between two rounds. -/
structure St (lt : It → It → Bool) (Inv : World → Prop) (base h lf : Nat) (lcap : Array Value) (seq : Int) (Bx : Nat) (C : List (It × Int) → Value → World → Prop) (pre : List (It × Int)) (v : Value) (ys : List (It × Int)) (W : World) : Prop where
 heap : IsHeap W base h lf lcap v ys seq
 inv : Inv W
 box : W.cell? ⟨Bx, 0, none⟩ = some (.pointer (some ⟨h, 0, none⟩))
 own : C pre v W

theorem St.kept {lt : It → It → Bool} {Inv : World → Prop} {base h lf Bx : Nat} {lcap : Array Value} {seq : Int} {C : List (It × Int) → Value → World → Prop} {pre : List (It × Int)} {v v' : Value} {ys ys' : List (It × Int)} {W W' : World}
  (hst : St lt Inv base h lf lcap seq Bx C pre v ys W) (L : Less lt lf lcap base Inv)
  (hC : ∀ pre v v' S W W', C pre v W → Kept S W W' → (∀ k, S k → Own h v k) → v'.ownBlock = v.ownBlock → (v.ownBlock ≠ some Bx) ∧ C pre v' W') (hBx : Bx ≠ h)
  {S : Nat → Prop} (hk : Kept S W W') (hS : ∀ k, S k → Own h v k) (H' : IsHeap W' base h lf lcap v' ys' seq) (hv : v'.ownBlock = v.ownBlock) : St lt Inv base h lf lcap seq Bx C pre v' ys' W' := by
 have hc := hC pre v v' S W W' hst.own hk hS hv
 refine ⟨H', L.stable W W' hst.inv (hk.mono (fun i _ hi => hst.heap.own_base i (hS i hi))), hk.cell hst.box (fun hi => ?_), hc.2⟩
 rcases hS _ hi with e | e
 ·exact hBx e
 ·exact hc.1 e

set_option maxHeartbeats 2000000 in
theorem Drain1_in {lt : It → It → Bool} {Inv : World → Prop} {base h lf Bx : Nat} {lcap : Array Value} {seq : Int} (L : Less lt lf lcap base Inv) (n l : Nat) (hBx : Bx ≠ h) (xs : List (It × Int)) (C : List (It × Int) → Value → World → Prop) (Jx : List (It × Int) → Value → List (It × Int) → World → Prop)
  (hC : ∀ pre v v' S W W', C pre v W → Kept S W W' → (∀ k, S k → Own h v k) → v'.ownBlock = v.ownBlock → (v.ownBlock ≠ some Bx) ∧ C pre v' W')
  (hY : ∀ pre v ys x W, Dr lt xs (pre ++ [x]) ys → St lt Inv base h lf lcap seq Bx C pre v ys W → YieldAt Fence.wide (n - 1) Tryz.prog l #[x.1.val] W (fun e W' =>
   (e = .returned (.bool true) ∧ St lt Inv base h lf lcap seq Bx C (pre ++ [x]) v ys W') ∨ (e = .returned (.bool false) ∧ Jx (pre ++ [x]) v ys W')))
  (v0 : Value) (W : World) (h0 : St lt Inv base h lf lcap seq Bx C [] v0 xs W) :
  CallsIn Fence.wide n Tryz.prog 134 #[.func (.yield l) #[] #[], .pointer (some ⟨Bx, 0, none⟩)] W fun e W' => (∃ v, e = .returned v) ∧
   ((∃ v, St lt Inv base h lf lcap seq Bx C (HpPure.drain lt xs) v [] W') ∨ (∃ pre v ys, Dr lt xs pre ys ∧ Jx pre v ys W')) := by
 refine callsIn_of_wp Tryz.func134 rfl trivial ?_ rfl
 simp only [Tryz.ntmps134, List.size_toArray, List.length_cons, List.length_nil, Nat.reduceAdd, Nat.reduceSub, Array.replicate_succ, Array.replicate_zero, List.push_toArray, List.append_toArray, List.nil_append, List.cons_append]
 gi_wp2
 gi_loopw [4] (fun o wr => ∃ pre v ys, Dr lt xs pre ys ∧ St lt Inv base h lf lcap seq Bx C pre v ys wr) (fun o wr => lenAt h wr)
 case atStart => exact ⟨[], v0, xs, ⟨rfl, fun _ h => h⟩, h0⟩
 case round =>
  clear h0
  obtain ⟨pre, v, ys, hd, hst⟩ := hrel
  have hbox := hst.box
  have HST := Lib.hid hst
  have HD := Lib.hid hd
  clear hst hd
  cases hys : ys[0]? with
  | none =>
   have hnil : ys = [] := by simpa using hys
   subst hnil
   clear hys
   gi_wp2_with fail
   refine at_wide ((Pop_none HST.out.heap rfl).mono ?_)
   rintro e w1 ⟨rfl, hk⟩
   have hst1 : St lt Inv base h lf lcap seq Bx C pre v [] w1 := (St.kept HST.out L hC hBx (Kept.any (S := Nil) hk) (fun _ h => h.elim) (HST.out.heap.nil hk) rfl)
   have HST1 := Lib.hid hst1
   clear hst1
   gi_wp2
   refine ⟨(fun _ h => by cases h), ?_⟩
   gi_wp2
   refine bodyPost_ret (results_none rfl _ _ _) rfl ?_
   refine ⟨⟨_, rfl⟩, .inl ⟨v, ?_⟩⟩
   rw [HD.out.1, HpPure.drain_nil, List.append_nil]
   exact (St.kept HST1.out L hC hBx (Kept.any (S := Nil) ((Kept.refl Nil w1).alloc _)) (fun _ h => h.elim) (HST1.out.heap.nil ((Kept.refl Nil w1).alloc _)) rfl)
  | some x =>
   obtain ⟨⟨a0, a1, a2, a3, a4⟩, a5⟩ := x
   gi_wp2_with fail
   refine at_wide ((Pop_some L HST.out.heap HST.out.inv hys).mono ?_)
   rintro e w1 ⟨v1, rfl, H1, hk, hv⟩
   have hst1 : St lt Inv base h lf lcap seq Bx C pre v1 (HpPure.pop lt ys) w1 := (St.kept HST.out L hC hBx hk (fun _ h => h) H1 hv)
   have hd1 : Dr lt xs (pre ++ [(⟨a0, a1, a2, a3, a4⟩, a5)]) (HpPure.pop lt ys) := ⟨by rw [HD.out.1, HpPure.drain_cons lt hys, List.append_assoc]; rfl, fun h1 h2 => pop_heap h1 (HD.out.2 h1 h2)⟩
   have hst2 : St lt Inv base h lf lcap seq Bx C pre v1 (HpPure.pop lt ys) (w1.alloc (.cells #[.string a0, .string a1, .string a2, .int .i64 a3, .int .i64 a4] 42)) := (St.kept hst1 L hC hBx (Kept.any (S := Nil) ((Kept.refl Nil w1).alloc _)) (fun _ h => h.elim) (hst1.heap.nil ((Kept.refl Nil w1).alloc _)) rfl)
   obtain ⟨fn, tmps, assign, body, hy, hR⟩ := hY pre v1 _ _ _ hd1 hst2
   have HR := Lib.hid hR
   have HD1 := Lib.hid hd1
   have HYS := Lib.hid hys
   clear hst1 hst2 hd1 hR hk H1 hv hys
   simp only [It.val] at hy
   gi_wp2
   refine ⟨(fun h => by cases h), HR.out.mono ?_⟩
   rintro e W' (⟨rfl, hst⟩ | ⟨rfl, hj⟩)
   ·have HST2 := Lib.hid hst
    clear hst
    gi_wp2
    go_roundw
    case rel => exact ⟨pre ++ [_], v1, HpPure.pop lt ys, HD1.out, HST2.out⟩
    case measure =>
     rw [lenAt_is HST2.out.heap, lenAt_is HST.out.heap, pop_length]
     have : 0 < ys.length := by
      cases ys with
      | nil => cases HYS.out
      | cons a b => simp
     omega
   ·have HJ := Lib.hid hj
    clear hj
    gi_wp2
    refine bodyPost_ret (results_none rfl _ _ _) rfl ?_
    exact ⟨⟨_, rfl⟩, .inr ⟨pre ++ [_], v1, HpPure.pop lt ys, HD1.out, HJ.out⟩⟩

end Go.Proofs.YtniocgnfgpaioaaGreat.HpLi
end
section
namespace Go.Proofs.YtniocgnfgpaioaaGreat.HpLi
open Go Go.RowKit Go.Shelf Go.Proofs.YtniocgnfgpaioaaGreat.Lb Go.Proofs.YtniocgnfgpaioaaGreat.HpPure
set_option maxRecDepth 8000
attribute [local go_sem] Oper.semAt_some

/-- A row of elements, as it is read. -/
def Row (w : World) (A : Option Addr) (xs : List It) : Prop :=
 xs = [] ∨ ∃ b off, A = some ⟨b, off, none⟩ ∧ ∀ j x, xs[j]? = some x → (w.cell? ⟨b, off + j * 5, none⟩ = some (.string x.f0) ∧ w.cell? ⟨b, off + j * 5 + 1, none⟩ = some (.string x.f1) ∧ w.cell? ⟨b, off + j * 5 + 2, none⟩ = some (.string x.f2) ∧ w.cell? ⟨b, off + j * 5 + 3, none⟩ = some (.int .i64 x.f3) ∧ w.cell? ⟨b, off + j * 5 + 4, none⟩ = some (.int .i64 x.f4))
theorem Row.kept {w w' : World} {A : Option Addr} {xs : List It} {S : Nat → Prop} (h : Row w A xs) (hk : Kept S w w') (hS : ∀ b, (∃ off, A = some ⟨b, off, none⟩) → ¬ S b) : Row w' A xs := by
 rcases h with h | ⟨b, off, h, hc⟩
 ·exact .inl h
 ·exact .inr ⟨b, off, h, fun j x hj => ⟨hk.cell (hc j x hj).1 (hS b ⟨off, h⟩), hk.cell (hc j x hj).2.1 (hS b ⟨off, h⟩), hk.cell (hc j x hj).2.2.1 (hS b ⟨off, h⟩), hk.cell (hc j x hj).2.2.2.1 (hS b ⟨off, h⟩), hk.cell (hc j x hj).2.2.2.2 (hS b ⟨off, h⟩)⟩⟩
theorem Less.up {lt : It → It → Bool} {lf : Nat} {lcap : Array Value} {base base' : Nat} {Inv : World → Prop} (L : Less lt lf lcap base Inv) (hb : base ≤ base') : Less lt lf lcap base' Inv :=
 ⟨L.ent, fun W W' h k => L.stable W W' h (k.mono (fun i _ hi => by omega)), L.call⟩

theorem infoE : (Tryz.prog.info? 42).map (fun i => (i.zero, i.size, i.bytes)) = some (some (.agg #[.string ⟨#[]⟩, .string ⟨#[]⟩, .string ⟨#[]⟩, .int .i64 0, .int .i64 0]), 5, 64) := by kernel_rfl
set_option maxHeartbeats 2000000 in
theorem Sort_is {lt : It → It → Bool} {Inv : World → Prop} {w : World} {base lf : Nat} {lcap : Array Value} (L0 : Less lt lf lcap base Inv) (hI : Inv w) (hb : base ≤ w.heap.size) (A : Option Addr) (cap : Nat) (xs : List It) (hr : Row w A xs) (hn : xs.length ≤ 4294967295) :
  Calls Tryz.prog 72 #[.slice A xs.length cap, .func (.func lf) #[] lcap] w fun e w' => ∃ v, e = .returned v ∧ w'.ownsRow w.heap.size 42 5 v xs.length ((sortedBy lt xs).flatMap It.cells) ∧ Kept Nil w w' := by
 have L := L0.up hb
 have LL := Lib.hid L
 have HR := Lib.hid hr
 clear L L0 hr
 obtain ⟨nn, hnn⟩ : ∃ nn : Nat, nn = nn := ⟨0, rfl⟩
 refine (callsIn_wide (n := nn)).1 ?_
 clear hnn
 refine callsIn_of_wp_marks Tryz.func72 rfl trivial ?_ rfl
 simp only [Tryz.ntmps72, List.size_toArray, List.length_cons, List.length_nil, Nat.reduceAdd, Nat.reduceSub, Array.replicate_succ, Array.replicate_zero, List.push_toArray, List.append_toArray, List.nil_append, List.cons_append]
 gi_wp2_with fail
 refine at_wide ((New_is lf lcap w).mono ?_)
 rintro e w1 ⟨rfl, H1, hk1⟩
 have HH1 := Lib.hid H1
 have HK1 := Lib.hid hk1
 clear H1 hk1
 gi_wp2_with fail
 gi_loopw [14] (fun i wr => ∃ (k : Nat) (v : Value), i = .int .i64 k ∧ k ≤ xs.length ∧ IsHeap wr w.heap.size w.heap.size lf lcap v (pushes lt [] (numbered 0 (xs.take k))) k ∧ Kept Nil w wr) (fun i wr => xs.length - (intOf i).toNat)
 case atStart => exact ⟨0, _, rfl, Nat.zero_le _, HH1.out, HK1.out⟩
 case round =>
  obtain ⟨k, v, rfl, hk, hH, hK⟩ := hrel
  have HH := Lib.hid hH
  have HK := Lib.hid hK
  have hzz := hK.size
  clear hH hK
  by_cases hlt : k < xs.length
  ·obtain ⟨⟨a0, a1, a2, a3, a4⟩, ea⟩ : ∃ x, xs[k]? = some x := ⟨_, List.getElem?_eq_getElem hlt⟩
   have hr1 : Row wr A xs := HR.out.kept HK.out (fun _ _ h => h)
   obtain ⟨b, off, rfl, hc0, hc1, hc2, hc3, hc4⟩ : ∃ b off, A = some ⟨b, off, none⟩ ∧ wr.cell? ⟨b, off + k * 5, none⟩ = some (.string a0) ∧ wr.cell? ⟨b, off + k * 5 + 1, none⟩ = some (.string a1) ∧ wr.cell? ⟨b, off + k * 5 + 2, none⟩ = some (.string a2) ∧ wr.cell? ⟨b, off + k * 5 + 3, none⟩ = some (.int .i64 a3) ∧ wr.cell? ⟨b, off + k * 5 + 4, none⟩ = some (.int .i64 a4) := by
    rcases hr1 with rfl | ⟨b, off, h, hc⟩
    ·simp at hlt
    ·exact ⟨b, off, h, hc k _ ea⟩
   have HEA := Lib.hid ea
   clear hr1 ea
   gi_wp2_with fail
   refine at_wide ((Push_is LL.out (HH.out.nil ((Kept.refl Nil wr).alloc _)) (LL.out.stable _ _ hI (Kept.any (HK.out.step ((Kept.refl Nil wr).alloc _)))) a0 a1 a2 a3 a4 (by rw [pushes_length, numbered_length]; simp; omega) (by omega) (by omega)).mono ?_)
   rintro e w2 ⟨v2, rfl, H2, hk2, hv2⟩
   have H2' := Lib.hid H2
   have hkk : Kept Nil w w2 := (HK.out.step ((Kept.refl Nil wr).alloc _)).trans hk2 (fun i hi => .inr (HH.out.own_base i hi))
   have HKK := Lib.hid hkk
   clear H2 hk2 hv2 hkk
   gi_wp2_with fail
   go_roundw
   case rel =>
    refine ⟨k + 1, v2, by simp, hlt, ?_, HKK.out⟩
    have e1 : numbered 0 (xs.take (k + 1)) = numbered 0 (xs.take k) ++ [((⟨a0, a1, a2, a3, a4⟩ : It), (k : Int))] := by
     rw [List.take_add_one, HEA.out, numbered_append]
     simp [numbered, Nat.min_eq_left (Nat.le_of_lt hlt)]
    rw [e1, pushes_snoc]
    exact_mod_cast H2'.out
   case measure => simp [intOf]; omega
  ·obtain rfl : k = xs.length := by omega
   rw [List.take_length] at HH
   gi_wp2_with fail
   refine at_wide ((Drain_is w.heap.size _).mono ?_)
   rintro e w2 ⟨rfl, rfl⟩
   gi_wp2_with fail
   obtain ⟨W0, hW0⟩ : ∃ W0, ((wr.alloc (.cells #[.slice none 0 0] 23)).alloc (.cells #[.pointer (some ⟨w.heap.size, 0, none⟩)] 161)) = W0 := ⟨_, rfl⟩
   have hsz : W0.heap.size = wr.heap.size + 2 := by rw [← hW0]; simp
   have hk0 : Kept Nil wr W0 := by rw [← hW0]; exact ((Kept.refl Nil wr).alloc _).alloc _
   have hbx : Boxed W0 (wr.heap.size + 1) 161 (.pointer (some ⟨w.heap.size, 0, none⟩)) := by rw [← hW0]; have := Boxed.new (wr.alloc (.cells #[.slice none 0 0] 23)) 161 (.pointer (some ⟨w.heap.size, 0, none⟩)); rwa [World.size_alloc] at this
   have hbo : Boxed W0 wr.heap.size 23 (.slice none 0 0) := by rw [← hW0]; exact (Boxed.new wr _ _).alloc _
   rw [hW0]
   have HH0 : IsHeap W0 w.heap.size w.heap.size lf lcap v (pushes lt [] (numbered 0 xs)) xs.length := HH.out.nil hk0
   have hO : ∀ i, Own w.heap.size v i → i < wr.heap.size := fun i hi => by
    rcases hi with rfl | hi
    ·exact HH.out.cells.2.2.2.2
    ·exact (HH.out.own.lt i hi).2
   have hI0 : Inv W0 := LL.out.stable _ _ hI (Kept.any (HK.out.trans hk0 (fun i hi => .inl hi)))
   have hsz1 : wr.heap.size + 2 ≤ W0.heap.size := by omega
   clear hW0 hsz
   refine range_stmt' rfl (fun h => by cases h) (gf := 134) (lb := #[.pointer (some ⟨wr.heap.size + 1, 0, none⟩)]) rfl trivial (enters_of Tryz.func134 (by kernel_rfl) rfl) ?_
   intro fn ro _ hro
   have HRO := Lib.hid hro
   clear hro
   refine (Drain1_in LL.out (nn - 1) (W0.heap.size + 1) (Bx := wr.heap.size + 1) (h := w.heap.size) (seq := xs.length) (by omega) (pushes lt [] (numbered 0 xs))
    (fun pre v' W => v'.ownBlock = v.ownBlock ∧ ∃ vo, Coll wr.heap.size W0.heap.size (W0.heap.size + 1) 5 42 23 [(wr.heap.size + 1, 161, .pointer (some ⟨w.heap.size, 0, none⟩))] (Own w.heap.size v) wr (.loop (ro .ready none)) pre.length ((pre.map Prod.fst).flatMap It.cells) vo W)
    (fun _ _ _ _ => False) ?_ ?_ v _ ?_).mono ?_
   case refine_1 =>
    rintro pre v1 v2 S W W' ⟨hv, vo, hc⟩ hk hS hv'
    have hS' : ∀ i, S i → Own w.heap.size v i := fun i hi => by
     have := hS i hi
     unfold Own at this ⊢
     rwa [hv] at this
    refine ⟨fun e => ?_, hv'.trans hv, vo, hc.step hk hS'⟩
    have := hO (wr.heap.size + 1) (.inr (hv ▸ e))
    omega
   case refine_3 =>
    refine ⟨HH0.nil (((Kept.refl Nil W0).alloc _).alloc _), LL.out.stable _ _ hI0 (Kept.any (((Kept.refl Nil W0).alloc _).alloc _)), ?_, rfl, .slice none 0 0, ?_⟩
    ·exact (((Kept.refl Nil W0).alloc _).alloc _).cell hbx.cell (fun h => h)
    ·refine { hB := Nat.le_refl _, hD := by omega, hl := by omega, hO := hO, hL := fun q hq => by obtain rfl := List.mem_singleton.1 hq; exact ⟨by simp, by simp, by simp⟩, bx := fun q hq => by obtain rfl := List.mem_singleton.1 hq; exact (hbx.alloc _).alloc _, box := (hbo.alloc _).alloc _, row := World.ownsRow_nil _ _ _ _, lp := ?_, roc := rfl, dfr := ?_, dl := by omega, kept := Kept.any ((hk0.alloc _).alloc _) }
     ·have := heap_new (W0.alloc (.deferred (some []))) (.loop (ro .ready none))
      rw [World.size_alloc] at this
      exact this
     ·exact (heap_old _ _ (by simp)).trans (heap_new W0 _)
   case refine_2 =>
    rintro pre v' ys ⟨⟨a0, a1, a2, a3, a4⟩, a5⟩ W hd hst
    obtain ⟨hh, hi, hb1, hv', vo, hC⟩ := hst
    have HC := Lib.hid hC
    refine yield_round' HRO.out trivial hC.lp rfl ?_
    clear hC
    simp only [It.val, List.zip_toArray, List.zip_cons_cons, List.zip_nil_left, List.zip_nil_right, List.foldl_toArray, List.foldl_cons, List.foldl_nil, List.setIfInBounds_toArray, List.set_cons_succ, List.set_cons_zero, List.size_toArray, List.length_cons, List.length_nil]
    gi_wp2_with fail
    have hka : Kept Nil W (W.alloc (.cells #[.string a0, .string a1, .string a2, .int .i64 a3, .int .i64 a4] 42)) := ((Kept.refl Nil W).alloc _)
    have hCa := HC.out.nil hka
    refine ⟨hCa.lp, ?_⟩
    have hCb := hCa.put (ro' := .loop (ro .busy none)) rfl
    have hkb : Kept (fun i => i = W0.heap.size + 1) (W.alloc (.cells #[.string a0, .string a1, .string a2, .int .i64 a3, .int .i64 a4] 42)) ((W.alloc (.cells #[.string a0, .string a1, .string a2, .int .i64 a3, .int .i64 a4] 42)).putObj (W0.heap.size + 1) (.loop (ro .busy none))) := Kept.putObj (S := fun i => i = W0.heap.size + 1) (k := W0.heap.size + 1) (Kept.refl _ (W.alloc (.cells #[.string a0, .string a1, .string a2, .int .i64 a3, .int .i64 a4] 42))) (.inl rfl) _
    obtain ⟨Wb, hWb⟩ : ∃ Wb, (W.alloc (.cells #[.string a0, .string a1, .string a2, .int .i64 a3, .int .i64 a4] 42)).putObj (W0.heap.size + 1) (.loop (ro .busy none)) = Wb := ⟨_, rfl⟩
    rw [hWb] at hCb hkb ⊢
    have hlW : W0.heap.size + 1 < W.heap.size := (Array.getElem?_eq_some_iff.1 HC.out.lp).1
    have hx0 : Wb.cell? ⟨W.heap.size, 0, none⟩ = some (.string a0) := hkb.cell (p := ⟨W.heap.size, 0, none⟩) (by simp) (by simp; omega)
    have hx1 : Wb.cell? ⟨W.heap.size, 1, none⟩ = some (.string a1) := hkb.cell (p := ⟨W.heap.size, 1, none⟩) (by simp) (by simp; omega)
    have hx2 : Wb.cell? ⟨W.heap.size, 2, none⟩ = some (.string a2) := hkb.cell (p := ⟨W.heap.size, 2, none⟩) (by simp) (by simp; omega)
    have hx3 : Wb.cell? ⟨W.heap.size, 3, none⟩ = some (.int .i64 a3) := hkb.cell (p := ⟨W.heap.size, 3, none⟩) (by simp) (by simp; omega)
    have hx4 : Wb.cell? ⟨W.heap.size, 4, none⟩ = some (.int .i64 a4) := hkb.cell (p := ⟨W.heap.size, 4, none⟩) (by simp) (by simp; omega)
    have hbc := hCb.box.cell
    have hbf := hCb.box.frozen
    have HCB := Lib.hid hCb
    have HKB := Lib.hid hkb
    have HKA := Lib.hid hka
    have HWB := Lib.hid hWb
    obtain ⟨i0, hinf, hz0, hz1, hz2⟩ := info_parts infoE
    have hlen : pre.length ≤ xs.length := by
     have := congrArg List.length hd.1
     rw [(drain_perm lt _).length_eq, pushes_length, numbered_length] at this
     simp at this; omega
    have HD := Lib.hid hd
    have HINV := Lib.hid hi
    have HST := Lib.hid hh
    clear hCa hka hCb hkb hWb hd hi hh
    gi_wp2_with (gi_at_builtin; refine wpListIn_append_own _ rfl _ _ 23 rfl wr.heap.size 42 i0 (.agg #[.string ⟨#[]⟩, .string ⟨#[]⟩, .string ⟨#[]⟩, .int .i64 0, .int .i64 0]) 5 64 Tryz.underlying23 hinf hz0 hz1 hz2 rfl (by decide) vo pre.length ((pre.map Prod.fst).flatMap It.cells) rfl (HCB.out.row.alloc _) ⟨Wb.heap.size, 0, none⟩ 1 1 [.string a0, .string a1, .string a2, .int .i64 a3, .int .i64 a4] rfl rfl (cells_new _ _ _) (by simp [Value.oneCell']) (by unfold maxLen; omega) (by omega) (by have := HCB.out.kept.size; simp; omega) ?_; intro vo' w3 hown' hgrow _; obtain ⟨g', cap', rfl⟩ := ownsRow_succ hown'; obtain ⟨hb3, hC3, hK3⟩ := HCB.out.appended (by decide) hown' hgrow; have hc3 := hb3.cell; have hf3 := hb3.frozen; have HC3 := Lib.hid hC3; have HK3 := Lib.hid hK3; clear hown' hgrow hb3 hC3 hK3)
    have hC4 := HC3.out.put (ro' := .loop (ro .ready none)) rfl
    have hk4 : Kept (fun i => wr.heap.size ≤ i) W ((w3.setCell ⟨wr.heap.size, 0, none⟩ (.slice (some ⟨g', 0, none⟩) (pre.length + 1) cap')).putObj (W0.heap.size + 1) (.loop (ro .ready none))) :=
     ((Kept.trans (Kept.any HKA.out) HKB.out (S' := fun i => i = W0.heap.size + 1) (S := fun i => wr.heap.size ≤ i) (fun i e => .inl (by omega))).trans HK3.out (fun i hi => .inl hi)).putObj (.inl (by omega)) _
    refine ⟨HC3.out.lp, rfl, ?_, ?_, (hC4.bx _ (List.mem_singleton.2 rfl)).cell, hv', .slice (some ⟨g', 0, none⟩) (pre.length + 1) cap', ?_⟩
    ·exact HST.out.kept hk4 (by have := hO _ (.inl rfl); omega) (fun i hi => by have := hO i (.inr (hv' ▸ hi)); omega)
    ·exact LL.out.stable _ _ HINV.out (hk4.mono (fun i _ hi => by omega))
    ·simpa [It.cells] using hC4
   rintro e W' ⟨⟨u, rfl⟩, ⟨v1, hst⟩ | ⟨_, _, _, _, hf⟩⟩
   ·refine ⟨⟨u, rfl⟩, .inl ?_⟩
    obtain ⟨_, _, _, _, vo, hC⟩ := hst
    have HC := Lib.hid hC
    refine ⟨HC.out.lp, ?_⟩
    have hC2 := HC.out.put (ro' := .loop (ro .exhausted none)) rfl
    have HC2 := Lib.hid hC2
    have hc2 := hC2.box.cell
    clear hC hC2
    gi_wp2
    refine ⟨by simp, .inl ⟨_, _, rfl, run_takeDeferred HC2.out.dfr, ?_⟩⟩
    refine ⟨_, results_tmp rfl _ _ _, ?_⟩
    obtain ⟨hr5, hk5, _⟩ := HC2.out.last
    have e5 : (HpPure.drain lt (pushes lt [] (numbered 0 xs))).length = xs.length := by rw [(drain_perm lt _).length_eq, pushes_length, numbered_length]; simp
    rw [e5] at hr5
    refine ⟨vo, rfl, own_lower hr5 (fun k hk => Nat.le_trans hzz (hr5.lt k hk).1), HK.out.trans hk5 (fun i hi => .inr ?_)⟩
    exact HH.out.own_base i hi
   ·exact hf.elim
end Go.Proofs.YtniocgnfgpaioaaGreat.HpLi
end
