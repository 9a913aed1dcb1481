/- The walks of canon.byName: by names, at three element types. -/
import Derived.Test.YtniocgnfgpaioaaGreatG7
import Derived.Test.YtniocgnfgpaioaaGreatG9
import Derived.Test.YtniocgnfgpaioaaGreatG11
import Derived.Deep.RegionHeld3
import Derived.Deep.Cut
set_option linter.unusedVariables false
set_option linter.unusedSimpArgs false
namespace Go.Proofs.YtniocgnfgpaioaaGreat
open Go Go.RowKit Go.Proofs.YtniocgnfgpaioaaGreat.Lb
set_option maxRecDepth 8000
namespace HpVr
open HpPure
/-- By their names. -/
def nlt (x y : It) : Bool := Op.bytesLess x.f0.toList y.f0.toList
theorem nameOf_is (x : It) (w : World) : Calls Tryz.prog 33 #[x.val] w fun e w' => e = .returned (.string x.f0) ∧ Kept Nil w w' := by
 unfold It.val
 go_enter Tryz.func33, Tryz.ntmps33
 go_wp2
 go_ret
 exact ⟨rfl, (Kept.refl Nil w).alloc _⟩
structure NameAt (bx : Nat) (W : World) : Prop where
 c : W.cell? ⟨bx, 0, none⟩ = some (.func (.func 33) #[] #[])
set_option maxHeartbeats 4000000 in
theorem nless_is (bx : Nat) (x y : It) (w : World) (hb : NameAt bx w) : Calls Tryz.prog 71 #[x.val, y.val, .pointer (some ⟨bx, 0, none⟩)] w fun e w' => e = .returned (.bool (nlt x y)) ∧ Kept Nil w w' := by
 have hb0 := hb.c
 have hbx : bx < w.heap.size := World.block_lt_of_cell? _ _ hb0
 have hent := enters_of (P := Tryz.prog) Tryz.func33 (by kernel_rfl) rfl
 have hn := fun (z : It) (W : World) => nameOf_is z W
 unfold It.val at hn ⊢
 unfold nlt
 obtain ⟨W1, hW⟩ : ∃ W, ((w.alloc (.cells #[.string x.f0, .int .i64 x.f1] 40)).alloc (.cells #[.string y.f0, .int .i64 y.f1] 40)) = W := ⟨_, rfl⟩
 have hk : Kept Nil w W1 := by rw [← hW]; exact (((Kept.refl Nil w).alloc _).alloc _)
 have hsz : W1.heap.size = w.heap.size + 2 := by rw [← hW]; simp
 have hb : W1.heap[w.heap.size]? = some (.cells #[.string x.f0, .int .i64 x.f1] 40 (0, 0)) := by
  rw [← hW]
  rw [heap_old _ _ (by simp only [World.size_alloc]; omega)]
  have h9 := heap_new w (.cells #[.string x.f0, .int .i64 x.f1] 40)
  exact h9
 have A0 := Lib.hid (show W1.cell? ⟨w.heap.size, 0, none⟩ = some (.string x.f0) by rw [cell_of hb]; rfl)
 have A1 := Lib.hid (show W1.cell? ⟨w.heap.size, 1, none⟩ = some (.int .i64 x.f1) by rw [cell_of hb]; rfl)
 have AB := Lib.hid hb
 have hza : w.heap.size < W1.heap.size := by omega
 clear hb
 have hb : W1.heap[w.heap.size + 1]? = some (.cells #[.string y.f0, .int .i64 y.f1] 40 (0, 0)) := by
  rw [← hW]
  have h9 := heap_new (w.alloc (.cells #[.string x.f0, .int .i64 x.f1] 40)) (.cells #[.string y.f0, .int .i64 y.f1] 40)
  simp only [World.size_alloc] at h9
  exact h9
 have B0 := Lib.hid (show W1.cell? ⟨w.heap.size + 1, 0, none⟩ = some (.string y.f0) by rw [cell_of hb]; rfl)
 have B1 := Lib.hid (show W1.cell? ⟨w.heap.size + 1, 1, none⟩ = some (.int .i64 y.f1) by rw [cell_of hb]; rfl)
 have BB := Lib.hid hb
 have hzb : w.heap.size + 1 < W1.heap.size := by omega
 clear hb
 have HW := Lib.hid hW
 have HK := Lib.hid hk
 have HSZ := Lib.hid hsz
 clear hW hk hsz
 have hc := HK.out.cell hb0 (fun h => h)
 have HC := Lib.hid hc
 go_enter Tryz.func71, Tryz.ntmps71
 go_upto_region 1 with fail
 rw [HW.out]
 clear hb0 hc
 have hbx1 : bx < W1.heap.size := by have := HSZ.out; omega
 have C9_0 := Lib.hid (show W1.cell? ⟨bx, 0, none⟩ = some (.func (.func 33) #[] #[]) from HC.out)
 have C9_1 := Lib.hid (show W1.cell? ⟨w.heap.size, 0, none⟩ = some (.string x.f0) from A0.out)
 have C9_2 := Lib.hid (show W1.cell? ⟨w.heap.size, 1, none⟩ = some (.int .i64 x.f1) from A1.out)
 have C9_3 := Lib.hid (show W1.cell? ⟨w.heap.size + 1, 0, none⟩ = some (.string y.f0) from B0.out)
 have C9_4 := Lib.hid (show W1.cell? ⟨w.heap.size + 1, 1, none⟩ = some (.int .i64 y.f1) from B1.out)
 have c9_0 := C9_0.out
 have c9_1 := C9_1.out
 have c9_2 := C9_2.out
 have c9_3 := C9_3.out
 have c9_4 := C9_4.out
 try (go_region_held3 (fun w' => w'.cell? ⟨bx, 0, none⟩ = some (.func (.func 33) #[] #[]) ∧ w'.cell? ⟨w.heap.size, 0, none⟩ = some (.string x.f0) ∧ w'.cell? ⟨w.heap.size, 1, none⟩ = some (.int .i64 x.f1) ∧ w'.cell? ⟨w.heap.size + 1, 0, none⟩ = some (.string y.f0) ∧ w'.cell? ⟨w.heap.size + 1, 1, none⟩ = some (.int .i64 y.f1)) (go_keep) (first
  | (
    go_at_call 33
    with_reducible refine (hn x _).mono ?_
    rintro e w71 ⟨rfl, hk71⟩
    have hz : Kept Nil W1 w71 := (by repeat (first | exact kzr _ _ | assumption | refine kzd ?_ | refine kzn ?_ _ | refine kza ?_ _ | refine kzs ?_ (by assumption)))
    have w71_0 := hz.cell C9_0.out (fun h => h)
    have w71_1 := hz.cell C9_1.out (fun h => h)
    have w71_2 := hz.cell C9_2.out (fun h => h)
    have w71_3 := hz.cell C9_3.out (fun h => h)
    have w71_4 := hz.cell C9_4.out (fun h => h)
    clear hz)
  | (
    go_at_call 33
    with_reducible refine (hn y _).mono ?_
    rintro e w72 ⟨rfl, hk72⟩
    have hz : Kept Nil W1 w72 := (by repeat (first | exact kzr _ _ | assumption | refine kzd ?_ | refine kzn ?_ _ | refine kza ?_ _ | refine kzs ?_ (by assumption)))
    have w72_0 := hz.cell C9_0.out (fun h => h)
    have w72_1 := hz.cell C9_1.out (fun h => h)
    have w72_2 := hz.cell C9_2.out (fun h => h)
    have w72_3 := hz.cell C9_3.out (fun h => h)
    have w72_4 := hz.cell C9_4.out (fun h => h)
    clear hz)
  ))
 all_goals (try go_wp2_with fail)
 all_goals (go_ret; exact ⟨rfl, HK.out.step (by repeat (first | exact kzr _ _ | assumption | refine kzd ?_ | refine kzn ?_ _ | refine kza ?_ _ | refine kzs ?_ (by assumption)))⟩)
theorem nless (bx base : Nat) (hb : bx < base) : Less nlt 71 #[.pointer (some ⟨bx, 0, none⟩)] base (NameAt bx) :=
 ⟨enters_of (P := Tryz.prog) Tryz.func71 (by kernel_rfl) rfl, fun W W' h hk => ⟨hk.cell h.c (by simp only; omega)⟩, fun W x y h => nless_is bx x y W h⟩
set_option maxHeartbeats 4000000 in
theorem byName_is (xs : List It) (A : Option Addr) (cap : Nat) (w : World) (hr : Row w A xs) (hn : xs.length ≤ 100000) :
  Calls Tryz.prog 32 #[.slice A xs.length cap, .func (.func 33) #[] #[]] w fun e w' => ∃ v, e = .returned v ∧ w'.ownsRow (w.heap.size + 1) 40 2 v xs.length ((sortedBy nlt xs).flatMap It.cells) ∧ Kept Nil w w' := by
 have HR := Lib.hid hr
 clear hr
 go_enter Tryz.func32, Tryz.ntmps32
 go_wp2_with fail
 obtain ⟨W1, hW1⟩ : ∃ W1, w.alloc (.cells #[.func (.func 33) #[] #[]] 67) = W1 := ⟨_, rfl⟩
 rw [hW1]
 have hk1 : Kept Nil w W1 := by rw [← hW1]; exact (Kept.refl Nil w).alloc _
 have hs1 : W1.heap.size = w.heap.size + 1 := by rw [← hW1]; simp
 have hb1 : W1.heap[w.heap.size]? = some (.cells #[.func (.func 33) #[] #[]] 67 (0, 0)) := by rw [← hW1]; exact heap_new _ _
 have hna : NameAt w.heap.size W1 := ⟨by rw [cell_of hb1]; rfl⟩
 have hcall := Sort_is (nless w.heap.size (w.heap.size + 1) (by omega)) hna (by omega) A cap xs (HR.out.kept hk1 (fun _ _ h => h)) (by omega)
 rw [hs1] at hcall
 clear hW1 hs1 hb1 hna
 refine hcall.mono ?_
 clear hcall
 rintro e w2 ⟨v, rfl, ho, hk2⟩
 obtain ⟨A2, c2, rfl⟩ := own_slice ho
 have HO := Lib.hid ho
 have HK := Lib.hid (hk1.step hk2)
 clear ho hk1 hk2
 go_wp2_with fail
 go_ret
 exact ⟨_, rfl, HO.out, HK.out⟩
end HpVr
namespace HpPc
open HpPure
/-- By their names. -/
def nlt (x y : It) : Bool := Op.bytesLess x.f0.toList y.f0.toList
theorem nameOf_is (x : It) (w : World) : Calls Tryz.prog 31 #[x.val] w fun e w' => e = .returned (.string x.f0) ∧ Kept Nil w w' := by
 unfold It.val
 go_enter Tryz.func31, Tryz.ntmps31
 go_wp2
 go_ret
 exact ⟨rfl, (Kept.refl Nil w).alloc _⟩
structure NameAt (bx : Nat) (W : World) : Prop where
 c : W.cell? ⟨bx, 0, none⟩ = some (.func (.func 31) #[] #[])
set_option maxHeartbeats 4000000 in
theorem nless_is (bx : Nat) (x y : It) (w : World) (hb : NameAt bx w) : Calls Tryz.prog 69 #[x.val, y.val, .pointer (some ⟨bx, 0, none⟩)] w fun e w' => e = .returned (.bool (nlt x y)) ∧ Kept Nil w w' := by
 have hb0 := hb.c
 have hbx : bx < w.heap.size := World.block_lt_of_cell? _ _ hb0
 have hent := enters_of (P := Tryz.prog) Tryz.func31 (by kernel_rfl) rfl
 have hn := fun (z : It) (W : World) => nameOf_is z W
 unfold It.val at hn ⊢
 unfold nlt
 obtain ⟨W1, hW⟩ : ∃ W, ((w.alloc (.cells #[.string x.f0, .int .i64 x.f1, .slice x.f2.a x.f2.n x.f2.c, .slice x.f3.a x.f3.n x.f3.c] 34)).alloc (.cells #[.string y.f0, .int .i64 y.f1, .slice y.f2.a y.f2.n y.f2.c, .slice y.f3.a y.f3.n y.f3.c] 34)) = W := ⟨_, rfl⟩
 have hk : Kept Nil w W1 := by rw [← hW]; exact (((Kept.refl Nil w).alloc _).alloc _)
 have hsz : W1.heap.size = w.heap.size + 2 := by rw [← hW]; simp
 have hb : W1.heap[w.heap.size]? = some (.cells #[.string x.f0, .int .i64 x.f1, .slice x.f2.a x.f2.n x.f2.c, .slice x.f3.a x.f3.n x.f3.c] 34 (0, 0)) := by
  rw [← hW]
  rw [heap_old _ _ (by simp only [World.size_alloc]; omega)]
  have h9 := heap_new w (.cells #[.string x.f0, .int .i64 x.f1, .slice x.f2.a x.f2.n x.f2.c, .slice x.f3.a x.f3.n x.f3.c] 34)
  exact h9
 have A0 := Lib.hid (show W1.cell? ⟨w.heap.size, 0, none⟩ = some (.string x.f0) by rw [cell_of hb]; rfl)
 have A1 := Lib.hid (show W1.cell? ⟨w.heap.size, 1, none⟩ = some (.int .i64 x.f1) by rw [cell_of hb]; rfl)
 have A2 := Lib.hid (show W1.cell? ⟨w.heap.size, 2, none⟩ = some (.slice x.f2.a x.f2.n x.f2.c) by rw [cell_of hb]; rfl)
 have A3 := Lib.hid (show W1.cell? ⟨w.heap.size, 3, none⟩ = some (.slice x.f3.a x.f3.n x.f3.c) by rw [cell_of hb]; rfl)
 have AB := Lib.hid hb
 have hza : w.heap.size < W1.heap.size := by omega
 clear hb
 have hb : W1.heap[w.heap.size + 1]? = some (.cells #[.string y.f0, .int .i64 y.f1, .slice y.f2.a y.f2.n y.f2.c, .slice y.f3.a y.f3.n y.f3.c] 34 (0, 0)) := by
  rw [← hW]
  have h9 := heap_new (w.alloc (.cells #[.string x.f0, .int .i64 x.f1, .slice x.f2.a x.f2.n x.f2.c, .slice x.f3.a x.f3.n x.f3.c] 34)) (.cells #[.string y.f0, .int .i64 y.f1, .slice y.f2.a y.f2.n y.f2.c, .slice y.f3.a y.f3.n y.f3.c] 34)
  simp only [World.size_alloc] at h9
  exact h9
 have B0 := Lib.hid (show W1.cell? ⟨w.heap.size + 1, 0, none⟩ = some (.string y.f0) by rw [cell_of hb]; rfl)
 have B1 := Lib.hid (show W1.cell? ⟨w.heap.size + 1, 1, none⟩ = some (.int .i64 y.f1) by rw [cell_of hb]; rfl)
 have B2 := Lib.hid (show W1.cell? ⟨w.heap.size + 1, 2, none⟩ = some (.slice y.f2.a y.f2.n y.f2.c) by rw [cell_of hb]; rfl)
 have B3 := Lib.hid (show W1.cell? ⟨w.heap.size + 1, 3, none⟩ = some (.slice y.f3.a y.f3.n y.f3.c) by rw [cell_of hb]; rfl)
 have BB := Lib.hid hb
 have hzb : w.heap.size + 1 < W1.heap.size := by omega
 clear hb
 have HW := Lib.hid hW
 have HK := Lib.hid hk
 have HSZ := Lib.hid hsz
 clear hW hk hsz
 have hc := HK.out.cell hb0 (fun h => h)
 have HC := Lib.hid hc
 go_enter Tryz.func69, Tryz.ntmps69
 go_upto_region 1 with fail
 rw [HW.out]
 clear hb0 hc
 have hbx1 : bx < W1.heap.size := by have := HSZ.out; omega
 have C9_0 := Lib.hid (show W1.cell? ⟨bx, 0, none⟩ = some (.func (.func 31) #[] #[]) from HC.out)
 have C9_1 := Lib.hid (show W1.cell? ⟨w.heap.size, 0, none⟩ = some (.string x.f0) from A0.out)
 have C9_2 := Lib.hid (show W1.cell? ⟨w.heap.size, 1, none⟩ = some (.int .i64 x.f1) from A1.out)
 have C9_3 := Lib.hid (show W1.cell? ⟨w.heap.size, 2, none⟩ = some (.slice x.f2.a x.f2.n x.f2.c) from A2.out)
 have C9_4 := Lib.hid (show W1.cell? ⟨w.heap.size, 3, none⟩ = some (.slice x.f3.a x.f3.n x.f3.c) from A3.out)
 have C9_5 := Lib.hid (show W1.cell? ⟨w.heap.size + 1, 0, none⟩ = some (.string y.f0) from B0.out)
 have C9_6 := Lib.hid (show W1.cell? ⟨w.heap.size + 1, 1, none⟩ = some (.int .i64 y.f1) from B1.out)
 have C9_7 := Lib.hid (show W1.cell? ⟨w.heap.size + 1, 2, none⟩ = some (.slice y.f2.a y.f2.n y.f2.c) from B2.out)
 have C9_8 := Lib.hid (show W1.cell? ⟨w.heap.size + 1, 3, none⟩ = some (.slice y.f3.a y.f3.n y.f3.c) from B3.out)
 have c9_0 := C9_0.out
 have c9_1 := C9_1.out
 have c9_2 := C9_2.out
 have c9_3 := C9_3.out
 have c9_4 := C9_4.out
 have c9_5 := C9_5.out
 have c9_6 := C9_6.out
 have c9_7 := C9_7.out
 have c9_8 := C9_8.out
 try (go_region_held3 (fun w' => w'.cell? ⟨bx, 0, none⟩ = some (.func (.func 31) #[] #[]) ∧ w'.cell? ⟨w.heap.size, 0, none⟩ = some (.string x.f0) ∧ w'.cell? ⟨w.heap.size, 1, none⟩ = some (.int .i64 x.f1) ∧ w'.cell? ⟨w.heap.size, 2, none⟩ = some (.slice x.f2.a x.f2.n x.f2.c) ∧ w'.cell? ⟨w.heap.size, 3, none⟩ = some (.slice x.f3.a x.f3.n x.f3.c) ∧ w'.cell? ⟨w.heap.size + 1, 0, none⟩ = some (.string y.f0) ∧ w'.cell? ⟨w.heap.size + 1, 1, none⟩ = some (.int .i64 y.f1) ∧ w'.cell? ⟨w.heap.size + 1, 2, none⟩ = some (.slice y.f2.a y.f2.n y.f2.c) ∧ w'.cell? ⟨w.heap.size + 1, 3, none⟩ = some (.slice y.f3.a y.f3.n y.f3.c)) (go_keep) (first
  | (
    go_at_call 31
    with_reducible refine (hn x _).mono ?_
    rintro e w71 ⟨rfl, hk71⟩
    have hz : Kept Nil W1 w71 := (by repeat (first | exact kzr _ _ | assumption | refine kzd ?_ | refine kzn ?_ _ | refine kza ?_ _ | refine kzs ?_ (by assumption)))
    have w71_0 := hz.cell C9_0.out (fun h => h)
    have w71_1 := hz.cell C9_1.out (fun h => h)
    have w71_2 := hz.cell C9_2.out (fun h => h)
    have w71_3 := hz.cell C9_3.out (fun h => h)
    have w71_4 := hz.cell C9_4.out (fun h => h)
    have w71_5 := hz.cell C9_5.out (fun h => h)
    have w71_6 := hz.cell C9_6.out (fun h => h)
    have w71_7 := hz.cell C9_7.out (fun h => h)
    have w71_8 := hz.cell C9_8.out (fun h => h)
    clear hz)
  | (
    go_at_call 31
    with_reducible refine (hn y _).mono ?_
    rintro e w72 ⟨rfl, hk72⟩
    have hz : Kept Nil W1 w72 := (by repeat (first | exact kzr _ _ | assumption | refine kzd ?_ | refine kzn ?_ _ | refine kza ?_ _ | refine kzs ?_ (by assumption)))
    have w72_0 := hz.cell C9_0.out (fun h => h)
    have w72_1 := hz.cell C9_1.out (fun h => h)
    have w72_2 := hz.cell C9_2.out (fun h => h)
    have w72_3 := hz.cell C9_3.out (fun h => h)
    have w72_4 := hz.cell C9_4.out (fun h => h)
    have w72_5 := hz.cell C9_5.out (fun h => h)
    have w72_6 := hz.cell C9_6.out (fun h => h)
    have w72_7 := hz.cell C9_7.out (fun h => h)
    have w72_8 := hz.cell C9_8.out (fun h => h)
    clear hz)
  ))
 all_goals (try go_wp2_with fail)
 all_goals (go_ret; exact ⟨rfl, HK.out.step (by repeat (first | exact kzr _ _ | assumption | refine kzd ?_ | refine kzn ?_ _ | refine kza ?_ _ | refine kzs ?_ (by assumption)))⟩)
theorem nless (bx base : Nat) (hb : bx < base) : Less nlt 69 #[.pointer (some ⟨bx, 0, none⟩)] base (NameAt bx) :=
 ⟨enters_of (P := Tryz.prog) Tryz.func69 (by kernel_rfl) rfl, fun W W' h hk => ⟨hk.cell h.c (by simp only; omega)⟩, fun W x y h => nless_is bx x y W h⟩
set_option maxHeartbeats 4000000 in
theorem byName_is (xs : List It) (A : Option Addr) (cap : Nat) (w : World) (hr : Row w A xs) (hn : xs.length ≤ 100000) :
  Calls Tryz.prog 30 #[.slice A xs.length cap, .func (.func 31) #[] #[]] w fun e w' => ∃ v, e = .returned v ∧ w'.ownsRow (w.heap.size + 1) 34 4 v xs.length ((sortedBy nlt xs).flatMap It.cells) ∧ Kept Nil w w' := by
 have HR := Lib.hid hr
 clear hr
 go_enter Tryz.func30, Tryz.ntmps30
 go_wp2_with fail
 obtain ⟨W1, hW1⟩ : ∃ W1, w.alloc (.cells #[.func (.func 31) #[] #[]] 65) = W1 := ⟨_, rfl⟩
 rw [hW1]
 have hk1 : Kept Nil w W1 := by rw [← hW1]; exact (Kept.refl Nil w).alloc _
 have hs1 : W1.heap.size = w.heap.size + 1 := by rw [← hW1]; simp
 have hb1 : W1.heap[w.heap.size]? = some (.cells #[.func (.func 31) #[] #[]] 65 (0, 0)) := by rw [← hW1]; exact heap_new _ _
 have hna : NameAt w.heap.size W1 := ⟨by rw [cell_of hb1]; rfl⟩
 have hcall := Sort_is (nless w.heap.size (w.heap.size + 1) (by omega)) hna (by omega) A cap xs (HR.out.kept hk1 (fun _ _ h => h)) (by omega)
 rw [hs1] at hcall
 clear hW1 hs1 hb1 hna
 refine hcall.mono ?_
 clear hcall
 rintro e w2 ⟨v, rfl, ho, hk2⟩
 obtain ⟨A2, c2, rfl⟩ := own_slice ho
 have HO := Lib.hid ho
 have HK := Lib.hid (hk1.step hk2)
 clear ho hk1 hk2
 go_wp2_with fail
 go_ret
 exact ⟨_, rfl, HO.out, HK.out⟩
end HpPc
namespace HpLi
open HpPure
/-- By their names. -/
def nlt (x y : It) : Bool := Op.bytesLess x.f0.toList y.f0.toList
theorem nameOf_is (x : It) (w : World) : Calls Tryz.prog 36 #[x.val] w fun e w' => e = .returned (.string x.f0) ∧ Kept Nil w w' := by
 unfold It.val
 go_enter Tryz.func36, Tryz.ntmps36
 go_wp2
 go_ret
 exact ⟨rfl, (Kept.refl Nil w).alloc _⟩
structure NameAt (bx : Nat) (W : World) : Prop where
 c : W.cell? ⟨bx, 0, none⟩ = some (.func (.func 36) #[] #[])
set_option maxHeartbeats 4000000 in
theorem nless_is (bx : Nat) (x y : It) (w : World) (hb : NameAt bx w) : Calls Tryz.prog 73 #[x.val, y.val, .pointer (some ⟨bx, 0, none⟩)] w fun e w' => e = .returned (.bool (nlt x y)) ∧ Kept Nil w w' := by
 have hb0 := hb.c
 have hbx : bx < w.heap.size := World.block_lt_of_cell? _ _ hb0
 have hent := enters_of (P := Tryz.prog) Tryz.func36 (by kernel_rfl) rfl
 have hn := fun (z : It) (W : World) => nameOf_is z W
 unfold It.val at hn ⊢
 unfold nlt
 obtain ⟨W1, hW⟩ : ∃ W, ((w.alloc (.cells #[.string x.f0, .string x.f1, .string x.f2, .int .i64 x.f3, .int .i64 x.f4] 42)).alloc (.cells #[.string y.f0, .string y.f1, .string y.f2, .int .i64 y.f3, .int .i64 y.f4] 42)) = W := ⟨_, rfl⟩
 have hk : Kept Nil w W1 := by rw [← hW]; exact (((Kept.refl Nil w).alloc _).alloc _)
 have hsz : W1.heap.size = w.heap.size + 2 := by rw [← hW]; simp
 have hb : W1.heap[w.heap.size]? = some (.cells #[.string x.f0, .string x.f1, .string x.f2, .int .i64 x.f3, .int .i64 x.f4] 42 (0, 0)) := by
  rw [← hW]
  rw [heap_old _ _ (by simp only [World.size_alloc]; omega)]
  have h9 := heap_new w (.cells #[.string x.f0, .string x.f1, .string x.f2, .int .i64 x.f3, .int .i64 x.f4] 42)
  exact h9
 have A0 := Lib.hid (show W1.cell? ⟨w.heap.size, 0, none⟩ = some (.string x.f0) by rw [cell_of hb]; rfl)
 have A1 := Lib.hid (show W1.cell? ⟨w.heap.size, 1, none⟩ = some (.string x.f1) by rw [cell_of hb]; rfl)
 have A2 := Lib.hid (show W1.cell? ⟨w.heap.size, 2, none⟩ = some (.string x.f2) by rw [cell_of hb]; rfl)
 have A3 := Lib.hid (show W1.cell? ⟨w.heap.size, 3, none⟩ = some (.int .i64 x.f3) by rw [cell_of hb]; rfl)
 have A4 := Lib.hid (show W1.cell? ⟨w.heap.size, 4, none⟩ = some (.int .i64 x.f4) by rw [cell_of hb]; rfl)
 have AB := Lib.hid hb
 have hza : w.heap.size < W1.heap.size := by omega
 clear hb
 have hb : W1.heap[w.heap.size + 1]? = some (.cells #[.string y.f0, .string y.f1, .string y.f2, .int .i64 y.f3, .int .i64 y.f4] 42 (0, 0)) := by
  rw [← hW]
  have h9 := heap_new (w.alloc (.cells #[.string x.f0, .string x.f1, .string x.f2, .int .i64 x.f3, .int .i64 x.f4] 42)) (.cells #[.string y.f0, .string y.f1, .string y.f2, .int .i64 y.f3, .int .i64 y.f4] 42)
  simp only [World.size_alloc] at h9
  exact h9
 have B0 := Lib.hid (show W1.cell? ⟨w.heap.size + 1, 0, none⟩ = some (.string y.f0) by rw [cell_of hb]; rfl)
 have B1 := Lib.hid (show W1.cell? ⟨w.heap.size + 1, 1, none⟩ = some (.string y.f1) by rw [cell_of hb]; rfl)
 have B2 := Lib.hid (show W1.cell? ⟨w.heap.size + 1, 2, none⟩ = some (.string y.f2) by rw [cell_of hb]; rfl)
 have B3 := Lib.hid (show W1.cell? ⟨w.heap.size + 1, 3, none⟩ = some (.int .i64 y.f3) by rw [cell_of hb]; rfl)
 have B4 := Lib.hid (show W1.cell? ⟨w.heap.size + 1, 4, none⟩ = some (.int .i64 y.f4) by rw [cell_of hb]; rfl)
 have BB := Lib.hid hb
 have hzb : w.heap.size + 1 < W1.heap.size := by omega
 clear hb
 have HW := Lib.hid hW
 have HK := Lib.hid hk
 have HSZ := Lib.hid hsz
 clear hW hk hsz
 have hc := HK.out.cell hb0 (fun h => h)
 have HC := Lib.hid hc
 go_enter Tryz.func73, Tryz.ntmps73
 go_upto_region 1 with fail
 rw [HW.out]
 clear hb0 hc
 have hbx1 : bx < W1.heap.size := by have := HSZ.out; omega
 have C9_0 := Lib.hid (show W1.cell? ⟨bx, 0, none⟩ = some (.func (.func 36) #[] #[]) from HC.out)
 have C9_1 := Lib.hid (show W1.cell? ⟨w.heap.size, 0, none⟩ = some (.string x.f0) from A0.out)
 have C9_2 := Lib.hid (show W1.cell? ⟨w.heap.size, 1, none⟩ = some (.string x.f1) from A1.out)
 have C9_3 := Lib.hid (show W1.cell? ⟨w.heap.size, 2, none⟩ = some (.string x.f2) from A2.out)
 have C9_4 := Lib.hid (show W1.cell? ⟨w.heap.size, 3, none⟩ = some (.int .i64 x.f3) from A3.out)
 have C9_5 := Lib.hid (show W1.cell? ⟨w.heap.size, 4, none⟩ = some (.int .i64 x.f4) from A4.out)
 have C9_6 := Lib.hid (show W1.cell? ⟨w.heap.size + 1, 0, none⟩ = some (.string y.f0) from B0.out)
 have C9_7 := Lib.hid (show W1.cell? ⟨w.heap.size + 1, 1, none⟩ = some (.string y.f1) from B1.out)
 have C9_8 := Lib.hid (show W1.cell? ⟨w.heap.size + 1, 2, none⟩ = some (.string y.f2) from B2.out)
 have C9_9 := Lib.hid (show W1.cell? ⟨w.heap.size + 1, 3, none⟩ = some (.int .i64 y.f3) from B3.out)
 have C9_10 := Lib.hid (show W1.cell? ⟨w.heap.size + 1, 4, none⟩ = some (.int .i64 y.f4) from B4.out)
 have c9_0 := C9_0.out
 have c9_1 := C9_1.out
 have c9_2 := C9_2.out
 have c9_3 := C9_3.out
 have c9_4 := C9_4.out
 have c9_5 := C9_5.out
 have c9_6 := C9_6.out
 have c9_7 := C9_7.out
 have c9_8 := C9_8.out
 have c9_9 := C9_9.out
 have c9_10 := C9_10.out
 try (go_region_held3 (fun w' => w'.cell? ⟨bx, 0, none⟩ = some (.func (.func 36) #[] #[]) ∧ w'.cell? ⟨w.heap.size, 0, none⟩ = some (.string x.f0) ∧ w'.cell? ⟨w.heap.size, 1, none⟩ = some (.string x.f1) ∧ w'.cell? ⟨w.heap.size, 2, none⟩ = some (.string x.f2) ∧ w'.cell? ⟨w.heap.size, 3, none⟩ = some (.int .i64 x.f3) ∧ w'.cell? ⟨w.heap.size, 4, none⟩ = some (.int .i64 x.f4) ∧ w'.cell? ⟨w.heap.size + 1, 0, none⟩ = some (.string y.f0) ∧ w'.cell? ⟨w.heap.size + 1, 1, none⟩ = some (.string y.f1) ∧ w'.cell? ⟨w.heap.size + 1, 2, none⟩ = some (.string y.f2) ∧ w'.cell? ⟨w.heap.size + 1, 3, none⟩ = some (.int .i64 y.f3) ∧ w'.cell? ⟨w.heap.size + 1, 4, none⟩ = some (.int .i64 y.f4)) (go_keep) (first
  | (
    go_at_call 36
    with_reducible refine (hn x _).mono ?_
    rintro e w71 ⟨rfl, hk71⟩
    have hz : Kept Nil W1 w71 := (by repeat (first | exact kzr _ _ | assumption | refine kzd ?_ | refine kzn ?_ _ | refine kza ?_ _ | refine kzs ?_ (by assumption)))
    have w71_0 := hz.cell C9_0.out (fun h => h)
    have w71_1 := hz.cell C9_1.out (fun h => h)
    have w71_2 := hz.cell C9_2.out (fun h => h)
    have w71_3 := hz.cell C9_3.out (fun h => h)
    have w71_4 := hz.cell C9_4.out (fun h => h)
    have w71_5 := hz.cell C9_5.out (fun h => h)
    have w71_6 := hz.cell C9_6.out (fun h => h)
    have w71_7 := hz.cell C9_7.out (fun h => h)
    have w71_8 := hz.cell C9_8.out (fun h => h)
    have w71_9 := hz.cell C9_9.out (fun h => h)
    have w71_10 := hz.cell C9_10.out (fun h => h)
    clear hz)
  | (
    go_at_call 36
    with_reducible refine (hn y _).mono ?_
    rintro e w72 ⟨rfl, hk72⟩
    have hz : Kept Nil W1 w72 := (by repeat (first | exact kzr _ _ | assumption | refine kzd ?_ | refine kzn ?_ _ | refine kza ?_ _ | refine kzs ?_ (by assumption)))
    have w72_0 := hz.cell C9_0.out (fun h => h)
    have w72_1 := hz.cell C9_1.out (fun h => h)
    have w72_2 := hz.cell C9_2.out (fun h => h)
    have w72_3 := hz.cell C9_3.out (fun h => h)
    have w72_4 := hz.cell C9_4.out (fun h => h)
    have w72_5 := hz.cell C9_5.out (fun h => h)
    have w72_6 := hz.cell C9_6.out (fun h => h)
    have w72_7 := hz.cell C9_7.out (fun h => h)
    have w72_8 := hz.cell C9_8.out (fun h => h)
    have w72_9 := hz.cell C9_9.out (fun h => h)
    have w72_10 := hz.cell C9_10.out (fun h => h)
    clear hz)
  ))
 all_goals (try go_wp2_with fail)
 all_goals (go_ret; exact ⟨rfl, HK.out.step (by repeat (first | exact kzr _ _ | assumption | refine kzd ?_ | refine kzn ?_ _ | refine kza ?_ _ | refine kzs ?_ (by assumption)))⟩)
theorem nless (bx base : Nat) (hb : bx < base) : Less nlt 73 #[.pointer (some ⟨bx, 0, none⟩)] base (NameAt bx) :=
 ⟨enters_of (P := Tryz.prog) Tryz.func73 (by kernel_rfl) rfl, fun W W' h hk => ⟨hk.cell h.c (by simp only; omega)⟩, fun W x y h => nless_is bx x y W h⟩
set_option maxHeartbeats 4000000 in
theorem byName_is (xs : List It) (A : Option Addr) (cap : Nat) (w : World) (hr : Row w A xs) (hn : xs.length ≤ 100000) :
  Calls Tryz.prog 35 #[.slice A xs.length cap, .func (.func 36) #[] #[]] w fun e w' => ∃ v, e = .returned v ∧ w'.ownsRow (w.heap.size + 1) 42 5 v xs.length ((sortedBy nlt xs).flatMap It.cells) ∧ Kept Nil w w' := by
 have HR := Lib.hid hr
 clear hr
 go_enter Tryz.func35, Tryz.ntmps35
 go_wp2_with fail
 obtain ⟨W1, hW1⟩ : ∃ W1, w.alloc (.cells #[.func (.func 36) #[] #[]] 70) = W1 := ⟨_, rfl⟩
 rw [hW1]
 have hk1 : Kept Nil w W1 := by rw [← hW1]; exact (Kept.refl Nil w).alloc _
 have hs1 : W1.heap.size = w.heap.size + 1 := by rw [← hW1]; simp
 have hb1 : W1.heap[w.heap.size]? = some (.cells #[.func (.func 36) #[] #[]] 70 (0, 0)) := by rw [← hW1]; exact heap_new _ _
 have hna : NameAt w.heap.size W1 := ⟨by rw [cell_of hb1]; rfl⟩
 have hcall := Sort_is (nless w.heap.size (w.heap.size + 1) (by omega)) hna (by omega) A cap xs (HR.out.kept hk1 (fun _ _ h => h)) (by omega)
 rw [hs1] at hcall
 clear hW1 hs1 hb1 hna
 refine hcall.mono ?_
 clear hcall
 rintro e w2 ⟨v, rfl, ho, hk2⟩
 obtain ⟨A2, c2, rfl⟩ := own_slice ho
 have HO := Lib.hid ho
 have HK := Lib.hid (hk1.step hk2)
 clear ho hk1 hk2
 go_wp2_with fail
 go_ret
 exact ⟨_, rfl, HO.out, HK.out⟩
end HpLi
end Go.Proofs.YtniocgnfgpaioaaGreat
