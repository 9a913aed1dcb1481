/- The walks of cmp.Compare and cmp.Or; The walks of cmp.Or and canon.ahead; events are sorted by it; Names are in a strict weak order; so are events; Sorting by putting each behind those that are not greater: plain. Nothing of the program is named; A model laid down: plain; each thing is sorted as what the heap is given of it. Nothing of the program is walked here. -/
import Derived.Test.YtniocgnfgpaioaaGreatG14
import Derived.Deep.Cut
import Derived.Deep.RegionHeld3
import Derived.Test.YtniocgnfgpaioaaGreatG12
import Derived.Test.YtniocgnfgpaioaaGreatG7
import Derived.Test.YtniocgnfgpaioaaGreatG5
set_option linter.unusedVariables false
set_option linter.unusedSimpArgs false
section
namespace Go.Proofs.YtniocgnfgpaioaaGreat.Mo
open Go Go.RowKit Go.Proofs.YtniocgnfgpaioaaGreat.Lb
set_option maxRecDepth 8000
theorem bytes_total : ∀ x y : List UInt8, (Op.bytesLess x y || x == y) = !Op.bytesLess y x
 | [], [] => by simp [Op.bytesLess]
 | [], b :: y => by simp [Op.bytesLess]
 | a :: x, [] => by simp [Op.bytesLess]
 | a :: x, b :: y => by
  have ih := bytes_total x y
  rw [Op.bytesLess, Op.bytesLess]
  by_cases h : a = b
  ·subst h
   have e1 : (decide (a < a)) = false := by simp
   have e2 : (a == a) = true := by simp
   have e3 : ((a :: x) == (a :: x)) = true := by simp
   have e4 : ((a :: x) == (a :: y)) = (x == y) := by simp
   rw [e1, e2, e4]
   simpa using ih
  ·have h' : ¬ b = a := fun e => h e.symm
   have e1 : (a == b) = false := by simp [h]
   have e2 : (b == a) = false := by simp [h']
   have e3 : ((a :: x) == (b :: y)) = false := by simp [h]
   rw [e1, e2, e3]
   by_cases hl : a < b
   ·have h2 : ¬ b < a := by rw [UInt8.lt_iff_toNat_lt] at *; omega
    simp [hl, h2]
   ·have h2 : b < a := by
     have hne : a.toNat ≠ b.toNat := fun e => h (UInt8.toNat_inj.1 e)
     rw [UInt8.lt_iff_toNat_lt] at *; omega
    simp [hl, h2]
def cmpI (x y : Int) : Int := if x < y then -1 else if y < x then 1 else 0
def cmpS (x y : ByteArray) : Int := if Op.bytesLess x.toList y.toList = true then -1 else if Op.bytesLess y.toList x.toList = true then 1 else 0
theorem isNaNI_is (x : Int) (w : World) : Calls Tryz.prog 115 #[.int .i64 x] w fun e w' => e = .returned (.bool false) ∧ w' = w := by
 have hb : (x != x) = false := by simp
 go_enter Tryz.func115, Tryz.ntmps115
 go_wp2
 go_ret
 exact ⟨rfl, rfl⟩
theorem isNaNS_is (x : ByteArray) (w : World) : Calls Tryz.prog 116 #[.string x] w fun e w' => e = .returned (.bool false) ∧ w' = w := by
 have hb : (x.toList != x.toList) = false := by simp
 go_enter Tryz.func116, Tryz.ntmps116
 go_wp2
 go_ret
 exact ⟨rfl, rfl⟩
theorem CompareI_is (x y : Int) (w : World) : Calls Tryz.prog 78 #[.int .i64 x, .int .i64 y] w fun e w' => e = .returned (.int .i64 (cmpI x y)) ∧ w' = w := by
 have h1 := isNaNI_is x
 have h2 := isNaNI_is y
 unfold cmpI
 by_cases ha : x < y
 ·rw [if_pos ha]
  have hd : decide (x < y) = true := decide_eq_true ha
  clear ha
  go_enter Tryz.func78, Tryz.ntmps78
  go_wp2_with (first | (go_at_call 115; (with_reducible refine (h1 _).mono ?_); rintro e w1 ⟨rfl, rfl⟩) | (go_at_call 115; (with_reducible refine (h2 _).mono ?_); rintro e w1 ⟨rfl, rfl⟩))
  go_ret
  exact ⟨rfl, rfl⟩
 ·rw [if_neg ha]
  have hd : decide (x < y) = false := decide_eq_false ha
  by_cases hb : y < x
  ·rw [if_pos hb]
   have he : decide (y < x) = true := decide_eq_true hb
   clear ha hb
   go_enter Tryz.func78, Tryz.ntmps78
   go_wp2_with (first | (go_at_call 115; (with_reducible refine (h1 _).mono ?_); rintro e w1 ⟨rfl, rfl⟩) | (go_at_call 115; (with_reducible refine (h2 _).mono ?_); rintro e w1 ⟨rfl, rfl⟩))
   go_ret
   exact ⟨rfl, rfl⟩
  ·rw [if_neg hb]
   have he : decide (y < x) = false := decide_eq_false hb
   clear ha hb
   go_enter Tryz.func78, Tryz.ntmps78
   go_wp2_with (first | (go_at_call 115; (with_reducible refine (h1 _).mono ?_); rintro e w1 ⟨rfl, rfl⟩) | (go_at_call 115; (with_reducible refine (h2 _).mono ?_); rintro e w1 ⟨rfl, rfl⟩))
   go_ret
   exact ⟨rfl, rfl⟩
theorem CompareS_is (x y : ByteArray) (w : World) : Calls Tryz.prog 79 #[.string x, .string y] w fun e w' => e = .returned (.int .i64 (cmpS x y)) ∧ w' = w := by
 have h1 := isNaNS_is x
 have h2 := isNaNS_is y
 unfold cmpS
 by_cases ha : Op.bytesLess x.toList y.toList = true
 ·rw [if_pos ha]
  skip
  go_enter Tryz.func79, Tryz.ntmps79
  go_wp2_with (first | (go_at_call 116; (with_reducible refine (h1 _).mono ?_); rintro e w1 ⟨rfl, rfl⟩) | (go_at_call 116; (with_reducible refine (h2 _).mono ?_); rintro e w1 ⟨rfl, rfl⟩))
  go_ret
  exact ⟨rfl, rfl⟩
 ·rw [if_neg ha]
  have hd : Op.bytesLess x.toList y.toList = false := by simpa using ha
  by_cases hb : Op.bytesLess y.toList x.toList = true
  ·rw [if_pos hb]
   have hq : (x.toList == y.toList) = false := by have h9 := bytes_total x.toList y.toList; rw [hd, hb] at h9; simpa using h9
   clear ha
   go_enter Tryz.func79, Tryz.ntmps79
   go_wp2_with (first | (go_at_call 116; (with_reducible refine (h1 _).mono ?_); rintro e w1 ⟨rfl, rfl⟩) | (go_at_call 116; (with_reducible refine (h2 _).mono ?_); rintro e w1 ⟨rfl, rfl⟩))
   go_ret
   exact ⟨rfl, rfl⟩
  ·rw [if_neg hb]
   have he : Op.bytesLess y.toList x.toList = false := by simpa using hb
   have hq : (x.toList == y.toList) = true := by have h9 := bytes_total x.toList y.toList; rw [hd, he] at h9; simpa using h9
   clear ha hb
   go_enter Tryz.func79, Tryz.ntmps79
   go_wp2_with (first | (go_at_call 116; (with_reducible refine (h1 _).mono ?_); rintro e w1 ⟨rfl, rfl⟩) | (go_at_call 116; (with_reducible refine (h2 _).mono ?_); rintro e w1 ⟨rfl, rfl⟩))
   go_ret
   exact ⟨rfl, rfl⟩
def orI : List Int → Int
 | [] => 0
 | x :: l => if x = 0 then orI l else x
end Go.Proofs.YtniocgnfgpaioaaGreat.Mo
end
section
namespace Go.Proofs.YtniocgnfgpaioaaGreat
open Go Go.RowKit Go.Proofs.YtniocgnfgpaioaaGreat.Lb
set_option maxRecDepth 8000
namespace Mo
theorem orI_first : ∀ (l : List Int) (k : Nat) (v : Int), l[k]? = some v → v ≠ 0 → (∀ j u, j < k → l[j]? = some u → u = 0) → orI l = v
 | [], k, v, h, _, _ => by simp at h
 | x :: l, 0, v, h, hv, _ => by simp at h; subst h; unfold orI; rw [if_neg hv]
 | x :: l, k + 1, v, h, hv, h0 => by
  have hx : x = 0 := h0 0 x (by omega) rfl
  unfold orI
  rw [if_pos hx]
  exact orI_first l k v (by simpa using h) hv (fun j u hj hu => h0 (j + 1) u (by omega) (by simpa using hu))
theorem orI_none : ∀ (l : List Int), (∀ j u, j < l.length → l[j]? = some u → u = 0) → orI l = 0
 | [], _ => rfl
 | x :: l, h => by
  have hx : x = 0 := h 0 x (by simp) rfl
  unfold orI
  rw [if_pos hx]
  exact orI_none l (fun j u hj hu => h (j + 1) u (by simp; omega) (by simpa using hu))
set_option maxHeartbeats 4000000 in
theorem Or_is (l : List Int) (b off c : Nat) (w : World) (hr : ∀ j v, l[j]? = some v → w.cell? ⟨b, off + j, none⟩ = some (.int .i64 v)) (hl : l.length ≤ 1000) :
  Calls Tryz.prog 77 #[.slice (some ⟨b, off, none⟩) l.length c] w fun e w' => e = .returned (.int .i64 (orI l)) ∧ w' = w := by
 have HR := Lib.hid hr
 clear hr
 obtain ⟨n, hn⟩ : ∃ n, l.length = n := ⟨_, rfl⟩
 rw [hn]
 have HN := Lib.hid hn
 have hn3 : n ≤ 1000 := by omega
 clear hn hl
 go_enter Tryz.func77, Tryz.ntmps77
 go_wp2_with fail
 go_loopw [8] (fun i wr => ∃ k : Nat, k ≤ n ∧ i = .int .i64 k ∧ wr = w ∧ (∀ j u, j < k → l[j]? = some u → u = 0)) (fun i _ => n - (intOf i).toNat)
 case atStart => exact ⟨0, Nat.zero_le _, rfl, rfl, fun j u hj => by omega⟩
 case round =>
  obtain ⟨k, hk, rfl, rfl, hall⟩ := hrel
  have HALL := Lib.hid hall
  clear hall
  by_cases hlt : k < n
  ·obtain ⟨v, ev⟩ : ∃ v, l[k]? = some v := ⟨_, List.getElem?_eq_getElem (by rw [HN.out]; exact hlt)⟩
   have c0 := HR.out k v ev
   have HEV := Lib.hid ev
   have hlt2 : (k : Int) < (n : Int) := by omega
   have hw : IntKind.i64.wrap ((k : Int) + 1) = (k : Int) + 1 := by rw [IntKind.wrap_i64]; omega
   clear ev
   by_cases hv : v = 0
   ·have hb : (v != 0) = false := by simp [hv]
    have HV := Lib.hid hv
    clear hv
    go_wp2_with fail
    go_round
    refine ⟨k + 1, by omega, by go_num, trivial, fun j u hj hu => ?_⟩
    ·by_cases e : j = k
     ·rw [e, HEV.out] at hu; cases hu; exact HV.out
     ·exact HALL.out j u (by omega) hu
    case measure => (simp [intOf] <;> omega)
   ·have hb : (v != 0) = true := by simp [hv]
    have HV := Lib.hid hv
    clear hv
    go_wp2_with fail
    go_ret
    exact ⟨by rw [orI_first l k v HEV.out HV.out HALL.out]; rfl, rfl⟩
  ·obtain rfl : k = n := by omega
   go_wp2_with fail
   go_ret
   exact ⟨by rw [orI_none l (fun j u hj hu => HALL.out j u (by rw [← HN.out]; exact hj) hu)]; rfl, rfl⟩
theorem Or3_is (x y z : Int) (b off c : Nat) (w : World) (hr : ∀ j v, [x, y, z][j]? = some v → w.cell? ⟨b, off + j, none⟩ = some (.int .i64 v)) :
  Calls Tryz.prog 77 #[.slice (some ⟨b, off, none⟩) 3 c] w fun e w' => e = .returned (.int .i64 (orI [x, y, z])) ∧ w' = w := by
 have h := Or_is [x, y, z] b off c w hr (by simp)
 simp only [List.length_cons, List.length_nil] at h
 exact h
theorem or3_cells (W : World) (x y z : Int) (T : TypeId) : ∀ j v, [x, y, z][j]? = some v → (W.alloc (.cells #[.int .i64 x, .int .i64 y, .int .i64 z] T)).cell? ⟨W.heap.size, 0 + j, none⟩ = some (.int .i64 v) := by
 intro j v hj
 rw [cell_of (heap_new W _)]
 match j with
 | 0 => simp at hj; subst hj; rfl
 | 1 => simp at hj; subst hj; rfl
 | 2 => simp at hj; subst hj; rfl
 | j + 3 => simp at hj
end Mo
namespace HpEv
open HpPure Mo
/-- One stands ahead of the other. -/
def evlt (x y : It) : Bool := decide (orI [cmpI x.f1 y.f1, cmpS x.f0 y.f0, cmpI x.f2 y.f2] < 0)
set_option maxHeartbeats 16000000 in
theorem evAhead_is (x y : It) (w : World) : Calls Tryz.prog 38 #[x.val, y.val] w fun e w' => e = .returned (.bool (evlt x y)) ∧ Kept Nil w w' := by
 unfold It.val evlt
 obtain ⟨c1, h1⟩ : ∃ c, cmpI x.f1 y.f1 = c := ⟨_, rfl⟩
 obtain ⟨c2, h2⟩ : ∃ c, cmpS x.f0 y.f0 = c := ⟨_, rfl⟩
 obtain ⟨c3, h3⟩ : ∃ c, cmpI x.f2 y.f2 = c := ⟨_, rfl⟩
 have hc1 := fun W => CompareI_is x.f1 y.f1 W
 have hc2 := fun W => CompareS_is x.f0 y.f0 W
 have hc3 := fun W => CompareI_is x.f2 y.f2 W
 rw [h1, h2, h3]
 simp only [h1, h2, h3] at hc1 hc2 hc3
 obtain ⟨r, hr⟩ : ∃ r, orI [c1, c2, c3] = r := ⟨_, rfl⟩
 rw [hr]
 have HR := Lib.hid hr
 clear h1 h2 h3 hr
 obtain ⟨W1, hW⟩ : ∃ W, ((w.alloc (.cells #[.string x.f0, .int .i64 x.f1, .int .i64 x.f2] 48)).alloc (.cells #[.string y.f0, .int .i64 y.f1, .int .i64 y.f2] 48)) = W := ⟨_, rfl⟩
 have hk : Kept Nil w W1 := by rw [← hW]; exact (((Kept.refl Nil w).alloc _).alloc _)
 have hsz : W1.heap.size = w.heap.size + 2 := by rw [← hW]; simp
 have hb : W1.heap[w.heap.size]? = some (.cells #[.string x.f0, .int .i64 x.f1, .int .i64 x.f2] 48 (0, 0)) := by
  rw [← hW]
  rw [heap_old _ _ (by simp only [World.size_alloc]; omega)]
  have h9 := heap_new w (.cells #[.string x.f0, .int .i64 x.f1, .int .i64 x.f2] 48)
  exact h9
 have A0 := Lib.hid (show W1.cell? ⟨w.heap.size, 0, none⟩ = some (.string x.f0) by rw [cell_of hb]; rfl)
 have A1 := Lib.hid (show W1.cell? ⟨w.heap.size, 1, none⟩ = some (.int .i64 x.f1) by rw [cell_of hb]; rfl)
 have A2 := Lib.hid (show W1.cell? ⟨w.heap.size, 2, none⟩ = some (.int .i64 x.f2) by rw [cell_of hb]; rfl)
 have AB := Lib.hid hb
 have hza : w.heap.size < W1.heap.size := by omega
 clear hb
 have hb : W1.heap[w.heap.size + 1]? = some (.cells #[.string y.f0, .int .i64 y.f1, .int .i64 y.f2] 48 (0, 0)) := by
  rw [← hW]
  have h9 := heap_new (w.alloc (.cells #[.string x.f0, .int .i64 x.f1, .int .i64 x.f2] 48)) (.cells #[.string y.f0, .int .i64 y.f1, .int .i64 y.f2] 48)
  simp only [World.size_alloc] at h9
  exact h9
 have B0 := Lib.hid (show W1.cell? ⟨w.heap.size + 1, 0, none⟩ = some (.string y.f0) by rw [cell_of hb]; rfl)
 have B1 := Lib.hid (show W1.cell? ⟨w.heap.size + 1, 1, none⟩ = some (.int .i64 y.f1) by rw [cell_of hb]; rfl)
 have B2 := Lib.hid (show W1.cell? ⟨w.heap.size + 1, 2, none⟩ = some (.int .i64 y.f2) by rw [cell_of hb]; rfl)
 have BB := Lib.hid hb
 have hzb : w.heap.size + 1 < W1.heap.size := by omega
 clear hb
 have HW := Lib.hid hW
 have HK := Lib.hid hk
 have HSZ := Lib.hid hsz
 clear hW hk hsz
 go_enter Tryz.func38, Tryz.ntmps38
 go_upto_region 1 with fail
 rw [HW.out]
 have C9_0 := Lib.hid (show W1.cell? ⟨w.heap.size, 0, none⟩ = some (.string x.f0) from A0.out)
 have C9_1 := Lib.hid (show W1.cell? ⟨w.heap.size, 1, none⟩ = some (.int .i64 x.f1) from A1.out)
 have C9_2 := Lib.hid (show W1.cell? ⟨w.heap.size, 2, none⟩ = some (.int .i64 x.f2) from A2.out)
 have C9_3 := Lib.hid (show W1.cell? ⟨w.heap.size + 1, 0, none⟩ = some (.string y.f0) from B0.out)
 have C9_4 := Lib.hid (show W1.cell? ⟨w.heap.size + 1, 1, none⟩ = some (.int .i64 y.f1) from B1.out)
 have C9_5 := Lib.hid (show W1.cell? ⟨w.heap.size + 1, 2, none⟩ = some (.int .i64 y.f2) from B2.out)
 have c9_0 := C9_0.out
 have c9_1 := C9_1.out
 have c9_2 := C9_2.out
 have c9_3 := C9_3.out
 have c9_4 := C9_4.out
 have c9_5 := C9_5.out
 (go_region_held3 (fun w' => w'.cell? ⟨w.heap.size, 0, none⟩ = some (.string x.f0) ∧ w'.cell? ⟨w.heap.size, 1, none⟩ = some (.int .i64 x.f1) ∧ w'.cell? ⟨w.heap.size, 2, none⟩ = some (.int .i64 x.f2) ∧ w'.cell? ⟨w.heap.size + 1, 0, none⟩ = some (.string y.f0) ∧ w'.cell? ⟨w.heap.size + 1, 1, none⟩ = some (.int .i64 y.f1) ∧ w'.cell? ⟨w.heap.size + 1, 2, none⟩ = some (.int .i64 y.f2)) (go_keep) (first
  | (
    go_at_call 78
    with_reducible refine (hc1 _).mono ?_
    rintro e w71 ⟨rfl, hk71⟩
    have hk71b : Kept Nil W1 w71 := by rw [hk71]; exact (Kept.refl Nil W1).drew
    clear hk71
    have hz : Kept Nil W1 w71 := (by repeat (first | exact kzr _ _ | assumption | refine kzd ?_ | refine kzn ?_ _ | refine kza ?_ _ | refine kzs ?_ (by assumption)))
    have w71_0 := hz.cell C9_0.out (fun h => h)
    have w71_1 := hz.cell C9_1.out (fun h => h)
    have w71_2 := hz.cell C9_2.out (fun h => h)
    have w71_3 := hz.cell C9_3.out (fun h => h)
    have w71_4 := hz.cell C9_4.out (fun h => h)
    have w71_5 := hz.cell C9_5.out (fun h => h)
    clear hz)
  | (
    go_at_call 79
    with_reducible refine (hc2 _).mono ?_
    rintro e w72 ⟨rfl, hk72⟩
    have hk72b : Kept Nil w71 w72 := by rw [hk72]; exact Kept.refl _ _
    clear hk72
    have hz : Kept Nil W1 w72 := (by repeat (first | exact kzr _ _ | assumption | refine kzd ?_ | refine kzn ?_ _ | refine kza ?_ _ | refine kzs ?_ (by assumption)))
    have w72_0 := hz.cell C9_0.out (fun h => h)
    have w72_1 := hz.cell C9_1.out (fun h => h)
    have w72_2 := hz.cell C9_2.out (fun h => h)
    have w72_3 := hz.cell C9_3.out (fun h => h)
    have w72_4 := hz.cell C9_4.out (fun h => h)
    have w72_5 := hz.cell C9_5.out (fun h => h)
    clear hz)
  | (
    go_at_call 78
    with_reducible refine (hc3 _).mono ?_
    rintro e w73 ⟨rfl, hk73⟩
    have hk73b : Kept Nil w72 w73 := by rw [hk73]; exact Kept.refl _ _
    clear hk73
    have hz : Kept Nil W1 w73 := (by repeat (first | exact kzr _ _ | assumption | refine kzd ?_ | refine kzn ?_ _ | refine kza ?_ _ | refine kzs ?_ (by assumption)))
    have w73_0 := hz.cell C9_0.out (fun h => h)
    have w73_1 := hz.cell C9_1.out (fun h => h)
    have w73_2 := hz.cell C9_2.out (fun h => h)
    have w73_3 := hz.cell C9_3.out (fun h => h)
    have w73_4 := hz.cell C9_4.out (fun h => h)
    have w73_5 := hz.cell C9_5.out (fun h => h)
    clear hz)
  | (
    go_at_call 77
    with_reducible refine (Or3_is c1 c2 c3 _ _ _ _ ?_).mono ?_
    ·exact or3_cells _ _ _ _ _
    rintro e w74 ⟨rfl, hk74⟩
    rw [HR.out]
    have hk74b : Kept Nil w73 w74 := by rw [hk74]; exact (Kept.refl Nil w73).alloc _
    clear hk74
    have hz : Kept Nil W1 w74 := (by repeat (first | exact kzr _ _ | assumption | refine kzd ?_ | refine kzn ?_ _ | refine kza ?_ _ | refine kzs ?_ (by assumption)))
    have w74_0 := hz.cell C9_0.out (fun h => h)
    have w74_1 := hz.cell C9_1.out (fun h => h)
    have w74_2 := hz.cell C9_2.out (fun h => h)
    have w74_3 := hz.cell C9_3.out (fun h => h)
    have w74_4 := hz.cell C9_4.out (fun h => h)
    have w74_5 := hz.cell C9_5.out (fun h => h)
    clear hz)
  ))
 all_goals (try go_wp2_with fail)
 all_goals (go_ret; exact ⟨rfl, HK.out.step (by repeat (first | exact kzr _ _ | assumption | refine kzd ?_ | refine kzn ?_ _ | refine kza ?_ _ | refine kzs ?_ (by assumption)))⟩)
theorem evLess (base : Nat) : Less evlt 38 #[] base (fun _ => True) :=
 ⟨enters_of (P := Tryz.prog) Tryz.func38 (by kernel_rfl) rfl, fun _ _ _ _ => trivial, fun W x y _ => evAhead_is x y W⟩
/-- heap.Sort of events, by canon.ahead. -/
theorem evSort_is (xs : List It) (A : Option Addr) (cap : Nat) (w : World) (hr : Row w A xs) (hn : xs.length ≤ 100000) :
  Calls Tryz.prog 37 #[.slice A xs.length cap, .func (.func 38) #[] #[]] w fun e w' => ∃ v, e = .returned v ∧ w'.ownsRow w.heap.size 48 3 v xs.length ((sortedBy evlt xs).flatMap It.cells) ∧ Kept Nil w w' :=
 Sort_is (evLess w.heap.size) trivial (Nat.le_refl _) A cap xs hr (by omega)
end HpEv
end Go.Proofs.YtniocgnfgpaioaaGreat
end
section
namespace Go.Proofs.YtniocgnfgpaioaaGreat.Mo
open Go Go.RowKit Go.Proofs.YtniocgnfgpaioaaGreat.Lb Go.Proofs.YtniocgnfgpaioaaGreat.HpPure
theorem bytesLess_irr (x : List UInt8) : Op.bytesLess x x = false := by
 have h := bytes_total x x
 have e : (x == x) = true := by simp
 rw [e, Bool.or_true] at h
 cases hb : Op.bytesLess x x with
 | false => rfl
 | true => rw [hb] at h; cases h
theorem bytesLess_tr : ∀ (x y z : List UInt8), Op.bytesLess x y = true → Op.bytesLess y z = true → Op.bytesLess x z = true
 | [], [], _, h, _ => by simp [Op.bytesLess] at h
 | _ :: _, [], _, h, _ => by simp [Op.bytesLess] at h
 | _, _ :: _, [], _, h => by simp [Op.bytesLess] at h
 | [], _ :: _, _ :: _, _, _ => by simp [Op.bytesLess]
 | a :: x, b :: y, c :: z, h1, h2 => by
  have ih := bytesLess_tr x y z
  simp only [Op.bytesLess, Bool.or_eq_true, decide_eq_true_eq, Bool.and_eq_true, beq_iff_eq, UInt8.lt_iff_toNat_lt] at *
  rcases h1 with h1 | ⟨rfl, h1⟩
  ·rcases h2 with h2 | ⟨rfl, h2⟩
   ·exact .inl (by omega)
   ·exact .inl h1
  ·rcases h2 with h2 | ⟨rfl, h2⟩
   ·exact .inl h2
   ·exact .inr ⟨rfl, ih h1 h2⟩
theorem bytesLess_inc (x y z : List UInt8) (h1 : Op.bytesLess x y = false) (h2 : Op.bytesLess y z = false) : Op.bytesLess x z = false := by
 cases hc : Op.bytesLess x z with
 | false => rfl
 | true =>
  have t1 := bytes_total x y
  have t2 := bytes_total y z
  rw [h1, Bool.false_or] at t1
  rw [h2, Bool.false_or] at t2
  cases hyx : Op.bytesLess y x with
  | true =>
   have := bytesLess_tr y x z hyx hc
   rw [this] at h2; cases h2
  | false =>
   rw [hyx] at t1
   have e : x = y := by simpa using t1
   rw [e] at hc
   rw [hc] at h2; cases h2
end Go.Proofs.YtniocgnfgpaioaaGreat.Mo
namespace Go.Proofs.YtniocgnfgpaioaaGreat
open Go.Proofs.YtniocgnfgpaioaaGreat.HpPure Go.Proofs.YtniocgnfgpaioaaGreat.Mo
theorem HpVr.nlt_swo : SWO HpVr.nlt := ⟨fun _ => bytesLess_irr _, fun _ _ _ => bytesLess_tr _ _ _, fun _ _ _ => bytesLess_inc _ _ _⟩
theorem HpPc.nlt_swo : SWO HpPc.nlt := ⟨fun _ => bytesLess_irr _, fun _ _ _ => bytesLess_tr _ _ _, fun _ _ _ => bytesLess_inc _ _ _⟩
theorem HpLi.nlt_swo : SWO HpLi.nlt := ⟨fun _ => bytesLess_irr _, fun _ _ _ => bytesLess_tr _ _ _, fun _ _ _ => bytesLess_inc _ _ _⟩
theorem HpEv.evlt_iff (x y : HpEv.It) : HpEv.evlt x y = true ↔ x.f1 < y.f1 ∨ (x.f1 = y.f1 ∧ (Go.Op.bytesLess x.f0.toList y.f0.toList = true ∨ (x.f0.toList = y.f0.toList ∧ x.f2 < y.f2))) := by
 unfold HpEv.evlt orI cmpI
 rw [decide_eq_true_iff]
 by_cases h1 : x.f1 < y.f1
 ·rw [if_pos h1]
  simp [h1]
 ·rw [if_neg h1]
  by_cases h2 : y.f1 < x.f1
  ·rw [if_pos h2]
   have : ¬ x.f1 = y.f1 := by omega
   simp [h1, this]
  ·rw [if_neg h2]
   have e : x.f1 = y.f1 := by omega
   simp only [if_true, h1, e, false_or, true_and, Int.lt_irrefl]
   unfold orI cmpS
   have ht := bytes_total x.f0.toList y.f0.toList
   by_cases h3 : Go.Op.bytesLess x.f0.toList y.f0.toList = true
   ·rw [if_pos h3]
    simp [h3]
   ·rw [if_neg h3]
    have h3' : Go.Op.bytesLess x.f0.toList y.f0.toList = false := by simpa using h3
    rw [h3', Bool.false_or] at ht
    by_cases h4 : Go.Op.bytesLess y.f0.toList x.f0.toList = true
    ·rw [if_pos h4]
     rw [h4] at ht
     have hne : ¬ x.f0.toList = y.f0.toList := by simpa using ht
     simp [h3', hne]
    ·rw [if_neg h4]
     have h4' : Go.Op.bytesLess y.f0.toList x.f0.toList = false := by simpa using h4
     rw [h4'] at ht
     have heq : x.f0.toList = y.f0.toList := by simpa using ht
     simp only [if_true, h3', heq, true_and]
     unfold orI orI
     by_cases h5 : x.f2 < y.f2
     ·rw [if_pos h5]; simp [h5, bytesLess_irr]
     ·rw [if_neg h5]
      by_cases h6 : y.f2 < x.f2
      ·rw [if_pos h6]; simp [h5, bytesLess_irr]
      ·rw [if_neg h6]; simp [h5, bytesLess_irr]
theorem HpEv.evlt_swo : SWO HpEv.evlt := by
 have hf : ∀ x y : HpEv.It, HpEv.evlt x y = false ↔ ¬ (x.f1 < y.f1 ∨ (x.f1 = y.f1 ∧ (Go.Op.bytesLess x.f0.toList y.f0.toList = true ∨ (x.f0.toList = y.f0.toList ∧ x.f2 < y.f2)))) := fun x y => by
  rw [← HpEv.evlt_iff]; simp
 refine ⟨fun a => ?_, fun a b c h1 h2 => ?_, fun a b c h1 h2 => ?_⟩
 ·rw [hf]
  rintro (h | ⟨_, h | ⟨_, h⟩⟩)
  ·omega
  ·rw [bytesLess_irr] at h; cases h
  ·omega
 ·rw [HpEv.evlt_iff] at *
  rcases h1 with h1 | ⟨e1, h1⟩
  ·rcases h2 with h2 | ⟨e2, h2⟩
   ·exact .inl (by omega)
   ·exact .inl (by omega)
  ·rcases h2 with h2 | ⟨e2, h2⟩
   ·exact .inl (by omega)
   ·refine .inr ⟨by omega, ?_⟩
    rcases h1 with h1 | ⟨f1, h1⟩
    ·rcases h2 with h2 | ⟨f2, h2⟩
     ·exact .inl (bytesLess_tr _ _ _ h1 h2)
     ·rw [← f2]; exact .inl h1
    ·rcases h2 with h2 | ⟨f2, h2⟩
     ·rw [f1]; exact .inl h2
     ·exact .inr ⟨f1.trans f2, by omega⟩
 ·rw [hf] at *
  intro h3
  have t1 := bytes_total a.f0.toList b.f0.toList
  have t2 := bytes_total b.f0.toList c.f0.toList
  rcases h3 with h3 | ⟨e3, h3⟩
  ·by_cases k : a.f1 < b.f1
   ·exact h1 (.inl k)
   ·exact h2 (.inl (by omega))
  ·have k1 : ¬ a.f1 < b.f1 := fun k => h1 (.inl k)
   have k2 : ¬ b.f1 < c.f1 := fun k => h2 (.inl k)
   have e1 : a.f1 = b.f1 := by omega
   have e2 : b.f1 = c.f1 := by omega
   have l1 : Go.Op.bytesLess a.f0.toList b.f0.toList = false := by
    cases hb : Go.Op.bytesLess a.f0.toList b.f0.toList with
    | false => rfl
    | true => exact absurd (.inr ⟨e1, .inl hb⟩) h1
   have l2 : Go.Op.bytesLess b.f0.toList c.f0.toList = false := by
    cases hb : Go.Op.bytesLess b.f0.toList c.f0.toList with
    | false => rfl
    | true => exact absurd (.inr ⟨e2, .inl hb⟩) h2
   rcases h3 with h3 | ⟨f3, h3⟩
   ·rw [bytesLess_inc _ _ _ l1 l2] at h3; cases h3
   ·have l3 : Go.Op.bytesLess b.f0.toList a.f0.toList = false := by rw [f3]; exact l2
    rw [l1, Bool.false_or, l3] at t1
    have f1 : a.f0.toList = b.f0.toList := by simpa using t1
    have f2 : b.f0.toList = c.f0.toList := f1.symm.trans f3
    by_cases k : a.f2 < b.f2
    ·exact h1 (.inr ⟨e1, .inr ⟨f1, k⟩⟩)
    ·exact h2 (.inr ⟨e2, .inr ⟨f2, by omega⟩⟩)
end Go.Proofs.YtniocgnfgpaioaaGreat
end
section
namespace Go.Proofs.YtniocgnfgpaioaaGreat.HpPure
variable {α : Type}
/-- Where x is put: from behind, ahead of all that it is less than. -/
def posR (lt : α → α → Bool) (x : α) (out : List α) : Nat → Nat
 | 0 => 0
 | k + 1 => match out[k]? with
  | some y => if lt x y then posR lt x out k else k + 1
  | none => k + 1
def insR (lt : α → α → Bool) (out : List α) (x : α) : List α := out.take (posR lt x out out.length) ++ x :: out.drop (posR lt x out out.length)
def insAll (lt : α → α → Bool) (xs : List α) : List α := xs.foldl (insR lt) []
theorem posR_le (lt : α → α → Bool) (x : α) (out : List α) (k : Nat) : posR lt x out k ≤ k := by
 induction k with
 | zero => exact Nat.le_refl _
 | succ k ih =>
  unfold posR
  split
  ·split
   ·omega
   ·exact Nat.le_refl _
  ·exact Nat.le_refl _
theorem posR_stop {lt : α → α → Bool} {x : α} {out : List α} {k : Nat} {y : α} (hy : out[k]? = some y) (h : lt x y = false) : posR lt x out (k + 1) = k + 1 := by
 unfold posR
 rw [hy]
 simp [h]
theorem posR_go {lt : α → α → Bool} {x : α} {out : List α} {k : Nat} {y : α} (hy : out[k]? = some y) (h : lt x y = true) : posR lt x out (k + 1) = posR lt x out k := by
 conv => lhs; unfold posR
 rw [hy]
 simp [h]
theorem posR_above (lt : α → α → Bool) (x : α) (out : List α) : ∀ (k : Nat), k ≤ out.length → ∀ (j : Nat) (y : α), posR lt x out k ≤ j → j < k → out[j]? = some y → lt x y = true := by
 intro k
 induction k with
 | zero => intro _ j y _ h; omega
 | succ k ih =>
  intro hk j y hj hjk hy
  obtain ⟨z, hz⟩ : ∃ z, out[k]? = some z := ⟨_, List.getElem?_eq_getElem (by omega)⟩
  cases hl : lt x z with
  | false => rw [posR_stop hz hl] at hj; omega
  | true =>
   rw [posR_go hz hl] at hj
   by_cases e : j = k
   ·subst e; rw [hz] at hy; cases hy; exact hl
   ·exact ih (by omega) j y hj (by omega) hy
theorem posR_below (lt : α → α → Bool) (x : α) (out : List α) : ∀ (k : Nat), k ≤ out.length → ∀ (y : α), 0 < posR lt x out k → out[posR lt x out k - 1]? = some y → lt x y = false := by
 intro k
 induction k with
 | zero => intro _ y h; simp [posR] at h
 | succ k ih =>
  intro hk y h hy
  obtain ⟨z, hz⟩ : ∃ z, out[k]? = some z := ⟨_, List.getElem?_eq_getElem (by omega)⟩
  cases hl : lt x z with
  | false =>
   rw [posR_stop hz hl] at hy
   simp only [Nat.add_sub_cancel] at hy
   rw [hz] at hy; cases hy; exact hl
  | true =>
   rw [posR_go hz hl] at h hy
   exact ih (by omega) y h hy
/-- The same over numbered things: the order looks at the things alone. -/
def ltN (lt : α → α → Bool) (p q : α × Int) : Bool := lt p.1 q.1
theorem posR_map (lt : α → α → Bool) (p : α × Int) (out : List (α × Int)) (k : Nat) : posR (ltN lt) p out k = posR lt p.1 (out.map Prod.fst) k := by
 induction k with
 | zero => rfl
 | succ k ih =>
  unfold posR
  rw [List.getElem?_map]
  cases out[k]? with
  | none => rfl
  | some q => simp only [Option.map_some, ltN, ih]
theorem insR_map (lt : α → α → Bool) (p : α × Int) (out : List (α × Int)) : (insR (ltN lt) out p).map Prod.fst = insR lt (out.map Prod.fst) p.1 := by
 unfold insR
 rw [posR_map, List.length_map, List.map_append, List.map_take, List.map_cons, List.map_drop]
theorem insR_perm (lt : α → α → Bool) (x : α) (out : List α) : (insR lt out x).Perm (x :: out) := by
 unfold insR
 refine List.perm_middle.trans ?_
 rw [List.take_append_drop]
theorem insR_length (lt : α → α → Bool) (x : α) (out : List α) : (insR lt out x).length = out.length + 1 := (insR_perm lt x out).length_eq
theorem insR_sorted {lt : α → α → Bool} (h : SWO lt) {L : List (α × Int)} {p : α × Int} (hL : L.Pairwise (fun a b => bef lt b a = false)) (hp : ∀ q ∈ L, q.2 < p.2) : (insR (ltN lt) L p).Pairwise (fun a b => bef lt b a = false) := by
 have habove := posR_above (ltN lt) p L L.length (Nat.le_refl _)
 have hbelow := posR_below (ltN lt) p L L.length (Nat.le_refl _)
 have hle := posR_le (ltN lt) p L L.length
 unfold insR
 generalize posR (ltN lt) p L L.length = a at *
 have hsplit : (L.take a ++ L.drop a).Pairwise (fun a b => bef lt b a = false) := by rw [List.take_append_drop]; exact hL
 rw [List.pairwise_append] at hsplit
 obtain ⟨h1, h2, h3⟩ := hsplit
 have hpq : ∀ q ∈ L.take a, bef lt p q = false := by
  intro q hq
  obtain ⟨j, hj, rfl⟩ := List.mem_iff_getElem.1 hq
  rw [List.length_take] at hj
  rw [List.getElem_take]
  have hq2 := hp L[j] (List.getElem_mem _)
  have hx : lt p.1 (L[j]).1 = false := by
   have ha1 : a - 1 < L.length := by omega
   have hb := hbelow L[a - 1] (by omega) (List.getElem?_eq_getElem ha1)
   by_cases e : j = a - 1
   ·subst e; exact hb
   ·have h9 := List.pairwise_iff_getElem.1 hL j (a - 1) (by omega) ha1 (by omega)
    simp only [bef, Bool.or_eq_false_iff] at h9
    exact h.incomp _ _ _ hb h9.1
  simp only [bef, hx, Bool.false_or, Bool.and_eq_false_iff, decide_eq_false_iff_not]
  exact .inr (by omega)
 rw [List.pairwise_append]
 refine ⟨h1, ?_, ?_⟩
 ·rw [List.pairwise_cons]
  refine ⟨fun q hq => ?_, h2⟩
  obtain ⟨j, hj, rfl⟩ := List.mem_iff_getElem.1 hq
  rw [List.length_drop] at hj
  rw [List.getElem_drop]
  have hx := habove (a + j) L[a + j] (by omega) (by omega) (List.getElem?_eq_getElem _)
  have hx' : lt p.1 (L[a + j]).1 = true := hx
  have hy : lt (L[a + j]).1 p.1 = false := by
   cases hc : lt (L[a + j]).1 p.1 with
   | false => rfl
   | true => have := h.trans _ _ _ hx' hc; rw [h.irrefl] at this; cases this
  simp [bef, hy, hx']
 ·intro q hq r hr
  rcases List.mem_cons.1 hr with rfl | hr
  ·exact hpq q hq
  ·exact h3 q hq r hr
theorem insFold_map (lt : α → α → Bool) (ps acc : List (α × Int)) : (ps.foldl (insR (ltN lt)) acc).map Prod.fst = (ps.map Prod.fst).foldl (insR lt) (acc.map Prod.fst) := by
 induction ps generalizing acc with
 | nil => rfl
 | cons p ps ih => simp only [List.foldl_cons, List.map_cons]; rw [ih, insR_map]
theorem insFold_perm (lt : α → α → Bool) (ps acc : List (α × Int)) : (ps.foldl (insR (ltN lt)) acc).Perm (acc ++ ps) := by
 induction ps generalizing acc with
 | nil => simp
 | cons p ps ih =>
  simp only [List.foldl_cons]
  refine (ih _).trans ?_
  refine ((insR_perm (ltN lt) p acc).append_right ps).trans ?_
  simpa using (List.perm_middle (a := p) (l₁ := acc) (l₂ := ps)).symm
theorem insFold_sorted {lt : α → α → Bool} (h : SWO lt) : ∀ (xs : List α) (s : Int) (acc : List (α × Int)), acc.Pairwise (fun a b => bef lt b a = false) → (∀ q ∈ acc, q.2 < s) → ((numbered s xs).foldl (insR (ltN lt)) acc).Pairwise (fun a b => bef lt b a = false)
 | [], _, acc, h1, _ => h1
 | x :: xs, s, acc, h1, h2 => by
  unfold numbered
  simp only [List.foldl_cons]
  refine insFold_sorted h xs (s + 1) _ (insR_sorted h h1 h2) (fun q hq => ?_)
  rcases List.mem_cons.1 ((insR_perm (ltN lt) (x, s) acc).mem_iff.1 hq) with rfl | hq
  ·simp only; omega
  ·have := h2 q hq; omega
/-- What is put in one by one is what the heap gives. -/
theorem insAll_sorted {lt : α → α → Bool} (h : SWO lt) (xs : List α) : insAll lt xs = sortedBy lt xs := by
 have h1 := sortedP_unique h (xs := xs) (ys := (numbered 0 xs).foldl (insR (ltN lt)) []) (by simpa using insFold_perm lt (numbered 0 xs) []) (insFold_sorted h xs 0 [] List.Pairwise.nil (fun q hq => by simp at hq))
 unfold sortedBy insAll
 rw [h1, insFold_map, numbered_fst]
 rfl
theorem insAll_take {lt : α → α → Bool} {xs : List α} {k : Nat} {x : α} (hx : xs[k]? = some x) : insAll lt (xs.take (k + 1)) = insR lt (insAll lt (xs.take k)) x := by
 unfold insAll
 rw [List.take_add_one, hx, Option.toList_some, List.foldl_append]
 rfl
theorem insAll_length (lt : α → α → Bool) (xs : List α) : (insAll lt xs).length = xs.length := by
 unfold insAll
 have h : ∀ (xs acc : List α), (xs.foldl (insR lt) acc).length = acc.length + xs.length := by
  intro xs
  induction xs with
  | nil => intro acc; simp
  | cons x xs ih => intro acc; simp only [List.foldl_cons, List.length_cons]; rw [ih, insR_length]; omega
 have := h xs []
 simpa using this
end Go.Proofs.YtniocgnfgpaioaaGreat.HpPure
end
section
section
namespace Go.Proofs.YtniocgnfgpaioaaGreat.HpPure
variable {α β : Type}
theorem posR_mapf (lt : β → β → Bool) (f : α → β) (x : α) (out : List α) (k : Nat) : posR lt (f x) (out.map f) k = posR (fun a b => lt (f a) (f b)) x out k := by
 induction k with
 | zero => rfl
 | succ k ih =>
  unfold posR
  rw [List.getElem?_map]
  cases out[k]? with
  | none => rfl
  | some q => simp only [Option.map_some, ih]
theorem insR_mapf (lt : β → β → Bool) (f : α → β) (x : α) (out : List α) : insR lt (out.map f) (f x) = (insR (fun a b => lt (f a) (f b)) out x).map f := by
 unfold insR
 rw [List.length_map, posR_mapf, List.map_append, List.map_take, List.map_cons, List.map_drop]
theorem insAll_mapf (lt : β → β → Bool) (f : α → β) (xs : List α) : insAll lt (xs.map f) = (insAll (fun a b => lt (f a) (f b)) xs).map f := by
 unfold insAll
 have h : ∀ (xs acc : List α), (xs.map f).foldl (insR lt) (acc.map f) = (xs.foldl (insR (fun a b => lt (f a) (f b))) acc).map f := by
  intro xs
  induction xs with
  | nil => intro acc; rfl
  | cons x xs ih => intro acc; simp only [List.map_cons, List.foldl_cons]; rw [insR_mapf, ih]
 exact h xs []
theorem SWO.comap {lt : β → β → Bool} (h : SWO lt) (f : α → β) : SWO (fun a b => lt (f a) (f b)) := ⟨fun _ => h.irrefl _, fun _ _ _ => h.trans _ _ _, fun _ _ _ => h.incomp _ _ _⟩
theorem sortedBy_mapf {lt : β → β → Bool} (h : SWO lt) (f : α → β) (xs : List α) : sortedBy lt (xs.map f) = (sortedBy (fun a b => lt (f a) (f b)) xs).map f := by
 rw [← insAll_sorted h, insAll_mapf, insAll_sorted (h.comap f)]
end Go.Proofs.YtniocgnfgpaioaaGreat.HpPure
namespace Go.Proofs.YtniocgnfgpaioaaGreat.Mo
open Go Go.RowKit Go.Proofs.YtniocgnfgpaioaaGreat.Lb Go.Proofs.YtniocgnfgpaioaaGreat.HpPure
def itV (v : V) : HpVr.It := ⟨v.name, v.init⟩
def itP (p : Pr) : HpPc.It := ⟨p.name, p.weight, ⟨p.va, p.vs.length, p.vc⟩, ⟨p.sa, p.ss.length, p.sc⟩⟩
def itL (l : Lk) : HpLi.It := ⟨l.name, l.src, l.dst, l.delay, l.weight⟩
def itE (e : Ev) : HpEv.It := ⟨e.to, e.at_, e.value⟩
def vlt (a b : V) : Bool := Op.bytesLess a.name.toList b.name.toList
def plt (a b : Pr) : Bool := Op.bytesLess a.name.toList b.name.toList
def llt (a b : Lk) : Bool := Op.bytesLess a.name.toList b.name.toList
def elt (a b : Ev) : Bool := HpEv.evlt (itE a) (itE b)
theorem vlt_swo : SWO vlt := HpVr.nlt_swo.comap itV
theorem plt_swo : SWO plt := HpPc.nlt_swo.comap itP
theorem llt_swo : SWO llt := HpLi.nlt_swo.comap itL
theorem elt_swo : SWO elt := HpEv.evlt_swo.comap itE
theorem sort_itV (l : List V) : (sortedBy HpVr.nlt (l.map itV)).flatMap HpVr.It.cells = (sortedBy vlt l).flatMap vrCells := by
 rw [sortedBy_mapf HpVr.nlt_swo, List.flatMap_map]; rfl
theorem sort_itP (l : List Pr) : (sortedBy HpPc.nlt (l.map itP)).flatMap HpPc.It.cells = (sortedBy plt l).flatMap prCells := by
 rw [sortedBy_mapf HpPc.nlt_swo, List.flatMap_map]; rfl
theorem sort_itL (l : List Lk) : (sortedBy HpLi.nlt (l.map itL)).flatMap HpLi.It.cells = (sortedBy llt l).flatMap lkCells := by
 rw [sortedBy_mapf HpLi.nlt_swo, List.flatMap_map]; rfl
theorem sort_itE (l : List Ev) : (sortedBy HpEv.evlt (l.map itE)).flatMap HpEv.It.cells = (sortedBy elt l).flatMap evCells := by
 rw [sortedBy_mapf HpEv.evlt_swo, List.flatMap_map]; rfl
theorem row_itV {w : World} {A : Option Addr} {l : List V} (h : RVars w A l) : HpVr.Row w A (l.map itV) := by
 rcases h with h | ⟨b, off, e, hc⟩
 ·exact .inl (by rw [h]; rfl)
 ·refine .inr ⟨b, off, e, fun j x hx => ?_⟩
  rw [List.getElem?_map, Option.map_eq_some_iff] at hx
  obtain ⟨v, hv, rfl⟩ := hx
  exact hc j v hv
theorem row_itP {w : World} {A : Option Addr} {l : List Pr} (h : RProcs w A l) : HpPc.Row w A (l.map itP) := by
 rcases h with h | ⟨b, off, e, hc⟩
 ·exact .inl (by rw [h]; rfl)
 ·refine .inr ⟨b, off, e, fun j x hx => ?_⟩
  rw [List.getElem?_map, Option.map_eq_some_iff] at hx
  obtain ⟨v, hv, rfl⟩ := hx
  exact hc j v hv
theorem row_itL {w : World} {A : Option Addr} {l : List Lk} (h : RLinks w A l) : HpLi.Row w A (l.map itL) := by
 rcases h with h | ⟨b, off, e, hc⟩
 ·exact .inl (by rw [h]; rfl)
 ·refine .inr ⟨b, off, e, fun j x hx => ?_⟩
  rw [List.getElem?_map, Option.map_eq_some_iff] at hx
  obtain ⟨v, hv, rfl⟩ := hx
  exact hc j v hv
theorem row_itE {w : World} {A : Option Addr} {l : List Ev} (h : REvents w A l) : HpEv.Row w A (l.map itE) := by
 rcases h with h | ⟨b, off, e, hc⟩
 ·exact .inl (by rw [h]; rfl)
 ·refine .inr ⟨b, off, e, fun j x hx => ?_⟩
  rw [List.getElem?_map, Option.map_eq_some_iff] at hx
  obtain ⟨v, hv, rfl⟩ := hx
  exact hc j v hv
/-- A process, and a model, laid down. -/
def canP (p : Pr) : Pr := { p with vs := sortedBy vlt p.vs }
def canM (m : Md) : Md := { m with ps := (sortedBy plt m.ps).map canP, ls := sortedBy llt m.ls, es := sortedBy elt m.es }
theorem canP_same {p q : Pr} (h : SameP p q) : SameP (canP p) (canP q) := ⟨h.n, h.w, by simp only [canP]; rw [h.v], h.s⟩
theorem samePs_of_map {a b : List Pr} {f : Pr → Pr} (h : ∀ p, SameP p (f p)) (e : b = a.map f) : SamePs a b := by
 subst e
 exact ⟨by simp, fun j p q h1 h2 => by rw [List.getElem?_map, h1] at h2; simp at h2; subst h2; exact h p⟩
/-- What a process says. -/
def keyP (p : Pr) : ByteArray × Int × List V × List S := (p.name, p.weight, p.vs, p.ss)
theorem sameP_key {p q : Pr} : SameP p q ↔ keyP p = keyP q := by
 unfold keyP
 constructor
 ·intro h; rw [h.n, h.w, h.v, h.s]
 ·intro h
  simp only [Prod.mk.injEq] at h
  exact ⟨h.1, h.2.1, h.2.2.1, h.2.2.2⟩
theorem samePs_key {a b : List Pr} : SamePs a b ↔ a.map keyP = b.map keyP := by
 constructor
 ·intro h
  refine List.ext_getElem? fun j => ?_
  rw [List.getElem?_map, List.getElem?_map]
  by_cases hj : j < a.length
  ·have h1 : a[j]? = some a[j] := List.getElem?_eq_getElem hj
   have h2 : b[j]? = some (b[j]'(by rw [← h.l]; exact hj)) := List.getElem?_eq_getElem _
   rw [h1, h2, Option.map_some, Option.map_some, sameP_key.1 (h.p j _ _ h1 h2)]
  ·rw [List.getElem?_eq_none (by omega), List.getElem?_eq_none (by have := h.l; omega)]
 ·intro h
  refine ⟨by have := congrArg List.length h; simpa using this, fun j p q h1 h2 => ?_⟩
  have h3 : (a.map keyP)[j]? = (b.map keyP)[j]? := by rw [h]
  rw [List.getElem?_map, List.getElem?_map, h1, h2] at h3
  exact sameP_key.2 (by simpa using h3)
def klt (a b : ByteArray × Int × List V × List S) : Bool := Op.bytesLess a.1.toList b.1.toList
theorem klt_swo : SWO klt := ⟨fun _ => bytesLess_irr _, fun _ _ _ => bytesLess_tr _ _ _, fun _ _ _ => bytesLess_inc _ _ _⟩
theorem sort_key (a : List Pr) : (sortedBy plt a).map keyP = sortedBy klt (a.map keyP) := (sortedBy_mapf klt_swo keyP a).symm
/-- What is the same is sorted the same: names alone are looked at. -/
theorem sort_same {a b : List Pr} (h : SamePs a b) : SamePs (sortedBy plt a) (sortedBy plt b) := by
 rw [samePs_key, sort_key, sort_key, samePs_key.1 h]
theorem map_same {a b : List Pr} (h : SamePs a b) : SamePs (a.map canP) (b.map canP) := by
 refine ⟨by have := h.l; simpa using this, fun j p q h1 h2 => ?_⟩
 rw [List.getElem?_map, Option.map_eq_some_iff] at h1 h2
 obtain ⟨p', hp, rfl⟩ := h1
 obtain ⟨q', hq, rfl⟩ := h2
 exact canP_same (h.p j _ _ hp hq)
theorem canM_same {a b : Md} (h : SameM a b) : SameM (canM a) (canM b) :=
 ⟨h.v, map_same (sort_same h.p), by simp only [canM]; rw [h.l], by simp only [canM]; rw [h.e]⟩
theorem canM_small {m : Md} (h : SmallM m) : SmallM (canM m) := by
 refine ⟨by simp only [canM, List.length_map, sortedBy_length]; exact h.p, by simp only [canM, sortedBy_length]; exact h.l, by simp only [canM, sortedBy_length]; exact h.e, fun q hq => ?_⟩
 simp only [canM, List.mem_map] at hq
 obtain ⟨p, hp, rfl⟩ := hq
 have h9 := h.v p ((sortedBy_perm plt m.ps).mem_iff.1 hp)
 simp only [canP, sortedBy_length]
 exact h9
end Go.Proofs.YtniocgnfgpaioaaGreat.Mo
end
end
