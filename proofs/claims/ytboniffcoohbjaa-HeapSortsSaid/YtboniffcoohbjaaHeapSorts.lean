/- The walk of the statement HeapSorts. -/
import Derived.Test.YtboniffcoohbjaaRef06Q
import Derived.Test.YtboniffcoohbjaaScSum
namespace Go.Proofs.Ytboniffcoohbjaa.HpItem
open Go Go.RowKit Go.Shelf Go.Proofs.Ytboniffcoohbjaa.Lb Go.Proofs.Ytboniffcoohbjaa.HpPure Go.Proofs.Ytboniffcoohbjaa.Ref06
set_option linter.unusedVariables false
set_option linter.unusedSimpArgs false

/-- The items of a list of keys. -/
def mkRow (zs : List Int) : List It := (numbered 0 zs).map (fun p => ⟨p.1, p.2⟩)
theorem mkRow_len (zs : List Int) : (mkRow zs).length = zs.length := by unfold mkRow; rw [List.length_map, numbered_length]
theorem mkRow_take (zs : List Int) {k : Nat} {z : Int} (h : zs[k]? = some z) : mkRow (zs.take (k + 1)) = mkRow (zs.take k) ++ [⟨z, k⟩] := by
  have hk := (List.getElem?_eq_some_iff.1 h).1
  unfold mkRow
  rw [List.take_add_one, h, numbered_append, List.map_append]
  simp [numbered, Nat.min_eq_left (Nat.le_of_lt hk)]
/-- Two rows of their own. -/
structure Two (n0 : Nat) (r a : Value) (xs : List It) (W : World) : Prop where
  o1 : W.ownsRow n0 37 2 r xs.length (xs.flatMap It.cells)
  o2 : W.ownsRow n0 37 2 a xs.length (xs.flatMap It.cells)
  ne : ∀ i, r.ownBlock = some i → a.ownBlock ≠ some i

set_option maxHeartbeats 4000000 in
theorem HeapSorts_calls (zs : List Int) (A : Option Addr) (cap : Nat) (w : World) (hm : zs.length ≤ maxLen) (hw : ∀ z ∈ zs, Sc.I64 z) (hr : Sc.Reads w .i64 A zs) :
    Calls Try.prog 12 #[.slice A zs.length cap] w fun e w' => e = .returned (.bool true) ∧ Below w.heap.size w w' := by
  obtain ⟨i0, hinf, hz0, hz1, hz2⟩ := info_parts info2
  have HR := Lib.hid hr
  clear hr hw
  unfold maxLen at hm
  by_cases h200 : 200 < zs.length
  · go_enter Try.func12, Try.ntmps12
    go_wp2_with fail
    refine (alive_is w).mono ?_
    rintro e w1 ⟨rfl, hk1⟩
    have HK := Lib.hid hk1
    clear hk1
    go_wp2
    go_ret
    exact ⟨rfl, HK.out.toBelow⟩
  · go_enter Try.func12, Try.ntmps12
    go_wp2_with fail
    refine (alive_is w).mono ?_
    rintro e w1 ⟨rfl, hk1⟩
    have HK := Lib.hid hk1
    have hw1 := hk1.size
    clear hk1
    go_wp2_with fail
    go_loopw [3, 4, 16] (fun r a i wr => ∃ k : Nat, k ≤ zs.length ∧ i = .int .i64 k ∧ Two w.heap.size r a (mkRow (zs.take k)) wr ∧ Kept Nil w wr) (fun _ _ i _ => zs.length - (intOf i).toNat)
    case atStart =>
      refine ⟨0, Nat.zero_le _, rfl, ⟨?_, ?_, fun i h => by simp [Value.ownBlock] at *; omega⟩, (HK.out.alloc _).alloc _⟩
      · exact (World.ownsRow_lit w1 #[] 0 hw1 (by decide) rfl).alloc _
      · have := World.ownsRow_lit (base := w.heap.size) (e := 37) (size := 2) (w1.alloc (.cells #[] 37)) #[] 0 (by simp; omega) (by decide) rfl
        rwa [World.size_alloc] at this
    case round =>
      obtain ⟨k, hk, rfl, hT, hK⟩ := hrel
      have HKr := Lib.hid hK
      have HT := Lib.hid hT
      have hzz := hK.size
      have hrd : zs.length ≤ k ∨ ∃ b off z, A = some ⟨b, off, none⟩ ∧ zs[k]? = some z ∧ wr.cell? ⟨b, off + k, none⟩ = some (.int .i64 z) := by
        by_cases hlt : k < zs.length
        · rcases HR.out with rfl | ⟨b, off, h, hc⟩
          · simp at hlt
          · have := hc k hlt
            rw [List.getElem?_eq_getElem hlt] at this
            exact .inr ⟨b, off, _, h, List.getElem?_eq_getElem hlt, hK.cell this (fun h => h)⟩
        · exact .inl (by omega)
      clear hT hK
      rcases hrd with hge | ⟨b, off, z, rfl, hz, hc⟩
      · obtain rfl : k = zs.length := by omega
        rw [List.take_length] at HT
        obtain ⟨A1, c1, e1, R1, B1⟩ := (row_of_own HT.out.o1).2
        obtain ⟨A2, c2, e2, R2, B2⟩ := (row_of_own HT.out.o2).2
        have HR1 := Lib.hid R1
        have HB1 := Lib.hid B1
        have HR2 := Lib.hid R2
        subst e1 e2
        have hml := mkRow_len zs
        have hml2 : (mkRow zs).length ≤ 200 := by omega
        have HT2 := HT
        have HSR := Lib.hid (sortRef_eq (mkRow zs))
        have hsl := sortedBy_length ltK (mkRow zs)
        generalize mkRow zs = xs at *
        have HSL := Lib.hid hsl
        clear R1 B1 R2 hml hsl
        go_wp2_with fail
        refine (Sort_is less_is trivial (Nat.zero_le _) A1 c1 xs HR1.out (by omega)).mono ?_
        rintro e w3 ⟨v3, rfl, O3, k3⟩
        rw [HSR.out] at O3
        have HXL := Lib.hid (row_of_own O3).1
        obtain ⟨A3, c3, e3, R3, B3⟩ := (row_of_own O3).2
        subst e3
        have HR3 := Lib.hid R3
        have HK3 := Lib.hid k3
        have hz3 := k3.size
        clear O3 R3 k3
        go_wp2_with fail
        refine (Sorted_is xs A1 c1 w3 (HR1.out.kept HK3.out (fun _ _ h => h)) (fun b off e => by have := (HB1.out b off e).2.1; omega) (by omega)).mono ?_
        rintro e w4 ⟨v4, rfl, O4, k4⟩
        obtain ⟨A4, c4, e4, R4, B4⟩ := (row_of_own O4).2
        subst e4
        have HR4 := Lib.hid R4
        have HK4 := Lib.hid k4
        clear O4 R4 k4 B3 B4
        go_wp2_with fail
        refine (Same_is (sortRef xs) A3 A4 c3 c4 w4 (HR3.out.kept HK4.out (fun _ _ h => h)) HR4.out (by have := HXL.out; omega)).mono ?_
        rintro e w5 ⟨rfl, k5⟩
        have HK5 := Lib.hid ((HK3.out.step HK4.out).step k5)
        clear k5
        go_wp2_with fail
        refine (Same_is xs A1 A2 c1 c2 w5 (HR1.out.kept HK5.out (fun _ _ h => h)) (HR2.out.kept HK5.out (fun _ _ h => h)) (by omega)).mono ?_
        rintro e w6 ⟨rfl, k6⟩
        have HK6 := Lib.hid ((HKr.out.step HK5.out).step k6)
        clear k6
        go_wp2
        go_ret
        exact ⟨rfl, HK6.out.toBelow⟩
      · have hlt : k < zs.length := (List.getElem?_eq_some_iff.1 hz).1
        have hmk := mkRow_take zs hz
        have hl : (mkRow (zs.take k)).length = k := by rw [mkRow_len, List.length_take, Nat.min_eq_left (Nat.le_of_lt hlt)]
        have HMK := Lib.hid hmk
        have HL := Lib.hid hl
        clear hmk hz hl
        go_wp2_with (at_builtin; first
          | (refine wpList_append_own_at _ rfl _ _ 39 rfl w.heap.size 37 i0 (.agg #[.int .i64 0, .int .i64 0]) 2 16 Try.underlying39 hinf hz0 hz1 hz2 rfl (by decide) _ _ _ rfl (HA3.out.alloc _) ⟨w3.heap.size, 0, none⟩ 1 1 [.int .i64 z, .int .i64 k] rfl rfl (cells_new _ _ _) (by simp [Value.oneCell']) (by rw [HL.out]; unfold maxLen; omega) (by rw [HL.out]; omega) (by have := HK3.out.size; simp; omega) ?_; intro a' w4 hown4 hgrow4 _ hat4)
          | (refine wpList_append_own_at _ rfl _ _ 39 rfl w.heap.size 37 i0 (.agg #[.int .i64 0, .int .i64 0]) 2 16 Try.underlying39 hinf hz0 hz1 hz2 rfl (by decide) _ _ _ rfl (HT.out.o1.alloc _) ⟨wr.heap.size, 0, none⟩ 1 1 [.int .i64 z, .int .i64 k] rfl rfl (cells_new _ _ _) (by simp [Value.oneCell']) (by rw [HL.out]; unfold maxLen; omega) (by rw [HL.out]; omega) (by simp; omega) ?_; intro r' w3 hown' hgrow _ hat
             have HK3 := Lib.hid ((HKr.out.alloc _).grown hgrow (fun j e => .inr (HT.out.o1.lt j e).1))
             have HA3 := Lib.hid (Kept.own (Kept.grown (S := fun i => _ = some i) ((Kept.refl _ _).alloc _) hgrow (fun j e => .inl e)) HT.out.o2 (fun i h1 h2 => HT.out.ne i h2 h1))
             have HO3 := Lib.hid hown'
             have HAT := Lib.hid hat
             clear hown' hgrow hat))
        have hgrow4 : (w3.alloc (.cells #[.int .i64 z, .int .i64 k] 37)).grownBy w4 _ := hgrow4
        have h3 := HK3.out.size
        have hs4 := hgrow4.size
        refine ⟨⟨k + 1, by omega, by go_num, ⟨?_, ?_, ?_⟩, ?_⟩, by simp [intOf] <;> omega⟩
        · rw [HMK.out]
          have hk4 : Kept (fun i => _ = some i) w3 w4 := Kept.grown ((Kept.refl _ w3).alloc _) hgrow4 (fun j e => .inl e)
          have := hk4.own HO3.out (fun i h1 h2 => by
            have h2' : (_ : Option Nat) = some i := h2
            have h5 := (HT.out.o2.lt i h2').2
            rcases HAT.out with e | e
            · exact HT.out.ne i (e ▸ h1) h2'
            · rw [e] at h1
              simp at h1
              omega)
          simpa [It.cells] using this
        · rw [HMK.out]; simpa [It.cells] using hown4
        · intro i h1 h2
          have h5 := (HO3.out.lt i h1).2
          rcases hat4 with e | e
          · have e' : (_ : Option Nat) = _ := e
            rw [h2] at e'
            have h6 := (HT.out.o2.lt i e'.symm).2
            rcases HAT.out with e3 | e3
            · exact HT.out.ne i (e3 ▸ h1) e'.symm
            · rw [e3] at h1; simp at h1; omega
          · rw [h2] at e; simp at e; omega
        · exact (HK3.out.alloc _).grown hgrow4 (fun j e => .inr (HT.out.o2.lt j e).1)
end Go.Proofs.Ytboniffcoohbjaa.HpItem
