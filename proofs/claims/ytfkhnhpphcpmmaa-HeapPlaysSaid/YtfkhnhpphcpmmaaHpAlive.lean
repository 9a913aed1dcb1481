/- The example of layer 6: 'less', and that alive answers true. -/
import Derived.Test.YtfkhnhpphcpmmaaHpTake
import Derived.Test.YtfkhnhpphcpmmaaHpInt7
namespace Go.Proofs.Ytfkhnhpphcpmmaa.HpItem
open Go Go.RowKit Go.Shelf Go.Proofs.Ytfkhnhpphcpmmaa.Lb Go.Proofs.Ytfkhnhpphcpmmaa.HpPure
set_option linter.unusedVariables false
set_option linter.unusedSimpArgs false

def ltK (a b : It) : Bool := decide (a.f0 < b.f0)
theorem swoK : SWO ltK := ⟨fun a => by simp [ltK], fun a b c h1 h2 => by simp [ltK] at *; omega, fun a b c h1 h2 => by simp [ltK] at *; omega⟩
theorem less_is : Less ltK 10 #[] 0 (fun _ => True) := by
  refine ⟨enters_of Try.func10 (by kernel_rfl) rfl, fun _ _ h _ => h, ?_⟩
  rintro W ⟨a0, a1⟩ ⟨b0, b1⟩ _
  show Calls Try.prog 10 #[.agg #[.int .i64 a0, .int .i64 a1], .agg #[.int .i64 b0, .int .i64 b1]] W _
  go_enter Try.func10, Try.ntmps10
  go_wp2
  go_ret
  exact ⟨rfl, ((Kept.refl Nil W).alloc _).alloc _⟩
def gtK (a b : It) : Bool := decide (b.f0 < a.f0)
theorem swoG : SWO gtK := ⟨fun a => by simp [gtK], fun a b c h1 h2 => by simp [gtK] at *; omega, fun a b c h1 h2 => by simp [gtK] at *; omega⟩
theorem greater_is : Less gtK 21 #[] 0 (fun _ => True) := by
  refine ⟨enters_of Try.func21 (by kernel_rfl) rfl, fun _ _ h _ => h, ?_⟩
  rintro W ⟨a0, a1⟩ ⟨b0, b1⟩ _
  show Calls Try.prog 21 #[.agg #[.int .i64 a0, .int .i64 a1], .agg #[.int .i64 b0, .int .i64 b1]] W _
  go_enter Try.func21, Try.ntmps21
  go_wp2
  go_ret
  exact ⟨rfl, ((Kept.refl Nil W).alloc _).alloc _⟩
def ltI (a b : HpInt.It) : Bool := decide (a.f0 < b.f0)
theorem swoI : SWO ltI := ⟨fun a => by simp [ltI], fun a b c h1 h2 => by simp [ltI] at *; omega, fun a b c h1 h2 => by simp [ltI] at *; omega⟩
theorem lessI_is : HpInt.Less ltI 23 #[] 0 (fun _ => True) := by
  refine ⟨enters_of Try.func23 (by kernel_rfl) rfl, fun _ _ h _ => h, ?_⟩
  rintro W ⟨a0⟩ ⟨b0⟩ _
  show Calls Try.prog 23 #[.int .i64 a0, .int .i64 b0] W _
  go_enter Try.func23, Try.ntmps23
  go_wp2
  go_ret
  exact ⟨rfl, Kept.refl Nil W⟩

theorem drain_head {α : Type} {lt : α → α → Bool} {xs : List (α × Int)} {a : α × Int} {t : List (α × Int)} (h : HpPure.drain lt xs = a :: t) : xs[0]? = some a ∧ HpPure.drain lt (HpPure.pop lt xs) = t := by
  cases hx : xs[0]? with
  | none =>
    have : xs = [] := by simpa using hx
    subst this
    rw [drain_nil] at h; cases h
  | some b =>
    rw [drain_cons lt hx] at h
    cases h
    exact ⟨rfl, rfl⟩
theorem drain_empty {α : Type} {lt : α → α → Bool} {xs : List (α × Int)} (h : HpPure.drain lt xs = []) : xs = [] := by
  have := (drain_perm lt xs).length_eq
  rw [h] at this
  exact List.eq_nil_of_length_eq_zero this.symm
theorem sorted3 : HpPure.sortedBy ltI [⟨3⟩, ⟨1⟩, ⟨2⟩] = [⟨1⟩, ⟨2⟩, ⟨3⟩] := by
  have := sortedP_unique swoI (xs := [⟨3⟩, ⟨1⟩, ⟨2⟩]) (ys := [(⟨1⟩, 1), (⟨2⟩, 2), (⟨3⟩, 0)]) ?_ ?_
  · unfold sortedBy; rw [this]; rfl
  · show List.Perm [((⟨1⟩ : HpInt.It), (1 : Int)), (⟨2⟩, 2), (⟨3⟩, 0)] [(⟨3⟩, 0), (⟨1⟩, 1), (⟨2⟩, 2)]
    exact (List.perm_append_comm (l₁ := [((⟨1⟩ : HpInt.It), (1 : Int)), (⟨2⟩, 2)]) (l₂ := [(⟨3⟩, 0)]))
  · simp [bef, ltI]
def p3 : List (It × Int) := pushes ltK [] [(⟨2, 1⟩, 0), (⟨1, 2⟩, 1), (⟨1, 3⟩, 2)]
theorem drain3 : HpPure.drain ltK p3 = [(⟨1, 2⟩, 1), (⟨1, 3⟩, 2), (⟨2, 1⟩, 0)] := by
  have := sortedP_unique swoK (xs := [⟨2, 1⟩, ⟨1, 2⟩, ⟨1, 3⟩]) (ys := [(⟨1, 2⟩, 1), (⟨1, 3⟩, 2), (⟨2, 1⟩, 0)]) ?_ ?_
  · exact this
  · show List.Perm [((⟨1, 2⟩ : It), (1 : Int)), (⟨1, 3⟩, 2), (⟨2, 1⟩, 0)] [(⟨2, 1⟩, 0), (⟨1, 2⟩, 1), (⟨1, 3⟩, 2)]
    exact (List.perm_append_comm (l₁ := [((⟨1, 2⟩ : It), (1 : Int)), (⟨1, 3⟩, 2)]) (l₂ := [(⟨2, 1⟩, 0)]))
  · simp [bef, ltK]

set_option maxHeartbeats 4000000 in
theorem alive_is (w : World) : Calls Try.prog 8 #[] w fun e w' => e = .returned (.bool true) ∧ Kept Nil w w' := by
  go_enter Try.func8, Try.ntmps8
  go_wp2_with fail
  refine (HpInt.Sort_is lessI_is trivial (Nat.zero_le _) _ 3 [⟨3⟩, ⟨1⟩, ⟨2⟩] ?_ (by simp)).mono ?_
  · refine .inr ⟨w.heap.size, 0, rfl, ?_⟩
    intro j x hj
    match j, hj with
    | 0, hj => simp at hj; subst hj; simp
    | 1, hj => simp at hj; subst hj; simp
    | 2, hj => simp at hj; subst hj; simp
  rintro e w1 ⟨vs, rfl, hS, hk1⟩
  rw [sorted3] at hS
  rcases own_form hS with ⟨_, h, _⟩ | ⟨g, cap, rfl, hg1, hg2, _⟩
  · cases h
  have s0 : w1.cell? ⟨g, 0, none⟩ = some (.int .i64 1) := own_cell hS rfl
  have s2 : w1.cell? ⟨g, 2, none⟩ = some (.int .i64 3) := own_cell hS rfl
  have HK1 := Lib.hid (((Kept.refl Nil w).alloc _).step hk1)
  clear hS hk1
  go_wp2_with fail
  refine (New_is _ #[] w1).mono ?_
  rintro e w2 ⟨rfl, H2, hk2⟩
  replace s0 := hk2.cell s0 (fun h => h)
  replace s2 := hk2.cell s2 (fun h => h)
  have hz2 := hk2.size
  have HK2 := Lib.hid (HK1.out.step hk2)
  have hw2 : w.heap.size ≤ w1.heap.size := HK1.out.size
  clear hk2
  have L := less_is.up (Nat.zero_le w1.heap.size)
  have LL := Lib.hid L
  clear L
  have HH2 := Lib.hid H2
  clear H2
  go_wp2_with fail
  refine (Push_is LL.out HH2.out trivial 2 1 (by simp) (by omega) (by omega)).mono ?_
  rintro e w3 ⟨v3, rfl, H3, hk3, hv3⟩
  have o2 := fun i hi => HH2.out.own_base i hi
  replace s0 := hk3.cell s0 (fun h => by have := o2 _ h; simp at this; omega)
  replace s2 := hk3.cell s2 (fun h => by have := o2 _ h; simp at this; omega)
  have HK3 := Lib.hid (HK2.out.trans hk3 (fun i hi => .inr (Nat.le_trans hw2 (o2 i hi))))
  have HH3 := Lib.hid H3
  have hz3 := hk3.size
  clear H3 hk3 hv3 o2
  go_wp2_with fail
  refine (Push_is LL.out HH3.out trivial 1 2 (by rw [push_length]; simp) (by omega) (by omega)).mono ?_
  rintro e w4 ⟨v4, rfl, H4, hk4, hv4⟩
  have o3 := fun i hi => HH3.out.own_base i hi
  replace s0 := hk4.cell s0 (fun h => by have := o3 _ h; simp at this; omega)
  replace s2 := hk4.cell s2 (fun h => by have := o3 _ h; simp at this; omega)
  have HK4 := Lib.hid (HK3.out.trans hk4 (fun i hi => .inr (Nat.le_trans hw2 (o3 i hi))))
  have HH4 := Lib.hid H4
  have hz4 := hk4.size
  clear H4 hk4 hv4 o3
  go_wp2_with fail
  refine (Push_is LL.out HH4.out trivial 1 3 (by rw [push_length, push_length]; simp) (by omega) (by omega)).mono ?_
  rintro e w5 ⟨v5, rfl, H5, hk5, hv5⟩
  have o4 := fun i hi => HH4.out.own_base i hi
  replace s0 := hk5.cell s0 (fun h => by have := o4 _ h; simp at this; omega)
  replace s2 := hk5.cell s2 (fun h => by have := o4 _ h; simp at this; omega)
  have HK5 := Lib.hid (HK4.out.trans hk5 (fun i hi => .inr (Nat.le_trans hw2 (o4 i hi))))
  have H5' : IsHeap w5 w1.heap.size w1.heap.size 10 #[] v5 p3 (0 + 1 + 1 + 1) := H5
  have HH5 := Lib.hid H5'
  have hz5 := hk5.size
  clear H5 H5' hk5 hv5 o4
  have D3 := drain_head drain3
  have HD3 := Lib.hid D3
  clear D3
  go_wp2_with fail
  refine (Peek_some HH5.out HD3.out.1).mono ?_
  rintro e w6 ⟨rfl, hk6⟩
  replace s0 := hk6.cell s0 (fun h => h)
  replace s2 := hk6.cell s2 (fun h => h)
  have HK6 := Lib.hid (HK5.out.step hk6)
  have HH6 := Lib.hid (HH5.out.nil hk6)
  have hz6 := hk6.size
  clear hk6
  have ob : ∀ i, Own w1.heap.size v5 i → w1.heap.size ≤ i ∧ i < w6.heap.size := fun i hi => by
    rcases hi with rfl | hi
    · exact ⟨Nat.le_refl _, HH6.out.cells.2.2.2.2⟩
    · exact HH6.out.own.lt i hi
  have HOB := Lib.hid ob
  clear ob
  go_wp2_with fail
  refine (Pop_some LL.out (HH6.out.nil ((Kept.refl Nil w6).alloc _)) trivial HD3.out.1).mono ?_
  rintro e w7 ⟨v7, rfl, H7, hk7, hv7⟩
  replace s0 := hk7.cell (((Kept.refl Nil w6).alloc _).cell s0 (fun h => h)) (fun h => by have := HOB.out _ h; simp at this; omega)
  replace s2 := hk7.cell (((Kept.refl Nil w6).alloc _).cell s2 (fun h => h)) (fun h => by have := HOB.out _ h; simp at this; omega)
  have x0 : w7.cell? ⟨w6.heap.size, 0, none⟩ = some (.int .i64 1) := hk7.cell (by simp) (fun h => by have := HOB.out _ h; simp at this)
  have x1 : w7.cell? ⟨w6.heap.size, 1, none⟩ = some (.int .i64 2) := hk7.cell (by simp) (fun h => by have := HOB.out _ h; simp at this)
  have HK7 := Lib.hid ((HK6.out.alloc _).trans hk7 (fun i hi => .inr (Nat.le_trans hw2 (HOB.out i hi).1)))
  have HH7 := Lib.hid H7
  have hz7 := hk7.size
  rw [World.size_alloc] at hz7
  clear H7 hk7
  have hl7 : (HpPure.pop ltK p3).length = 2 := by rw [pop_length]; unfold p3; rw [pushes_length]; rfl
  have H7y := HH7.out.nil ((Kept.refl Nil w7).alloc (.cells #[.int .i64 1, .int .i64 2] 27))
  have hLen := Len_is H7y
  rw [hl7] at hLen
  have HLen := Lib.hid hLen
  have H7Y := Lib.hid H7y
  have hov : ∀ i, Own w1.heap.size v7 i → w1.heap.size ≤ i ∧ i < w6.heap.size := fun i hi => HOB.out i (by unfold Own at hi ⊢; rwa [hv7] at hi)
  have HOV := Lib.hid hov
  have HL7 := Lib.hid hl7
  clear hLen H7y hov hv7 hl7
  go_wp2_with fail
  refine HLen.out.mono ?_
  rintro e w8 ⟨rfl, rfl⟩
  go_wp2_with fail
  refine (take_is LL.out H7Y.out trivial 9).mono ?_
  rintro e w8 ⟨u, v8, tk, ys, rfl, H8, hd, hl, hr, hk8, hv8⟩
  rw [HL7.out] at hl
  replace hl : tk.length = 2 := hl
  have hd1 := hd.1
  rw [HD3.out.2] at hd1
  have hys : HpPure.drain ltK ys = [] := by
    have := congrArg List.length hd1
    rw [List.length_append, hl] at this
    simp only [List.length_cons, List.length_nil] at this
    exact List.eq_nil_of_length_eq_zero (by omega)
  rw [hys, List.append_nil] at hd1
  subst hd1
  have hnil := drain_empty hys
  subst hnil
  rcases own_form hr with ⟨_, h, _⟩ | ⟨g8, cap8, rfl, hg8, _, _⟩
  · cases h
  have r1 : w8.cell? ⟨g8, 1, none⟩ = some (.int .i64 3) := own_cell hr rfl
  have r0 : w8.cell? ⟨g8, 0, none⟩ = some (.int .i64 1) := own_cell hr rfl
  replace s0 := hk8.cell (((Kept.refl Nil w7).alloc _).cell s0 (fun h => h)) (fun h => by have := HOV.out _ h; simp at this; omega)
  replace s2 := hk8.cell (((Kept.refl Nil w7).alloc _).cell s2 (fun h => h)) (fun h => by have := HOV.out _ h; simp at this; omega)
  replace x0 := hk8.cell (((Kept.refl Nil w7).alloc _).cell x0 (fun h => h)) (fun h => by have := HOV.out _ h; simp at this)
  replace x1 := hk8.cell (((Kept.refl Nil w7).alloc _).cell x1 (fun h => h)) (fun h => by have := HOV.out _ h; simp at this)
  have y0 : w8.cell? ⟨w7.heap.size, 0, none⟩ = some (.int .i64 1) := hk8.cell (by simp) (fun h => by have := HOV.out _ h; simp at this; omega)
  have y1 : w8.cell? ⟨w7.heap.size, 1, none⟩ = some (.int .i64 2) := hk8.cell (by simp) (fun h => by have := HOV.out _ h; simp at this; omega)
  have HK8 := Lib.hid ((HK7.out.alloc _).trans hk8 (fun i hi => .inr (Nat.le_trans hw2 (HOV.out i hi).1)))
  have HH8 := Lib.hid H8
  clear H8 hd hr hk8 hv8 hl hys
  go_wp2_with fail
  refine (Pop_none HH8.out rfl).mono ?_
  rintro e w9 ⟨rfl, hk9⟩
  replace s0 := hk9.cell s0 (fun h => h)
  replace s2 := hk9.cell s2 (fun h => h)
  replace x0 := hk9.cell x0 (fun h => h)
  replace x1 := hk9.cell x1 (fun h => h)
  replace y0 := hk9.cell y0 (fun h => h)
  replace y1 := hk9.cell y1 (fun h => h)
  replace r0 := hk9.cell r0 (fun h => h)
  replace r1 := hk9.cell r1 (fun h => h)
  have HK9 := Lib.hid ((HK8.out.step hk9).alloc (.cells #[.int .i64 0, .int .i64 0] 27))
  have lg := World.block_lt_of_cell? _ _ s0
  have lx := World.block_lt_of_cell? _ _ x0
  have ly := World.block_lt_of_cell? _ _ y0
  have lr := World.block_lt_of_cell? _ _ r0
  simp only at lg lx ly lr
  clear hk9
  go_wp2
  go_ret
  exact ⟨rfl, HK9.out⟩
end Go.Proofs.Ytfkhnhpphcpmmaa.HpItem
