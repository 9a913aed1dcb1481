/- The walks of package heap at the element type int: what each function leaves, said by the plain heap. Conditions: 'less' answers an order and turns nothing. -/
import Derived.Test.YtfkhnhpphcpmmaaProg
import Derived.Test.YtfkhnhpphcpmmaaLib
import Derived.Test.YtfkhnhpphcpmmaaHpPure
import Derived.WalkKit
import Derived.WalkSpells
import Derived.WalkLawsBesides
import Derived.IntWalk
import Derived.BigRegion
import Derived.RegionTactic
import Derived.LoopTactic
import Derived.Deep.LoopGhost
namespace Go.Proofs.Ytfkhnhpphcpmmaa.HpInt
open Go Go.RowKit Go.Proofs.Ytfkhnhpphcpmmaa.Lb Go.Proofs.Ytfkhnhpphcpmmaa.HpPure
set_option linter.unusedVariables false
set_option linter.unusedSimpArgs false

structure It where
  f0 : Int
def It.cells (x : It) : List Value := [.int .i64 x.f0]
def It.val (x : It) : Value := .int .i64 x.f0
def pc (p : It × Int) : List Value := p.1.cells ++ [.int .u64 p.2]
theorem pc_len (p : It × Int) : (pc p).length = 2 := rfl
theorem info : (Try.prog.info? 73).map (fun i => (i.zero, i.size, i.bytes)) = some (some (.agg #[.int .i64 0, .int .u64 0]), 2, 16) := by kernel_rfl

/-- An order that a function value answers: in every world that Inv lets by. -/
structure Less (lt : It → It → Bool) (lf : Nat) (lcap : Array Value) (base : Nat) (Inv : World → Prop) : Prop where
  ent : ∀ args w, (callFunc lf args).run Try.prog w = .ok (.enter lf args) w
  stable : ∀ W W', Inv W → Kept (fun k => base ≤ k) W W' → Inv W'
  call : ∀ W x y, Inv W → Calls Try.prog lf (#[x.val, y.val] ++ lcap) W fun e w' => e = .returned (.bool (lt x y)) ∧ Kept Nil W w'

/-- A heap in memory: block h; its row of pairs. -/
structure IsHeap (w : World) (base h lf : Nat) (lcap : Array Value) (v : Value) (xs : List (It × Int)) (seq : Int) : Prop where
  hb : base ≤ h
  hd : w.heap[h]? = some (.cells #[.func (.func lf) #[] lcap, v, .int .u64 seq] 71 (0, 0))
  own : w.ownsRow base 73 2 v xs.length (xs.flatMap pc)
  ne : v.ownBlock ≠ some h
  few : xs.length ≤ 4294967296
def Own (h : Nat) (v : Value) : Nat → Prop := fun k => k = h ∨ v.ownBlock = some k

theorem IsHeap.cells {w : World} {base h lf : Nat} {lcap : Array Value} {v : Value} {xs : List (It × Int)} {seq : Int} (H : IsHeap w base h lf lcap v xs seq) :
    w.cell? ⟨h, 0, none⟩ = some (.func (.func lf) #[] lcap) ∧ w.cell? ⟨h, 1, none⟩ = some v ∧ w.cell? ⟨h, 2, none⟩ = some (.int .u64 seq) ∧ (∀ k, w.frozen? ⟨h, k, none⟩ = false) ∧ h < w.heap.size :=
  ⟨by rw [cell_of H.hd]; rfl, by rw [cell_of H.hd]; rfl, by rw [cell_of H.hd]; rfl, frozen_of H.hd, (Array.getElem?_eq_some_iff.1 H.hd).1⟩
theorem IsHeap.slice {w : World} {base h lf : Nat} {lcap : Array Value} {v : Value} {xs : List (It × Int)} {seq : Int} (H : IsHeap w base h lf lcap v xs seq) : ∃ A cap, v = .slice A xs.length cap := by
  rcases own_form H.own with ⟨h1, h2, _⟩ | ⟨g, cap, h1, _⟩
  · exact ⟨none, 0, by rw [h1, h2]⟩
  · exact ⟨_, _, h1⟩
theorem IsHeap.row {w : World} {base h lf : Nat} {lcap : Array Value} {v : Value} {xs : List (It × Int)} {seq : Int} (H : IsHeap w base h lf lcap v xs seq) (hn : 0 < xs.length) :
    ∃ g cap, v = .slice (some ⟨g, 0, none⟩) xs.length cap ∧ base ≤ g ∧ g ≠ h ∧ g < w.heap.size ∧ xs.length ≤ cap ∧ cap ≤ maxLen ∧ (∀ k, w.frozen? ⟨g, k, none⟩ = false) := by
  rcases own_form H.own with ⟨h1, h2, _⟩ | ⟨g, cap, h1, h2, h3, h4, h5⟩
  · omega
  · subst h1
    have hne := H.ne
    simp only [Value.ownBlock, ne_eq, Option.some.injEq] at hne
    exact ⟨g, cap, rfl, h2, hne, h3, h4, h5, fun k => H.own.frozenAt k⟩
theorem flat_at {xs : List (It × Int)} {i c : Nat} {p : It × Int} (hp : xs[i]? = some p) (hc : c < 2) : (xs.flatMap pc)[i * 2 + c]? = (pc p)[c]? := flat_get pc_len hp hc
theorem IsHeap.at {w : World} {base h lf g n cap : Nat} {lcap : Array Value} {xs : List (It × Int)} {seq : Int} (H : IsHeap w base h lf lcap (.slice (some ⟨g, 0, none⟩) n cap) xs seq) (hn : n = xs.length)
    {i : Nat} {a0 : Int} {a1 : Int} (hp : xs[i]? = some (⟨a0⟩, a1)) :
    w.cell? ⟨g, i * 2, none⟩ = some (.int .i64 a0) ∧ w.cell? ⟨g, i * 2 + 1, none⟩ = some (.int .u64 a1) := by
  subst hn
  exact ⟨own_cell H.own (flat_at hp (c := 0) (by omega)), own_cell H.own (flat_at hp (c := 1) (by omega))⟩
theorem IsHeap.kept {w w' : World} {base h lf : Nat} {lcap : Array Value} {v : Value} {xs : List (It × Int)} {seq : Int} {S : Nat → Prop} (H : IsHeap w base h lf lcap v xs seq) (hk : Kept S w w') (h1 : ¬ S h) (h2 : ∀ k, v.ownBlock = some k → ¬ S k) : IsHeap w' base h lf lcap v xs seq :=
  ⟨H.hb, hk.heap H.hd h1, hk.own H.own h2, H.ne, H.few⟩
theorem IsHeap.nil {w w' : World} {base h lf : Nat} {lcap : Array Value} {v : Value} {xs : List (It × Int)} {seq : Int} (H : IsHeap w base h lf lcap v xs seq) (hk : Kept Nil w w') : IsHeap w' base h lf lcap v xs seq :=
  H.kept hk (fun h => h) (fun _ _ h => h)
theorem IsHeap.own_base {w : World} {base h lf : Nat} {lcap : Array Value} {v : Value} {xs : List (It × Int)} {seq : Int} (H : IsHeap w base h lf lcap v xs seq) (k : Nat) (hk : Own h v k) : base ≤ k := by
  rcases hk with rfl | hk
  · exact H.hb
  · exact (H.own.lt k hk).1

set_option maxHeartbeats 4000000 in
theorem ahead_calls (h g n cap i j lf : Nat) (lcap : Array Value) (a0 : Int) (a1 : Int) (b0 : Int) (b1 : Int) (w : World) (hi : i < n) (hj : j < n) (hn : n ≤ 4294967296) (r1 r2 : Bool)
    (hent : ∀ args w, (callFunc lf args).run Try.prog w = .ok (.enter lf args) w)
    (L1 : ∀ W, Kept Nil w W → Calls Try.prog lf (#[.int .i64 a0, .int .i64 b0] ++ lcap) W fun e w' => e = .returned (.bool r1) ∧ Kept Nil W w')
    (L2 : ∀ W, Kept Nil w W → Calls Try.prog lf (#[.int .i64 b0, .int .i64 a0] ++ lcap) W fun e w' => e = .returned (.bool r2) ∧ Kept Nil W w')
    (hc0 : w.cell? ⟨h, 0, none⟩ = some (.func (.func lf) #[] lcap))
    (hc : w.cell? ⟨h, 1, none⟩ = some (.slice (some ⟨g, 0, none⟩) n cap))
    (ca0 : w.cell? ⟨g, i * 2, none⟩ = some (.int .i64 a0)) (ca1 : w.cell? ⟨g, i * 2 + 1, none⟩ = some (.int .u64 a1))
    (cb0 : w.cell? ⟨g, j * 2, none⟩ = some (.int .i64 b0)) (cb1 : w.cell? ⟨g, j * 2 + 1, none⟩ = some (.int .u64 b1)) :
    Calls Try.prog 36 #[.pointer (some ⟨h, 0, none⟩), .int .i64 i, .int .i64 j] w fun e w' => e = .returned (.bool (r1 || (!r2 && decide (a1 < b1)))) ∧ Kept Nil w w' := by
  have hgs : g < w.heap.size := World.block_lt_of_cell? w _ ca0
  have hhs : h < w.heap.size := World.block_lt_of_cell? w _ hc
  have hhs2 : h < w.heap.size + 2 := by omega
  have HL1 := Lib.hid L1
  have HL2 := Lib.hid L2
  clear L1 L2
  go_enter Try.func36, Try.ntmps36
  go_wp2_with fail
  go_region
  all_goals
    go_wp2_with fail
    refine region_tail 8 (by kernel_rfl) (by kernel_rfl) ?_
    simp only [List.take_succ_cons, List.take_zero, List.drop_succ_cons, List.drop_zero]
    repeat still_step
    refine wpStill_nil ?_
    go_wp2_with fail
    refine (HL1.out _ ?_).mono ?_
    · repeat (first | exact Kept.refl _ _ | refine Kept.drew ?_ | refine Kept.alloc ?_ _)
    rintro e w1 ⟨rfl, hk⟩
    have hk0 : Kept Nil w w1 := (((((Kept.refl Nil w).alloc _).alloc _).drew).drew).step hk
    have HK := Lib.hid hk0
    cases r1
    · obtain ⟨hc1, hf1⟩ := hk.rulesAt (w.heap.size + 2) (by simp)
      have hz : w.heap.size + 1 < w1.heap.size := by have := hk.size; simp at this; omega
      clear hk hk0
      go_wp2_with fail
      refine region_tail 8 (by kernel_rfl) (by kernel_rfl) ?_
      simp only [List.take_succ_cons, List.take_zero, List.drop_succ_cons, List.drop_zero]
      repeat still_step
      refine wpStill_nil ?_
      go_wp2_with fail
      refine (HL2.out _ ?_).mono ?_
      · exact HK.out.drew
      rintro e w2 ⟨rfl, hk2⟩
      have hkk : Kept Nil w w2 := HK.out.drew.step hk2
      obtain ⟨hc2, hf2⟩ := hk2.rulesAt (w.heap.size + 2) (by simp; omega)
      have hz2 : w1.heap.size ≤ w2.heap.size := by have := hk2.size; simpa using this
      cases r2
      · go_wp2
        go_ret
        exact ⟨rfl, hkk⟩
      · go_wp2
        go_ret
        exact ⟨rfl, hkk⟩
    · go_wp2
      go_ret
      exact ⟨rfl, hk0⟩

theorem ahead_is {lt : It → It → Bool} {Inv : World → Prop} {w : World} {base h lf : Nat} {lcap : Array Value} {v : Value} {xs : List (It × Int)} {seq : Int} (L : Less lt lf lcap base Inv) (H : IsHeap w base h lf lcap v xs seq) (hI : Inv w)
    (i j : Nat) (hi : i < xs.length) (hj : j < xs.length) :
    Calls Try.prog 36 #[.pointer (some ⟨h, 0, none⟩), .int .i64 i, .int .i64 j] w fun e w' => e = .returned (.bool (aheadB lt xs i j)) ∧ Kept Nil w w' := by
  obtain ⟨c0, c1, c2, cf, hh⟩ := H.cells
  obtain ⟨g, cap, rfl, hbg, hne, hgs, hcap, hm, hf⟩ := H.row (by omega)
  obtain ⟨⟨⟨a0⟩, a1⟩, ea⟩ : ∃ p, xs[i]? = some p := ⟨_, List.getElem?_eq_getElem hi⟩
  obtain ⟨⟨⟨b0⟩, b1⟩, eb⟩ : ∃ p, xs[j]? = some p := ⟨_, List.getElem?_eq_getElem hj⟩
  obtain ⟨a0c, a1c⟩ := H.at rfl ea
  obtain ⟨b0c, b1c⟩ := H.at rfl eb
  have inv : ∀ W, Kept Nil w W → Inv W := fun W hk => L.stable w W hI hk.any
  rw [aheadB_of ea eb]
  exact ahead_calls h g xs.length cap i j lf lcap a0 a1 b0 b1 w hi hj H.few _ _ L.ent (fun W hk => L.call W ⟨a0⟩ ⟨b0⟩ (inv W hk)) (fun W hk => L.call W ⟨b0⟩ ⟨a0⟩ (inv W hk)) c0 c1 a0c a1c b0c b1c

set_option maxHeartbeats 4000000 in
theorem swap_calls (h g n cap i j : Nat) (a0 : Int) (a1 : Int) (b0 : Int) (b1 : Int) (w : World) (hij : i ≠ j) (hi : i < n) (hj : j < n) (hn : n ≤ 4294967296)
    (hc : w.cell? ⟨h, 1, none⟩ = some (.slice (some ⟨g, 0, none⟩) n cap))
    (ca0 : w.cell? ⟨g, i * 2, none⟩ = some (.int .i64 a0)) (ca1 : w.cell? ⟨g, i * 2 + 1, none⟩ = some (.int .u64 a1))
    (cb0 : w.cell? ⟨g, j * 2, none⟩ = some (.int .i64 b0)) (cb1 : w.cell? ⟨g, j * 2 + 1, none⟩ = some (.int .u64 b1))
    (hf : ∀ k, w.frozen? ⟨g, k, none⟩ = false) :
    Calls Try.prog 37 #[.pointer (some ⟨h, 0, none⟩), .int .i64 i, .int .i64 j] w fun e w' => e = .returned (.tuple #[]) ∧ w' = ((((w.setCell ⟨g, i * 2, none⟩ (.int .i64 b0)).setCell ⟨g, i * 2 + 1, none⟩ (.int .u64 b1)).setCell ⟨g, j * 2, none⟩ (.int .i64 a0)).setCell ⟨g, j * 2 + 1, none⟩ (.int .u64 a1)).drew := by
  go_enter Try.func37, Try.ntmps37
  go_wp2
  go_region
  all_goals go_end0
  all_goals exact ⟨rfl, rfl⟩

set_option maxHeartbeats 4000000 in
theorem swap_same (h g n cap i : Nat) (a0 : Int) (a1 : Int) (w : World) (hi : i < n) (hn : n ≤ 4294967296)
    (hc : w.cell? ⟨h, 1, none⟩ = some (.slice (some ⟨g, 0, none⟩) n cap))
    (ca0 : w.cell? ⟨g, i * 2, none⟩ = some (.int .i64 a0)) (ca1 : w.cell? ⟨g, i * 2 + 1, none⟩ = some (.int .u64 a1))
    (hf : ∀ k, w.frozen? ⟨g, k, none⟩ = false) :
    Calls Try.prog 37 #[.pointer (some ⟨h, 0, none⟩), .int .i64 i, .int .i64 i] w fun e w' => e = .returned (.tuple #[]) ∧ w' = ((((w.setCell ⟨g, i * 2, none⟩ (.int .i64 a0)).setCell ⟨g, i * 2 + 1, none⟩ (.int .u64 a1)).setCell ⟨g, i * 2, none⟩ (.int .i64 a0)).setCell ⟨g, i * 2 + 1, none⟩ (.int .u64 a1)).drew := by
  go_enter Try.func37, Try.ntmps37
  go_wp2
  go_region
  all_goals go_end0
  all_goals exact ⟨rfl, rfl⟩

theorem swap_is {w : World} {base h lf : Nat} {lcap : Array Value} {v : Value} {xs : List (It × Int)} {seq : Int} (H : IsHeap w base h lf lcap v xs seq) (i j : Nat) (hi : i < xs.length) (hj : j < xs.length) :
    Calls Try.prog 37 #[.pointer (some ⟨h, 0, none⟩), .int .i64 i, .int .i64 j] w fun e w' => e = .returned (.tuple #[]) ∧ IsHeap w' base h lf lcap v (swap xs i j) seq ∧ Kept (Own h v) w w' := by
  obtain ⟨c0, c1, c2, cf, hh⟩ := H.cells
  obtain ⟨g, cap, rfl, hbg, hne, hgs, hcap, hm, hf⟩ := H.row (by omega)
  obtain ⟨⟨⟨a0⟩, a1⟩, ea⟩ : ∃ p, xs[i]? = some p := ⟨_, List.getElem?_eq_getElem hi⟩
  obtain ⟨⟨⟨b0⟩, b1⟩, eb⟩ : ∃ p, xs[j]? = some p := ⟨_, List.getElem?_eq_getElem hj⟩
  obtain ⟨a0c, a1c⟩ := H.at rfl ea
  obtain ⟨b0c, b1c⟩ := H.at rfl eb
  have hcall : Calls Try.prog 37 #[.pointer (some ⟨h, 0, none⟩), .int .i64 i, .int .i64 j] w fun e w' => e = .returned (.tuple #[]) ∧ w' = ((((w.setCell ⟨g, i * 2, none⟩ (.int .i64 b0)).setCell ⟨g, i * 2 + 1, none⟩ (.int .u64 b1)).setCell ⟨g, j * 2, none⟩ (.int .i64 a0)).setCell ⟨g, j * 2 + 1, none⟩ (.int .u64 a1)).drew := by
    by_cases hij : i = j
    · subst hij
      rw [ea] at eb
      cases eb
      exact swap_same h g xs.length cap i a0 a1 w hi H.few c1 a0c a1c hf
    · exact swap_calls h g xs.length cap i j a0 a1 b0 b1 w hij hi hj H.few c1 a0c a1c b0c b1c hf
  refine hcall.mono ?_
  rintro e w' ⟨rfl, rfl⟩
  refine ⟨rfl, ⟨H.hb, ?_, ?_, H.ne, by rw [swap_length]; exact H.few⟩, ?_⟩

  · rw [heap_drew, heap_set_other hne.symm, heap_set_other hne.symm, heap_set_other hne.symm, heap_set_other hne.symm]
    exact H.hd
  · have h1 := ((((H.own.stored (i * 2) (.int .i64 b0)).1.stored (i * 2 + 1) (.int .u64 b1)).1.stored (j * 2) (.int .i64 a0)).1.stored (j * 2 + 1) (.int .u64 a1)).1
    rw [swap_length, swap_of hi hj]
    obtain ⟨_, ea'⟩ := List.getElem?_eq_some_iff.1 ea
    obtain ⟨_, eb'⟩ := List.getElem?_eq_some_iff.1 eb
    rw [ea', eb', ← flat_set pc_len (p := (⟨a0⟩, a1)) (by simpa using hj), ← flat_set pc_len (p := (⟨b0⟩, b1)) hi]
    exact own_drew h1
  · have hS : Own h (.slice (some ⟨g, 0, none⟩) xs.length cap) g := .inr rfl
    exact (((((Kept.refl (Own h (.slice (some ⟨g, 0, none⟩) xs.length cap)) w).setCell (p := ⟨g, i * 2, none⟩) (.inl hS) (.int .i64 b0)).setCell (p := ⟨g, i * 2 + 1, none⟩) (.inl hS) (.int .u64 b1)).setCell (p := ⟨g, j * 2, none⟩) (.inl hS) (.int .i64 a0)).setCell (p := ⟨g, j * 2 + 1, none⟩) (.inl hS) (.int .u64 a1)).drew
end Go.Proofs.Ytfkhnhpphcpmmaa.HpInt
