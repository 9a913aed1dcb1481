/- The walks of package heap at the element type sandtable/api.Proc: what each function leaves, said by the plain heap. Conditions: 'less' answers an order and turns nothing; The walks of package heap at the element type sandtable/api.Proc, second part: what rises and sinks, what is put in and taken out. Conditions: 'less' answers an order and turns nothing; The walks of package heap at the element type sandtable/api.Proc, third part: Peek, Push, Pop, New. Conditions: 'less' answers an order and turns nothing; The walks of package heap at the element type sandtable/api.Proc, fourth part: Push. Conditions: 'less' answers an order and turns nothing. -/
import Derived.Test.YtniocgnfgpaioaaGreatProg
import Derived.Test.YtniocgnfgpaioaaGreatG1
import Derived.Test.YtniocgnfgpaioaaGreatG5
import Derived.WalkKit
import Derived.WalkSpells
import Derived.WalkLawsBesides
import Derived.IntWalk
import Derived.BigRegion
import Derived.RegionTactic
import Derived.LoopTactic
import Derived.Deep.LoopGhost
import Derived.Outline
import Derived.Deep.RegionLaw
set_option linter.unusedVariables false
set_option linter.unusedSimpArgs false
section
namespace Go.Proofs.YtniocgnfgpaioaaGreat.HpPc
open Go Go.RowKit Go.Proofs.YtniocgnfgpaioaaGreat.Lb Go.Proofs.YtniocgnfgpaioaaGreat.HpPure
set_option maxRecDepth 8000

structure Sl where
 a : Option Addr
 n : Nat
 c : Nat
structure It where
 f0 : ByteArray
 f1 : Int
 f2 : Sl
 f3 : Sl
def It.cells (x : It) : List Value := [.string x.f0, .int .i64 x.f1, .slice x.f2.a x.f2.n x.f2.c, .slice x.f3.a x.f3.n x.f3.c]
def It.val (x : It) : Value := .agg #[.string x.f0, .int .i64 x.f1, .slice x.f2.a x.f2.n x.f2.c, .slice x.f3.a x.f3.n x.f3.c]
def pc (p : It × Int) : List Value := p.1.cells ++ [.int .u64 p.2]
theorem pc_len (p : It × Int) : (pc p).length = 5 := rfl
theorem info : (Tryz.prog.info? 191).map (fun i => (i.zero, i.size, i.bytes)) = some (some (.agg #[.string ⟨#[]⟩, .int .i64 0, .slice none 0 0, .slice none 0 0, .int .u64 0]), 5, 80) := by kernel_rfl

/-- An order that a function value answers: in every world that Inv lets by. -/
structure Less (lt : It → It → Bool) (lf : Nat) (lcap : Array Value) (base : Nat) (Inv : World → Prop) : Prop where
 ent : ∀ args w, (callFunc lf args).run Tryz.prog w = .ok (.enter lf args) w
 stable : ∀ W W', Inv W → Kept (fun k => base ≤ k) W W' → Inv W'
 call : ∀ W x y, Inv W → Calls Tryz.prog lf (#[x.val, y.val] ++ lcap) W fun e w' => e = .returned (.bool (lt x y)) ∧ Kept Nil W w'

/-- A heap in memory: block h; its row of pairs. -/
structure IsHeap (w : World) (base h lf : Nat) (lcap : Array Value) (v : Value) (xs : List (It × Int)) (seq : Int) : Prop where
 hb : base ≤ h
 hd : w.heap[h]? = some (.cells #[.func (.func lf) #[] lcap, v, .int .u64 seq] 189 (0, 0))
 own : w.ownsRow base 191 5 v xs.length (xs.flatMap pc)
 ne : v.ownBlock ≠ some h
 few : xs.length ≤ 4294967296
def Own (h : Nat) (v : Value) : Nat → Prop := fun k => k = h ∨ v.ownBlock = some k

theorem IsHeap.cells {w : World} {base h lf : Nat} {lcap : Array Value} {v : Value} {xs : List (It × Int)} {seq : Int} (H : IsHeap w base h lf lcap v xs seq) :
  w.cell? ⟨h, 0, none⟩ = some (.func (.func lf) #[] lcap) ∧ w.cell? ⟨h, 1, none⟩ = some v ∧ w.cell? ⟨h, 2, none⟩ = some (.int .u64 seq) ∧ (∀ k, w.frozen? ⟨h, k, none⟩ = false) ∧ h < w.heap.size :=
 ⟨by rw [cell_of H.hd]; rfl, by rw [cell_of H.hd]; rfl, by rw [cell_of H.hd]; rfl, frozen_of H.hd, (Array.getElem?_eq_some_iff.1 H.hd).1⟩
theorem IsHeap.slice {w : World} {base h lf : Nat} {lcap : Array Value} {v : Value} {xs : List (It × Int)} {seq : Int} (H : IsHeap w base h lf lcap v xs seq) : ∃ A cap, v = .slice A xs.length cap := by
 rcases own_form H.own with ⟨h1, h2, _⟩ | ⟨g, cap, h1, _⟩
 ·exact ⟨none, 0, by rw [h1, h2]⟩
 ·exact ⟨_, _, h1⟩
theorem IsHeap.row {w : World} {base h lf : Nat} {lcap : Array Value} {v : Value} {xs : List (It × Int)} {seq : Int} (H : IsHeap w base h lf lcap v xs seq) (hn : 0 < xs.length) :
  ∃ g cap, v = .slice (some ⟨g, 0, none⟩) xs.length cap ∧ base ≤ g ∧ g ≠ h ∧ g < w.heap.size ∧ xs.length ≤ cap ∧ cap ≤ maxLen ∧ (∀ k, w.frozen? ⟨g, k, none⟩ = false) := by
 rcases own_form H.own with ⟨h1, h2, _⟩ | ⟨g, cap, h1, h2, h3, h4, h5⟩
 ·omega
 ·subst h1
  have hne := H.ne
  simp only [Value.ownBlock, ne_eq, Option.some.injEq] at hne
  exact ⟨g, cap, rfl, h2, hne, h3, h4, h5, fun k => H.own.frozenAt k⟩
theorem flat_at {xs : List (It × Int)} {i c : Nat} {p : It × Int} (hp : xs[i]? = some p) (hc : c < 5) : (xs.flatMap pc)[i * 5 + c]? = (pc p)[c]? := flat_get pc_len hp hc
theorem IsHeap.at {w : World} {base h lf g n cap : Nat} {lcap : Array Value} {xs : List (It × Int)} {seq : Int} (H : IsHeap w base h lf lcap (.slice (some ⟨g, 0, none⟩) n cap) xs seq) (hn : n = xs.length)
  {i : Nat} {a0 : ByteArray} {a1 : Int} {a2 : Sl} {a3 : Sl} {a4 : Int} (hp : xs[i]? = some (⟨a0, a1, a2, a3⟩, a4)) :
  w.cell? ⟨g, i * 5, none⟩ = some (.string a0) ∧ w.cell? ⟨g, i * 5 + 1, none⟩ = some (.int .i64 a1) ∧ w.cell? ⟨g, i * 5 + 2, none⟩ = some (.slice a2.a a2.n a2.c) ∧ w.cell? ⟨g, i * 5 + 3, none⟩ = some (.slice a3.a a3.n a3.c) ∧ w.cell? ⟨g, i * 5 + 4, none⟩ = some (.int .u64 a4) := by
 subst hn
 exact ⟨own_cell H.own (flat_at hp (c := 0) (by omega)), own_cell H.own (flat_at hp (c := 1) (by omega)), own_cell H.own (flat_at hp (c := 2) (by omega)), own_cell H.own (flat_at hp (c := 3) (by omega)), own_cell H.own (flat_at hp (c := 4) (by omega))⟩
theorem IsHeap.kept {w w' : World} {base h lf : Nat} {lcap : Array Value} {v : Value} {xs : List (It × Int)} {seq : Int} {S : Nat → Prop} (H : IsHeap w base h lf lcap v xs seq) (hk : Kept S w w') (h1 : ¬ S h) (h2 : ∀ k, v.ownBlock = some k → ¬ S k) : IsHeap w' base h lf lcap v xs seq :=
 ⟨H.hb, hk.heap H.hd h1, hk.own H.own h2, H.ne, H.few⟩
theorem IsHeap.nil {w w' : World} {base h lf : Nat} {lcap : Array Value} {v : Value} {xs : List (It × Int)} {seq : Int} (H : IsHeap w base h lf lcap v xs seq) (hk : Kept Nil w w') : IsHeap w' base h lf lcap v xs seq :=
 H.kept hk (fun h => h) (fun _ _ h => h)
theorem IsHeap.own_base {w : World} {base h lf : Nat} {lcap : Array Value} {v : Value} {xs : List (It × Int)} {seq : Int} (H : IsHeap w base h lf lcap v xs seq) (k : Nat) (hk : Own h v k) : base ≤ k := by
 rcases hk with rfl | hk
 ·exact H.hb
 ·exact (H.own.lt k hk).1

set_option maxHeartbeats 4000000 in
theorem ahead_calls (h g n cap i j lf : Nat) (lcap : Array Value) (a0 : ByteArray) (a1 : Int) (a2 : Sl) (a3 : Sl) (a4 : Int) (b0 : ByteArray) (b1 : Int) (b2 : Sl) (b3 : Sl) (b4 : Int) (w : World) (hi : i < n) (hj : j < n) (hn : n ≤ 4294967296) (r1 r2 : Bool)
  (hent : ∀ args w, (callFunc lf args).run Tryz.prog w = .ok (.enter lf args) w)
  (L1 : ∀ W, Kept Nil w W → Calls Tryz.prog lf (#[.agg #[.string a0, .int .i64 a1, .slice a2.a a2.n a2.c, .slice a3.a a3.n a3.c], .agg #[.string b0, .int .i64 b1, .slice b2.a b2.n b2.c, .slice b3.a b3.n b3.c]] ++ lcap) W fun e w' => e = .returned (.bool r1) ∧ Kept Nil W w')
  (L2 : ∀ W, Kept Nil w W → Calls Tryz.prog lf (#[.agg #[.string b0, .int .i64 b1, .slice b2.a b2.n b2.c, .slice b3.a b3.n b3.c], .agg #[.string a0, .int .i64 a1, .slice a2.a a2.n a2.c, .slice a3.a a3.n a3.c]] ++ lcap) W fun e w' => e = .returned (.bool r2) ∧ Kept Nil W w')
  (hc0 : w.cell? ⟨h, 0, none⟩ = some (.func (.func lf) #[] lcap))
  (hc : w.cell? ⟨h, 1, none⟩ = some (.slice (some ⟨g, 0, none⟩) n cap))
  (ca0 : w.cell? ⟨g, i * 5, none⟩ = some (.string a0)) (ca1 : w.cell? ⟨g, i * 5 + 1, none⟩ = some (.int .i64 a1)) (ca2 : w.cell? ⟨g, i * 5 + 2, none⟩ = some (.slice a2.a a2.n a2.c)) (ca3 : w.cell? ⟨g, i * 5 + 3, none⟩ = some (.slice a3.a a3.n a3.c)) (ca4 : w.cell? ⟨g, i * 5 + 4, none⟩ = some (.int .u64 a4))
  (cb0 : w.cell? ⟨g, j * 5, none⟩ = some (.string b0)) (cb1 : w.cell? ⟨g, j * 5 + 1, none⟩ = some (.int .i64 b1)) (cb2 : w.cell? ⟨g, j * 5 + 2, none⟩ = some (.slice b2.a b2.n b2.c)) (cb3 : w.cell? ⟨g, j * 5 + 3, none⟩ = some (.slice b3.a b3.n b3.c)) (cb4 : w.cell? ⟨g, j * 5 + 4, none⟩ = some (.int .u64 b4)) :
  Calls Tryz.prog 147 #[.pointer (some ⟨h, 0, none⟩), .int .i64 i, .int .i64 j] w fun e w' => e = .returned (.bool (r1 || (!r2 && decide (a4 < b4)))) ∧ Kept Nil w w' := by
 have hgs : g < w.heap.size := World.block_lt_of_cell? w _ ca0
 have hhs : h < w.heap.size := World.block_lt_of_cell? w _ hc
 have hhs2 : h < w.heap.size + 2 := by omega
 have HL1 := Lib.hid L1
 have HL2 := Lib.hid L2
 clear L1 L2
 go_enter Tryz.func147, Tryz.ntmps147
 go_wp2_with fail
 go_region
 all_goals
  go_wp2_with fail
  refine region_tail 8 (by kernel_rfl) (by kernel_rfl) ?_
  simp only [List.take_succ_cons, List.take_zero, List.drop_succ_cons, List.drop_zero]
  repeat still_step
  refine wpStill_nil ?_
  go_wp2_with fail
  refine (HL1.out _ ?_).mono ?_
  ·repeat (first | exact Kept.refl _ _ | refine Kept.drew ?_ | refine Kept.alloc ?_ _)
  rintro e w1 ⟨rfl, hk⟩
  have hk0 : Kept Nil w w1 := (((((Kept.refl Nil w).alloc _).alloc _).drew).drew).step hk
  have HK := Lib.hid hk0
  cases r1
  ·obtain ⟨hc1, hf1⟩ := hk.rulesAt (w.heap.size + 2) (by simp)
   have hz : w.heap.size + 1 < w1.heap.size := by have := hk.size; simp at this; omega
   clear hk hk0
   go_wp2_with fail
   refine region_tail 8 (by kernel_rfl) (by kernel_rfl) ?_
   simp only [List.take_succ_cons, List.take_zero, List.drop_succ_cons, List.drop_zero]
   repeat still_step
   refine wpStill_nil ?_
   go_wp2_with fail
   refine (HL2.out _ ?_).mono ?_
   ·exact HK.out.drew
   rintro e w2 ⟨rfl, hk2⟩
   have hkk : Kept Nil w w2 := HK.out.drew.step hk2
   obtain ⟨hc2, hf2⟩ := hk2.rulesAt (w.heap.size + 2) (by simp; omega)
   have hz2 : w1.heap.size ≤ w2.heap.size := by have := hk2.size; simpa using this
   cases r2
   ·go_wp2
    go_ret
    exact ⟨rfl, hkk⟩
   ·go_wp2
    go_ret
    exact ⟨rfl, hkk⟩
  ·go_wp2
   go_ret
   exact ⟨rfl, hk0⟩

theorem ahead_is {lt : It → It → Bool} {Inv : World → Prop} {w : World} {base h lf : Nat} {lcap : Array Value} {v : Value} {xs : List (It × Int)} {seq : Int} (L : Less lt lf lcap base Inv) (H : IsHeap w base h lf lcap v xs seq) (hI : Inv w)
  (i j : Nat) (hi : i < xs.length) (hj : j < xs.length) :
  Calls Tryz.prog 147 #[.pointer (some ⟨h, 0, none⟩), .int .i64 i, .int .i64 j] w fun e w' => e = .returned (.bool (aheadB lt xs i j)) ∧ Kept Nil w w' := by
 obtain ⟨c0, c1, c2, cf, hh⟩ := H.cells
 obtain ⟨g, cap, rfl, hbg, hne, hgs, hcap, hm, hf⟩ := H.row (by omega)
 obtain ⟨⟨⟨a0, a1, a2, a3⟩, a4⟩, ea⟩ : ∃ p, xs[i]? = some p := ⟨_, List.getElem?_eq_getElem hi⟩
 obtain ⟨⟨⟨b0, b1, b2, b3⟩, b4⟩, eb⟩ : ∃ p, xs[j]? = some p := ⟨_, List.getElem?_eq_getElem hj⟩
 obtain ⟨a0c, a1c, a2c, a3c, a4c⟩ := H.at rfl ea
 obtain ⟨b0c, b1c, b2c, b3c, b4c⟩ := H.at rfl eb
 have inv : ∀ W, Kept Nil w W → Inv W := fun W hk => L.stable w W hI hk.any
 rw [aheadB_of ea eb]
 exact ahead_calls h g xs.length cap i j lf lcap a0 a1 a2 a3 a4 b0 b1 b2 b3 b4 w hi hj H.few _ _ L.ent (fun W hk => L.call W ⟨a0, a1, a2, a3⟩ ⟨b0, b1, b2, b3⟩ (inv W hk)) (fun W hk => L.call W ⟨b0, b1, b2, b3⟩ ⟨a0, a1, a2, a3⟩ (inv W hk)) c0 c1 a0c a1c a2c a3c a4c b0c b1c b2c b3c b4c

set_option maxHeartbeats 4000000 in
theorem swap_calls (h g n cap i j : Nat) (a0 : ByteArray) (a1 : Int) (a2 : Sl) (a3 : Sl) (a4 : Int) (b0 : ByteArray) (b1 : Int) (b2 : Sl) (b3 : Sl) (b4 : Int) (w : World) (hij : i ≠ j) (hi : i < n) (hj : j < n) (hn : n ≤ 4294967296)
  (hc : w.cell? ⟨h, 1, none⟩ = some (.slice (some ⟨g, 0, none⟩) n cap))
  (ca0 : w.cell? ⟨g, i * 5, none⟩ = some (.string a0)) (ca1 : w.cell? ⟨g, i * 5 + 1, none⟩ = some (.int .i64 a1)) (ca2 : w.cell? ⟨g, i * 5 + 2, none⟩ = some (.slice a2.a a2.n a2.c)) (ca3 : w.cell? ⟨g, i * 5 + 3, none⟩ = some (.slice a3.a a3.n a3.c)) (ca4 : w.cell? ⟨g, i * 5 + 4, none⟩ = some (.int .u64 a4))
  (cb0 : w.cell? ⟨g, j * 5, none⟩ = some (.string b0)) (cb1 : w.cell? ⟨g, j * 5 + 1, none⟩ = some (.int .i64 b1)) (cb2 : w.cell? ⟨g, j * 5 + 2, none⟩ = some (.slice b2.a b2.n b2.c)) (cb3 : w.cell? ⟨g, j * 5 + 3, none⟩ = some (.slice b3.a b3.n b3.c)) (cb4 : w.cell? ⟨g, j * 5 + 4, none⟩ = some (.int .u64 b4))
  (hf : ∀ k, w.frozen? ⟨g, k, none⟩ = false) :
  Calls Tryz.prog 148 #[.pointer (some ⟨h, 0, none⟩), .int .i64 i, .int .i64 j] w fun e w' => e = .returned (.tuple #[]) ∧ w' = ((((((((((w.setCell ⟨g, i * 5, none⟩ (.string b0)).setCell ⟨g, i * 5 + 1, none⟩ (.int .i64 b1)).setCell ⟨g, i * 5 + 2, none⟩ (.slice b2.a b2.n b2.c)).setCell ⟨g, i * 5 + 3, none⟩ (.slice b3.a b3.n b3.c)).setCell ⟨g, i * 5 + 4, none⟩ (.int .u64 b4)).setCell ⟨g, j * 5, none⟩ (.string a0)).setCell ⟨g, j * 5 + 1, none⟩ (.int .i64 a1)).setCell ⟨g, j * 5 + 2, none⟩ (.slice a2.a a2.n a2.c)).setCell ⟨g, j * 5 + 3, none⟩ (.slice a3.a a3.n a3.c)).setCell ⟨g, j * 5 + 4, none⟩ (.int .u64 a4)).drew := by
 go_enter Tryz.func148, Tryz.ntmps148
 go_wp2
 go_region
 all_goals go_end0
 all_goals exact ⟨rfl, rfl⟩

set_option maxHeartbeats 4000000 in
theorem swap_same (h g n cap i : Nat) (a0 : ByteArray) (a1 : Int) (a2 : Sl) (a3 : Sl) (a4 : Int) (w : World) (hi : i < n) (hn : n ≤ 4294967296)
  (hc : w.cell? ⟨h, 1, none⟩ = some (.slice (some ⟨g, 0, none⟩) n cap))
  (ca0 : w.cell? ⟨g, i * 5, none⟩ = some (.string a0)) (ca1 : w.cell? ⟨g, i * 5 + 1, none⟩ = some (.int .i64 a1)) (ca2 : w.cell? ⟨g, i * 5 + 2, none⟩ = some (.slice a2.a a2.n a2.c)) (ca3 : w.cell? ⟨g, i * 5 + 3, none⟩ = some (.slice a3.a a3.n a3.c)) (ca4 : w.cell? ⟨g, i * 5 + 4, none⟩ = some (.int .u64 a4))
  (hf : ∀ k, w.frozen? ⟨g, k, none⟩ = false) :
  Calls Tryz.prog 148 #[.pointer (some ⟨h, 0, none⟩), .int .i64 i, .int .i64 i] w fun e w' => e = .returned (.tuple #[]) ∧ w' = ((((((((((w.setCell ⟨g, i * 5, none⟩ (.string a0)).setCell ⟨g, i * 5 + 1, none⟩ (.int .i64 a1)).setCell ⟨g, i * 5 + 2, none⟩ (.slice a2.a a2.n a2.c)).setCell ⟨g, i * 5 + 3, none⟩ (.slice a3.a a3.n a3.c)).setCell ⟨g, i * 5 + 4, none⟩ (.int .u64 a4)).setCell ⟨g, i * 5, none⟩ (.string a0)).setCell ⟨g, i * 5 + 1, none⟩ (.int .i64 a1)).setCell ⟨g, i * 5 + 2, none⟩ (.slice a2.a a2.n a2.c)).setCell ⟨g, i * 5 + 3, none⟩ (.slice a3.a a3.n a3.c)).setCell ⟨g, i * 5 + 4, none⟩ (.int .u64 a4)).drew := by
 go_enter Tryz.func148, Tryz.ntmps148
 go_wp2
 go_region
 all_goals go_end0
 all_goals exact ⟨rfl, rfl⟩

theorem swap_is {w : World} {base h lf : Nat} {lcap : Array Value} {v : Value} {xs : List (It × Int)} {seq : Int} (H : IsHeap w base h lf lcap v xs seq) (i j : Nat) (hi : i < xs.length) (hj : j < xs.length) :
  Calls Tryz.prog 148 #[.pointer (some ⟨h, 0, none⟩), .int .i64 i, .int .i64 j] w fun e w' => e = .returned (.tuple #[]) ∧ IsHeap w' base h lf lcap v (swap xs i j) seq ∧ Kept (Own h v) w w' := by
 obtain ⟨c0, c1, c2, cf, hh⟩ := H.cells
 obtain ⟨g, cap, rfl, hbg, hne, hgs, hcap, hm, hf⟩ := H.row (by omega)
 obtain ⟨⟨⟨a0, a1, a2, a3⟩, a4⟩, ea⟩ : ∃ p, xs[i]? = some p := ⟨_, List.getElem?_eq_getElem hi⟩
 obtain ⟨⟨⟨b0, b1, b2, b3⟩, b4⟩, eb⟩ : ∃ p, xs[j]? = some p := ⟨_, List.getElem?_eq_getElem hj⟩
 obtain ⟨a0c, a1c, a2c, a3c, a4c⟩ := H.at rfl ea
 obtain ⟨b0c, b1c, b2c, b3c, b4c⟩ := H.at rfl eb
 have hcall : Calls Tryz.prog 148 #[.pointer (some ⟨h, 0, none⟩), .int .i64 i, .int .i64 j] w fun e w' => e = .returned (.tuple #[]) ∧ w' = ((((((((((w.setCell ⟨g, i * 5, none⟩ (.string b0)).setCell ⟨g, i * 5 + 1, none⟩ (.int .i64 b1)).setCell ⟨g, i * 5 + 2, none⟩ (.slice b2.a b2.n b2.c)).setCell ⟨g, i * 5 + 3, none⟩ (.slice b3.a b3.n b3.c)).setCell ⟨g, i * 5 + 4, none⟩ (.int .u64 b4)).setCell ⟨g, j * 5, none⟩ (.string a0)).setCell ⟨g, j * 5 + 1, none⟩ (.int .i64 a1)).setCell ⟨g, j * 5 + 2, none⟩ (.slice a2.a a2.n a2.c)).setCell ⟨g, j * 5 + 3, none⟩ (.slice a3.a a3.n a3.c)).setCell ⟨g, j * 5 + 4, none⟩ (.int .u64 a4)).drew := by
  by_cases hij : i = j
  ·subst hij
   rw [ea] at eb
   cases eb
   exact swap_same h g xs.length cap i a0 a1 a2 a3 a4 w hi H.few c1 a0c a1c a2c a3c a4c hf
  ·exact swap_calls h g xs.length cap i j a0 a1 a2 a3 a4 b0 b1 b2 b3 b4 w hij hi hj H.few c1 a0c a1c a2c a3c a4c b0c b1c b2c b3c b4c hf
 refine hcall.mono ?_
 rintro e w' ⟨rfl, rfl⟩
 refine ⟨rfl, ⟨H.hb, ?_, ?_, H.ne, by rw [swap_length]; exact H.few⟩, ?_⟩

 ·rw [heap_drew, heap_set_other hne.symm, heap_set_other hne.symm, heap_set_other hne.symm, heap_set_other hne.symm, heap_set_other hne.symm, heap_set_other hne.symm, heap_set_other hne.symm, heap_set_other hne.symm, heap_set_other hne.symm, heap_set_other hne.symm]
  exact H.hd
 ·have h1 := ((((((((((H.own.stored (i * 5) (.string b0)).1.stored (i * 5 + 1) (.int .i64 b1)).1.stored (i * 5 + 2) (.slice b2.a b2.n b2.c)).1.stored (i * 5 + 3) (.slice b3.a b3.n b3.c)).1.stored (i * 5 + 4) (.int .u64 b4)).1.stored (j * 5) (.string a0)).1.stored (j * 5 + 1) (.int .i64 a1)).1.stored (j * 5 + 2) (.slice a2.a a2.n a2.c)).1.stored (j * 5 + 3) (.slice a3.a a3.n a3.c)).1.stored (j * 5 + 4) (.int .u64 a4)).1
  rw [swap_length, swap_of hi hj]
  obtain ⟨_, ea'⟩ := List.getElem?_eq_some_iff.1 ea
  obtain ⟨_, eb'⟩ := List.getElem?_eq_some_iff.1 eb
  rw [ea', eb', ← flat_set pc_len (p := (⟨a0, a1, a2, a3⟩, a4)) (by simpa using hj), ← flat_set pc_len (p := (⟨b0, b1, b2, b3⟩, b4)) hi]
  exact own_drew h1
 ·have hS : Own h (.slice (some ⟨g, 0, none⟩) xs.length cap) g := .inr rfl
  exact (((((((((((Kept.refl (Own h (.slice (some ⟨g, 0, none⟩) xs.length cap)) w).setCell (p := ⟨g, i * 5, none⟩) (.inl hS) (.string b0)).setCell (p := ⟨g, i * 5 + 1, none⟩) (.inl hS) (.int .i64 b1)).setCell (p := ⟨g, i * 5 + 2, none⟩) (.inl hS) (.slice b2.a b2.n b2.c)).setCell (p := ⟨g, i * 5 + 3, none⟩) (.inl hS) (.slice b3.a b3.n b3.c)).setCell (p := ⟨g, i * 5 + 4, none⟩) (.inl hS) (.int .u64 b4)).setCell (p := ⟨g, j * 5, none⟩) (.inl hS) (.string a0)).setCell (p := ⟨g, j * 5 + 1, none⟩) (.inl hS) (.int .i64 a1)).setCell (p := ⟨g, j * 5 + 2, none⟩) (.inl hS) (.slice a2.a a2.n a2.c)).setCell (p := ⟨g, j * 5 + 3, none⟩) (.inl hS) (.slice a3.a a3.n a3.c)).setCell (p := ⟨g, j * 5 + 4, none⟩) (.inl hS) (.int .u64 a4)).drew
end Go.Proofs.YtniocgnfgpaioaaGreat.HpPc
end
section
namespace Go.Proofs.YtniocgnfgpaioaaGreat.HpPc
open Go Go.RowKit Go.Proofs.YtniocgnfgpaioaaGreat.Lb Go.Proofs.YtniocgnfgpaioaaGreat.HpPure
set_option maxRecDepth 8000

theorem own_sub {h : Nat} {v : Value} {base : Nat} {w w' : World} (hk : Kept (Own h v) w w') (hb : ∀ k, Own h v k → base ≤ k) : Kept (fun k => base ≤ k) w w' := hk.mono (fun i _ hi => hb i hi)

set_option maxHeartbeats 1000000 in
theorem up_is {lt : It → It → Bool} {Inv : World → Prop} {w : World} {base h lf : Nat} {lcap : Array Value} {v : Value} {xs : List (It × Int)} {seq : Int} (L : Less lt lf lcap base Inv) (H : IsHeap w base h lf lcap v xs seq) (hI : Inv w) (i : Nat) (hi : i < xs.length) :
  Calls Tryz.prog 127 #[.pointer (some ⟨h, 0, none⟩), .int .i64 i] w fun e w' => e = .returned (.tuple #[]) ∧ IsHeap w' base h lf lcap v (up lt xs i) seq ∧ Kept (Own h v) w w' := by
 have hob := Lib.hid H.own_base
 have hfew := H.few
 have LL := Lib.hid L
 clear L
 go_enter Tryz.func127, Tryz.ntmps127
 go_wp2
 go_loopw [1] (fun a wr => ∃ (k : Nat) (ys : List (It × Int)), a = .int .i64 k ∧ k < ys.length ∧ ys.length = xs.length ∧ IsHeap wr base h lf lcap v ys seq ∧ up lt ys k = up lt xs i ∧ Inv wr ∧ Kept (Own h v) w wr) (fun a _ => (intOf a).toNat)
 case atStart => exact ⟨i, xs, rfl, hi, rfl, H, rfl, hI, Kept.refl _ _⟩
 case round =>
  clear H hI
  obtain ⟨k, ys, rfl, hk, hl, H, he, hI, hK⟩ := hrel
  have hk2 : k < 4294967296 := by omega
  by_cases h0 : 0 < k
  ·have hp : (((k : Int) - 1) / 2) = (((k - 1) / 2 : Nat) : Int) := by omega
   have hpl : (k - 1) / 2 < ys.length := by omega
   have A1 := Lib.hid (ahead_is LL.out H hI k ((k - 1) / 2) hk hpl)
   cases ha : aheadB lt ys k ((k - 1) / 2)
   ·rw [ha] at A1
    have hup : up lt ys k = ys := by rw [up.eq_def, dif_pos h0, ha]; rfl
    have HU := Lib.hid (hup.symm.trans he)
    have HP := Lib.hid hp
    have HK := Lib.hid hK
    have HL := Lib.hid hl
    clear ha hup hp he hK hl
    go_wp2_with fail
    rw [HP.out]
    refine A1.out.mono ?_
    rintro e w1 ⟨rfl, hk1⟩
    go_wp2
    refine bodyPost_ret (results_none rfl _ _ _) rfl ?_
    exact ⟨rfl, by rw [← HU.out]; exact H.nil hk1, HK.out.step hk1⟩
   ·rw [ha] at A1
    have hup : up lt ys k = up lt (swap ys k ((k - 1) / 2)) ((k - 1) / 2) := by rw [up.eq_def, dif_pos h0, if_pos ha]
    have HU := Lib.hid (hup.symm.trans he)
    have HP := Lib.hid hp
    have HK := Lib.hid hK
    have HL := Lib.hid hl
    clear ha hup hp he hK hl
    go_wp2_with fail
    rw [HP.out]
    refine A1.out.mono ?_
    rintro e w1 ⟨rfl, hk1⟩
    have S1 := Lib.hid (swap_is (H.nil hk1) k ((k - 1) / 2) hk hpl)
    go_wp2_with fail
    refine S1.out.mono ?_
    rintro e w2 ⟨rfl, H2, hk2'⟩
    go_wp2
    go_roundw
    case rel =>
     have hK2 : Kept (Own h v) w w2 := (HK.out.step hk1).trans hk2' (fun i hi => .inl hi)
     exact ⟨(k - 1) / 2, _, rfl, by rw [swap_length]; exact hpl, by rw [swap_length]; exact HL.out, H2, HU.out, LL.out.stable _ _ hI (own_sub ((hk1.any).trans hk2' (fun i hi => .inl hi)) hob.out), hK2⟩
    case measure => simp [intOf]; omega
  ·obtain rfl : k = 0 := by omega
   have hup : up lt ys 0 = ys := by rw [up.eq_def, dif_neg (by omega)]
   have HU := Lib.hid (hup.symm.trans he)
   clear hup he hl
   go_wp2
   go_end0
   exact ⟨rfl, by rw [← HU.out]; exact H, hK⟩

theorem idx0 (a b : Int) (w : World) : (Instr.index 217 (.agg #[.int .i64 a, .int .i64 b]) (.int .i64 0)).run Tryz.prog w = .ok (.int .i64 a) w := by kernel_rfl
theorem idx1 (a b : Int) (w : World) : (Instr.index 217 (.agg #[.int .i64 a, .int .i64 b]) (.int .i64 1)).run Tryz.prog w = .ok (.int .i64 b) w := by kernel_rfl
attribute [local go_sem] idx0 idx1

set_option maxHeartbeats 2000000 in
theorem down_is {lt : It → It → Bool} {Inv : World → Prop} {w : World} {base h lf : Nat} {lcap : Array Value} {v : Value} {xs : List (It × Int)} {seq : Int} (L : Less lt lf lcap base Inv) (H : IsHeap w base h lf lcap v xs seq) (hI : Inv w) (i : Nat) (hi : i ≤ xs.length) :
  Calls Tryz.prog 150 #[.pointer (some ⟨h, 0, none⟩), .int .i64 i] w fun e w' => e = .returned (.tuple #[]) ∧ IsHeap w' base h lf lcap v (down lt xs i) seq ∧ Kept (Own h v) w w' := by
 have hob := Lib.hid H.own_base
 have hfew := H.few
 have LL := Lib.hid L
 clear L
 go_enter Tryz.func150, Tryz.ntmps150
 go_wp2
 go_loopw [1] (fun a wr => ∃ (k : Nat) (ys : List (It × Int)), a = .int .i64 k ∧ k ≤ ys.length ∧ ys.length = xs.length ∧ IsHeap wr base h lf lcap v ys seq ∧ down lt ys k = down lt xs i ∧ Inv wr ∧ Kept (Own h v) w wr) (fun a _ => xs.length - (intOf a).toNat)
 case atStart => exact ⟨i, xs, rfl, hi, rfl, H, rfl, hI, Kept.refl _ _⟩
 case round =>
  clear H hI
  obtain ⟨k, ys, rfl, hk, hl, H, he, hI, hK⟩ := hrel
  have hk2 : k ≤ 4294967296 := by omega
  have HK := Lib.hid hK
  have HE := Lib.hid he
  have HL := Lib.hid hl
  have hyl : ys.length ≤ 4294967296 := by omega
  clear hK he hl hfew hi
  go_wp2_with fail
  obtain ⟨wo, hwo⟩ : ∃ wo : World, wo = wr := ⟨_, rfl⟩
  have HWO := Lib.hid hwo
  have K0 : Kept Nil wo wr := by rw [hwo]; exact Kept.refl _ _
  clear hwo
  go_loopw [4, 15] (fun a c wr2 => ∃ (q : Nat), q ≤ 2 ∧ c = .int .i64 q ∧ a = .int .i64 ((if q = 0 then k else if q = 1 then least1 lt ys k else least lt ys k : Nat) : Int) ∧ IsHeap wr2 base h lf lcap v ys seq ∧ Inv wr2 ∧ Kept Nil wo wr2) (fun _ c _ => 2 - (intOf c).toNat)
  case atStart => exact ⟨0, by omega, rfl, rfl, H, hI, K0⟩
  case round =>
   clear H hI K0
   obtain ⟨q, hq, rfl, rfl, H, hI, K0⟩ := hrel
   obtain ⟨c0, c1, c2, cf, hh⟩ := H.cells
   obtain ⟨A, cap, hv⟩ := H.slice
   rw [hv] at c1
   clear hv
   have hq3 : q = 0 ∨ q = 1 ∨ q = 2 := by omega
   rcases hq3 with rfl | rfl | rfl
   ·by_cases hc : 2 * k + 1 < ys.length
    ·have hlp : k < ys.length := by omega
     have hn : ((2 : Int) * (k : Int) + 1) = ((2 * k + 1 : Nat) : Int) := by omega
     have A1 := ahead_is LL.out H hI (2 * k + 1) k hc hlp
     have A1' : Calls Tryz.prog 147 #[.pointer (some ⟨h, 0, none⟩), .int .i64 (2 * (k : Int) + 1), .int .i64 k] wr fun e w' => e = .returned (.bool (aheadB lt ys (2 * k + 1) k)) ∧ Kept Nil wr w' := by rw [hn]; exact A1
     cases ha : aheadB lt ys (2 * k + 1) k
     ·rw [ha] at A1'
      have hl1 : least1 lt ys k = k := by unfold least1; rw [if_neg (by simp [ha])]
      have HA := Lib.hid A1'
      have HL1 := Lib.hid hl1
      clear A1 A1' ha hl1 hn
      go_wp2_with fail
      refine HA.out.mono ?_
      rintro e w1 ⟨rfl, hk1⟩
      go_wp2
      go_roundw
      case rel => exact ⟨1, by omega, rfl, by rw [if_neg (by omega), if_pos rfl, HL1.out], H.nil hk1, LL.out.stable _ _ hI hk1.any, K0.step hk1⟩
      case measure => simp [intOf]
     ·rw [ha] at A1'
      have hl1 : least1 lt ys k = 2 * k + 1 := by unfold least1; rw [if_pos ⟨hc, ha⟩]
      have HA := Lib.hid A1'
      have HL1 := Lib.hid hl1
      clear A1 A1' ha hl1 hn
      go_wp2_with fail
      refine HA.out.mono ?_
      rintro e w1 ⟨rfl, hk1⟩
      go_wp2
      go_roundw
      case rel => exact ⟨1, by omega, rfl, by rw [if_neg (by omega), if_pos rfl, HL1.out]; push_cast; rfl, H.nil hk1, LL.out.stable _ _ hI hk1.any, K0.step hk1⟩
      case measure => simp [intOf]
    ·have hl1 : least1 lt ys k = k := by unfold least1; rw [if_neg (by omega)]
     have HL1 := Lib.hid hl1
     clear hl1
     go_wp2
     go_roundw
     case rel => exact ⟨1, by omega, rfl, by rw [if_neg (by omega), if_pos rfl, HL1.out], H, hI, K0⟩
     case measure => simp [intOf]
   ·have hl1b : least1 lt ys k < 4294967298 := by unfold least1; split <;> omega
    by_cases hc : 2 * k + 2 < ys.length
    ·have hlp : least1 lt ys k < ys.length := by unfold least1; split <;> omega
     have hn : ((2 : Int) * (k : Int) + 2) = ((2 * k + 2 : Nat) : Int) := by omega
     have A1 := ahead_is LL.out H hI (2 * k + 2) (least1 lt ys k) hc hlp
     have A1' : Calls Tryz.prog 147 #[.pointer (some ⟨h, 0, none⟩), .int .i64 (2 * (k : Int) + 2), .int .i64 (least1 lt ys k : Nat)] wr fun e w' => e = .returned (.bool (aheadB lt ys (2 * k + 2) (least1 lt ys k))) ∧ Kept Nil wr w' := by rw [hn]; exact A1
     simp only [if_neg (show ¬ (1 = 0) by omega), if_pos (show 1 = 1 from rfl)]
     cases ha : aheadB lt ys (2 * k + 2) (least1 lt ys k)
     ·rw [ha] at A1'
      have hl1 : least lt ys k = least1 lt ys k := by unfold least; rw [if_neg (by simp [ha])]
      have HA := Lib.hid A1'
      have HL1 := Lib.hid hl1
      clear A1 A1' ha hl1 hn
      generalize least1 lt ys k = m at *
      go_wp2_with fail
      refine HA.out.mono ?_
      rintro e w1 ⟨rfl, hk1⟩
      go_wp2
      go_roundw
      case rel => exact ⟨2, by omega, rfl, by rw [if_neg (by omega), if_neg (by omega), HL1.out], H.nil hk1, LL.out.stable _ _ hI hk1.any, K0.step hk1⟩
      case measure => simp [intOf]
     ·rw [ha] at A1'
      have hl1 : least lt ys k = 2 * k + 2 := by unfold least; rw [if_pos ⟨hc, ha⟩]
      have HA := Lib.hid A1'
      have HL1 := Lib.hid hl1
      clear A1 A1' ha hl1 hn
      generalize least1 lt ys k = m at *
      go_wp2_with fail
      refine HA.out.mono ?_
      rintro e w1 ⟨rfl, hk1⟩
      go_wp2
      go_roundw
      case rel => exact ⟨2, by omega, rfl, by rw [if_neg (by omega), if_neg (by omega), HL1.out]; push_cast; rfl, H.nil hk1, LL.out.stable _ _ hI hk1.any, K0.step hk1⟩
      case measure => simp [intOf]
    ·have hl1 : least lt ys k = least1 lt ys k := by unfold least; rw [if_neg (by omega)]
     have HL1 := Lib.hid hl1
     clear hl1
     simp only [if_neg (show ¬ (1 = 0) by omega), if_pos (show 1 = 1 from rfl)]
     generalize least1 lt ys k = m at *
     go_wp2
     go_roundw
     case rel => exact ⟨2, by omega, rfl, by rw [if_neg (by omega), if_neg (by omega), HL1.out], H, hI, K0⟩
     case measure => simp [intOf]
   ·simp only [if_neg (show ¬ (2 = 0) by omega), if_neg (show ¬ (2 = 1) by omega)]
    have hcs := least_cases lt ys k
    have K1 : Kept (Own h v) w wr := HK.out.step (by rw [← HWO.out]; exact K0)
    by_cases hm : least lt ys k = k
    ·have hd : down lt ys k = ys := by rw [down.eq_def, dif_pos hm]
     have HD := Lib.hid (hd.symm.trans HE.out)
     rw [hm]
     clear hm hd hcs
     go_wp2
     refine bodyPost_ret (results_none rfl _ _ _) rfl ?_
     exact ⟨rfl, by rw [← HD.out]; exact H, K1⟩
    ·have hd : down lt ys k = down lt (swap ys k (least lt ys k)) (least lt ys k) := by rw [down.eq_def, dif_neg hm]
     have HD := Lib.hid (hd.symm.trans HE.out)
     have hmb : (((least lt ys k : Nat) : Int) == (k : Int)) = false := beq_eq_false_iff_ne.2 (by omega)
     have hml : least lt ys k < ys.length := by omega
     have hkl : k < ys.length := by omega
     have hgt : k < least lt ys k := by omega
     have S1 := Lib.hid (swap_is H k (least lt ys k) hkl hml)
     have HN := Lib.hid hgt
     generalize least lt ys k = m at *
     clear hd hcs hm
     go_wp2_with fail
     refine S1.out.mono ?_
     rintro e w2 ⟨rfl, H2, hk2'⟩
     go_wp2
     go_roundw
     case rel =>
      exact ⟨m, _, rfl, by rw [swap_length]; omega, by rw [swap_length]; exact HL.out, H2, HD.out, LL.out.stable _ _ hI (own_sub hk2' hob.out), K1.trans hk2' (fun i hi => .inl hi)⟩
     case measure => have := HL.out; have := HN.out; simp [intOf]; omega

end Go.Proofs.YtniocgnfgpaioaaGreat.HpPc
end
section
namespace Go.Proofs.YtniocgnfgpaioaaGreat.HpPc
open Go Go.RowKit Go.Proofs.YtniocgnfgpaioaaGreat.Lb Go.Proofs.YtniocgnfgpaioaaGreat.HpPure
set_option maxRecDepth 8000

theorem Peek_none {w : World} {base h lf : Nat} {lcap : Array Value} {v : Value} {xs : List (It × Int)} {seq : Int} (H : IsHeap w base h lf lcap v xs seq) (hx : xs = []) :
  Calls Tryz.prog 149 #[.pointer (some ⟨h, 0, none⟩)] w fun e w' => e = .returned (.tuple #[.agg #[.string ⟨#[]⟩, .int .i64 0, .slice none 0 0, .slice none 0 0], .bool false]) ∧ Kept Nil w w' := by
 obtain ⟨c0, c1, c2, cf, hh⟩ := H.cells
 obtain ⟨A, cap, rfl⟩ := H.slice
 subst hx
 clear H c0 c2
 go_enter Tryz.func149, Tryz.ntmps149
 go_wp2
 refine bodyPost_ret (v := .tuple #[.agg #[.string ⟨#[]⟩, .int .i64 0, .slice none 0 0, .slice none 0 0], .bool false]) (by simp [results, Tryz.results149, go_sem]) rfl ⟨rfl, ?_⟩
 repeat (first | exact Kept.refl _ _ | refine Kept.drew ?_ | refine Kept.alloc ?_ _)

theorem Peek_some {w : World} {base h lf : Nat} {lcap : Array Value} {v : Value} {xs : List (It × Int)} {seq : Int} (H : IsHeap w base h lf lcap v xs seq) {a0 : ByteArray} {a1 : Int} {a2 : Sl} {a3 : Sl} {a4 : Int} (hx : xs[0]? = some (⟨a0, a1, a2, a3⟩, a4)) :
  Calls Tryz.prog 149 #[.pointer (some ⟨h, 0, none⟩)] w fun e w' => e = .returned (.tuple #[.agg #[.string a0, .int .i64 a1, .slice a2.a a2.n a2.c, .slice a3.a a3.n a3.c], .bool true]) ∧ Kept Nil w w' := by
 have hn := (List.getElem?_eq_some_iff.1 hx).1
 obtain ⟨c0, c1, c2, cf, hh⟩ := H.cells
 obtain ⟨g, cap, rfl, hbg, hne, hgs, hcap, hm, hf⟩ := H.row hn
 obtain ⟨a0c, a1c, a2c, a3c, a4c⟩ := H.at rfl hx
 have hfew := H.few
 have hlb : ((xs.length : Int) == 0) = false := beq_eq_false_iff_ne.2 (by omega)
 simp only [Nat.zero_mul, Nat.zero_add] at a0c a1c a2c a3c a4c
 clear H c0 c2 hx
 generalize xs.length = n at *
 go_enter Tryz.func149, Tryz.ntmps149
 go_wp2
 refine bodyPost_ret (v := .tuple #[.agg #[.string a0, .int .i64 a1, .slice a2.a a2.n a2.c, .slice a3.a a3.n a3.c], .bool true]) (by simp [results, Tryz.results149, go_sem]) rfl ⟨rfl, ?_⟩
 repeat (first | exact Kept.refl _ _ | refine Kept.drew ?_ | refine Kept.alloc ?_ _)

theorem New_is (lf : Nat) (lcap : Array Value) (w : World) : Calls Tryz.prog 103 #[.func (.func lf) #[] lcap] w fun e w' => e = .returned (.pointer (some ⟨w.heap.size, 0, none⟩)) ∧ IsHeap w' w.heap.size w.heap.size lf lcap (.slice none 0 0) [] 0 ∧ Kept Nil w w' := by
 go_enter Tryz.func103, Tryz.ntmps103
 go_wp2
 go_ret
 exact ⟨rfl, ⟨Nat.le_refl _, heap_new _ _, World.ownsRow_nil _ _ _ _, by simp [Value.ownBlock], by simp⟩, (Kept.refl _ _).alloc _⟩

end Go.Proofs.YtniocgnfgpaioaaGreat.HpPc
end
section
namespace Go.Proofs.YtniocgnfgpaioaaGreat.HpPc
open Go Go.RowKit Go.Proofs.YtniocgnfgpaioaaGreat.Lb Go.Proofs.YtniocgnfgpaioaaGreat.HpPure
set_option maxRecDepth 8000

theorem push_mid {w w3 : World} {base h lf g' cap' : Nat} {lcap : Array Value} {v : Value} {xs : List (It × Int)} {seq : Int} (H : IsHeap w base h lf lcap v xs seq) (kk : Kept (fun k => v.ownBlock = some k) w w3) (a0 : ByteArray) (a1 : Int) (a2 : Sl) (a3 : Sl)
  (hown : w3.ownsRow base 191 5 (.slice (some ⟨g', 0, none⟩) (xs.length + 1) cap') (xs.length + 1) (xs.flatMap pc ++ [.string a0, .int .i64 a1, .slice a2.a a2.n a2.c, .slice a3.a a3.n a3.c, .int .u64 seq])) (hat : v.ownBlock = some g' ∨ g' = w.heap.size + 2) (hlt : xs.length < 4294967296) :
  IsHeap ((w3.setCell ⟨h, 1, none⟩ (.slice (some ⟨g', 0, none⟩) (xs.length + 1) cap')).setCell ⟨h, 2, none⟩ (.int .u64 (seq + 1))) base h lf lcap (.slice (some ⟨g', 0, none⟩) (xs.length + 1) cap') (xs ++ [(⟨a0, a1, a2, a3⟩, seq)]) (seq + 1) ∧
  Kept (Own h v) w ((w3.setCell ⟨h, 1, none⟩ (.slice (some ⟨g', 0, none⟩) (xs.length + 1) cap')).setCell ⟨h, 2, none⟩ (.int .u64 (seq + 1))) := by
 have hhl := (Array.getElem?_eq_some_iff.1 H.hd).1
 have hg : g' ≠ h := by
  rcases hat with e | e
  ·intro e2; rw [e2] at e; exact H.ne e
  ·omega
 have h3 := kk.heap H.hd H.ne
 have h4 := heap_set (heap_set h3 1 (.slice (some ⟨g', 0, none⟩) (xs.length + 1) cap')) 2 (.int .u64 (seq + 1))
 refine ⟨⟨H.hb, h4, ?_, by simp [Value.ownBlock, hg], by simp; omega⟩, ?_⟩
 ·have k : Kept (fun k => k = h) w3 ((w3.setCell ⟨h, 1, none⟩ (.slice (some ⟨g', 0, none⟩) (xs.length + 1) cap')).setCell ⟨h, 2, none⟩ (.int .u64 (seq + 1))) := ((Kept.refl (fun k => k = h) w3).setCell (p := ⟨h, 1, none⟩) (.inl rfl) _).setCell (p := ⟨h, 2, none⟩) (.inl rfl) _
  have := k.own hown (fun i hi => by simp [Value.ownBlock] at hi; omega)
  simpa [pc, It.cells] using this
 ·have k1 : Kept (Own h v) w w3 := kk.mono (fun i _ hi => .inr hi)
  exact (k1.setCell (p := ⟨h, 1, none⟩) (.inl (.inl rfl)) _).setCell (p := ⟨h, 2, none⟩) (.inl (.inl rfl)) _

set_option maxHeartbeats 2000000 in
theorem Push_is {lt : It → It → Bool} {Inv : World → Prop} {w : World} {base h lf : Nat} {lcap : Array Value} {v : Value} {xs : List (It × Int)} {seq : Int} (L : Less lt lf lcap base Inv) (H : IsHeap w base h lf lcap v xs seq) (hI : Inv w) (a0 : ByteArray) (a1 : Int) (a2 : Sl) (a3 : Sl) (hlt : xs.length < 4294967296) (hs0 : 0 ≤ seq) (hs1 : seq < 9223372036854775807) :
  Calls Tryz.prog 104 #[.pointer (some ⟨h, 0, none⟩), .agg #[.string a0, .int .i64 a1, .slice a2.a a2.n a2.c, .slice a3.a a3.n a3.c]] w fun e w' => ∃ v', e = .returned (.tuple #[]) ∧ IsHeap w' base h lf lcap v' (push lt xs ⟨a0, a1, a2, a3⟩ seq) (seq + 1) ∧ Kept (Own h v) w w' ∧ (v'.ownBlock = v.ownBlock ∨ ∃ k, v'.ownBlock = some k ∧ w.heap.size ≤ k) := by
 obtain ⟨i0, hi, hz0, hz1, hz2⟩ := info_parts info
 obtain ⟨c0, c1, c2, cf, hh⟩ := H.cells
 have hown := H.own
 have hne := H.ne
 have HH := Lib.hid H
 have LL := Lib.hid L
 have hbh := H.hb
 have HC := Lib.hid (show ∀ u ∈ ([.string a0, .int .i64 a1, .slice a2.a a2.n a2.c, .slice a3.a a3.n a3.c, .int .u64 seq] : List Value), u.oneCell' = true by simp [Value.oneCell'])
 have HM := Lib.hid (show xs.length + 1 ≤ maxLen by unfold maxLen; omega)
 have HB := Lib.hid (show (xs.length + 1) * 80 ≤ 140737488355328 by omega)
 have HS := Lib.hid (show base ≤ (((w.alloc (.cells #[.string a0, .int .i64 a1, .slice a2.a a2.n a2.c, .slice a3.a a3.n a3.c] 34)).alloc (.cells #[.string a0, .int .i64 a1, .slice a2.a a2.n a2.c, .slice a3.a a3.n a3.c, .int .u64 seq] 191)).drew).heap.size by simp; omega)
 clear H L
 go_enter Tryz.func104, Tryz.ntmps104
 go_wp2_with fail
 go_region_law (refine step_append_lies _ rfl (.tmp 8) (.tmp 15) 187 rfl base 191 i0 (.agg #[.string ⟨#[]⟩, .int .i64 0, .slice none 0 0, .slice none 0 0, .int .u64 0]) 5 80 Tryz.underlying187 hi hz0 hz1 hz2 rfl (by decide) v xs.length (xs.flatMap pc) (by simp [Act.eval, Act.put]) (own_drew ((hown.alloc _).alloc _)) ⟨w.heap.size + 1, 0, none⟩ 1 1 [.string a0, .int .i64 a1, .slice a2.a a2.n a2.c, .slice a3.a a3.n a3.c, .int .u64 seq] (by simp [Act.eval, Act.put]) rfl (cells_new2 _ _ _ _) HC.out (by decide) HM.out HB.out HS.out (w.heap.size + 2) (by simp) ?_; intro g' cap' w3 hown' hgrow hat hlt'; have kk : Kept (fun k => v.ownBlock = some k) w w3 := (((Kept.refl _ w).alloc _).alloc _).drew.grown hgrow (fun k e => .inl e); have k0 := kk.cell c0 hne; have k1 := kk.cell c1 hne; have k2 := kk.cell c2 hne; have f1 := kk.frozen hh (cf 1) hne; have f2 := kk.frozen hh (cf 2) hne)
 all_goals
  have hp := push_mid HH.out kk a0 a1 a2 a3 hown' hat hlt
  have HP := Lib.hid hp
  have HK := Lib.hid kk
  have HAT := Lib.hid hat
  clear hp kk hat hgrow hown'
  go_wp2_with fail
  refine (up_is LL.out HP.out.1 (LL.out.stable _ _ hI (own_sub HP.out.2 HH.out.own_base)) xs.length (by simp)).mono ?_
  rintro e w5 ⟨rfl, H5, hk5⟩
  go_wp2
  go_end0
  refine ⟨_, rfl, H5, HP.out.2.trans hk5 ?_, ?_⟩
  ·intro k hk
   rcases hk with rfl | hk
   ·exact .inl (.inl rfl)
   ·rcases HAT.out with e | e
    ·simp only [Value.ownBlock, Option.some.injEq] at hk
     subst hk; exact .inl (.inr e)
    ·simp only [Value.ownBlock, Option.some.injEq] at hk
     subst hk; exact .inr (by omega)
  ·rcases HAT.out with e | e
   ·exact .inl e.symm
   ·exact .inr ⟨g', rfl, by omega⟩

end Go.Proofs.YtniocgnfgpaioaaGreat.HpPc
end
