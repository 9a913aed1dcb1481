/- Small laws on worlds: what stays where some blocks are written; rows that a call owns. Nothing of the program is named. -/
import Derived.Below
import Derived.OwnWalk
import Derived.Maps.AppendAt
import Derived.Deep.AppendLies
import Derived.Laws.OwnMore
import Derived.Lib.Hide
import Derived.WideShapes
import Derived.Deep.Draws
import Derived.StillTailTactics
namespace Go.Proofs.Ythgbahlkflmgiaa.Lb
open Go Go.RowKit
set_option linter.unusedVariables false

/-- Outside S every block lies as it lay; the streams are as they were. -/
structure Kept (S : Nat → Prop) (w w' : World) : Prop where
  os : w'.os = w.os
  tape : w'.tape = w.tape
  output : w'.output = w.output
  size : w.heap.size ≤ w'.heap.size
  block : ∀ k, k < w.heap.size → ¬ S k → w'.heap[k]? = w.heap[k]?

def Nil : Nat → Prop := fun _ => False

theorem Kept.refl (S : Nat → Prop) (w : World) : Kept S w w := ⟨rfl, rfl, rfl, Nat.le_refl _, fun _ _ _ => rfl⟩
theorem Kept.trans {S S' : Nat → Prop} {a b c : World} (h : Kept S a b) (k : Kept S' b c) (hs : ∀ i, S' i → S i ∨ a.heap.size ≤ i) : Kept S a c :=
  ⟨k.os.trans h.os, k.tape.trans h.tape, k.output.trans h.output, Nat.le_trans h.size k.size,
   fun i hi hn => (k.block i (Nat.lt_of_lt_of_le hi h.size) (fun h' => (hs i h').elim hn (by omega))).trans (h.block i hi hn)⟩
theorem Kept.step {S : Nat → Prop} {a b c : World} (h : Kept S a b) (k : Kept Nil b c) : Kept S a c := h.trans k (fun _ h => h.elim)
theorem Kept.mono {S S' : Nat → Prop} {a b : World} (h : Kept S a b) (hs : ∀ i, i < a.heap.size → S i → S' i) : Kept S' a b :=
  ⟨h.os, h.tape, h.output, h.size, fun i hi hn => h.block i hi (fun h' => hn (hs i hi h'))⟩
theorem Kept.any {S : Nat → Prop} {a b : World} (h : Kept Nil a b) : Kept S a b := h.mono (fun _ _ h => h.elim)
theorem Kept.of_below {B : Nat} {a b : World} (h : Below B a b) (hB : a.heap.size ≤ B) : Kept Nil a b := ⟨h.os, h.tape, h.output, h.size, fun i hi _ => h.block i (by omega)⟩
theorem Kept.below {S : Nat → Prop} {B : Nat} {a b : World} (h : Kept S a b) (hB : B ≤ a.heap.size) (hs : ∀ i, S i → B ≤ i) : Below B a b :=
  ⟨h.os, h.tape, h.output, h.size, fun i hi => h.block i (by omega) (fun h' => by have := hs i h'; omega)⟩
theorem Kept.toBelow {a b : World} (h : Kept Nil a b) : Below a.heap.size a b := h.below (Nat.le_refl _) (fun _ h => h.elim)
theorem Kept.alloc {S : Nat → Prop} {a w : World} (h : Kept S a w) (o : Obj) : Kept S a (w.alloc o) :=
  h.trans (S' := Nil) ⟨rfl, rfl, rfl, by simp, fun k hk _ => Below.heap_alloc _ _ _ hk⟩ (fun _ h => h.elim)
theorem Kept.setCell {S : Nat → Prop} {a w : World} (h : Kept S a w) {p : Addr} (hp : S p.block ∨ a.heap.size ≤ p.block) (u : Value) : Kept S a (w.setCell p u) :=
  h.trans (S' := fun k => k = p.block) ⟨rfl, rfl, rfl, by simp [World.setCell], fun k hk hn => Below.heap_setCell _ _ _ _ hn⟩ (fun i hi => by subst hi; exact hp)
theorem Kept.drew {S : Nat → Prop} {a w : World} (h : Kept S a w) : Kept S a w.drew := ⟨h.os, h.tape, h.output, h.size, h.block⟩
theorem Kept.drewN {S : Nat → Prop} {a w : World} (h : Kept S a w) (n : Nat) : Kept S a (w.drewN n) := ⟨h.os, h.tape, h.output, h.size, h.block⟩
theorem Kept.grown {S : Nat → Prop} {a w w' : World} {row : Option Nat} (h : Kept S a w) (hg : w.grownBy w' row) (hr : ∀ k, row = some k → S k ∨ a.heap.size ≤ k) : Kept S a w' :=
  h.trans (S' := fun k => row = some k) ⟨hg.os, hg.tape, hg.output, hg.size, fun k hk hn => hg.block k hk (fun e => hn e.symm)⟩ (fun i hi => hr i hi)
theorem Kept.cell {S : Nat → Prop} {w w' : World} (h : Kept S w w') {p : Addr} {v : Value} (hv : w.cell? p = some v) (hp : ¬ S p.block) : w'.cell? p = some v := by
  rw [World.cell?_of_block (w := w) (h.block p.block (World.block_lt_of_cell? w p hv) hp)]; exact hv
theorem Kept.frozen {S : Nat → Prop} {w w' : World} (h : Kept S w w') {p : Addr} {f : Bool} (hl : p.block < w.heap.size) (hv : w.frozen? p = f) (hp : ¬ S p.block) : w'.frozen? p = f := by
  rw [World.frozen?_of_block (w := w) (h.block p.block hl hp)]; exact hv
theorem Kept.heap {S : Nat → Prop} {w w' : World} (h : Kept S w w') {k : Nat} {o : Obj} (hv : w.heap[k]? = some o) (hp : ¬ S k) : w'.heap[k]? = some o := by
  rw [h.block k (Array.getElem?_eq_some_iff.1 hv).1 hp]; exact hv
theorem Kept.own {S : Nat → Prop} {w w' : World} {base e size n : Nat} {v : Value} {xs : List Value} (h : Kept S w w') (ho : w.ownsRow base e size v n xs) (hp : ∀ k, v.ownBlock = some k → ¬ S k) : w'.ownsRow base e size v n xs := by
  obtain ⟨h1, h2⟩ := ho
  refine ⟨h1, ?_⟩
  rcases h2 with h2 | ⟨g, cap, cur, hv, hg, hh, r⟩
  · exact .inl h2
  · exact .inr ⟨g, cap, cur, hv, hg, h.heap hh (hp g (by rw [hv]; rfl)), r⟩

/-- A row that is owned, with its first block as its base. -/
theorem own_lower {w : World} {base base' e size n : Nat} {v : Value} {xs : List Value} (h : w.ownsRow base e size v n xs) (hb : ∀ k, v.ownBlock = some k → base' ≤ k) : w.ownsRow base' e size v n xs := by
  obtain ⟨h1, h2⟩ := h
  refine ⟨h1, ?_⟩
  rcases h2 with h2 | ⟨g, cap, cur, hv, hg, hh, r⟩
  · exact .inl h2
  · exact .inr ⟨g, cap, cur, hv, hb g (by rw [hv]; rfl), hh, r⟩

/-- The form of an owned row. -/
theorem own_form {w : World} {base e size n : Nat} {v : Value} {xs : List Value} (h : w.ownsRow base e size v n xs) :
    (v = .slice none 0 0 ∧ n = 0 ∧ xs = []) ∨ ∃ g cap, v = .slice (some ⟨g, 0, none⟩) n cap ∧ base ≤ g ∧ g < w.heap.size ∧ n ≤ cap ∧ cap ≤ maxLen := by
  rcases h.2 with ⟨hv, hn⟩ | ⟨g, cap, cur, hv, hg, hh, h1, h2, _⟩
  · refine .inl ⟨hv, hn, ?_⟩
    have := h.1
    subst hn
    exact List.eq_nil_of_length_eq_zero (by omega)
  · exact .inr ⟨g, cap, hv, hg, (Array.getElem?_eq_some_iff.1 hh).1, h1, h2⟩
theorem own_cell {w : World} {base e size n g cap : Nat} {xs : List Value} (h : w.ownsRow base e size (.slice (some ⟨g, 0, none⟩) n cap) n xs) {j : Nat} {u : Value} (hj : xs[j]? = some u) : w.cell? ⟨g, j, none⟩ = some u := by
  have := h.cellAt j (by have := (List.getElem?_eq_some_iff.1 hj).1; have := h.1; omega)
  rw [this, hj]

/-- A block of cells: its cells, and that they are not frozen. -/
theorem cell_of {w : World} {b : Nat} {cs : Array Value} {t : TypeId} {fr : Nat × Nat} (h : w.heap[b]? = some (.cells cs t fr)) (j : Nat) : w.cell? ⟨b, j, none⟩ = cs[j]? := by
  simp [World.cell?, h]
theorem frozen_of {w : World} {b : Nat} {cs : Array Value} {t : TypeId} (h : w.heap[b]? = some (.cells cs t (0, 0))) (j : Nat) : w.frozen? ⟨b, j, none⟩ = false := by
  simp [World.frozen?, h]
theorem heap_set {w : World} {b : Nat} {cs : Array Value} {t : TypeId} {fr : Nat × Nat} (h : w.heap[b]? = some (.cells cs t fr)) (j : Nat) (u : Value) :
    (w.setCell ⟨b, j, none⟩ u).heap[b]? = some (.cells (cs.setIfInBounds j u) t fr) := by
  simp [World.setCell, Array.getElem?_modify, h]
theorem heap_set_other {w : World} {b : Nat} {p : Addr} (hne : b ≠ p.block) (u : Value) : (w.setCell p u).heap[b]? = w.heap[b]? := Below.heap_setCell w p u b hne
theorem heap_new (w : World) (o : Obj) : (w.alloc o).heap[w.heap.size]? = some o := by
  show (w.heap.push o)[w.heap.size]? = _
  simp
theorem heap_old (w : World) (o : Obj) {k : Nat} (h : k < w.heap.size) : (w.alloc o).heap[k]? = w.heap[k]? := Below.heap_alloc w o k h
theorem heap_drew (w : World) (k : Nat) : w.drew.heap[k]? = w.heap[k]? := rfl
theorem own_drew {w : World} {base e size n : Nat} {v : Value} {xs : List Value} (h : w.ownsRow base e size v n xs) : w.drew.ownsRow base e size v n xs := h

/-- A new block's cells, as the laws on append ask for them. -/
theorem cells_new (w : World) (cs : List Value) (t : TypeId) : ∀ j u, cs[j]? = some u → (w.alloc (.cells cs.toArray t)).cell? ((⟨w.heap.size, 0, none⟩ : Addr).add j) = some u := by
  intro j u hj
  rw [Go.WideShapes.add_plain, Nat.zero_add, cell_of (heap_new w _), List.getElem?_toArray, hj]
theorem cells_new2 (w : World) (o : Obj) (cs : List Value) (t : TypeId) : ∀ j u, cs[j]? = some u → ((w.alloc o).alloc (.cells cs.toArray t)).drew.cell? ((⟨w.heap.size + 1, 0, none⟩ : Addr).add j) = some u := by
  intro j u hj
  have := cells_new (w.alloc o) cs t j u hj
  rw [World.size_alloc] at this
  exact this
theorem cells_new1 (w : World) (cs : List Value) (t : TypeId) : ∀ j u, cs[j]? = some u → (w.alloc (.cells cs.toArray t)).drew.cell? ((⟨w.heap.size, 0, none⟩ : Addr).add j) = some u := fun j u hj => cells_new w cs t j u hj
theorem own_drewN {w : World} {base e size n : Nat} {v : Value} {xs : List Value} (h : w.ownsRow base e size v n xs) (q : Nat) : (w.drewN q).ownsRow base e size v n xs := h
theorem Kept.of_grown {S : Nat → Prop} {w w' : World} {row : Option Nat} (hg : w.grownBy w' row) (hr : ∀ k, row = some k → S k) : Kept S w w' := (Kept.refl S w).grown hg (fun k h => .inl (hr k h))

theorem own_shrink {w : World} {base e size n m g cap : Nat} {xs : List Value} (h : w.ownsRow base e size (.slice (some ⟨g, 0, none⟩) n cap) n xs) (hm : m ≤ n) : w.ownsRow base e size (.slice (some ⟨g, 0, none⟩) m cap) m (xs.take (m * size)) := by
  obtain ⟨h1, h2⟩ := h
  have hle : m * size ≤ n * size := Nat.mul_le_mul_right _ hm
  refine ⟨by rw [List.length_take, h1]; omega, ?_⟩
  rcases h2 with ⟨h2, _⟩ | ⟨g', cap', cur, hv, hg, hh, h3, h4, h5, h6⟩
  · cases h2
  · cases hv
    refine .inr ⟨g, cap, cur, rfl, hg, hh, by omega, h4, h5, ?_⟩
    rw [← h6, List.take_take, Nat.min_eq_left hle]

/-- A row of things of one size. -/
theorem flat_len {β : Type} {f : β → List Value} {sz : Nat} (hf : ∀ x, (f x).length = sz) (xs : List β) : (xs.flatMap f).length = xs.length * sz := by
  induction xs with
  | nil => simp
  | cons x xs ih => rw [List.flatMap_cons, List.length_append, ih, hf, List.length_cons, Nat.add_mul]; omega
theorem flat_get {β : Type} {f : β → List Value} {sz : Nat} (hf : ∀ x, (f x).length = sz) : ∀ {xs : List β} {i c : Nat} {p : β}, xs[i]? = some p → c < sz → (xs.flatMap f)[i * sz + c]? = (f p)[c]?
  | [], i, c, p, hp, _ => by simp at hp
  | x :: xs, 0, c, p, hp, hc => by
    simp only [List.getElem?_cons_zero, Option.some.injEq] at hp
    subst hp
    rw [List.flatMap_cons, Nat.zero_mul, Nat.zero_add, List.getElem?_append_left (by rw [hf]; exact hc)]
  | x :: xs, i + 1, c, p, hp, hc => by
    rw [List.getElem?_cons_succ] at hp
    have := flat_get hf hp hc
    rw [List.flatMap_cons, List.getElem?_append_right (by rw [hf, Nat.add_mul]; omega), hf, ← this, Nat.add_mul]
    congr 1; omega
theorem flat_take {β : Type} {f : β → List Value} {sz : Nat} (hf : ∀ x, (f x).length = sz) : ∀ (xs : List β) (k : Nat), (xs.flatMap f).take (k * sz) = (xs.take k).flatMap f
  | [], k => by simp
  | x :: xs, 0 => by simp
  | x :: xs, k + 1 => by
    rw [List.flatMap_cons, List.take_succ_cons, List.flatMap_cons, List.take_append, hf, List.take_of_length_le (by rw [hf, Nat.add_mul]; omega), ← flat_take hf xs k]
    congr 2; rw [Nat.add_mul]; omega
def setRow (L : List Value) (o : Nat) : List Value → List Value
  | [] => L
  | c :: cs => setRow (L.set o c) (o + 1) cs
theorem setRow_right (A L : List Value) (cs : List Value) : ∀ (o : Nat), A.length ≤ o → setRow (A ++ L) o cs = A ++ setRow L (o - A.length) cs := by
  induction cs generalizing L with
  | nil => intro o _; rfl
  | cons c cs ih =>
    intro o ho
    simp only [setRow]
    rw [List.set_append_right _ _ ho, ih _ (o + 1) (by omega)]
    congr 2; omega
theorem setRow_all (cs : List Value) : ∀ (A B L : List Value), B.length = cs.length → setRow (A ++ (B ++ L)) A.length cs = A ++ (cs ++ L) := by
  induction cs with
  | nil => intro A B L h; rw [List.eq_nil_of_length_eq_zero h]; rfl
  | cons c cs ih =>
    intro A B L h
    cases B with
    | nil => simp at h
    | cons b B =>
      simp only [setRow]
      rw [List.set_append_right _ _ (Nat.le_refl _), Nat.sub_self]
      have := ih (A ++ [c]) B L (by simpa using h)
      simpa using this
theorem setRow_flat {β : Type} {f : β → List Value} {sz : Nat} (hf : ∀ x, (f x).length = sz) {p : β} : ∀ {xs : List β} {i : Nat}, i < xs.length → setRow (xs.flatMap f) (i * sz) (f p) = (xs.set i p).flatMap f
  | [], i, h => by simp at h
  | x :: xs, 0, _ => by
    have := setRow_all (f p) [] (f x) (xs.flatMap f) (by rw [hf, hf])
    simpa using this
  | x :: xs, i + 1, h => by
    rw [List.flatMap_cons, setRow_right _ _ _ _ (by rw [hf, Nat.add_mul]; omega), hf, List.set_cons_succ, List.flatMap_cons, ← setRow_flat hf (by simpa using h)]
    congr 2; rw [Nat.add_mul]; omega
theorem flat_set {β : Type} {f : β → List Value} {sz : Nat} (hf : ∀ x, (f x).length = sz) {p : β} {xs : List β} {i : Nat} (hi : i < xs.length) : setRow (xs.flatMap f) (i * sz) (f p) = (xs.set i p).flatMap f := setRow_flat hf hi

/-- All that lay reads as it did: two rules for the walk. -/
theorem Kept.rules {W w1 : World} (hk : Kept Nil W w1) : (∀ b o, b < W.heap.size → w1.cell? ⟨b, o, none⟩ = W.cell? ⟨b, o, none⟩) ∧ (∀ b o, b < W.heap.size → w1.frozen? ⟨b, o, none⟩ = W.frozen? ⟨b, o, none⟩) :=
  ⟨fun b o h => hk.toBelow.cell (p := ⟨b, o, none⟩) h, fun b o h => hk.toBelow.frozen (p := ⟨b, o, none⟩) h⟩

theorem Kept.rulesAt {W w1 : World} (hk : Kept Nil W w1) (n : Nat) (hn : n ≤ W.heap.size) : (∀ b o, b < n → w1.cell? ⟨b, o, none⟩ = W.cell? ⟨b, o, none⟩) ∧ (∀ b o, b < n → w1.frozen? ⟨b, o, none⟩ = W.frozen? ⟨b, o, none⟩) :=
  ⟨fun b o h => hk.toBelow.cell (p := ⟨b, o, none⟩) (Nat.lt_of_lt_of_le h hn), fun b o h => hk.toBelow.frozen (p := ⟨b, o, none⟩) (Nat.lt_of_lt_of_le h hn)⟩

/-- A region that draws its order: its first n operations only read; the others have one order. -/
theorem region_tail {P : Program} {id : Nat} {Q : Exit → Act → World → Prop} {a : Act} {w : World} {l : List Oper} (n : Nat) (hm : P.follows .mixedOrders = true) (hB : Region.lexTailB .any l.toArray n = true)
    (h : wpStill P l.toArray w.drew (fun a' => wpList P l.toArray Q (l.drop n) a' w.drew) (l.take n) a) : (Code.region id l.toArray true).wp P Q a w := wp_region_still_tail n hm hB h
/-- A region that draws its order and only reads. -/
theorem region_still {P : Program} {id : Nat} {Q : Exit → Act → World → Prop} {a : Act} {w : World} {l : List Oper} (hm : P.follows .mixedOrders = true) (hB : Region.lexB .any l.toArray = true)
    (h : wpStill P l.toArray w.drew (fun a' => Q .normal a' w.drew) l a) : (Code.region id l.toArray true).wp P Q a w := wp_region_still_lit hm hB h
end Go.Proofs.Ythgbahlkflmgiaa.Lb
