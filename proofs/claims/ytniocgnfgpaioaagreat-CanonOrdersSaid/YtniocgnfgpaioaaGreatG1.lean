/- Small laws on worlds: what stays where some blocks are written; rows that a call owns. Nothing of the program is named; append(a, b...) where both are rows that a call owns: as one law for the walk. Nothing of the program is named; append(a, b...) inside a region that draws its order: a is a row that the call owns, b any row that lies in memory. Nothing of the program is named; Rows of structs: as they lie, as they are appended, with one cell turned. Nothing of the program is named; An argument that is a row of structs, opened to its cells. Nothing of the program is named. -/
import Derived.Below
import Derived.OwnWalk
import Derived.Maps.AppendAt
import Derived.Deep.AppendLies
import Derived.Laws.OwnMore
import Derived.Lib.Hide
import Derived.WideShapes
import Derived.Deep.Draws
import Derived.StillTailTactics
import Derived.Laws.AppendOwnNone
import Derived.Deep.Slices
import Derived.ChangeArms
import Derived.ChangeAt
import Derived.OpenShut
set_option linter.unusedVariables false
set_option linter.unusedSimpArgs false
section
namespace Go.Proofs.YtniocgnfgpaioaaGreat.Lb
open Go Go.RowKit

/-- Outside S every block lies as it lay; the streams are as they were. -/
structure Kept (S : Nat → Prop) (w w' : World) : Prop where
 os : w'.os = w.os
 tape : w'.tape = w.tape
 output : w'.output = w.output
 size : w.heap.size ≤ w'.heap.size
 block : ∀ k, k < w.heap.size → ¬ S k → w'.heap[k]? = w.heap[k]?

def Nil : Nat → Prop := fun _ => False

theorem Kept.refl (S : Nat → Prop) (w : World) : Kept S w w := ⟨rfl, rfl, rfl, Nat.le_refl _, fun _ _ _ => rfl⟩
theorem Kept.trans {S S' : Nat → Prop} {a b c : World} (h : Kept S a b) (k : Kept S' b c) (hs : ∀ i, S' i → S i ∨ a.heap.size ≤ i) : Kept S a c :=
 ⟨k.os.trans h.os, k.tape.trans h.tape, k.output.trans h.output, Nat.le_trans h.size k.size,
  fun i hi hn => (k.block i (Nat.lt_of_lt_of_le hi h.size) (fun h' => (hs i h').elim hn (by omega))).trans (h.block i hi hn)⟩
theorem Kept.step {S : Nat → Prop} {a b c : World} (h : Kept S a b) (k : Kept Nil b c) : Kept S a c := h.trans k (fun _ h => h.elim)
theorem Kept.mono {S S' : Nat → Prop} {a b : World} (h : Kept S a b) (hs : ∀ i, i < a.heap.size → S i → S' i) : Kept S' a b :=
 ⟨h.os, h.tape, h.output, h.size, fun i hi hn => h.block i hi (fun h' => hn (hs i hi h'))⟩
theorem Kept.any {S : Nat → Prop} {a b : World} (h : Kept Nil a b) : Kept S a b := h.mono (fun _ _ h => h.elim)
theorem Kept.of_below {B : Nat} {a b : World} (h : Below B a b) (hB : a.heap.size ≤ B) : Kept Nil a b := ⟨h.os, h.tape, h.output, h.size, fun i hi _ => h.block i (by omega)⟩
theorem Kept.below {S : Nat → Prop} {B : Nat} {a b : World} (h : Kept S a b) (hB : B ≤ a.heap.size) (hs : ∀ i, S i → B ≤ i) : Below B a b :=
 ⟨h.os, h.tape, h.output, h.size, fun i hi => h.block i (by omega) (fun h' => by have := hs i h'; omega)⟩
theorem Kept.toBelow {a b : World} (h : Kept Nil a b) : Below a.heap.size a b := h.below (Nat.le_refl _) (fun _ h => h.elim)
theorem Kept.alloc {S : Nat → Prop} {a w : World} (h : Kept S a w) (o : Obj) : Kept S a (w.alloc o) :=
 h.trans (S' := Nil) ⟨rfl, rfl, rfl, by simp, fun k hk _ => Below.heap_alloc _ _ _ hk⟩ (fun _ h => h.elim)
theorem Kept.setCell {S : Nat → Prop} {a w : World} (h : Kept S a w) {p : Addr} (hp : S p.block ∨ a.heap.size ≤ p.block) (u : Value) : Kept S a (w.setCell p u) :=
 h.trans (S' := fun k => k = p.block) ⟨rfl, rfl, rfl, by simp [World.setCell], fun k hk hn => Below.heap_setCell _ _ _ _ hn⟩ (fun i hi => by subst hi; exact hp)
theorem Kept.drew {S : Nat → Prop} {a w : World} (h : Kept S a w) : Kept S a w.drew := ⟨h.os, h.tape, h.output, h.size, h.block⟩
theorem Kept.drewN {S : Nat → Prop} {a w : World} (h : Kept S a w) (n : Nat) : Kept S a (w.drewN n) := ⟨h.os, h.tape, h.output, h.size, h.block⟩
theorem Kept.grown {S : Nat → Prop} {a w w' : World} {row : Option Nat} (h : Kept S a w) (hg : w.grownBy w' row) (hr : ∀ k, row = some k → S k ∨ a.heap.size ≤ k) : Kept S a w' :=
 h.trans (S' := fun k => row = some k) ⟨hg.os, hg.tape, hg.output, hg.size, fun k hk hn => hg.block k hk (fun e => hn e.symm)⟩ (fun i hi => hr i hi)
theorem Kept.cell {S : Nat → Prop} {w w' : World} (h : Kept S w w') {p : Addr} {v : Value} (hv : w.cell? p = some v) (hp : ¬ S p.block) : w'.cell? p = some v := by
 rw [World.cell?_of_block (w := w) (h.block p.block (World.block_lt_of_cell? w p hv) hp)]; exact hv
theorem Kept.frozen {S : Nat → Prop} {w w' : World} (h : Kept S w w') {p : Addr} {f : Bool} (hl : p.block < w.heap.size) (hv : w.frozen? p = f) (hp : ¬ S p.block) : w'.frozen? p = f := by
 rw [World.frozen?_of_block (w := w) (h.block p.block hl hp)]; exact hv
theorem Kept.heap {S : Nat → Prop} {w w' : World} (h : Kept S w w') {k : Nat} {o : Obj} (hv : w.heap[k]? = some o) (hp : ¬ S k) : w'.heap[k]? = some o := by
 rw [h.block k (Array.getElem?_eq_some_iff.1 hv).1 hp]; exact hv
theorem Kept.own {S : Nat → Prop} {w w' : World} {base e size n : Nat} {v : Value} {xs : List Value} (h : Kept S w w') (ho : w.ownsRow base e size v n xs) (hp : ∀ k, v.ownBlock = some k → ¬ S k) : w'.ownsRow base e size v n xs := by
 obtain ⟨h1, h2⟩ := ho
 refine ⟨h1, ?_⟩
 rcases h2 with h2 | ⟨g, cap, cur, hv, hg, hh, r⟩
 ·exact .inl h2
 ·exact .inr ⟨g, cap, cur, hv, hg, h.heap hh (hp g (by rw [hv]; rfl)), r⟩

/-- A row that is owned, with its first block as its base. -/
theorem own_lower {w : World} {base base' e size n : Nat} {v : Value} {xs : List Value} (h : w.ownsRow base e size v n xs) (hb : ∀ k, v.ownBlock = some k → base' ≤ k) : w.ownsRow base' e size v n xs := by
 obtain ⟨h1, h2⟩ := h
 refine ⟨h1, ?_⟩
 rcases h2 with h2 | ⟨g, cap, cur, hv, hg, hh, r⟩
 ·exact .inl h2
 ·exact .inr ⟨g, cap, cur, hv, hb g (by rw [hv]; rfl), hh, r⟩

/-- The form of an owned row. -/
theorem own_form {w : World} {base e size n : Nat} {v : Value} {xs : List Value} (h : w.ownsRow base e size v n xs) :
  (v = .slice none 0 0 ∧ n = 0 ∧ xs = []) ∨ ∃ g cap, v = .slice (some ⟨g, 0, none⟩) n cap ∧ base ≤ g ∧ g < w.heap.size ∧ n ≤ cap ∧ cap ≤ maxLen := by
 rcases h.2 with ⟨hv, hn⟩ | ⟨g, cap, cur, hv, hg, hh, h1, h2, _⟩
 ·refine .inl ⟨hv, hn, ?_⟩
  have := h.1
  subst hn
  exact List.eq_nil_of_length_eq_zero (by omega)
 ·exact .inr ⟨g, cap, hv, hg, (Array.getElem?_eq_some_iff.1 hh).1, h1, h2⟩
theorem own_cell {w : World} {base e size n g cap : Nat} {xs : List Value} (h : w.ownsRow base e size (.slice (some ⟨g, 0, none⟩) n cap) n xs) {j : Nat} {u : Value} (hj : xs[j]? = some u) : w.cell? ⟨g, j, none⟩ = some u := by
 have := h.cellAt j (by have := (List.getElem?_eq_some_iff.1 hj).1; have := h.1; omega)
 rw [this, hj]

/-- A block of cells: its cells, and that they are not frozen. -/
theorem cell_of {w : World} {b : Nat} {cs : Array Value} {t : TypeId} {fr : Nat × Nat} (h : w.heap[b]? = some (.cells cs t fr)) (j : Nat) : w.cell? ⟨b, j, none⟩ = cs[j]? := by
 simp [World.cell?, h]
theorem frozen_of {w : World} {b : Nat} {cs : Array Value} {t : TypeId} (h : w.heap[b]? = some (.cells cs t (0, 0))) (j : Nat) : w.frozen? ⟨b, j, none⟩ = false := by
 simp [World.frozen?, h]
theorem heap_set {w : World} {b : Nat} {cs : Array Value} {t : TypeId} {fr : Nat × Nat} (h : w.heap[b]? = some (.cells cs t fr)) (j : Nat) (u : Value) :
  (w.setCell ⟨b, j, none⟩ u).heap[b]? = some (.cells (cs.setIfInBounds j u) t fr) := by
 simp [World.setCell, Array.getElem?_modify, h]
theorem heap_set_other {w : World} {b : Nat} {p : Addr} (hne : b ≠ p.block) (u : Value) : (w.setCell p u).heap[b]? = w.heap[b]? := Below.heap_setCell w p u b hne
theorem heap_new (w : World) (o : Obj) : (w.alloc o).heap[w.heap.size]? = some o := by
 show (w.heap.push o)[w.heap.size]? = _
 simp
theorem heap_old (w : World) (o : Obj) {k : Nat} (h : k < w.heap.size) : (w.alloc o).heap[k]? = w.heap[k]? := Below.heap_alloc w o k h
theorem heap_drew (w : World) (k : Nat) : w.drew.heap[k]? = w.heap[k]? := rfl
theorem own_drew {w : World} {base e size n : Nat} {v : Value} {xs : List Value} (h : w.ownsRow base e size v n xs) : w.drew.ownsRow base e size v n xs := h

/-- A new block's cells, as the laws on append ask for them. -/
theorem cells_new (w : World) (cs : List Value) (t : TypeId) : ∀ j u, cs[j]? = some u → (w.alloc (.cells cs.toArray t)).cell? ((⟨w.heap.size, 0, none⟩ : Addr).add j) = some u := by
 intro j u hj
 rw [Go.WideShapes.add_plain, Nat.zero_add, cell_of (heap_new w _), List.getElem?_toArray, hj]
theorem cells_new2 (w : World) (o : Obj) (cs : List Value) (t : TypeId) : ∀ j u, cs[j]? = some u → ((w.alloc o).alloc (.cells cs.toArray t)).drew.cell? ((⟨w.heap.size + 1, 0, none⟩ : Addr).add j) = some u := by
 intro j u hj
 have := cells_new (w.alloc o) cs t j u hj
 rw [World.size_alloc] at this
 exact this
theorem cells_new1 (w : World) (cs : List Value) (t : TypeId) : ∀ j u, cs[j]? = some u → (w.alloc (.cells cs.toArray t)).drew.cell? ((⟨w.heap.size, 0, none⟩ : Addr).add j) = some u := fun j u hj => cells_new w cs t j u hj
theorem own_drewN {w : World} {base e size n : Nat} {v : Value} {xs : List Value} (h : w.ownsRow base e size v n xs) (q : Nat) : (w.drewN q).ownsRow base e size v n xs := h
theorem Kept.of_grown {S : Nat → Prop} {w w' : World} {row : Option Nat} (hg : w.grownBy w' row) (hr : ∀ k, row = some k → S k) : Kept S w w' := (Kept.refl S w).grown hg (fun k h => .inl (hr k h))

theorem own_shrink {w : World} {base e size n m g cap : Nat} {xs : List Value} (h : w.ownsRow base e size (.slice (some ⟨g, 0, none⟩) n cap) n xs) (hm : m ≤ n) : w.ownsRow base e size (.slice (some ⟨g, 0, none⟩) m cap) m (xs.take (m * size)) := by
 obtain ⟨h1, h2⟩ := h
 have hle : m * size ≤ n * size := Nat.mul_le_mul_right _ hm
 refine ⟨by rw [List.length_take, h1]; omega, ?_⟩
 rcases h2 with ⟨h2, _⟩ | ⟨g', cap', cur, hv, hg, hh, h3, h4, h5, h6⟩
 ·cases h2
 ·cases hv
  refine .inr ⟨g, cap, cur, rfl, hg, hh, by omega, h4, h5, ?_⟩
  rw [← h6, List.take_take, Nat.min_eq_left hle]

/-- A row of things of one size. -/
theorem flat_len {β : Type} {f : β → List Value} {sz : Nat} (hf : ∀ x, (f x).length = sz) (xs : List β) : (xs.flatMap f).length = xs.length * sz := by
 induction xs with
 | nil => simp
 | cons x xs ih => rw [List.flatMap_cons, List.length_append, ih, hf, List.length_cons, Nat.add_mul]; omega
theorem flat_get {β : Type} {f : β → List Value} {sz : Nat} (hf : ∀ x, (f x).length = sz) : ∀ {xs : List β} {i c : Nat} {p : β}, xs[i]? = some p → c < sz → (xs.flatMap f)[i * sz + c]? = (f p)[c]?
 | [], i, c, p, hp, _ => by simp at hp
 | x :: xs, 0, c, p, hp, hc => by
  simp only [List.getElem?_cons_zero, Option.some.injEq] at hp
  subst hp
  rw [List.flatMap_cons, Nat.zero_mul, Nat.zero_add, List.getElem?_append_left (by rw [hf]; exact hc)]
 | x :: xs, i + 1, c, p, hp, hc => by
  rw [List.getElem?_cons_succ] at hp
  have := flat_get hf hp hc
  rw [List.flatMap_cons, List.getElem?_append_right (by rw [hf, Nat.add_mul]; omega), hf, ← this, Nat.add_mul]
  congr 1; omega
theorem flat_take {β : Type} {f : β → List Value} {sz : Nat} (hf : ∀ x, (f x).length = sz) : ∀ (xs : List β) (k : Nat), (xs.flatMap f).take (k * sz) = (xs.take k).flatMap f
 | [], k => by simp
 | x :: xs, 0 => by simp
 | x :: xs, k + 1 => by
  rw [List.flatMap_cons, List.take_succ_cons, List.flatMap_cons, List.take_append, hf, List.take_of_length_le (by rw [hf, Nat.add_mul]; omega), ← flat_take hf xs k]
  congr 2; rw [Nat.add_mul]; omega
def setRow (L : List Value) (o : Nat) : List Value → List Value
 | [] => L
 | c :: cs => setRow (L.set o c) (o + 1) cs
theorem setRow_right (A L : List Value) (cs : List Value) : ∀ (o : Nat), A.length ≤ o → setRow (A ++ L) o cs = A ++ setRow L (o - A.length) cs := by
 induction cs generalizing L with
 | nil => intro o _; rfl
 | cons c cs ih =>
  intro o ho
  simp only [setRow]
  rw [List.set_append_right _ _ ho, ih _ (o + 1) (by omega)]
  congr 2; omega
theorem setRow_all (cs : List Value) : ∀ (A B L : List Value), B.length = cs.length → setRow (A ++ (B ++ L)) A.length cs = A ++ (cs ++ L) := by
 induction cs with
 | nil => intro A B L h; rw [List.eq_nil_of_length_eq_zero h]; rfl
 | cons c cs ih =>
  intro A B L h
  cases B with
  | nil => simp at h
  | cons b B =>
   simp only [setRow]
   rw [List.set_append_right _ _ (Nat.le_refl _), Nat.sub_self]
   have := ih (A ++ [c]) B L (by simpa using h)
   simpa using this
theorem setRow_flat {β : Type} {f : β → List Value} {sz : Nat} (hf : ∀ x, (f x).length = sz) {p : β} : ∀ {xs : List β} {i : Nat}, i < xs.length → setRow (xs.flatMap f) (i * sz) (f p) = (xs.set i p).flatMap f
 | [], i, h => by simp at h
 | x :: xs, 0, _ => by
  have := setRow_all (f p) [] (f x) (xs.flatMap f) (by rw [hf, hf])
  simpa using this
 | x :: xs, i + 1, h => by
  rw [List.flatMap_cons, setRow_right _ _ _ _ (by rw [hf, Nat.add_mul]; omega), hf, List.set_cons_succ, List.flatMap_cons, ← setRow_flat hf (by simpa using h)]
  congr 2; rw [Nat.add_mul]; omega
theorem flat_set {β : Type} {f : β → List Value} {sz : Nat} (hf : ∀ x, (f x).length = sz) {p : β} {xs : List β} {i : Nat} (hi : i < xs.length) : setRow (xs.flatMap f) (i * sz) (f p) = (xs.set i p).flatMap f := setRow_flat hf hi

/-- All that lay reads as it did: two rules for the walk. -/
theorem Kept.rules {W w1 : World} (hk : Kept Nil W w1) : (∀ b o, b < W.heap.size → w1.cell? ⟨b, o, none⟩ = W.cell? ⟨b, o, none⟩) ∧ (∀ b o, b < W.heap.size → w1.frozen? ⟨b, o, none⟩ = W.frozen? ⟨b, o, none⟩) :=
 ⟨fun b o h => hk.toBelow.cell (p := ⟨b, o, none⟩) h, fun b o h => hk.toBelow.frozen (p := ⟨b, o, none⟩) h⟩

theorem Kept.rulesAt {W w1 : World} (hk : Kept Nil W w1) (n : Nat) (hn : n ≤ W.heap.size) : (∀ b o, b < n → w1.cell? ⟨b, o, none⟩ = W.cell? ⟨b, o, none⟩) ∧ (∀ b o, b < n → w1.frozen? ⟨b, o, none⟩ = W.frozen? ⟨b, o, none⟩) :=
 ⟨fun b o h => hk.toBelow.cell (p := ⟨b, o, none⟩) (Nat.lt_of_lt_of_le h hn), fun b o h => hk.toBelow.frozen (p := ⟨b, o, none⟩) (Nat.lt_of_lt_of_le h hn)⟩

/-- A region that draws its order: its first n operations only read; the others have one order. -/
theorem region_tail {P : Program} {id : Nat} {Q : Exit → Act → World → Prop} {a : Act} {w : World} {l : List Oper} (n : Nat) (hm : P.follows .mixedOrders = true) (hB : Region.lexTailB .any l.toArray n = true)
  (h : wpStill P l.toArray w.drew (fun a' => wpList P l.toArray Q (l.drop n) a' w.drew) (l.take n) a) : (Code.region id l.toArray true).wp P Q a w := wp_region_still_tail n hm hB h
/-- A region that draws its order and only reads. -/
theorem region_still {P : Program} {id : Nat} {Q : Exit → Act → World → Prop} {a : Act} {w : World} {l : List Oper} (hm : P.follows .mixedOrders = true) (hB : Region.lexB .any l.toArray = true)
  (h : wpStill P l.toArray w.drew (fun a' => Q .normal a' w.drew) l a) : (Code.region id l.toArray true).wp P Q a w := wp_region_still_lit hm hB h
end Go.Proofs.YtniocgnfgpaioaaGreat.Lb
section
namespace Go.Proofs.YtniocgnfgpaioaaGreat
open Go Go.RowKit Go.Proofs.YtniocgnfgpaioaaGreat.Lb
theorem kzr (S : Nat → Prop) (w : World) : Kept S w w := Kept.refl S w
theorem kzd {S : Nat → Prop} {a b : World} (h : Kept S a b) : Kept S a b.drew := h.drew
theorem kzn {S : Nat → Prop} {a b : World} (h : Kept S a b) (n : Nat) : Kept S a (b.drewN n) := h.drewN n
theorem kza {S : Nat → Prop} {a b : World} (h : Kept S a b) (o : Obj) : Kept S a (b.alloc o) := h.alloc o
theorem kzs {S : Nat → Prop} {a b c : World} (h : Kept S a b) (k : Kept Nil b c) : Kept S a c := h.step k
end Go.Proofs.YtniocgnfgpaioaaGreat
end
end
section
namespace Go.Proofs.YtniocgnfgpaioaaGreat.Lb
open Go Go.RowKit

theorem grownBy_refl (w : World) (row : Option Nat) : w.grownBy w row := ⟨rfl, rfl, rfl, Nat.le_refl _, fun _ _ _ => rfl⟩
theorem wpList_append_rows {P : Program} {w : World} {ops : Array Oper} {rest : List Oper} {o : Oper} {a : Act} {Q : Exit → Act → World → Prop} (hgd : o.guard = none) (s x : Operand) (t : TypeId)
  (ho : o.op = .call { callee := .builtin .append, args := #[s, x], argTypes := #[t, t] })
  (base : Nat) (e : TypeId) (i : TypeInfo) (z : Value) (size bytes : Nat) (ht : P.underlying t = some (.slice e)) (hi : P.info? e = some i) (hz : i.zero = some z)
  (hsize : i.size = size) (hby : i.bytes = bytes) (hzs : z.cells.size = size) (hsz : 0 < size)
  (v : Value) (n : Nat) (xs : List Value) (hs : a.eval s = v) (hown : w.ownsRow base e size v n xs)
  (base2 : Nat) (v2 : Value) (m : Nat) (news : List Value) (hx : a.eval x = v2) (hown2 : w.ownsRow base2 e size v2 m news) (h1 : ∀ u ∈ news, u.oneCell' = true)
  (h63 : n + m ≤ maxLen) (hbytes : (n + m) * bytes ≤ 140737488355328) (hbase : base ≤ w.heap.size)
  (h : ∀ v' w', w'.ownsRow base e size v' (n + m) (xs ++ news) → w.grownBy w' v.ownBlock → wpList P ops Q rest (a.put o.dst v') w') :
  wpList P ops Q (o :: rest) a w := by
 rcases own_form hown2 with ⟨e1, e2, e3⟩ | ⟨g, cap, e1, _, _, _, _⟩
 ·subst e1 e2 e3
  refine wpList_append_own_none hgd s x t ho base e i size ht hi v n xs hs hown hx ?_
  exact h v w (by simpa using hown) (grownBy_refl _ _)
 ·subst e1
  refine wpList_append_own w hgd s x t ho base e i z size bytes ht hi hz hsize hby hzs hsz v n xs hs hown ⟨g, 0, none⟩ m cap news hx hown2.1 ?_ h1 h63 hbytes hbase fun v' w' r1 r2 _ => h v' w' r1 r2
  intro j u hj
  rw [Go.WideShapes.add_plain, Nat.zero_add]
  exact own_cell hown2 hj
/-- An operation whose guard says yes: as without one. -/
theorem wpList_strip {P : Program} {w : World} {ops : Array Oper} {rest : List Oper} {dst : Option Tmp} {op : Op} {type : TypeId} {pos : String} {after : Array Edge} {g : Option (Nat × Bool)} {a : Act} {Q : Exit → Act → World → Prop}
  (hw : Region.wanted ⟨dst, op, type, pos, after, g⟩ (yielded ops a.tmps) = true) (h : wpList P ops Q (⟨dst, op, type, pos, after, none⟩ :: rest) a w) : wpList P ops Q (⟨dst, op, type, pos, after, g⟩ :: rest) a w := by
 unfold wpList at h ⊢
 rw [if_pos hw]
 rw [if_pos (by simp [Region.wanted])] at h
 exact h
end Go.Proofs.YtniocgnfgpaioaaGreat.Lb
end
section
namespace Go.Proofs.YtniocgnfgpaioaaGreat.Lb
open Go Go.RowKit

/-- A row that is appended: none, or one that lies somewhere. -/
def SrcRow (w : World) (size : Nat) (v : Value) (m : Nat) (news : List Value) : Prop :=
 (v = .slice none 0 0 ∧ m = 0 ∧ news = []) ∨ ∃ ad c, v = .slice (some ad) m c ∧ news.length = m * size ∧ ∀ j u, news[j]? = some u → w.cell? (ad.add j) = some u
theorem run_append_src {P : Program} {w : World} (t ty : TypeId) (base : Nat) (e : TypeId) (i : TypeInfo) (z : Value) (size bytes : Nat) (ht : P.underlying t = some (.slice e)) (hi : P.info? e = some i) (hz : i.zero = some z)
  (hsize : i.size = size) (hby : i.bytes = bytes) (hzs : z.cells.size = size) (hsz : 0 < size)
  (v : Value) (n : Nat) (xs : List Value) (hown : w.ownsRow base e size v n xs)
  (v2 : Value) (m : Nat) (news : List Value) (hsrc : SrcRow w size v2 m news) (h1 : ∀ u ∈ news, u.oneCell' = true)
  (h63 : n + m ≤ maxLen) (hbytes : (n + m) * bytes ≤ 140737488355328) (hbase : base ≤ w.heap.size) :
  ∃ v' w', (Builtin.append_ #[t, t] ty #[v, v2]).run P w = .ok v' w' ∧ w'.ownsRow base e size v' (n + m) (xs ++ news) ∧ w.grownBy w' v.ownBlock := by
 rcases hsrc with ⟨rfl, rfl, rfl⟩ | ⟨ad, c, rfl, hl, hnews⟩
 ·exact ⟨v, w, run_append_owned_none (P := P) (w := w) base t ty e i size ht hi v n xs hown, by simpa using hown, grownBy_refl _ _⟩
 ·obtain ⟨v', w', hr, h2, h3, _⟩ := run_append_own_at (P := P) w base t ty e i z size bytes ht hi hz hsize hby hzs hsz v n xs hown ad m c news hl hnews h1 h63 hbytes hbase
  exact ⟨v', w', hr, h2, h3⟩
theorem step_append_src {P : Program} {w : World} {ops : Array Oper} {o : Oper} {a : Act} {K : Act → World → Prop} {Q : Exit → Act → World → Prop} {E : Prop} (hgd : o.guard = none) (s x : Operand) (t : TypeId)
  (ho : o.op = .call { callee := .builtin .append, args := #[s, x], argTypes := #[t, t] })
  (base : Nat) (e : TypeId) (i : TypeInfo) (z : Value) (size bytes : Nat) (ht : P.underlying t = some (.slice e)) (hi : P.info? e = some i) (hz : i.zero = some z)
  (hsize : i.size = size) (hby : i.bytes = bytes) (hzs : z.cells.size = size) (hsz : 0 < size)
  (v : Value) (n : Nat) (xs : List Value) (v2 : Value) (m : Nat) (news : List Value) (hs : a.eval s = v) (hx : a.eval x = v2)
  (hown : w.ownsRow base e size v n xs) (hsrc : SrcRow w size v2 m news) (h1 : ∀ u ∈ news, u.oneCell' = true)
  (h63 : n + m ≤ maxLen) (hbytes : (n + m) * bytes ≤ 140737488355328) (hbase : base ≤ w.heap.size)
  (h : ∀ v' w', w'.ownsRow base e size v' (n + m) (xs ++ news) → w.grownBy w' v.ownBlock → K (a.put o.dst v') w') :
  if Region.wanted o (yielded ops a.tmps) = true then Oper.wp P o a w K Q else E := by
 have hw : Region.wanted o (yielded ops a.tmps) = true := by simp [Region.wanted, hgd]
 rw [if_pos hw]
 obtain ⟨v', w', hr, h2, h3⟩ := run_append_src (P := P) (w := w) t o.type base e i z size bytes ht hi hz hsize hby hzs hsz v n xs hown v2 m news hsrc h1 h63 hbytes hbase
 unfold Oper.wp execOp
 simp only [ho, resolve, invoke, builtin, Sem.run_bind, Sem.run_pure, Result.andThen_ok, List.map_toArray, List.map_cons, List.map_nil, hs, hx, hr]
 exact h v' w' h2 h3
end Go.Proofs.YtniocgnfgpaioaaGreat.Lb
end
section
namespace Go.Proofs.YtniocgnfgpaioaaGreat.Lb
open Go Go.RowKit

def RowOf {α : Type} (w : World) (A : Option Addr) (C : Nat) (cells : α → List Value) (l : List α) : Prop :=
 l = [] ∨ ∃ b off, A = some ⟨b, off, none⟩ ∧ ∀ j o, l[j]? = some o → ∀ c, c < C → w.cell? ⟨b, off + j * C + c, none⟩ = (cells o)[c]?
theorem rowOf_nil {α : Type} {w w' : World} {A : Option Addr} {C : Nat} {cells : α → List Value} {l : List α} (hC : ∀ a, (cells a).length = C) (hk : Kept Nil w w') (h : RowOf w A C cells l) : RowOf w' A C cells l := by
 rcases h with h | ⟨b, off, e, hc⟩
 ·exact .inl h
 ·refine .inr ⟨b, off, e, fun j o hj c hcc => ?_⟩
  have h9 := hc j o hj c hcc
  have hv : (cells o)[c]? = some ((cells o)[c]'(by rw [hC]; exact hcc)) := List.getElem?_eq_getElem _
  rw [hv] at h9 ⊢
  exact hk.cell h9 (fun h => h)
theorem RowOf.src {α : Type} {w : World} {A : Option Addr} {C cap : Nat} {cells : α → List Value} {l : List α} (h : RowOf w A C cells l) (hC : ∀ a, (cells a).length = C) (hpos : 0 < C) (hn : A = none → cap = 0) : SrcRow w C (.slice A l.length cap) l.length (l.flatMap cells) := by
 cases A with
 | none =>
  rcases h with h | ⟨b, off, h, _⟩
  ·subst h; rw [hn rfl]; exact .inl ⟨rfl, rfl, rfl⟩
  ·cases h
 | some a =>
  refine .inr ⟨a, cap, rfl, flat_len hC l, fun j u hj => ?_⟩
  rcases h with h | ⟨b, off, h, hc⟩
  ·subst h; simp at hj
  ·cases h
   have hjl : j < l.length * C := by rw [← flat_len hC l]; exact (List.getElem?_eq_some_iff.1 hj).1
   have hq : j / C < l.length := Nat.div_lt_of_lt_mul (by rw [Nat.mul_comm]; exact hjl)
   have hm : j % C < C := Nat.mod_lt _ hpos
   have e : j / C * C + j % C = j := by rw [Nat.mul_comm]; exact Nat.div_add_mod j C
   have ho := List.getElem?_eq_getElem hq
   have h1 := flat_get hC ho hm
   rw [e, hj] at h1
   have h2 := hc _ _ ho _ hm
   rw [show off + j / C * C + j % C = off + j by omega] at h2
   rw [Go.WideShapes.add_plain, h2]
   exact h1.symm
theorem wpList_append_src {P : Program} {w : World} {ops : Array Oper} {rest : List Oper} {o : Oper} {a : Act} {Q : Exit → Act → World → Prop} (hgd : o.guard = none) (s x : Operand) (t : TypeId)
  (ho : o.op = .call { callee := .builtin .append, args := #[s, x], argTypes := #[t, t] })
  (base : Nat) (e : TypeId) (i : TypeInfo) (z : Value) (size bytes : Nat) (ht : P.underlying t = some (.slice e)) (hi : P.info? e = some i) (hz : i.zero = some z)
  (hsize : i.size = size) (hby : i.bytes = bytes) (hzs : z.cells.size = size) (hsz : 0 < size)
  (v : Value) (n : Nat) (xs : List Value) (hs : a.eval s = v) (hown : w.ownsRow base e size v n xs)
  (v2 : Value) (m : Nat) (news : List Value) (hx : a.eval x = v2) (hsrc : SrcRow w size v2 m news) (h1 : ∀ u ∈ news, u.oneCell' = true)
  (h63 : n + m ≤ maxLen) (hbytes : (n + m) * bytes ≤ 140737488355328) (hbase : base ≤ w.heap.size)
  (h : ∀ v' w', w'.ownsRow base e size v' (n + m) (xs ++ news) → w.grownBy w' v.ownBlock → wpList P ops Q rest (a.put o.dst v') w') :
  wpList P ops Q (o :: rest) a w := by
 rcases hsrc with ⟨rfl, rfl, rfl⟩ | ⟨ad, c, rfl, hl, hnews⟩
 ·refine wpList_append_own_none hgd s x t ho base e i size ht hi v n xs hs hown hx ?_
  exact h v w (by simpa using hown) (grownBy_refl _ _)
 ·exact wpList_append_own w hgd s x t ho base e i z size bytes ht hi hz hsize hby hzs hsz v n xs hs hown ad m c news hx hl hnews h1 h63 hbytes hbase fun v' w' r1 r2 _ => h v' w' r1 r2
/-- A row in a block of its own. -/
structure RowAt {α : Type} (w : World) (g : Nat) (e : TypeId) (C : Nat) (cells : α → List Value) (l : List α) : Prop where
 ex : ∃ cur : Array Value, w.heap[g]? = some (.cells cur e (0, 0)) ∧ ∀ j o, l[j]? = some o → ∀ c, c < C → cur[j * C + c]? = (cells o)[c]?
theorem RowAt.kept {α : Type} {w w' : World} {g C : Nat} {e : TypeId} {cells : α → List Value} {l : List α} {S : Nat → Prop} (h : RowAt w g e C cells l) (hk : Kept S w w') (hS : ¬ S g) : RowAt w' g e C cells l := by
 obtain ⟨cur, h1, h2⟩ := h.ex
 exact ⟨cur, hk.heap h1 hS, h2⟩
theorem RowAt.row {α : Type} {w : World} {g C : Nat} {e : TypeId} {cells : α → List Value} {l : List α} (h : RowAt w g e C cells l) : RowOf w (some ⟨g, 0, none⟩) C cells l := by
 obtain ⟨cur, h1, h2⟩ := h.ex
 exact .inr ⟨g, 0, rfl, fun j o hj c hc => by rw [cell_of h1, Nat.zero_add]; exact h2 j o hj c hc⟩
theorem RowAt.cell {α : Type} {w : World} {g C : Nat} {e : TypeId} {cells : α → List Value} {l : List α} (h : RowAt w g e C cells l) {k : Nat} {o : α} (hk : l[k]? = some o) {c : Nat} (hc : c < C) : w.cell? ⟨g, k * C + c, none⟩ = (cells o)[c]? := by
 obtain ⟨cur, h1, h2⟩ := h.ex
 rw [cell_of h1]; exact h2 k o hk c hc
theorem RowAt.frozen {α : Type} {w : World} {g C : Nat} {e : TypeId} {cells : α → List Value} {l : List α} (h : RowAt w g e C cells l) (j : Nat) : w.frozen? ⟨g, j, none⟩ = false := by
 obtain ⟨cur, h1, h2⟩ := h.ex
 exact frozen_of h1 j
theorem RowAt.lt {α : Type} {w : World} {g C : Nat} {e : TypeId} {cells : α → List Value} {l : List α} (h : RowAt w g e C cells l) : g < w.heap.size := by
 obtain ⟨cur, h1, h2⟩ := h.ex
 exact (Array.getElem?_eq_some_iff.1 h1).1
theorem RowAt.set {α : Type} {w : World} {g C : Nat} {e : TypeId} {cells : α → List Value} {l : List α} (h : RowAt w g e C cells l) (hC : ∀ a, (cells a).length = C) {k : Nat} {o o' : α} (hk : l[k]? = some o) {c : Nat} (hc : c < C) {u : Value} (he : cells o' = (cells o).set c u) :
  RowAt (w.setCell ⟨g, k * C + c, none⟩ u) g e C cells (l.set k o') := by
 obtain ⟨cur, h1, h2⟩ := h.ex
 refine ⟨_, heap_set h1 _ _, fun j o2 hj c2 hc2 => ?_⟩
 have hkl := (List.getElem?_eq_some_iff.1 hk).1
 have hold := h2 k o hk c hc
 rw [List.getElem?_set] at hj
 rw [Array.getElem?_setIfInBounds]
 have hin : k * C + c < cur.size := by
  by_cases hlt : k * C + c < cur.size
  ·exact hlt
  ·rw [Array.getElem?_eq_none (by omega), List.getElem?_eq_getElem (by rw [hC]; exact hc)] at hold; cases hold
 by_cases e1 : k = j
 ·subst e1
  rw [if_pos rfl, if_pos hkl] at hj
  cases hj
  by_cases e2 : c = c2
  ·subst e2
   rw [if_pos rfl, if_pos hin, he, List.getElem?_set_self (by rw [hC]; exact hc)]
  ·rw [if_neg (by omega), h2 k o hk c2 hc2, he, List.getElem?_set_ne e2]
 ·rw [if_neg e1] at hj
  have hne : k * C + c ≠ j * C + c2 := by
   intro hh
   rcases Nat.lt_or_gt_of_ne e1 with hl | hl
   ·have := Nat.mul_le_mul_right C (show k + 1 ≤ j by omega)
    rw [Nat.add_mul] at this
    omega
   ·have := Nat.mul_le_mul_right C (show j + 1 ≤ k by omega)
    rw [Nat.add_mul] at this
    omega
  rw [if_neg hne]
  exact h2 j o2 hj c2 hc2
theorem rowAt_of_own {α : Type} {w : World} {base n C : Nat} {e : TypeId} {cells : α → List Value} {l : List α} {v : Value} (h : w.ownsRow base e C v n (l.flatMap cells)) (hC : ∀ a, (cells a).length = C) (hpos : 0 < C) (hne : l ≠ []) :
  ∃ g cap, v = .slice (some ⟨g, 0, none⟩) l.length cap ∧ n = l.length ∧ base ≤ g ∧ l.length ≤ cap ∧ RowAt w g e C cells l := by
 have hl := h.1
 rw [flat_len hC] at hl
 have hn : n = l.length := (Nat.eq_of_mul_eq_mul_right hpos hl).symm
 subst hn
 have h0 := h
 rcases h.2 with ⟨h1, h2⟩ | ⟨g, cap, cur, h1, hb, hh, hcap, _⟩
 ·exact absurd (List.eq_nil_of_length_eq_zero h2) hne
 ·subst h1
  refine ⟨g, cap, rfl, rfl, hb, hcap, ⟨cur, hh, fun j o hj c hc => ?_⟩⟩
  have h9 := flat_get hC hj hc
  rw [← h9, ← cell_of hh]
  have hjl := (List.getElem?_eq_some_iff.1 hj).1
  have : j * C + c < l.length * C := by
   have := Nat.mul_le_mul_right C (show j + 1 ≤ l.length by omega)
   rw [Nat.add_mul] at this
   omega
  have h8 : (l.flatMap cells)[j * C + c]? = some ((l.flatMap cells)[j * C + c]'(by rw [flat_len hC]; exact this)) := List.getElem?_eq_getElem _
  rw [h8]
  exact own_cell h0 h8
theorem rowOf_own {α : Type} {w : World} {base n C : Nat} {e : TypeId} {cells : α → List Value} {l : List α} {v : Value} (h : w.ownsRow base e C v n (l.flatMap cells)) (hC : ∀ a, (cells a).length = C) (hpos : 0 < C) :
  ∃ A cap, v = .slice A l.length cap ∧ n = l.length ∧ RowOf w A C cells l ∧ (∀ b off, A = some ⟨b, off, none⟩ → base ≤ b) ∧ l.length ≤ cap ∧ (A = none → cap = 0) := by
 by_cases hne : l = []
 ·subst hne
  have hl := h.1
  rw [List.flatMap_nil, List.length_nil] at hl
  have hn : n = 0 := (Nat.mul_eq_zero.1 hl.symm).resolve_right (by omega)
  subst hn
  rcases own_form h with ⟨h1, _, _⟩ | ⟨g, cap, h1, h2, _, h4, _⟩
  ·exact ⟨none, 0, h1, rfl, .inl rfl, (fun _ _ e => by cases e), Nat.le_refl _, fun _ => rfl⟩
  ·exact ⟨some ⟨g, 0, none⟩, cap, h1, rfl, .inl rfl, (fun _ _ e => by cases e; exact h2), Nat.zero_le _, fun e => by cases e⟩
 ·obtain ⟨g, cap, h1, h2, h3, h4, h5⟩ := rowAt_of_own h hC hpos hne
  exact ⟨_, cap, h1, h2, h5.row, (fun _ _ e => by cases e; exact h3), h4, fun e => by cases e⟩
end Go.Proofs.YtniocgnfgpaioaaGreat.Lb
end
section
namespace Go.Proofs.YtniocgnfgpaioaaGreat.Ro
open Go Go.ChangeShapes Go.WideShapes Go.Deep

theorem list_of {α : Type} {p : Nat → α → Prop} : ∀ (n : Nat), (∀ i, i < n → ∃ o, p i o) → ∃ l : List α, l.length = n ∧ ∀ i o, l[i]? = some o → p i o
 | 0, _ => ⟨[], rfl, fun i o h => by simp at h⟩
 | n + 1, h => by
  obtain ⟨l, hl, hp⟩ := list_of n (fun i hi => h i (by omega))
  obtain ⟨o, ho⟩ := h n (by omega)
  refine ⟨l ++ [o], by simp [hl], fun i o' hi => ?_⟩
  by_cases e : i < l.length
  ·rw [List.getElem?_append_left e] at hi
   exact hp i o' hi
  ·have hlt := (List.getElem?_eq_some_iff.1 hi).1
   have : i = l.length := by simp at hlt; omega
   subst this
   rw [List.getElem?_append_right (Nat.le_refl _)] at hi
   simp at hi
   subst hi
   rw [hl]; exact ho
theorem cell_one {es : List Value} {o : Nat} {v : Value} (h : (es.drop o).take 1 = [v]) : es[o]? = some v := by
 have : ((es.drop o).take 1)[0]? = some v := by rw [h]; rfl
 rw [List.getElem?_take_of_lt (by omega), List.getElem?_drop] at this
 simpa using this

section
variable {H : Type} {enc : TypeId × Value → H} {P : Program} {w : World} {base : Nat} {spare : Nat → Bool} {held : Bool}
theorem rows_open {t e : TypeId} {fuel : Nat} {cs : List Value} {x : DataW H × List MemPlace} (ht : P.underlying t = some (.slice e)) (hC : 0 < P.cellsOf e) (h : DataW.trod enc P w base spare held fuel t cs = some x) :
  cs = [.slice none 0 0] ∨ ∃ (a : Addr) (len cap : Nat), cs = [.slice (some a) len cap] ∧ len ≤ maxLen ∧ (len = 0 ∨ ∃ b off, a = ⟨b, off, none⟩ ∧
   ∀ i, i < len → ∃ (es : List Value) (n : Nat) (y : DataW H × List MemPlace), es.length = P.cellsOf e ∧ (∀ c, c < P.cellsOf e → w.cell? ⟨b, off + i * P.cellsOf e + c, none⟩ = es[c]?) ∧ DataW.trod enc P w base spare held n e es = some y) := by
 rcases open_slice ht h with ⟨h0, _⟩ | ⟨a, len, cap, m, n, D, Pl, hcs, hb, hl, hm, hmm, hx, hi⟩
 ·exact .inl h0
 ·refine .inr ⟨a, len, cap, hcs, Nat.le_trans hl hm, ?_⟩
  by_cases h0 : len = 0
  ·exact .inl h0
  ·have hlm : len ≤ m := by rw [hmm]; split <;> omega
   obtain ⟨b, off, spot⟩ := a
   have hspot : spot = none := by
    obtain ⟨cs', hc, _⟩ := hi 0 (by omega)
    obtain ⟨_, hcl, hat⟩ := World.cells?_some hc
    have h1 := hat 0 hC
    rw [List.getElem?_eq_getElem (by omega)] at h1
    simpa [Addr.add] using World.cell?_spot h1
   subst hspot
   refine .inr ⟨b, off, rfl, fun i hil => ?_⟩
   obtain ⟨cs', hc, htr⟩ := hi i (by omega)
   obtain ⟨_, hcl, hat⟩ := World.cells?_some hc
   refine ⟨cs', n, _, hcl, fun c hcc => ?_, htr⟩
   have := hat c hcc
   rw [add_plain, add_plain] at this
   exact this
/-- A field of a struct. -/
theorem field_at {t : TypeId} {fs : Array Field} {fuel : Nat} {cs : List Value} {x : DataW H × List MemPlace} (ht : P.underlying t = some (.struct fs)) (h : DataW.trod enc P w base spare held fuel t cs = some x) :
  ∃ n, ∀ (i : Nat) (f : Field), fs[i]? = some f → ∃ y, DataW.trod enc P w base spare held n f.type ((cs.drop f.offset).take (P.cellsOf f.type)) = some y := by
 obtain ⟨xs, n, _, _, _, hl, hf⟩ := DataW.trod_struct ht h
 refine ⟨n, fun i f hi => ?_⟩
 have hil : i < fs.size := (Array.getElem?_eq_some_iff.1 hi).1
 exact ⟨xs[i]'(by omega), by rw [hf i f hi, List.getElem?_eq_getElem]⟩
theorem int_at {t : TypeId} {K : IntKind} {fuel o : Nat} {cs : List Value} {x : DataW H × List MemPlace} (ht : P.underlying t = some (.int K)) (hc : P.cellsOf t = 1) (h : DataW.trod enc P w base spare held fuel t ((cs.drop o).take (P.cellsOf t)) = some x) :
  ∃ n, cs[o]? = some (.int K n) ∧ (Lit.int K n).wf = true := by
 rw [hc] at h
 obtain ⟨n, e, _, hw⟩ := DataW.trod_int ht h
 exact ⟨n, cell_one e, hw⟩
theorem str_at {t : TypeId} {fuel o : Nat} {cs : List Value} {x : DataW H × List MemPlace} (ht : P.underlying t = some .string) (hc : P.cellsOf t = 1) (h : DataW.trod enc P w base spare held fuel t ((cs.drop o).take (P.cellsOf t)) = some x) :
  ∃ s : ByteArray, cs[o]? = some (.string s) ∧ s.size ≤ maxLen := by
 rw [hc] at h
 obtain ⟨s, e, _, hw⟩ := DataW.trod_string ht h
 exact ⟨s, cell_one e, hw⟩
end
end Go.Proofs.YtniocgnfgpaioaaGreat.Ro
end
