/- Keys in order, each with a number: plain. Nothing of the program is named; The walks of the small functions of packages ranked and graph: what finds, has, puts; The walks of slices.BinarySearchFunc at entries, ranked.find, Get; The walks of ranked.find, Get, slices.Insert at the end, Put; The walk of ranked.Put: a key that is there, or one that stands behind all. -/
import Derived.Test.YtniocgnfgpaioaaGreatG14
import Derived.Test.YtniocgnfgpaioaaGreatG5
import Derived.Test.YtniocgnfgpaioaaGreatG15
import Derived.BigQuiet
import Derived.Deep.Cut
import Derived.Deep.RegionHeld3
import Derived.Maps.AppendAt
import Derived.Test.YtniocgnfgpaioaaGreatG4
import Derived.Shelf.Abstract
import Derived.Shelf.RegionOpen
set_option linter.unusedVariables false
set_option linter.unusedSimpArgs false
section
namespace Go.Proofs.YtniocgnfgpaioaaGreat.Gr
abbrev En := Int × Int
/-- How many stand ahead of a key. -/
def pos (k : Int) : List En → Nat
 | [] => 0
 | e :: es => if e.1 < k then pos k es + 1 else 0
def SortedE (es : List En) : Prop := es.Pairwise (fun a b => a.1 < b.1)
theorem pos_le (k : Int) : ∀ es : List En, pos k es ≤ es.length
 | [] => Nat.le_refl _
 | e :: es => by unfold pos; have := pos_le k es; split <;> simp <;> omega
theorem pos_lt (k : Int) : ∀ (es : List En) (j : Nat) (e : En), j < pos k es → es[j]? = some e → e.1 < k
 | [], j, e, h, _ => by simp [pos] at h
 | x :: es, 0, e, h, he => by
  simp at he; subst he
  unfold pos at h
  split at h
  ·assumption
  ·omega
 | x :: es, j + 1, e, h, he => by
  unfold pos at h
  split at h
  ·exact pos_lt k es j e (by omega) (by simpa using he)
  ·omega
theorem pos_ge (k : Int) : ∀ (es : List En), SortedE es → ∀ (j : Nat) (e : En), pos k es ≤ j → es[j]? = some e → k ≤ e.1
 | [], _, j, e, _, he => by simp at he
 | x :: es, hs, j, e, h, he => by
  unfold pos at h
  have hp := List.pairwise_cons.1 hs
  split at h
  ·cases j with
   | zero => omega
   | succ j => exact pos_ge k es hp.2 j e (by omega) (by simpa using he)
  ·rename_i hx
   cases j with
   | zero => simp at he; subst he; omega
   | succ j =>
    have := hp.1 e (List.mem_of_getElem? (by simpa using he))
    omega
/-- The only place that parts what is less from what is not. -/
theorem pos_unique {k : Int} {es : List En} (hs : SortedE es) {i : Nat} (hi : i ≤ es.length) (h1 : ∀ (j : Nat) (e : En), j < i → es[j]? = some e → e.1 < k) (h2 : ∀ (j : Nat) (e : En), i ≤ j → es[j]? = some e → k ≤ e.1) : pos k es = i := by
 rcases Nat.lt_trichotomy (pos k es) i with h | h | h
 ·have hl : pos k es < es.length := by omega
  have a := h1 _ _ h (List.getElem?_eq_getElem hl)
  have b := pos_ge k es hs _ _ (Nat.le_refl _) (List.getElem?_eq_getElem hl)
  omega
 ·exact h
 ·have hl : i < es.length := by have := pos_le k es; omega
  have a := pos_lt k es _ _ h (List.getElem?_eq_getElem hl)
  have b := h2 _ _ (Nat.le_refl _) (List.getElem?_eq_getElem hl)
  omega
def hit (k : Int) (es : List En) : Bool := match es[pos k es]? with
 | some e => decide (e.1 = k)
 | none => false
/-- What a key has. -/
def val (k : Int) (es : List En) : Int := match es[pos k es]? with
 | some e => if e.1 = k then e.2 else 0
 | none => 0
/-- A key is given a number. -/
def put (k v : Int) (es : List En) : List En := if hit k es = true then es.set (pos k es) (k, v) else es.take (pos k es) ++ (k, v) :: es.drop (pos k es)
theorem hit_some {k : Int} {es : List En} (h : hit k es = true) : ∃ e, es[pos k es]? = some e ∧ e.1 = k := by
 unfold hit at h
 split at h
 ·rename_i e he; exact ⟨e, he, by simpa using h⟩
 ·cases h
theorem hit_none {k : Int} {es : List En} (hs : SortedE es) (h : hit k es = false) : ∀ e ∈ es, e.1 ≠ k := by
 intro e he
 obtain ⟨j, hj, rfl⟩ := List.mem_iff_getElem.1 he
 intro hk
 have h1 := List.getElem?_eq_getElem hj
 rcases Nat.lt_trichotomy j (pos k es) with h2 | h2 | h2
 ·have := pos_lt k es _ _ h2 h1; omega
 ·unfold hit at h
  rw [← h2, h1] at h
  simp [hk] at h
 ·have hl : pos k es < es.length := by omega
  have h3 := List.getElem?_eq_getElem hl
  have h4 := pos_ge k es hs _ _ (Nat.le_refl _) h3
  have h5 := List.pairwise_iff_getElem.1 hs (pos k es) j hl hj h2
  omega
theorem val_hit {k : Int} {es : List En} (h : hit k es = true) : ∃ e, es[pos k es]? = some e ∧ e.1 = k ∧ val k es = e.2 := by
 obtain ⟨e, he, hk⟩ := hit_some h
 exact ⟨e, he, hk, by unfold val; rw [he]; simp [hk]⟩
theorem val_miss {k : Int} {es : List En} (h : hit k es = false) : val k es = 0 := by
 unfold hit at h
 unfold val
 split
 ·rename_i e he
  rw [he] at h
  simp at h
  simp [h]
 ·rfl
/-- What a key has is what the one pair with it says. -/
theorem val_of {k : Int} {es : List En} (hs : SortedE es) {e : En} (he : e ∈ es) (hk : e.1 = k) : val k es = e.2 := by
 cases hh : hit k es with
 | false => exact absurd hk (hit_none hs hh e he)
 | true =>
  obtain ⟨x, hx, hxk, hv⟩ := val_hit hh
  rw [hv]
  obtain ⟨j, hj, rfl⟩ := List.mem_iff_getElem.1 he
  obtain ⟨hp, rfl⟩ := List.getElem?_eq_some_iff.1 hx
  rcases Nat.lt_trichotomy j (pos k es) with h2 | h2 | h2
  ·have := List.pairwise_iff_getElem.1 hs _ _ hj hp h2; omega
  ·subst h2; rfl
  ·have := List.pairwise_iff_getElem.1 hs _ _ hp hj h2; omega
theorem val_not {k : Int} {es : List En} (h : ∀ e ∈ es, e.1 ≠ k) : val k es = 0 := by
 unfold val
 split
 ·rename_i e he
  rw [if_neg (h e (List.mem_of_getElem? he))]
 ·rfl
theorem mem_put {k v : Int} {es : List En} (hs : SortedE es) {e : En} : e ∈ put k v es ↔ e = (k, v) ∨ (e ∈ es ∧ e.1 ≠ k) := by
 unfold put
 cases hh : hit k es with
 | true =>
  rw [if_pos rfl]
  obtain ⟨x, hx, hxk⟩ := hit_some hh
  obtain ⟨hp, hx2⟩ := List.getElem?_eq_some_iff.1 hx
  constructor
  ·intro h
   obtain ⟨j, hj, rfl⟩ := List.mem_iff_getElem.1 h
   rw [List.length_set] at hj
   rw [List.getElem_set]
   by_cases e : pos k es = j
   ·rw [if_pos e]; exact .inl rfl
   ·rw [if_neg e]
    refine .inr ⟨List.getElem_mem _, fun h9 => ?_⟩
    rcases Nat.lt_or_gt_of_ne e with h2 | h2
    ·have := List.pairwise_iff_getElem.1 hs _ _ hp hj h2; rw [hx2] at this; omega
    ·have := List.pairwise_iff_getElem.1 hs _ _ hj hp h2; rw [hx2] at this; omega
  ·rintro (rfl | ⟨h, hk⟩)
   ·exact List.mem_iff_getElem.2 ⟨pos k es, by rw [List.length_set]; exact hp, by rw [List.getElem_set_self]⟩
   ·obtain ⟨j, hj, rfl⟩ := List.mem_iff_getElem.1 h
    have hne : pos k es ≠ j := fun e => by subst e; rw [hx2] at hk; exact hk hxk
    exact List.mem_iff_getElem.2 ⟨j, by rw [List.length_set]; exact hj, by rw [List.getElem_set_ne hne]⟩
 | false =>
  rw [if_neg (by simp)]
  have hn := hit_none hs hh
  have hm : ∀ e, e ∈ es ↔ e ∈ es.take (pos k es) ∨ e ∈ es.drop (pos k es) := fun e => by rw [← List.mem_append, List.take_append_drop]
  simp only [List.mem_append, List.mem_cons]
  constructor
  ·rintro (h | h | h)
   ·have := (hm e).2 (.inl h); exact .inr ⟨this, hn e this⟩
   ·exact .inl h
   ·have := (hm e).2 (.inr h); exact .inr ⟨this, hn e this⟩
  ·rintro (h | ⟨h, _⟩)
   ·exact .inr (.inl h)
   ·rcases (hm e).1 h with h | h
    ·exact .inl h
    ·exact .inr (.inr h)
theorem put_sorted {k v : Int} {es : List En} (hs : SortedE es) : SortedE (put k v es) := by
 unfold put
 cases hh : hit k es with
 | true =>
  rw [if_pos rfl]
  obtain ⟨x, hx, hxk⟩ := hit_some hh
  obtain ⟨hp, hx2⟩ := List.getElem?_eq_some_iff.1 hx
  refine List.pairwise_iff_getElem.2 fun i j hi hj hij => ?_
  rw [List.length_set] at hi hj
  have h0 := List.pairwise_iff_getElem.1 hs i j hi hj hij
  rw [List.getElem_set, List.getElem_set]
  by_cases e1 : pos k es = i
  ·subst e1
   rw [if_pos rfl, if_neg (by omega)]
   rw [hx2] at h0
   simp only; omega
  ·rw [if_neg e1]
   by_cases e2 : pos k es = j
   ·subst e2
    rw [if_pos rfl]
    rw [hx2] at h0
    simp only; omega
   ·rw [if_neg e2]; exact h0
 | false =>
  rw [if_neg (by simp)]
  have hn := hit_none hs hh
  have hsp : SortedE (es.take (pos k es) ++ es.drop (pos k es)) := by rw [List.take_append_drop]; exact hs
  unfold SortedE at hsp
  rw [List.pairwise_append] at hsp
  obtain ⟨a, b, c⟩ := hsp
  unfold SortedE
  rw [List.pairwise_append]
  refine ⟨a, ?_, ?_⟩
  ·rw [List.pairwise_cons]
   refine ⟨fun e he => ?_, b⟩
   obtain ⟨j, hj, rfl⟩ := List.mem_iff_getElem.1 he
   rw [List.length_drop] at hj
   rw [List.getElem_drop]
   have h1 := pos_ge k es hs (pos k es + j) _ (by omega) (List.getElem?_eq_getElem (by omega))
   have h2 := hn _ (List.getElem_mem (l := es) (n := pos k es + j) (by omega))
   simp only; omega
  ·intro e he f hf
   rcases List.mem_cons.1 hf with rfl | hf
   ·obtain ⟨j, hj, rfl⟩ := List.mem_iff_getElem.1 he
    rw [List.length_take] at hj
    rw [List.getElem_take]
    exact pos_lt k es j _ (by omega) (List.getElem?_eq_getElem (by omega))
   ·exact c e he f hf
theorem val_put {k v j : Int} {es : List En} (hs : SortedE es) : val j (put k v es) = if j = k then v else val j es := by
 have hs2 := put_sorted (k := k) (v := v) hs
 by_cases e : j = k
 ·subst e
  rw [if_pos rfl]
  exact val_of hs2 ((mem_put hs).2 (.inl rfl)) rfl
 ·rw [if_neg e]
  cases hh : hit j es with
  | true =>
   obtain ⟨x, hx, hxk, hv⟩ := val_hit hh
   rw [hv]
   exact val_of hs2 ((mem_put hs).2 (.inr ⟨List.mem_of_getElem? hx, by rw [hxk]; exact e⟩)) hxk
  | false =>
   rw [val_miss hh]
   refine val_not fun x hx hk => ?_
   rcases (mem_put hs).1 hx with rfl | ⟨h, _⟩
   ·exact e hk.symm
   ·exact hit_none hs hh x h hk
theorem put_length {k v : Int} {es : List En} : (put k v es).length ≤ es.length + 1 := by
 unfold put
 have := pos_le k es
 split
 ·rw [List.length_set]; omega
 ·simp; omega
def sumE (es : List En) : Int := (es.map Prod.snd).sum
theorem sum_put {k v : Int} {es : List En} : sumE (put k v es) = sumE es - val k es + v := by
 unfold put
 cases hh : hit k es with
 | true =>
  rw [if_pos rfl]
  obtain ⟨x, hx, hxk, hv⟩ := val_hit hh
  rw [hv]
  obtain ⟨hp, hx2⟩ := List.getElem?_eq_some_iff.1 hx
  have e1 : es = es.take (pos k es) ++ x :: es.drop (pos k es + 1) := by
   rw [← hx2, ← List.drop_eq_getElem_cons hp, List.take_append_drop]
  have e2 : es.set (pos k es) (k, v) = es.take (pos k es) ++ (k, v) :: es.drop (pos k es + 1) := by rw [List.set_eq_take_append_cons_drop, if_pos hp]
  unfold sumE
  rw [e2]
  conv => rhs; rw [e1]
  simp only [List.map_append, List.map_cons, List.sum_append, List.sum_cons]
  omega
 | false =>
  rw [if_neg (by simp), val_miss hh]
  unfold sumE
  conv => rhs; rw [← List.take_append_drop (pos k es) es]
  simp only [List.map_append, List.map_cons, List.sum_append, List.sum_cons]
  omega
end Go.Proofs.YtniocgnfgpaioaaGreat.Gr
end
section
namespace Go.Proofs.YtniocgnfgpaioaaGreat.Gr
open Go Go.RowKit Go.Proofs.YtniocgnfgpaioaaGreat.Lb Go.Proofs.YtniocgnfgpaioaaGreat.Mo
set_option maxRecDepth 8000
def enCells (e : En) : List Value := [.int .i64 e.1, .int .i64 e.2]
theorem enCells_len (e : En) : (enCells e).length = 2 := rfl
theorem enCells_one (es : List En) : ∀ u ∈ es.flatMap enCells, u.oneCell' = true := by
 intro u hu
 obtain ⟨e, _, h⟩ := List.mem_flatMap.1 hu
 unfold enCells at h
 simp only [List.mem_cons, List.not_mem_nil, or_false] at h
 rcases h with rfl | rfl <;> rfl
theorem isNaNN_is (x : Int) (w : World) : Calls Tryz.prog 144 #[.int .i64 x] w fun e w' => e = .returned (.bool false) ∧ w' = w := by
 have hb : (x != x) = false := by simp
 go_enter Tryz.func144, Tryz.ntmps144
 go_wp2
 go_ret
 exact ⟨rfl, rfl⟩
theorem CompareN_is (x y : Int) (w : World) : Calls Tryz.prog 125 #[.int .i64 x, .int .i64 y] w fun e w' => e = .returned (.int .i64 (cmpI x y)) ∧ w' = w := by
 have h1 := isNaNN_is x
 have h2 := isNaNN_is y
 unfold cmpI
 by_cases ha : x < y
 ·rw [if_pos ha]
  have hd : decide (x < y) = true := decide_eq_true ha
  clear ha
  go_enter Tryz.func125, Tryz.ntmps125
  go_wp2_with (first | (go_at_call 144; (with_reducible refine (h1 _).mono ?_); rintro e w1 ⟨rfl, rfl⟩) | (go_at_call 144; (with_reducible refine (h2 _).mono ?_); rintro e w1 ⟨rfl, rfl⟩))
  go_ret
  exact ⟨rfl, rfl⟩
 ·rw [if_neg ha]
  have hd : decide (x < y) = false := decide_eq_false ha
  by_cases hb : y < x
  ·rw [if_pos hb]
   have he : decide (y < x) = true := decide_eq_true hb
   clear ha hb
   go_enter Tryz.func125, Tryz.ntmps125
   go_wp2_with (first | (go_at_call 144; (with_reducible refine (h1 _).mono ?_); rintro e w1 ⟨rfl, rfl⟩) | (go_at_call 144; (with_reducible refine (h2 _).mono ?_); rintro e w1 ⟨rfl, rfl⟩))
   go_ret
   exact ⟨rfl, rfl⟩
  ·rw [if_neg hb]
   have he : decide (y < x) = false := decide_eq_false hb
   clear ha hb
   go_enter Tryz.func125, Tryz.ntmps125
   go_wp2_with (first | (go_at_call 144; (with_reducible refine (h1 _).mono ?_); rintro e w1 ⟨rfl, rfl⟩) | (go_at_call 144; (with_reducible refine (h2 _).mono ?_); rintro e w1 ⟨rfl, rfl⟩))
   go_ret
   exact ⟨rfl, rfl⟩
theorem findF_is (a b k : Int) (w : World) : Calls Tryz.prog 124 #[.agg #[.int .i64 a, .int .i64 b], .int .i64 k] w fun e w' => e = .returned (.int .i64 (cmpI a k)) ∧ Kept Nil w w' := by
 have hc := CompareN_is a k
 obtain ⟨r, hr⟩ : ∃ r, cmpI a k = r := ⟨_, rfl⟩
 rw [hr] at hc ⊢
 clear hr
 go_enter Tryz.func124, Tryz.ntmps124
 go_wp2_with (go_at_call 125; (with_reducible refine (hc _).mono ?_); rintro e w1 ⟨rfl, rfl⟩)
 go_ret
 exact ⟨rfl, (Kept.refl Nil w).alloc _⟩
def inB (n lo hi : Int) : Bool := decide (lo ≤ n) && decide (n ≤ hi)
theorem Within_is (n lo hi : Int) (w : World) : Calls Tryz.prog 89 #[.int .i64 n, .int .i64 lo, .int .i64 hi] w fun e w' => e = .returned (.bool (inB n lo hi)) ∧ w' = w := by
 unfold inB
 by_cases h1 : lo ≤ n
 ·have hd : decide (lo ≤ n) = true := decide_eq_true h1
  obtain ⟨r, hr⟩ : ∃ r, decide (n ≤ hi) = r := ⟨_, rfl⟩
  rw [hd, hr]
  clear h1
  go_enter Tryz.func89, Tryz.ntmps89
  go_wp2
  go_ret
  exact ⟨rfl, rfl⟩
 ·have hd : decide (lo ≤ n) = false := decide_eq_false h1
  rw [hd]
  clear h1
  go_enter Tryz.func89, Tryz.ntmps89
  go_wp2
  go_ret
  exact ⟨rfl, rfl⟩
def mayB (n : Int) : Bool := inB n 1 1099511627776
theorem may_is (n : Int) (w : World) : Calls Tryz.prog 92 #[.int .i64 n] w fun e w' => e = .returned (.bool (mayB n)) ∧ w' = w := by
 have hc := Within_is n 1 1099511627776
 obtain ⟨r, hr⟩ : ∃ r, mayB n = r := ⟨_, rfl⟩
 unfold mayB at hr
 rw [hr] at hc
 unfold mayB
 rw [hr]
 clear hr
 go_enter Tryz.func92, Tryz.ntmps92
 go_wp2_with (go_at_call 89; (with_reducible refine (hc _).mono ?_); rintro e w1 ⟨rfl, rfl⟩)
 go_ret
 exact ⟨rfl, rfl⟩
end Go.Proofs.YtniocgnfgpaioaaGreat.Gr
end
section
namespace Go.Proofs.YtniocgnfgpaioaaGreat.Gr
open Go Go.RowKit Go.Shelf Go.Proofs.YtniocgnfgpaioaaGreat.Lb Go.Proofs.YtniocgnfgpaioaaGreat.Mo
set_option maxRecDepth 8000
set_option maxHeartbeats 4000000 in
theorem bs_is (es : List En) (A : Option Addr) (c : Nat) (k : Int) (w : World) (hr : RowOf w A 2 enCells es) (hs : SortedE es) (hn : es.length ≤ 100000) :
  Calls Tryz.prog 123 #[.slice A es.length c, .int .i64 k, .func (.func 124) #[] #[]] w fun e w' => e = .returned (.tuple #[.int .i64 (pos k es), .bool (hit k es)]) ∧ Kept Nil w w' := by
 have HR := Lib.hid hr
 have HS := Lib.hid hs
 have hent := enters_of (P := Tryz.prog) Tryz.func124 (by kernel_rfl) rfl
 clear hr hs
 go_enter Tryz.func123, Tryz.ntmps123
 go_wp2_with fail
 go_loopw [9, 10] (fun a b wr => ∃ i j : Nat, i ≤ j ∧ j ≤ es.length ∧ a = .int .i64 i ∧ b = .int .i64 j ∧ (∀ t e, t < i → es[t]? = some e → e.1 < k) ∧ (∀ t e, j ≤ t → es[t]? = some e → k ≤ e.1) ∧ Kept Nil w wr) (fun a b _ => (intOf b).toNat - (intOf a).toNat)
 case atStart => exact ⟨0, es.length, Nat.zero_le _, Nat.le_refl _, rfl, rfl, fun t e h => by omega, ⟨fun t e h he => by (rw [List.getElem?_eq_none h] at he; cases he), Kept.refl _ _⟩⟩
 case round =>
  obtain ⟨i, j, hij, hjn, rfl, rfl, h1, h2, hK⟩ := hrel
  have H1 := Lib.hid h1
  have H2 := Lib.hid h2
  have HKR := Lib.hid hK
  clear h1 h2 hK
  by_cases hlt : i < j
  ·have hlt2 : (i : Int) < (j : Int) := by omega
   have hw : IntKind.i64.wrap ((i : Int) + (j : Int)) = (i : Int) + (j : Int) := by rw [IntKind.wrap_i64]; omega
   obtain ⟨m, hm⟩ : ∃ m : Nat, m = (i + j) / 2 := ⟨_, rfl⟩
   have hme : ((i : Int) + (j : Int)) / 2 = (m : Int) := by omega
   have hmi : i ≤ m := by omega
   have hmj : m < j := by omega
   have hmn : m < es.length := by omega
   obtain ⟨e, ee⟩ : ∃ e, es[m]? = some e := ⟨_, List.getElem?_eq_getElem hmn⟩
   have hw1 : IntKind.i64.wrap ((m : Int) + 1) = (m : Int) + 1 := by rw [IntKind.wrap_i64]; omega
   clear hm
   go_upto_region 5 with fail
   clear hme hw hlt2
   obtain ⟨b, off, rfl, c0, c1⟩ : ∃ b off, A = some ⟨b, off, none⟩ ∧ wr.cell? ⟨b, off + m * 2, none⟩ = some (.int .i64 e.1) ∧ wr.cell? ⟨b, off + m * 2 + 1, none⟩ = some (.int .i64 e.2) := by
    rcases HR.out with h | ⟨b, off, e0, hc⟩
    ·rw [h] at hmn; simp at hmn
    ·exact ⟨b, off, e0, HKR.out.cell (hc m e ee 0 (by decide)) (fun h => h), HKR.out.cell (hc m e ee 1 (by decide)) (fun h => h)⟩
   have hbs : b < wr.heap.size := World.block_lt_of_cell? _ _ c0
   have hcon := findF_is e.1 e.2 k
   obtain ⟨r, hr⟩ : ∃ r, cmpI e.1 k = r := ⟨_, rfl⟩
   rw [hr] at hcon
   have EE := Lib.hid ee
   by_cases hlk : e.1 < k
   ·have hr1 : r = -1 := by rw [← hr]; unfold cmpI; rw [if_pos hlk]
    have hd : decide (r < 0) = true := decide_eq_true (by omega)
    have HLK := Lib.hid hlk
    clear hr hr1 hlk ee
    go_wp2_with (go_at_call 124; with_reducible refine (hcon _).mono ?_; rintro e9 w5 ⟨rfl, hk5⟩; have HK5 := Lib.hid hk5; clear hk5 c0 c1)
    go_round
    ·refine ⟨m + 1, j, by omega, hjn, by go_num, rfl, fun t e9 ht he => ?_, H2.out, HKR.out.step HK5.out⟩
     rcases Nat.lt_or_ge t i with h | h
     ·exact H1.out t e9 h he
     ·by_cases h9 : t = m
      ·subst h9; rw [EE.out] at he; cases he; exact HLK.out
      ·obtain ⟨ht1, rfl⟩ := List.getElem?_eq_some_iff.1 he
       obtain ⟨hm1, h8⟩ := List.getElem?_eq_some_iff.1 EE.out
       have := List.pairwise_iff_getElem.1 HS.out t m ht1 hm1 (by omega)
       rw [h8] at this
       have := HLK.out
       omega
    case measure => (simp [intOf] <;> omega)
   ·have hr1 : 0 ≤ r := by rw [← hr]; unfold cmpI; rw [if_neg hlk]; split <;> omega
    have hd : decide (r < 0) = false := decide_eq_false (by omega)
    have HLK := Lib.hid hlk
    clear hr hr1 hlk ee
    go_wp2_with (go_at_call 124; with_reducible refine (hcon _).mono ?_; rintro e9 w5 ⟨rfl, hk5⟩; have HK5 := Lib.hid hk5; clear hk5 c0 c1)
    go_round
    ·refine ⟨i, m, hmi, by omega, rfl, by go_num, H1.out, fun t e9 ht he => ?_, HKR.out.step HK5.out⟩
     by_cases h9 : t = m
     ·subst h9; rw [EE.out] at he; cases he; have := HLK.out; omega
     ·obtain ⟨ht1, rfl⟩ := List.getElem?_eq_some_iff.1 he
      obtain ⟨hm1, h8⟩ := List.getElem?_eq_some_iff.1 EE.out
      have := List.pairwise_iff_getElem.1 HS.out m t hm1 ht1 (by omega)
      rw [h8] at this
      have := HLK.out
      omega
    case measure => (simp [intOf] <;> omega)
  ·obtain rfl : i = j := by omega
   have hp : pos k es = i := pos_unique HS.out hjn H1.out H2.out
   by_cases hin : i < es.length
   ·obtain ⟨e, ee⟩ : ∃ e, es[i]? = some e := ⟨_, List.getElem?_eq_getElem hin⟩
    have hin2 : (i : Int) < (es.length : Int) := by omega
    obtain ⟨b, off, rfl, c0, c1⟩ : ∃ b off, A = some ⟨b, off, none⟩ ∧ wr.cell? ⟨b, off + i * 2, none⟩ = some (.int .i64 e.1) ∧ wr.cell? ⟨b, off + i * 2 + 1, none⟩ = some (.int .i64 e.2) := by
     rcases HR.out with h | ⟨b, off, e0, hc⟩
     ·rw [h] at hin; simp at hin
     ·exact ⟨b, off, e0, HKR.out.cell (hc i e ee 0 (by decide)) (fun h => h), HKR.out.cell (hc i e ee 1 (by decide)) (fun h => h)⟩
    have hbs : b < wr.heap.size := World.block_lt_of_cell? _ _ c0
    have hcon := findF_is e.1 e.2 k
    obtain ⟨r, hr⟩ : ∃ r, cmpI e.1 k = r := ⟨_, rfl⟩
    rw [hr] at hcon
    have hh : hit k es = (r == 0) := by
     unfold hit
     rw [hp, ee, ← hr]
     simp only
     rw [Bool.eq_iff_iff, decide_eq_true_iff, beq_iff_eq]
     unfold cmpI
     split
     ·constructor <;> intro <;> omega
     ·split
      ·constructor <;> intro <;> omega
      ·constructor <;> intro <;> omega
    have HH := Lib.hid hh
    have HP := Lib.hid hp
    clear hr hh hp ee
    go_wp2_with (go_at_call 124; with_reducible refine (hcon _).mono ?_; rintro e9 w5 ⟨rfl, hk5⟩; have HK5 := Lib.hid hk5; clear hk5 c0 c1)
    go_ret2
    exact ⟨by rw [HP.out, HH.out]; rfl, HKR.out.step HK5.out⟩
   ·have hh : hit k es = false := by unfold hit; rw [hp, List.getElem?_eq_none (by omega)]
    have HH := Lib.hid hh
    have HP := Lib.hid hp
    obtain rfl : i = es.length := by omega
    clear hh hp
    go_wp2_with fail
    go_ret2
    exact ⟨by rw [HP.out, HH.out]; rfl, HKR.out⟩
end Go.Proofs.YtniocgnfgpaioaaGreat.Gr
end
section
namespace Go.Proofs.YtniocgnfgpaioaaGreat.Gr
open Go Go.RowKit Go.Maps Go.Shelf Go.Proofs.YtniocgnfgpaioaaGreat.Lb Go.Proofs.YtniocgnfgpaioaaGreat.Mo
set_option maxRecDepth 8000
/-- A map in memory. -/
structure IsMap (w : World) (base mb : Nat) (v : Value) (es : List En) : Prop where
 hb : base ≤ mb
 hd : w.heap[mb]? = some (.cells #[v] 138 (0, 0))
 own : w.ownsRow base 146 2 v es.length (es.flatMap enCells)
 few : es.length ≤ 10000
 so : SortedE es
theorem own_type {w : World} {base e C n i : Nat} {v : Value} {xs : List Value} (h : w.ownsRow base e C v n xs) (hi : v.ownBlock = some i) : ∃ cur : Array Value, w.heap[i]? = some (.cells cur e (0, 0)) := by
 rcases h.2 with ⟨h1, h2⟩ | ⟨g, cap, cur, h1, hb, hh, hcap, _⟩
 ·subst h1; simp [Value.ownBlock] at hi
 ·subst h1
  simp [Value.ownBlock] at hi
  subst hi
  exact ⟨cur, hh⟩
theorem ne_type {w : World} {g h t u : Nat} {a b : Array Value} (h1 : w.heap[g]? = some (.cells a t (0, 0))) (h2 : w.heap[h]? = some (.cells b u (0, 0))) (hne : t ≠ u) : g ≠ h := by
 rintro rfl
 rw [h1] at h2
 cases h2
 exact hne rfl
theorem IsMap.kept {w w' : World} {base mb : Nat} {v : Value} {es : List En} {S : Nat → Prop} (H : IsMap w base mb v es) (hk : Kept S w w') (h1 : ¬ S mb) (h2 : ∀ i, v.ownBlock = some i → ¬ S i) : IsMap w' base mb v es :=
 ⟨H.hb, hk.heap H.hd h1, hk.own H.own h2, H.few, H.so⟩
theorem IsMap.nil {w w' : World} {base mb : Nat} {v : Value} {es : List En} (H : IsMap w base mb v es) (hk : Kept Nil w w') : IsMap w' base mb v es := H.kept hk (fun h => h) (fun _ _ h => h)
theorem IsMap.row {w : World} {base mb n c : Nat} {A : Option Addr} {es : List En} (H : IsMap w base mb (.slice A n c) es) : RowOf w A 2 enCells es := (newRow_of_own H.own enCells_len (by decide)).row
theorem find_is (base mb : Nat) (v : Value) (es : List En) (k : Int) (w : World) (H : IsMap w base mb v es) :
  Calls Tryz.prog 99 #[.pointer (some ⟨mb, 0, none⟩), .int .i64 k] w fun e w' => e = .returned (.tuple #[.int .i64 (pos k es), .bool (hit k es)]) ∧ Kept Nil w w' := by
 obtain ⟨A, c, rfl⟩ := own_slice H.own
 have c0 : w.cell? ⟨mb, 0, none⟩ = some (.slice A es.length c) := by rw [cell_of H.hd]; rfl
 have hmb : mb < w.heap.size := World.block_lt_of_cell? _ _ c0
 have hcon := bs_is es A c k w H.row H.so (by have := H.few; omega)
 clear H
 go_enter Tryz.func99, Tryz.ntmps99
 go_wp2_with (go_at_call 123; with_reducible refine hcon.mono ?_; rintro e w5 ⟨rfl, hk5⟩; have HK5 := Lib.hid hk5; clear hk5 c0)
 go_ret2
 exact ⟨rfl, HK5.out⟩
theorem Get_is (base mb : Nat) (v : Value) (es : List En) (k : Int) (w : World) (H : IsMap w base mb v es) :
  Calls Tryz.prog 63 #[.pointer (some ⟨mb, 0, none⟩), .int .i64 k] w fun e w' => e = .returned (.tuple #[.int .i64 (val k es), .bool (hit k es)]) ∧ Kept Nil w w' := by
 obtain ⟨A, c, rfl⟩ := own_slice H.own
 have hcon := find_is base mb _ es k w H
 have HM := Lib.hid H
 have hfew := H.few
 have hmb : mb < w.heap.size := (Array.getElem?_eq_some_iff.1 H.hd).1
 clear H
 cases hh : hit k es with
 | true =>
  obtain ⟨e, ee, hek, hv⟩ := val_hit hh
  rw [hv]
  rw [hh] at hcon
  obtain ⟨p, hp⟩ : ∃ p, pos k es = p := ⟨_, rfl⟩
  rw [hp] at hcon ee
  have hpl : p < es.length := (List.getElem?_eq_some_iff.1 ee).1
  obtain ⟨b, off, e1, hc⟩ := HM.out.row.resolve_left (fun h => by rw [h] at hpl; simp at hpl)
  subst e1
  have C0 := Lib.hid (show w.cell? ⟨mb, 0, none⟩ = some (.slice (some ⟨b, off, none⟩) es.length c) from (cell_of HM.out.hd 0).trans rfl)
  have C1 := Lib.hid (show w.cell? ⟨b, off + p * 2 + 1, none⟩ = some (.int .i64 e.2) from (hc p e ee 1 (by decide)).trans rfl)
  have hbs : b < w.heap.size := World.block_lt_of_cell? _ _ C1.out
  clear hh hek hv ee hp hc
  go_enter Tryz.func63, Tryz.ntmps63
  go_wp2_with (go_at_call 99; with_reducible refine hcon.mono ?_; rintro e9 w5 ⟨rfl, hk5⟩; have c0 := hk5.cell C0.out (fun h => h); have c1 := hk5.cell C1.out (fun h => h); have hzz := hk5.size; have hbs5 : b < w5.heap.size := (by omega); have hmb5 : mb < w5.heap.size := (by omega); have HK5 := Lib.hid hk5; clear hk5)
  go_ret2
  exact ⟨rfl, HK5.out⟩
 | false =>
  rw [val_miss hh]
  rw [hh] at hcon
  clear hh
  go_enter Tryz.func63, Tryz.ntmps63
  go_wp2_with (go_at_call 99; with_reducible refine hcon.mono ?_; rintro e9 w5 ⟨rfl, hk5⟩; have HK5 := Lib.hid hk5; clear hk5)
  go_ret2
  exact ⟨rfl, HK5.out⟩
theorem infoEn : (Tryz.prog.info? 146).map (fun i => (i.zero, i.size, i.bytes)) = some (some (.agg #[.int .i64 0, .int .i64 0]), 2, 16) := by kernel_rfl
/-- slices.Insert of one thing at the end. -/
theorem insert_end (base : Nat) (A : Option Addr) (c : Nat) (es : List En) (k x : Int) (b d : Nat) (w : World) (hown : w.ownsRow base 146 2 (.slice A es.length c) es.length (es.flatMap enCells)) (hb : w.heap[b]? = some (.cells #[.int .i64 k, .int .i64 x] 146 (0, 0))) (hl : es.length ≤ 10000) (hbase : base ≤ w.heap.size) :
  Calls Tryz.prog 121 #[.slice A es.length c, .int .i64 es.length, .slice (some ⟨b, 0, none⟩) 1 d] w fun e w' => ∃ v, e = .returned v ∧ w'.ownsRow base 146 2 v (es.length + 1) ((es ++ [(k, x)]).flatMap enCells) ∧ Kept (fun i => (Value.slice A es.length c).ownBlock = some i) w w' ∧ (v.ownBlock = (Value.slice A es.length c).ownBlock ∨ v.ownBlock = some w.heap.size) := by
 obtain ⟨j0, hjnf, hy0, hy1, hy2⟩ := info_parts infoEn
 have HOW := Lib.hid hown
 have HB := Lib.hid hb
 have ht : Tryz.prog.underlying 136 = some (.slice (Tryz.prog.elem 136)) := by kernel_rfl
 obtain ⟨sb, hsb⟩ : ∃ sb : Value, sliced A es.length es.length c 2 = sb := ⟨_, rfl⟩
 have hs1 : ∀ w' : World, (Instr.slice 136 (.slice A es.length c) (some (.int .i64 (es.length : Int))) none none).run Tryz.prog w' = .ok sb w' := by
  intro w'
  rw [run_slice_l w' _ A es.length c ht .i64 (es.length : Int) (by omega) (by omega)]
  simp [go_sem, Result.andThen, ← hsb]
 clear hsb
 clear hown hb ht
 go_enter Tryz.func121, Tryz.ntmps121
 go_wp2_with (at_builtin; refine stop_append _ _ _ rfl ?_)
 unfold StopA
 refine wpList_append_own_at _ rfl _ _ 136 rfl base 146 j0 (.agg #[.int .i64 0, .int .i64 0]) 2 16 Tryz.underlying136 hjnf hy0 hy1 hy2 rfl (by decide) (.slice A es.length c) es.length (es.flatMap enCells) rfl HOW.out ⟨b, 0, none⟩ 1 d [.int .i64 k, .int .i64 x] rfl rfl ?_ (by simp [Value.oneCell']) (by unfold maxLen; omega) (by omega) hbase ?_
 ·intro j u hj
  have e9 : (⟨b, 0, none⟩ : Addr).add j = ⟨b, j, none⟩ := by unfold Addr.add; split <;> simp_all
  rw [e9, cell_of HB.out]
  match j with
  | 0 => simp at hj; subst hj; rfl
  | 1 => simp at hj; subst hj; rfl
  | j + 2 => simp at hj
 intro v7 w7 hown7 hgrow7 _ hat7
 have HO7 := Lib.hid (show w7.ownsRow base 146 2 v7 (es.length + 1) ((es ++ [(k, x)]).flatMap enCells) by rw [List.flatMap_append]; simpa [enCells] using hown7)
 have HK7 := Lib.hid (show Kept (fun i => (Value.slice A es.length c).ownBlock = some i) w w7 from (Kept.refl _ w).grown hgrow7 (fun j e => .inl e))
 have HAT := Lib.hid hat7
 clear hown7 hgrow7 hat7 hs1
 go_wp2_with fail
 go_ret
 exact ⟨v7, rfl, HO7.out, HK7.out, HAT.out⟩
end Go.Proofs.YtniocgnfgpaioaaGreat.Gr
end
section
namespace Go.Proofs.YtniocgnfgpaioaaGreat.Gr
open Go Go.RowKit Go.Maps Go.Shelf Go.Proofs.YtniocgnfgpaioaaGreat.Lb Go.Proofs.YtniocgnfgpaioaaGreat.Mo
set_option maxRecDepth 8000
theorem flat_set1 {β : Type} {f : β → List Value} {sz : Nat} (hf : ∀ x, (f x).length = sz) : ∀ {xs : List β} {i c : Nat} {o o' : β} {u : Value}, xs[i]? = some o → c < sz → f o' = (f o).set c u → (xs.flatMap f).set (i * sz + c) u = (xs.set i o').flatMap f
 | [], i, c, o, o', u, h, _, _ => by simp at h
 | y :: ys, 0, c, o, o', u, h, hc, he => by
  simp at h; subst h
  rw [List.set_cons_zero, List.flatMap_cons, List.flatMap_cons, he, Nat.zero_mul, Nat.zero_add, List.set_append_left _ _ (by rw [hf]; exact hc)]
 | y :: ys, i + 1, c, o, o', u, h, hc, he => by
  have ih := flat_set1 hf (xs := ys) (i := i) (c := c) (by simpa using h) hc he
  rw [List.set_cons_succ, List.flatMap_cons, List.flatMap_cons, ← ih, List.set_append_right _ _ (by rw [hf, Nat.add_mul]; omega)]
  congr 2
  rw [hf, Nat.add_mul]
  omega
theorem put_end {k x : Int} {es : List En} (hh : hit k es = false) (hp : pos k es = es.length) : put k x es = es ++ [(k, x)] := by
 unfold put
 rw [hh, if_neg (by simp), hp, List.take_length, List.drop_length]
theorem put_hit {k x : Int} {es : List En} (hh : hit k es = true) : put k x es = es.set (pos k es) (k, x) := by
 unfold put
 rw [if_pos hh]
structure PutEnd (base mb : Nat) (v : Value) (es' : List En) (w : World) (e : Ending) (w' : World) : Prop where
 r : ∃ b, e = .returned (.bool b)
 m : ∃ v', IsMap w' base mb v' es' ∧ (v'.ownBlock = v.ownBlock ∨ ∃ i, v'.ownBlock = some i ∧ w.heap.size ≤ i)
 k : Kept (fun i => i = mb ∨ v.ownBlock = some i) w w'
set_option maxHeartbeats 4000000 in
theorem Put_is (base mb : Nat) (v : Value) (es : List En) (k x : Int) (w : World) (H : IsMap w base mb v es) (hp : hit k es = true ∨ pos k es = es.length) (hf : es.length < 10000) :
  Calls Tryz.prog 93 #[.pointer (some ⟨mb, 0, none⟩), .int .i64 k, .int .i64 x] w fun e w' => PutEnd base mb v (put k x es) w e w' := by
 obtain ⟨A, c, rfl⟩ := own_slice H.own
 have hcon := find_is base mb _ es k w H
 have HM := Lib.hid H
 have hmb : mb < w.heap.size := (Array.getElem?_eq_some_iff.1 H.hd).1
 have C0 := Lib.hid (show w.cell? ⟨mb, 0, none⟩ = some (.slice A es.length c) from (cell_of H.hd 0).trans rfl)
 have hnb : ∀ i, (Value.slice A es.length c).ownBlock = some i → i ≠ mb := fun i hi => by
  obtain ⟨cur, h9⟩ := own_type H.own hi
  exact ne_type h9 H.hd (by decide)
 have HNB := Lib.hid hnb
 clear H hnb
 cases hh : hit k es with
 | true =>
  obtain ⟨e, ee, hek⟩ := hit_some hh
  rw [put_hit hh]
  have hso := put_sorted (k := k) (v := x) HM.out.so
  rw [put_hit hh] at hso
  rw [hh] at hcon
  obtain ⟨p, hpp⟩ : ∃ p, pos k es = p := ⟨_, rfl⟩
  rw [hpp] at hcon ee hso ⊢
  have hpl : p < es.length := (List.getElem?_eq_some_iff.1 ee).1
  obtain ⟨g, cap, e1, hbg, hgs, _, _⟩ := (own_form HM.out.own).resolve_left (fun h => by omega)
  cases e1
  have EE := Lib.hid ee
  have HSO := Lib.hid hso
  have HEK := Lib.hid hek
  have hgm := HNB.out g rfl
  have hyc := own_cell HM.out.own (flat_get enCells_len ee (c := 1) (by decide))
  have C1 := Lib.hid (show w.cell? ⟨g, p * 2 + 1, none⟩ = some (.int .i64 e.2) from hyc)
  have hfr := HM.out.own.frozenAt (p * 2 + 1)
  have FR := Lib.hid hfr
  clear hh ee hek hp hpp hso hyc hfr
  go_enter Tryz.func93, Tryz.ntmps93
  go_wp2_with (go_at_call 99; with_reducible refine hcon.mono ?_; rintro e9 w5 ⟨rfl, hk5⟩; have c0 := hk5.cell C0.out (fun h => h); have c1 := hk5.cell C1.out (fun h => h); have cf := hk5.frozen (p := ⟨g, p * 2 + 1, none⟩) hgs FR.out (fun h => h); have hzz := hk5.size; have hbs5 : g < w5.heap.size := (by omega); have hmb5 : mb < w5.heap.size := (by omega); have HK5 := Lib.hid hk5; clear hk5)
  go_ret
  have hm5 := HM.out.nil HK5.out
  have hkk : Kept (fun i => i = mb ∨ (Value.slice (some ⟨g, 0, none⟩) es.length c).ownBlock = some i) w5 (w5.setCell ⟨g, p * 2 + 1, none⟩ (.int .i64 x)) := (Kept.refl _ w5).setCell (.inl (.inr rfl)) _
  refine ⟨⟨_, rfl⟩, ⟨.slice (some ⟨g, 0, none⟩) es.length c, ⟨hm5.hb, ?_, ?_, by rw [List.length_set]; exact hm5.few, HSO.out⟩, .inl rfl⟩, HK5.out.any.trans hkk (fun i h => .inl h)⟩
  ·rw [heap_set_other (fun h => hgm h.symm)]
   exact hm5.hd
  ·rw [List.length_set, ← flat_set1 enCells_len EE.out (c := 1) (by decide) (o' := (k, x)) (u := .int .i64 x) (by unfold enCells; rw [HEK.out]; rfl)]
   exact (hm5.own.stored (p * 2 + 1) (.int .i64 x)).1
 | false =>
  have hpe := hp.resolve_left (by rw [hh]; simp)
  rw [put_end hh hpe]
  have hso := put_sorted (k := k) (v := x) HM.out.so
  rw [put_end hh hpe] at hso
  rw [hh, hpe] at hcon
  have HSO := Lib.hid hso
  clear hh hp hpe hso
  go_enter Tryz.func93, Tryz.ntmps93
  go_wp2_with (go_at_call 99; with_reducible refine hcon.mono ?_; rintro e9 w5 ⟨rfl, hk5⟩; have c0 := hk5.cell C0.out (fun h => h); have hzz := hk5.size; have hmb5 : mb < w5.heap.size := (by omega); have HK5 := Lib.hid hk5; clear hk5)
  refine (insert_end base A c es k x w5.heap.size 1 _ ((HM.out.nil HK5.out).own.alloc _) (heap_new _ _) (by omega) ?_).mono ?_
  ·have := HM.out.hb
   simp only [World.size_alloc]
   omega
  rintro e9 w7 ⟨v7, rfl, ho7, hk7, ha7⟩
  obtain ⟨g7, c7, rfl⟩ := ownsRow_succ ho7
  have hm7 := hk7.heap (heap_old w5 (.cells #[.int .i64 k, .int .i64 x] 146) hmb5 |>.trans (HK5.out.heap HM.out.hd (fun h => h))) (fun h => HNB.out _ h rfl)
  have hz7 := hk7.size
  simp only [World.size_alloc] at hz7
  have hmb7 : mb < w7.heap.size := by omega
  have hne : g7 ≠ mb := by
   obtain ⟨cur, h9⟩ := own_type ho7 rfl
   exact ne_type h9 hm7 (by decide)
  have HM7 := Lib.hid hm7
  have HO7 := Lib.hid ho7
  have HK7 := Lib.hid hk7
  have HA7 := Lib.hid ha7
  clear c0 ho7 hk7 ha7 hm7
  have c0 : w7.cell? ⟨mb, 0, none⟩ = some (.slice A es.length c) := (cell_of HM7.out 0).trans rfl
  have cf : w7.frozen? ⟨mb, 0, none⟩ = false := frozen_of HM7.out 0
  go_wp2_with fail
  go_ret
  have hkk : Kept (fun i => i = mb ∨ (Value.slice A es.length c).ownBlock = some i) w7 (w7.setCell ⟨mb, 0, none⟩ (.slice (some ⟨g7, 0, none⟩) (es.length + 1) c7)) := (Kept.refl _ w7).setCell (.inl (.inl rfl)) _
  have hk57 : Kept (fun i => i = mb ∨ (Value.slice A es.length c).ownBlock = some i) w5 w7 := ((Kept.refl _ w5).alloc _).trans HK7.out (fun i h => .inl (.inr h))
  refine ⟨⟨_, rfl⟩, ⟨.slice (some ⟨g7, 0, none⟩) (es.length + 1) c7, ⟨HM.out.hb, ?_, ?_, by simp; omega, HSO.out⟩, ?_⟩, (HK5.out.any.trans hk57 (fun i h => .inl h)).trans hkk (fun i h => .inl h)⟩
  ·rw [heap_set HM7.out 0 _]; rfl
  ·have h9 := HO7.out
   simp only [List.length_append, List.length_cons, List.length_nil]
   exact ((Kept.refl (fun i => i = mb) w7).setCell (p := ⟨mb, 0, none⟩) (.inl rfl) _).own h9 (fun i e h => by (have h8 : g7 = i := (by simpa [Value.ownBlock] using e)); (have h7 : i = mb := h); omega)
  ·rcases HA7.out with h | h
   ·exact .inl h
   ·refine .inr ⟨_, h, ?_⟩
    simp only [World.size_alloc]
    omega
end Go.Proofs.YtniocgnfgpaioaaGreat.Gr
end
