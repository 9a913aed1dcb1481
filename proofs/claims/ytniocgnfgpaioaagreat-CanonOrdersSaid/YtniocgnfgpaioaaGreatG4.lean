/- What a right model is, and what stays right. Nothing of the program is named; A range over a function, in two lemmas: the statement (what the iterator's call must leave), and one round (what a call of yield comes to). Nothing of the program is named; A body that collects in a round: what its cells hold, through the iterator's own steps, the loop's record and the appends. Nothing of the program is named. -/
import Derived.Test.YtniocgnfgpaioaaGreatG3
import Derived.RangeFuncNested
import Derived.RangeFuncBound
import Derived.RangeFuncCalls
import Derived.RangeFuncLeaves
import Derived.WalkKit
import Derived.OwnWalkIn
import Derived.TacticsInMore
import Derived.LoopNIn
import Derived.LoopIn
import Derived.BigGuardIn
import Derived.Test.YtniocgnfgpaioaaGreatG1
import Derived.RangeFuncBox
import Derived.Maps.AppendAt
set_option linter.unusedVariables false
set_option linter.unusedSimpArgs false
section
namespace Go.Proofs.YtniocgnfgpaioaaGreat.Mo
open Go Go.RowKit Go.Proofs.YtniocgnfgpaioaaGreat.Lb

structure MdRight (m : Md) : Prop where
 v : ¬ (m.version < 1 ∨ 3 < m.version)
 n : ¬ (4096 < m.ps.length ∨ 16384 < m.ls.length ∨ 16384 < m.es.length)
 p : ∀ (j : Nat) (u : Pr), m.ps[j]? = some u → procC m j u = 0
 l : ∀ (j : Nat) (u : Lk), m.ls[j]? = some u → linkC m j u = 0
 e : ∀ (j : Nat) (u : Ev), m.es[j]? = some u → eventC m u = 0
theorem firstAt_zero : ∀ (xs : List Int) (k : Nat), (firstAt xs k).1 = 0 → ∀ c ∈ xs, c = 0
 | [], k, _, c, hc => by simp at hc
 | x :: xs, k, h, c, hc => by
  by_cases h0 : x = 0
  ·subst h0
   simp only [firstAt, if_true] at h
   rcases List.mem_cons.1 hc with rfl | hc
   ·rfl
   ·exact firstAt_zero xs (k + 1) h c hc
  ·simp [firstAt, h0] at h
theorem mapIdx_zero {α : Type} {f : Nat → α → Int} {xs : List α} {k : Nat} (h : (firstAt (xs.mapIdx f) k).1 = 0) (j : Nat) (u : α) (hj : xs[j]? = some u) : f j u = 0 :=
 firstAt_zero _ k h _ (List.mem_of_getElem? (i := j) (by rw [List.getElem?_mapIdx, hj]; rfl))
theorem right_of {m : Md} (h : (mdCheck m).1 = 0) : MdRight m := by
 unfold mdCheck at h
 by_cases hv : m.version < 1 ∨ 3 < m.version
 ·rw [if_pos hv] at h; simp at h
 rw [if_neg hv] at h
 by_cases hn : 4096 < m.ps.length ∨ 16384 < m.ls.length ∨ 16384 < m.es.length
 ·rw [if_pos hn] at h; simp at h
 rw [if_neg hn] at h
 by_cases hp : (firstAt (codesP m) 0).1 ≠ 0
 ·rw [if_pos hp] at h; exact absurd h hp
 rw [if_neg hp] at h
 by_cases hl : (firstAt (codesL m) m.ps.length).1 ≠ 0
 ·rw [if_pos hl] at h; exact absurd h hl
 rw [if_neg hl] at h
 rw [codesE_idx] at h
 exact ⟨hv, hn, fun j u hj => mapIdx_zero (show (firstAt (codesP m) 0).1 = 0 by simpa using hp) j u hj, fun j u hj => mapIdx_zero (show (firstAt (codesL m) m.ps.length).1 = 0 by simpa using hl) j u hj, fun j u hj => mapIdx_zero h j u hj⟩
theorem MdRight.ok {m : Md} (h : MdRight m) : mdCheck m = (0, 0) := md_ok h.v h.n (fun j u _ hj => h.p j u hj) (fun j u _ hj => h.l j u hj) (fun j u _ hj => h.e j u hj)
/-- The parts of a right process. -/
structure PrRight (m : Md) (i : Nat) (p : Pr) : Prop where
 n : rightName p.name = true
 f : findI (m.ps.map Pr.name) p.name = (i : Int)
 w : wtB m.version p.weight = true
 l : ¬ (64 < p.vs.length ∨ 256 < p.ss.length)
 v : varsC p.vs = 0
 s : firstC (p.ss.map (stepC m.ls p)) = 0
theorem proc_zero {m : Md} {i : Nat} {p : Pr} (h : procC m i p = 0) : PrRight m i p := by
 unfold procC at h
 split at h
 ·simp at h
 split at h
 ·simp at h
 split at h
 ·simp at h
 split at h
 ·simp at h
 split at h
 ·rename_i h5; exact absurd h h5
 rename_i h1 h2 h3 h4 h5
 exact ⟨by simpa using h1, by simpa using h2, by simpa using h3, h4, by simpa using h5, h⟩
theorem PrRight.zero {m : Md} {i : Nat} {p : Pr} (h : PrRight m i p) : procC m i p = 0 := by
 unfold procC
 rw [if_neg (by rw [h.n]; simp), if_neg (by rw [h.f]; simp), if_neg (by rw [h.w]; simp), if_neg h.l, if_neg (by rw [h.v]; simp), h.s]
structure LkRight (m : Md) (i : Nat) (l : Lk) : Prop where
 n : rightName l.name = true
 f : findI (m.ls.map Lk.name) l.name = (i : Int)
 e : ¬ (findI (m.ps.map Pr.name) l.src < 0 ∨ findI (m.ps.map Pr.name) l.dst < 0)
 d : ¬ (l.delay < 1 ∨ 1099511627776 < l.delay)
 w : wtB m.version l.weight = true
theorem link_zero {m : Md} {i : Nat} {l : Lk} (h : linkC m i l = 0) : LkRight m i l := by
 unfold linkC at h
 split at h
 ·simp at h
 split at h
 ·simp at h
 split at h
 ·simp at h
 split at h
 ·simp at h
 split at h
 ·simp at h
 rename_i h1 h2 h3 h4 h5
 exact ⟨by simpa using h1, by simpa using h2, h3, h4, by simpa using h5⟩
theorem LkRight.zero {m : Md} {i : Nat} {l : Lk} (h : LkRight m i l) : linkC m i l = 0 := by
 unfold linkC
 rw [if_neg (by rw [h.n]; simp), if_neg (by rw [h.f]; simp), if_neg h.e, if_neg h.d, if_neg (by rw [h.w]; simp)]
structure EvRight (m : Md) (e : Ev) : Prop where
 t : ¬ findI (m.ps.map Pr.name) e.to < 0
 r : ¬ (e.at_ < 0 ∨ 1099511627776 < e.at_ ∨ numB e.value = false)
theorem event_zero {m : Md} {e : Ev} (h : eventC m e = 0) : EvRight m e := by
 unfold eventC at h
 split at h
 ·simp at h
 split at h
 ·simp at h
 rename_i h1 h2
 exact ⟨h1, h2⟩
theorem EvRight.zero {m : Md} {e : Ev} (h : EvRight m e) : eventC m e = 0 := by
 unfold eventC
 rw [if_neg h.t, if_neg h.r]
theorem MdRight.pr {m : Md} (h : MdRight m) {j : Nat} {u : Pr} (hj : m.ps[j]? = some u) : PrRight m j u := proc_zero (h.p j u hj)
theorem MdRight.lk {m : Md} (h : MdRight m) {j : Nat} {u : Lk} (hj : m.ls[j]? = some u) : LkRight m j u := link_zero (h.l j u hj)
theorem MdRight.ev {m : Md} (h : MdRight m) {j : Nat} {u : Ev} (hj : m.es[j]? = some u) : EvRight m u := event_zero (h.e j u hj)
theorem wtB_older {v n : Int} (h : wtB v n = true) : wtB 1 n = true := by
 unfold wtB at *
 simp only [Bool.or_eq_true, Bool.and_eq_true, decide_eq_true_eq, beq_iff_eq] at *
 omega
theorem older_right {m : Md} (h : MdRight m) : MdRight { m with version := 1 } :=
 ⟨by simp, h.n, fun j u hj => (show PrRight { m with version := 1 } j u from let r := h.pr hj; ⟨r.n, r.f, wtB_older r.w, r.l, r.v, r.s⟩).zero,
  fun j u hj => (show LkRight { m with version := 1 } j u from let r := h.lk hj; ⟨r.n, r.f, r.e, r.d, wtB_older r.w⟩).zero,
  fun j u hj => (show EvRight { m with version := 1 } u from let r := h.ev hj; ⟨r.t, r.r⟩).zero⟩
theorem quiet_right {m : Md} (h : MdRight m) : MdRight { m with ea := none, es := [], ec := 0 } :=
 ⟨h.v, by have := h.n; simp only [List.length_nil]; omega, fun j u hj => (show PrRight { m with ea := none, es := [], ec := 0 } j u from let r := h.pr hj; ⟨r.n, r.f, r.w, r.l, r.v, r.s⟩).zero,
  fun j u hj => (show LkRight { m with ea := none, es := [], ec := 0 } j u from let r := h.lk hj; ⟨r.n, r.f, r.e, r.d, r.w⟩).zero, fun j u hj => by simp at hj⟩
/-- A process without its steps. -/
def noSteps (p : Pr) : Pr := { p with sa := none, ss := [], sc := 0 }
theorem bare_right {m : Md} (h : MdRight m) (A : Option Addr) (cap : Nat) : MdRight ⟨m.version, A, m.ps.map noSteps, cap, none, [], 0, none, [], 0⟩ := by
 refine ⟨h.v, by have := h.n; simp only [List.length_nil, List.length_map]; omega, fun j u hj => ?_, fun j u hj => by simp at hj, fun j u hj => by simp at hj⟩
 simp only [List.getElem?_map] at hj
 obtain ⟨p, hp, rfl⟩ := Option.map_eq_some_iff.1 hj
 have r := h.pr hp
 refine PrRight.zero ⟨r.n, ?_, r.w, ?_, r.v, rfl⟩
 ·have : (m.ps.map noSteps).map Pr.name = m.ps.map Pr.name := by rw [List.map_map]; rfl
  simp only [this]
  exact r.f
 ·have := r.l
  simp only [noSteps, List.length_nil]
  omega
theorem findI_app {xs : List ByteArray} {s t : ByteArray} (h : ¬ findI xs s < 0) : findI (xs ++ [t]) s = findI xs s := by
 rcases findI_cases xs s with ⟨h1, h2⟩ | ⟨k, u, h1, h2, h3, h4⟩
 ·rw [h1] at h; simp at h
 ·have hk := (List.getElem?_eq_some_iff.1 h2).1
  rw [h1]
  exact findI_some (fun j t' hj ht => h4 j t' hj (by rw [List.getElem?_append_left (by omega)] at ht; exact ht)) (by rw [List.getElem?_append_left hk]; exact h2) h3
theorem findI_last {xs : List ByteArray} {s : ByteArray} (h : findI xs s < 0) : findI (xs ++ [s]) s = (xs.length : Int) := by
 rcases findI_cases xs s with ⟨h1, h2⟩ | ⟨k, u, h1, h2, h3, h4⟩
 ·refine findI_some (fun j t' hj ht => h2 t' ?_) (t := s) (by simp) rfl
  rw [List.getElem?_append_left hj] at ht
  exact List.mem_of_getElem? ht
 ·rw [h1] at h; omega
/-- "fresh_one" -/
def freshOne : ByteArray := ⟨#[102, 114, 101, 115, 104, 95, 111, 110, 101]⟩
def moreM (m : Md) (A : Option Addr) (cap : Nat) (nm : ByteArray) : Md := { m with pa := A, ps := m.ps ++ [⟨nm, 1, none, [], 0, none, [], 0⟩], pc := cap }
theorem more_names (m : Md) (A : Option Addr) (cap : Nat) (nm : ByteArray) : (moreM m A cap nm).ps.map Pr.name = m.ps.map Pr.name ++ [nm] := by simp [moreM]
theorem more_proc {m : Md} (h : MdRight m) (A : Option Addr) (cap : Nat) (nm : ByteArray) {j : Nat} {u : Pr} (hj : m.ps[j]? = some u) : procC (moreM m A cap nm) j u = 0 := by
 have r := h.pr hj
 refine PrRight.zero ⟨r.n, ?_, r.w, r.l, r.v, r.s⟩
 rw [more_names, findI_app (by rw [r.f]; omega)]
 exact r.f
theorem more_link {m : Md} (h : MdRight m) (A : Option Addr) (cap : Nat) (nm : ByteArray) {j : Nat} {u : Lk} (hj : m.ls[j]? = some u) : linkC (moreM m A cap nm) j u = 0 := by
 have r := h.lk hj
 refine LkRight.zero ⟨r.n, r.f, ?_, r.d, r.w⟩
 have h1 := r.e
 rw [more_names, findI_app (by omega), findI_app (by omega)]
 exact r.e
theorem more_event {m : Md} (h : MdRight m) (A : Option Addr) (cap : Nat) (nm : ByteArray) {j : Nat} {u : Ev} (hj : m.es[j]? = some u) : eventC (moreM m A cap nm) u = 0 := by
 have r := h.ev hj
 refine EvRight.zero ⟨?_, r.r⟩
 rw [more_names, findI_app r.t]
 exact r.t
theorem wtB_one (v : Int) : wtB v 1 = true := by simp [wtB]
theorem more_fresh {m : Md} (h : MdRight m) (hs : m.ps.length ≤ 12) (A : Option Addr) (cap : Nat) (hf : findI (m.ps.map Pr.name) freshOne < 0) : mdCheck (moreM m A cap freshOne) = (0, 0) := by
 refine md_ok h.v (by have := h.n; simp only [moreM, List.length_append, List.length_cons, List.length_nil]; omega) (fun j u _ hj => ?_) (fun j u _ hj => more_link h A cap _ hj) (fun j u _ hj => more_event h A cap _ hj)
 simp only [moreM] at hj
 by_cases hlt : j < m.ps.length
 ·rw [List.getElem?_append_left hlt] at hj
  exact more_proc h A cap _ hj
 ·have hjl := (List.getElem?_eq_some_iff.1 hj).1
  simp only [List.length_append, List.length_cons, List.length_nil] at hjl
  obtain rfl : j = m.ps.length := by omega
  rw [List.getElem?_append_right (Nat.le_refl _)] at hj
  simp at hj
  subst hj
  refine PrRight.zero ⟨by decide, ?_, wtB_one _, by simp, rfl, rfl⟩
  rw [more_names, findI_last hf]
  simp
theorem more_twice {m : Md} (h : MdRight m) (hs : m.ps.length ≤ 12) (A : Option Addr) (cap : Nat) {i : Nat} {p : Pr} (hi : m.ps[i]? = some p) : mdCheck (moreM m A cap p.name) = (5, (m.ps.length : Int) + 1) ∧ findI ((moreM m A cap p.name).ps.map Pr.name) p.name = (i : Int) := by
 have r := h.pr hi
 have hil := (List.getElem?_eq_some_iff.1 hi).1
 have hf : findI ((moreM m A cap p.name).ps.map Pr.name) p.name = (i : Int) := by rw [more_names, findI_app (by rw [r.f]; omega)]; exact r.f
 refine ⟨?_, hf⟩
 refine md_procs (m := moreM m A cap p.name) (k := m.ps.length) (p := ⟨p.name, 1, none, [], 0, none, [], 0⟩) h.v (by have := h.n; simp only [moreM, List.length_append, List.length_cons, List.length_nil]; omega) (fun j u hj hu => ?_) (by simp [moreM]) (c := 5) ?_ (by decide)
 ·simp only [moreM] at hu
  rw [List.getElem?_append_left hj] at hu
  exact more_proc h A cap _ hu
 ·unfold procC
  simp only
  rw [if_neg (by rw [r.n]; simp), if_pos (by rw [hf]; omega)]
theorem stepC_congr {ls ls' : List Lk} (hn : ls'.map Lk.name = ls.map Lk.name) (hs : ls'.map Lk.src = ls.map Lk.src) (p : Pr) (s : S) : stepC ls' p s = stepC ls p s := by
 have h9 : ∀ k : Nat, (ls'[k]?.map (fun l => l.src.toList)) = (ls[k]?.map (fun l => l.src.toList)) := by
  intro k
  have := congrArg (fun l : List ByteArray => l[k]?.map ByteArray.toList) hs
  simpa [List.getElem?_map, Function.comp_def] using this
 unfold stepC
 rw [hn, h9]
theorem set_names (ls : List Lk) (k : Nat) (l l' : Lk) (h : ls[k]? = some l) (f : Lk → ByteArray) (he : f l' = f l) : (ls.set k l').map f = ls.map f := by
 apply List.ext_getElem?
 intro j
 rw [List.getElem?_map, List.getElem?_map, List.getElem?_set]
 by_cases e : k = j
 ·subst e
  have := (List.getElem?_eq_some_iff.1 h).1
  rw [if_pos rfl, if_pos this, h, Option.map_some, Option.map_some, he]
 ·simp [e]
/-- One link turned: the processes stay right, and the links ahead. -/
theorem link_turn {m : Md} (h : MdRight m) (A : Option Addr) (cap : Nat) {k : Nat} {l l' : Lk} (hk : m.ls[k]? = some l) (hn : l'.name = l.name) (hsrc : l'.src = l.src) (hdst : l'.dst = l.dst) {c : Int} (hc : c ≠ 0) (he : linkC { m with la := A, ls := m.ls.set k l', lc := cap } k l' = c) :
  mdCheck { m with la := A, ls := m.ls.set k l', lc := cap } = (c, (m.ps.length : Int) + k + 1) := by
 have hkl := (List.getElem?_eq_some_iff.1 hk).1
 have e1 := set_names m.ls k l l' hk Lk.name hn
 have e2 := set_names m.ls k l l' hk Lk.src hsrc
 refine md_links (m := { m with la := A, ls := m.ls.set k l', lc := cap }) (k := k) (l := l') h.v (by have := h.n; simp only [List.length_set]; omega) (fun j u _ hj => ?_) (fun j u hj hu => ?_) (by simp [hkl]) he hc
 ·have r := h.pr hj
  refine PrRight.zero ⟨r.n, r.f, r.w, r.l, r.v, ?_⟩
  have : (fun s => stepC (m.ls.set k l') u s) = fun s => stepC m.ls u s := by funext s; exact stepC_congr e1 e2 u s
  show firstC (u.ss.map (fun s => stepC (m.ls.set k l') u s)) = 0
  rw [this]
  exact r.s
 ·simp only [List.getElem?_set, show ¬ k = j by omega, if_false] at hu
  have r := h.lk hu
  exact LkRight.zero ⟨r.n, by simp only [e1]; exact r.f, r.e, r.d, r.w⟩
theorem link_delay {m : Md} (h : MdRight m) (A : Option Addr) (cap : Nat) {k : Nat} {l : Lk} (hk : m.ls[k]? = some l) :
  mdCheck { m with la := A, ls := m.ls.set k { l with delay := 0 }, lc := cap } = (42, (m.ps.length : Int) + k + 1) := by
 refine link_turn (l' := { l with delay := 0 }) h A cap hk rfl rfl rfl (c := 42) (by decide) ?_
 have r := h.lk hk
 unfold linkC
 simp only [set_names m.ls k l { l with delay := 0 } hk Lk.name rfl]
 rw [if_neg (by rw [r.n]; simp), if_neg (by rw [r.f]; simp), if_neg r.e, if_pos (by simp)]
theorem link_weight {m : Md} (h : MdRight m) (A : Option Addr) (cap : Nat) {k : Nat} {l : Lk} (hk : m.ls[k]? = some l) :
  mdCheck { m with la := A, ls := m.ls.set k { l with delay := 1, weight := -1 }, lc := cap } = (41, (m.ps.length : Int) + k + 1) := by
 refine link_turn (l' := { l with delay := 1, weight := -1 }) h A cap hk rfl rfl rfl (c := 41) (by decide) ?_
 have r := h.lk hk
 unfold linkC
 simp only [set_names m.ls k l { l with delay := 1, weight := -1 } hk Lk.name rfl]
 rw [if_neg (by rw [r.n]; simp), if_neg (by rw [r.f]; simp), if_neg r.e, if_neg (by simp), if_pos (by simp [wtB])]
theorem event_turn {m : Md} (h : MdRight m) (A : Option Addr) (cap : Nat) {k : Nat} {e' : Ev} (hk : k < m.es.length) {c : Int} (hc : c ≠ 0) (he : eventC m e' = c) :
  mdCheck { m with ea := A, es := m.es.set k e', ec := cap } = (c, (m.ps.length : Int) + m.ls.length + k + 1) := by
 refine md_events (m := { m with ea := A, es := m.es.set k e', ec := cap }) (k := k) (e := e') h.v (by have := h.n; simp only [List.length_set]; omega) (fun j u _ hj => ?_) (fun j u _ hj => ?_) (fun j u hj hu => ?_) (by simp [hk]) he hc
 ·have r := h.pr hj
  exact PrRight.zero ⟨r.n, r.f, r.w, r.l, r.v, r.s⟩
 ·have r := h.lk hj
  exact LkRight.zero ⟨r.n, r.f, r.e, r.d, r.w⟩
 ·simp only [List.getElem?_set, show ¬ k = j by omega, if_false] at hu
  have r := h.ev hu
  exact EvRight.zero ⟨r.t, r.r⟩
theorem event_time {m : Md} (h : MdRight m) (A : Option Addr) (cap : Nat) {k : Nat} {e : Ev} (hk : m.es[k]? = some e) :
  mdCheck { m with ea := A, es := m.es.set k { e with at_ := -1 }, ec := cap } = (23, (m.ps.length : Int) + m.ls.length + k + 1) := by
 refine event_turn h A cap (List.getElem?_eq_some_iff.1 hk).1 (c := 23) (by decide) ?_
 have r := h.ev hk
 unfold eventC
 simp only
 rw [if_neg r.t, if_pos (by simp)]
theorem find_empty {m : Md} (h : MdRight m) : findI (m.ps.map Pr.name) ⟨#[]⟩ < 0 := by
 rcases findI_cases (m.ps.map Pr.name) ⟨#[]⟩ with ⟨h1, _⟩ | ⟨k, t, h1, h2, h3, _⟩
 ·rw [h1]; decide
 ·rw [List.getElem?_map] at h2
  obtain ⟨p, hp, rfl⟩ := Option.map_eq_some_iff.1 h2
  have h9 := (right_parts' (h.pr hp).n).1
  rw [ky_list, ky_list] at h3
  have : p.name.data.toList = [] := h3
  rw [← size_list, this] at h9
  simp at h9
theorem event_nobody {m : Md} (h : MdRight m) (A : Option Addr) (cap : Nat) {k : Nat} {e : Ev} (hk : m.es[k]? = some e) (z : Int) :
  mdCheck { m with ea := A, es := m.es.set k { e with at_ := z, to := ⟨#[]⟩ }, ec := cap } = (4, (m.ps.length : Int) + m.ls.length + k + 1) := by
 refine event_turn h A cap (List.getElem?_eq_some_iff.1 hk).1 (c := 4) (by decide) ?_
 unfold eventC
 simp only
 rw [if_pos (find_empty h)]
end Go.Proofs.YtniocgnfgpaioaaGreat.Mo
end
section
namespace Go.Proofs.YtniocgnfgpaioaaGreat.Lb
open Go Go.RowKit

variable {F : Fence} {n : Nat} {P : Program}

/-- A loop's record. -/
def loopRec (fn : FuncId) (tmps : Array Value) (ps : Array Tmp) (assign body : Code) (D : Nat) (st : LoopState) (pe : Option Code) : Loop :=
 {state := st, pending := pe, fn, tmps, params := ps, assign, body, defers := D }

/-- What a round's body must leave: the record busy still; R speaks of the world behind the round. -/
def roundLeft (l : Nat) (rec : LoopState → Option Code → Loop) (R : Ending → World → Prop) : Exit → Act → World → Prop
 | .normal, _, W => W.heap[l]? = some (.loop (rec .busy none)) ∧ R (.returned (.bool true)) (W.putObj l (.loop (rec .ready none)))
 | .ret, _, W => W.heap[l]? = some (.loop (rec .busy none)) ∧ R (.returned (.bool false)) (W.putObj l (.loop (rec .done (some .ret))))
 | .exit id, _, W => W.heap[l]? = some (.loop (rec .busy none)) ∧ R (.returned (.bool false)) (W.putObj l (.loop (rec .done (some (.exit id)))))
 | .goto t, _, W => W.heap[l]? = some (.loop (rec .busy none)) ∧ R (.returned (.bool false)) (W.putObj l (.loop (rec .done (some (.goto t)))))
 | .panic _, _, _ => False
 | .outgrown, _, _ => False

/-- ONE ROUND. -/
theorem yield_round {l D : Nat} {fn : FuncId} {tmps : Array Value} {ps : Array Tmp} {assign body : Code} {args : Array Value} {W : World} {R : Ending → World → Prop} (hfn : F.fn fn)
  (hl : W.heap[l]? = some (.loop (loopRec fn tmps ps assign body D .ready none))) (hps : args.size = ps.size)
  (h : assign.wpIn (F.inRound l) n P (Exit.then (fun a' Wa => Wa.heap[l]? = some (.loop (loopRec fn tmps ps assign body D .ready none)) ∧
    body.wpIn (F.inRound l) n P (roundLeft l (loopRec fn tmps ps assign body D) R) a' (Wa.putObj l (.loop (loopRec fn tmps ps assign body D .busy none)))) (fun _ _ _ => False))
   {tmps := (ps.zip args).foldl (fun t (p, v) => t.setIfInBounds p v) tmps, defers := [] } W) :
  YieldAt F n P l args W R := by
 refine ⟨fn, _, assign, body, run_yield (P := P) (args := args) hl hps, roundIn_of_wpIn hfn ?_⟩
 refine wpIn_mono h ?_
 rintro e a' Wa hp
 cases e with
 | normal =>
  obtain ⟨hla, hb⟩ := hp
  refine ⟨_, run_beginRound hla rfl, ?_⟩
  refine wpIn_mono hb ?_
  rintro e a3 W3 hq
  cases e with
  | normal => exact ⟨_, _, run_endRound none hq.1, hq.2⟩
  | ret => exact ⟨_, _, run_endRound (some .ret) hq.1, hq.2⟩
  | exit id => exact ⟨_, _, run_endRound (some (.exit id)) hq.1, hq.2⟩
  | goto t => exact ⟨_, _, run_endRound (some (.goto t)) hq.1, hq.2⟩
  | panic ch => exact hq.elim
  | outgrown => exact hq.elim
 | exit id => exact hp.elim
 | goto t => exact hp.elim
 | ret => exact hp.elim
 | panic chain => exact hp.elim
 | outgrown => exact hp.elim

/-- THE STATEMENT, outermost. The iterator's call is made in a world with two blocks more: D for deferred calls, l the loop's record. -/
theorem range_stmt {g : Operand} {ps : Array Tmp} {assign body : Code} {Q : Exit → Act → World → Prop} {a : Act} {w : World} {gf : Nat} {lb : Array Value}
  (hro : F.round = none) (h1 : F.depth.isSome = true → 1 ≤ n) (hg : a.eval g = .func (.func gf) #[] lb) (hFg : F.fn gf) (eg : ∀ args w, (callFunc gf args).run P w = .ok (.enter gf args) w)
  (h : ∀ fn, F.fn fn → CallsIn F (n - 1) P gf (#[.func (.yield (w.heap.size + 1)) #[] #[]] ++ lb) ((w.alloc (.deferred (some []))).alloc (.loop (loopRec fn a.tmps ps assign body w.heap.size .ready none)))
   (fun e W => (∃ v, e = .returned v) ∧
    ((W.heap[w.heap.size + 1]? = some (.loop (loopRec fn a.tmps ps assign body w.heap.size .ready none)) ∧
      Q .normal { a with defers := { target := .collected w.heap.size, args := #[] } :: a.defers } (W.putObj (w.heap.size + 1) (.loop (loopRec fn a.tmps ps assign body w.heap.size .exhausted none)))) ∨
     (∃ c, W.heap[w.heap.size + 1]? = some (.loop (loopRec fn a.tmps ps assign body w.heap.size .done (some c))) ∧
      c.wpIn F n P Q { a with defers := { target := .collected w.heap.size, args := #[] } :: a.defers } (W.putObj (w.heap.size + 1) (.loop (loopRec fn a.tmps ps assign body w.heap.size .exhausted (some c)))))))) :
  (Code.rangeFunc g ps assign body).wpIn F n P Q a w := by
 refine wpIn_rangeFunc ?_
 intro fn hfn
 rw [hro]
 obtain ⟨W1, hW1⟩ : ∃ W1, (w.alloc (.deferred (some []))).alloc (.loop (loopRec fn a.tmps ps assign body w.heap.size .ready none)) = W1 := ⟨_, rfl⟩
 have h' := h fn hfn
 rw [hW1] at h'
 refine ⟨w.heap.size + 1, [{ target := .collected w.heap.size, args := #[] }], W1, { target := .fn (.func gf) lb, args := #[.func (.yield (w.heap.size + 1)) #[] #[]] }, W1, gf,
  #[.func (.yield (w.heap.size + 1)) #[] #[]] ++ lb, W1, ?_, ?_, ?_, ?_, h1, ?_⟩
 ·rw [← hW1]; exact run_enterLoop_outer _ _ _ _ _
 ·simp only [resolve, hg]
  simp [go_sem]
 ·intro f' hf'; simp [Target.leads] at hf'; subst hf'; exact hFg
 ·simp [invoke, go_sem, eg]
 ·refine h'.mono ?_
  rintro e W ⟨⟨v, rfl⟩, h | ⟨c, hl, hc⟩⟩
  ·exact ⟨none, _, run_endLoop h.1 (by simp [loopRec]), h.2⟩
  ·exact ⟨some c, _, run_endLoop hl (by simp [loopRec]), hc⟩
/-- The same two, the record under a name. -/
theorem yield_round' {l D : Nat} {fn : FuncId} {tmps : Array Value} {ps : Array Tmp} {assign body : Code} {args : Array Value} {W : World} {R : Ending → World → Prop} {ro : LoopState → Option Code → Loop} (hro : ro = loopRec fn tmps ps assign body D) (hfn : F.fn fn)
  (hl : W.heap[l]? = some (.loop (ro .ready none))) (hps : args.size = ps.size)
  (h : assign.wpIn (F.inRound l) n P (Exit.then (fun a' Wa => Wa.heap[l]? = some (.loop (ro .ready none)) ∧
    body.wpIn (F.inRound l) n P (roundLeft l ro R) a' (Wa.putObj l (.loop (ro .busy none)))) (fun _ _ _ => False))
   {tmps := (ps.zip args).foldl (fun t (p, v) => t.setIfInBounds p v) tmps, defers := [] } W) :
  YieldAt F n P l args W R := by
 subst hro
 exact yield_round hfn hl hps h
theorem range_stmt' {g : Operand} {ps : Array Tmp} {assign body : Code} {Q : Exit → Act → World → Prop} {a : Act} {w : World} {gf : Nat} {lb : Array Value}
  (hro : F.round = none) (h1 : F.depth.isSome = true → 1 ≤ n) (hg : a.eval g = .func (.func gf) #[] lb) (hFg : F.fn gf) (eg : ∀ args w, (callFunc gf args).run P w = .ok (.enter gf args) w)
  (h : ∀ fn ro, F.fn fn → ro = loopRec fn a.tmps ps assign body w.heap.size → CallsIn F (n - 1) P gf (#[.func (.yield (w.heap.size + 1)) #[] #[]] ++ lb) ((w.alloc (.deferred (some []))).alloc (.loop (ro .ready none)))
   (fun e W => (∃ v, e = .returned v) ∧
    ((W.heap[w.heap.size + 1]? = some (.loop (ro .ready none)) ∧
      Q .normal { tmps := a.tmps, defers := { target := .collected w.heap.size, args := #[] } :: a.defers } (W.putObj (w.heap.size + 1) (.loop (ro .exhausted none)))) ∨
     (∃ c, W.heap[w.heap.size + 1]? = some (.loop (ro .done (some c))) ∧
      c.wpIn F n P Q { tmps := a.tmps, defers := { target := .collected w.heap.size, args := #[] } :: a.defers } (W.putObj (w.heap.size + 1) (.loop (ro .exhausted (some c)))))))) :
  (Code.rangeFunc g ps assign body).wpIn F n P Q a w :=
 range_stmt hro h1 hg hFg eg (fun fn hfn => h fn _ hfn rfl)
/-- A plain contract, at a call in the walk within the wide fence; and within a round. -/
theorem at_wide {m n : Nat} {P : Program} {f : FuncId} {args : Array Value} {w : World} {R : Ending → World → Prop} (h : Calls P f args w R) : Fence.wide.fn f ∧ (Fence.wide.depth.isSome = true → 1 ≤ m) ∧ CallsIn Fence.wide n P f args w R :=
 ⟨trivial, (fun h => by cases h), callsIn_wide.2 h⟩
theorem at_round {l m n : Nat} {P : Program} {f : FuncId} {args : Array Value} {w : World} {R : Ending → World → Prop} (h : Calls P f args w R) : (Fence.wide.inRound l).fn f ∧ ((Fence.wide.inRound l).depth.isSome = true → 1 ≤ m) ∧ CallsIn (Fence.wide.inRound l) n P f args w R :=
 ⟨trivial, (fun h => by cases h), CallsIn.inRound l (callsIn_wide.2 h)⟩
theorem at_wide_in {m n : Nat} {P : Program} {f : FuncId} {args : Array Value} {w : World} {R : Ending → World → Prop} (h : CallsIn Fence.wide n P f args w R) : Fence.wide.fn f ∧ (Fence.wide.depth.isSome = true → 1 ≤ m) ∧ CallsIn Fence.wide n P f args w R :=
 ⟨trivial, (fun h => by cases h), h⟩
end Go.Proofs.YtniocgnfgpaioaaGreat.Lb
end
section
namespace Go.Proofs.YtniocgnfgpaioaaGreat.Lb
open Go Go.RowKit

theorem Kept.putObj {S : Nat → Prop} {a w : World} (h : Kept S a w) {k : Nat} (hp : S k ∨ a.heap.size ≤ k) (o : Obj) : Kept S a (w.putObj k o) :=
  h.trans (S' := fun i => i = k) ⟨rfl, rfl, rfl, by simp [World.putObj], fun i hi hn => by simp [World.putObj, Ne.symm hn]⟩ (fun i hi => by subst hi; exact hp)
theorem Kept.of_Below {n : Nat} {a b : World} (h : Below n a b) : Kept (fun k => n ≤ k) a b := ⟨h.os, h.tape, h.output, h.size, fun i hi hn => h.block i (Nat.lt_of_not_le hn)⟩
theorem heap_put {w : World} {k : Nat} {o o' : Obj} (h : w.heap[k]? = some o) : (w.putObj k o').heap[k]? = some o' := by
  have := (Array.getElem?_eq_some_iff.1 h).1
  simp [World.putObj, this]
theorem heap_put_other {w : World} {i k : Nat} {o' : Obj} (hne : i ≠ k) : (w.putObj k o').heap[i]? = w.heap[i]? := by
  simp [World.putObj, hne.symm]

theorem own_slice {w : World} {base e size n : Nat} {v : Value} {xs : List Value} (h : w.ownsRow base e size v n xs) : ∃ A cap, v = .slice A n cap := by
  rcases own_form h with ⟨h1, h2, _⟩ | ⟨g, cap, h1, _⟩
  · exact ⟨none, 0, by rw [h1, h2]⟩
  · exact ⟨_, _, h1⟩
/-- B: the box of the variable that collects; D, l: the loop's two blocks; w0: the world ahead; O: what the iterator writes. -/
structure Coll (B D l sz : Nat) (E T : TypeId) (L : List (Nat × TypeId × Value)) (O : Nat → Prop) (w0 : World) (ro : Obj) (k : Nat) (cs : List Value) (vo : Value) (W : World) : Prop where
  hB : w0.heap.size ≤ B
  hD : w0.heap.size ≤ D
  hl : w0.heap.size ≤ l
  hO : ∀ i, O i → i < w0.heap.size
  hL : ∀ q ∈ L, w0.heap.size ≤ q.1 ∧ q.1 ≠ B ∧ q.2.1 ≠ E
  bx : ∀ q ∈ L, Boxed W q.1 q.2.1 q.2.2
  box : Boxed W B T vo
  row : W.ownsRow w0.heap.size E sz vo k cs
  lp : W.heap[l]? = some ro
  roc : ro.isCells = false
  dfr : W.heap[D]? = some (.deferred (some []))
  dl : D ≠ l
  kept : Kept O w0 W

theorem Coll.step {B D l sz : Nat} {E T : TypeId} {L : List (Nat × TypeId × Value)} {O : Nat → Prop} {w0 : World} {ro : Obj} {k : Nat} {cs : List Value} {vo : Value} {W W' : World} (h : Coll B D l sz E T L O w0 ro k cs vo W)
    {S : Nat → Prop} (hk : Kept S W W') (hS : ∀ i, S i → O i) : Coll B D l sz E T L O w0 ro k cs vo W' := by
  have hn : ∀ i, w0.heap.size ≤ i → ¬ S i := fun i hi hs => by have := h.hO i (hS i hs); omega
  exact { hB := h.hB, hD := h.hD, hl := h.hl, hO := h.hO, hL := h.hL, bx := fun q hq => hk.heap (h.bx q hq) (hn _ (h.hL q hq).1), box := hk.heap h.box (hn _ h.hB), row := hk.own h.row (fun j hj => hn j (h.row.lt j hj).1), lp := hk.heap h.lp (hn _ h.hl), roc := h.roc,
          dfr := hk.heap h.dfr (hn _ h.hD), dl := h.dl, kept := h.kept.trans hk (fun i hi => .inl (hS i hi)) }
theorem Coll.nil {B D l sz : Nat} {E T : TypeId} {L : List (Nat × TypeId × Value)} {O : Nat → Prop} {w0 : World} {ro : Obj} {k : Nat} {cs : List Value} {vo : Value} {W W' : World} (h : Coll B D l sz E T L O w0 ro k cs vo W) (hk : Kept Nil W W') : Coll B D l sz E T L O w0 ro k cs vo W' :=
  h.step hk (fun _ h => h.elim)
theorem Coll.put {B D l sz : Nat} {E T : TypeId} {L : List (Nat × TypeId × Value)} {O : Nat → Prop} {w0 : World} {ro ro' : Obj} {k : Nat} {cs : List Value} {vo : Value} {W : World} (h : Coll B D l sz E T L O w0 ro k cs vo W) (hc : ro'.isCells = false) :
    Coll B D l sz E T L O w0 ro' k cs vo (W.putObj l ro') := by
  have hno : ∀ (B : Nat) (T : TypeId) (vo : Value), Boxed W B T vo → B ≠ l := by
    intro B T vo hb e
    have h1 := h.lp
    have h2 : W.heap[B]? = _ := hb
    rw [e, h1] at h2
    cases h2
    exact absurd h.roc (by simp [Obj.isCells])
  exact { hB := h.hB, hD := h.hD, hl := h.hl, hO := h.hO, hL := h.hL, bx := fun q hq => (heap_put_other (hno _ _ _ (h.bx q hq))).trans (h.bx q hq), box := (heap_put_other (hno _ _ _ h.box)).trans h.box, row := ownsRow_putObj h.row _ h.lp h.roc, lp := heap_put h.lp, roc := hc,
          dfr := (heap_put_other h.dl).trans h.dfr, dl := h.dl, kept := h.kept.putObj (.inr h.hl) _ }
theorem Coll.appended {B D l sz : Nat} {E T : TypeId} {L : List (Nat × TypeId × Value)} {O : Nat → Prop} {w0 : World} {ro : Obj} {k m : Nat} {cs ys : List Value} {vo v' : Value} {W w1 : World} (h : Coll B D l sz E T L O w0 ro k cs vo W) (hte : T ≠ E) {tmp : Obj}
    (hown' : w1.ownsRow w0.heap.size E sz v' m ys) (hgrow : (W.alloc tmp).grownBy w1 vo.ownBlock) : Boxed w1 B T vo ∧ Coll B D l sz E T L O w0 ro m ys v' (w1.setCell ⟨B, 0, none⟩ v') ∧ Kept (fun i => w0.heap.size ≤ i) W (w1.setCell ⟨B, 0, none⟩ v') := by
  obtain ⟨h1, h2, h3, h4, h5⟩ := h.box.appended hte h.row h.kept.size h.hB hown' hgrow
  have hx : ∀ q ∈ L, Boxed (w1.setCell ⟨B, 0, none⟩ v') q.1 q.2.1 q.2.2 := fun q hq => (((h.bx q hq).alloc tmp).kept hgrow ((h.bx q hq).not_row (h.hL q hq).2.2 h.row)).other (h.hL q hq).2.1 _
  refine ⟨h1, { hB := h.hB, hD := h.hD, hl := h.hl, hO := h.hO, hL := h.hL, bx := hx, box := h2, row := h3, lp := h4.same _ _ h.lp h.roc, roc := h.roc, dfr := h4.same _ _ h.dfr rfl, dl := h.dl, kept := h.kept.trans (Kept.of_Below h5) (fun i hi => .inr hi) }, Kept.of_Below h5⟩
/-- A store into a box of its own. -/
theorem Coll.store {B D l sz : Nat} {E T : TypeId} {Rx : Nat} {TR : TypeId} {vr : Value} {L : List (Nat × TypeId × Value)} {O : Nat → Prop} {w0 : World} {ro : Obj} {k : Nat} {cs : List Value} {vo : Value} {W : World} (h : Coll B D l sz E T ((Rx, TR, vr) :: L) O w0 ro k cs vo W)
    (hne : ∀ q ∈ L, q.1 ≠ Rx) (u : Value) : Coll B D l sz E T ((Rx, TR, u) :: L) O w0 ro k cs vo (W.setCell ⟨Rx, 0, none⟩ u) := by
  have hR := h.hL _ (List.mem_cons_self ..)
  have hb := h.bx _ (List.mem_cons_self ..)
  have hno : ∀ (i : Nat) (o : Obj), W.heap[i]? = some o → o.isCells = false → (W.setCell ⟨Rx, 0, none⟩ u).heap[i]? = some o := fun i o hi ho => (KeepsOthers.setCell W ⟨Rx, 0, none⟩ u).same i o hi ho
  refine { hB := h.hB, hD := h.hD, hl := h.hl, hO := h.hO, hL := ?_, bx := ?_, box := h.box.other hR.2.1.symm _, row := h.row.kept (grownBy_setCell' W Rx u) (.inr (hb.not_row hR.2.2 h.row).symm), lp := hno _ _ h.lp h.roc, roc := h.roc, dfr := hno _ _ h.dfr rfl, dl := h.dl, kept := h.kept.setCell (.inr hR.1) _ }
  · intro q hq
    rcases List.mem_cons.1 hq with rfl | hq
    · exact hR
    · exact h.hL _ (List.mem_cons_of_mem _ hq)
  · intro q hq
    rcases List.mem_cons.1 hq with rfl | hq
    · exact hb.set u
    · exact (h.bx _ (List.mem_cons_of_mem _ hq)).other (hne q hq) _
/-- At the end: the loop's record put away, the deferred calls taken. -/
theorem Coll.last {B D l sz : Nat} {E T : TypeId} {L : List (Nat × TypeId × Value)} {O : Nat → Prop} {w0 : World} {ro : Obj} {k : Nat} {cs : List Value} {vo : Value} {W : World} (h : Coll B D l sz E T L O w0 ro k cs vo W) :
    (W.putObj D (.deferred none)).ownsRow w0.heap.size E sz vo k cs ∧ Kept O w0 (W.putObj D (.deferred none)) ∧ (∀ q ∈ L, Boxed (W.putObj D (.deferred none)) q.1 q.2.1 q.2.2) := by
  refine ⟨ownsRow_putObj h.row _ h.dfr rfl, h.kept.putObj (.inr h.hD) _, fun q hq => (heap_put_other fun e => ?_).trans (h.bx q hq)⟩
  have h1 := h.dfr
  have h2 : W.heap[q.1]? = _ := h.bx q hq
  rw [e, h1] at h2
  cases h2
end Go.Proofs.YtniocgnfgpaioaaGreat.Lb
end
