/- What a right model is, and what stays right. Nothing of the program is named. -/
import Derived.Test.YthgbahlkflmgiaaCheckP
namespace Go.Proofs.Ythgbahlkflmgiaa.Mo
open Go Go.RowKit Go.Proofs.Ythgbahlkflmgiaa.Lb
set_option linter.unusedVariables false

structure MdRight (m : Md) : Prop where
  v : ¬ (m.version < 1 ∨ 3 < m.version)
  n : ¬ (4096 < m.ps.length ∨ 16384 < m.ls.length ∨ 16384 < m.es.length)
  p : ∀ (j : Nat) (u : Pr), m.ps[j]? = some u → procC m j u = 0
  l : ∀ (j : Nat) (u : Lk), m.ls[j]? = some u → linkC m j u = 0
  e : ∀ (j : Nat) (u : Ev), m.es[j]? = some u → eventC m u = 0
theorem firstAt_zero : ∀ (xs : List Int) (k : Nat), (firstAt xs k).1 = 0 → ∀ c ∈ xs, c = 0
  | [], k, _, c, hc => by simp at hc
  | x :: xs, k, h, c, hc => by
    by_cases h0 : x = 0
    · subst h0
      simp only [firstAt, if_true] at h
      rcases List.mem_cons.1 hc with rfl | hc
      · rfl
      · exact firstAt_zero xs (k + 1) h c hc
    · simp [firstAt, h0] at h
theorem mapIdx_zero {α : Type} {f : Nat → α → Int} {xs : List α} {k : Nat} (h : (firstAt (xs.mapIdx f) k).1 = 0) (j : Nat) (u : α) (hj : xs[j]? = some u) : f j u = 0 :=
  firstAt_zero _ k h _ (List.mem_of_getElem? (i := j) (by rw [List.getElem?_mapIdx, hj]; rfl))
theorem right_of {m : Md} (h : (mdCheck m).1 = 0) : MdRight m := by
  unfold mdCheck at h
  by_cases hv : m.version < 1 ∨ 3 < m.version
  · rw [if_pos hv] at h; simp at h
  rw [if_neg hv] at h
  by_cases hn : 4096 < m.ps.length ∨ 16384 < m.ls.length ∨ 16384 < m.es.length
  · rw [if_pos hn] at h; simp at h
  rw [if_neg hn] at h
  by_cases hp : (firstAt (codesP m) 0).1 ≠ 0
  · rw [if_pos hp] at h; exact absurd h hp
  rw [if_neg hp] at h
  by_cases hl : (firstAt (codesL m) m.ps.length).1 ≠ 0
  · rw [if_pos hl] at h; exact absurd h hl
  rw [if_neg hl] at h
  rw [codesE_idx] at h
  exact ⟨hv, hn, fun j u hj => mapIdx_zero (show (firstAt (codesP m) 0).1 = 0 by simpa using hp) j u hj, fun j u hj => mapIdx_zero (show (firstAt (codesL m) m.ps.length).1 = 0 by simpa using hl) j u hj, fun j u hj => mapIdx_zero h j u hj⟩
theorem MdRight.ok {m : Md} (h : MdRight m) : mdCheck m = (0, 0) := md_ok h.v h.n (fun j u _ hj => h.p j u hj) (fun j u _ hj => h.l j u hj) (fun j u _ hj => h.e j u hj)
/-- The parts of a right process. -/
structure PrRight (m : Md) (i : Nat) (p : Pr) : Prop where
  n : rightName p.name = true
  f : findI (m.ps.map Pr.name) p.name = (i : Int)
  w : wtB m.version p.weight = true
  l : ¬ (64 < p.vs.length ∨ 256 < p.ss.length)
  v : varsC p.vs = 0
  s : firstC (p.ss.map (stepC m.ls p)) = 0
theorem proc_zero {m : Md} {i : Nat} {p : Pr} (h : procC m i p = 0) : PrRight m i p := by
  unfold procC at h
  split at h
  · simp at h
  split at h
  · simp at h
  split at h
  · simp at h
  split at h
  · simp at h
  split at h
  · rename_i h5; exact absurd h h5
  rename_i h1 h2 h3 h4 h5
  exact ⟨by simpa using h1, by simpa using h2, by simpa using h3, h4, by simpa using h5, h⟩
theorem PrRight.zero {m : Md} {i : Nat} {p : Pr} (h : PrRight m i p) : procC m i p = 0 := by
  unfold procC
  rw [if_neg (by rw [h.n]; simp), if_neg (by rw [h.f]; simp), if_neg (by rw [h.w]; simp), if_neg h.l, if_neg (by rw [h.v]; simp), h.s]
structure LkRight (m : Md) (i : Nat) (l : Lk) : Prop where
  n : rightName l.name = true
  f : findI (m.ls.map Lk.name) l.name = (i : Int)
  e : ¬ (findI (m.ps.map Pr.name) l.src < 0 ∨ findI (m.ps.map Pr.name) l.dst < 0)
  d : ¬ (l.delay < 1 ∨ 1099511627776 < l.delay)
  w : wtB m.version l.weight = true
theorem link_zero {m : Md} {i : Nat} {l : Lk} (h : linkC m i l = 0) : LkRight m i l := by
  unfold linkC at h
  split at h
  · simp at h
  split at h
  · simp at h
  split at h
  · simp at h
  split at h
  · simp at h
  split at h
  · simp at h
  rename_i h1 h2 h3 h4 h5
  exact ⟨by simpa using h1, by simpa using h2, h3, h4, by simpa using h5⟩
theorem LkRight.zero {m : Md} {i : Nat} {l : Lk} (h : LkRight m i l) : linkC m i l = 0 := by
  unfold linkC
  rw [if_neg (by rw [h.n]; simp), if_neg (by rw [h.f]; simp), if_neg h.e, if_neg h.d, if_neg (by rw [h.w]; simp)]
structure EvRight (m : Md) (e : Ev) : Prop where
  t : ¬ findI (m.ps.map Pr.name) e.to < 0
  r : ¬ (e.at_ < 0 ∨ 1099511627776 < e.at_ ∨ numB e.value = false)
theorem event_zero {m : Md} {e : Ev} (h : eventC m e = 0) : EvRight m e := by
  unfold eventC at h
  split at h
  · simp at h
  split at h
  · simp at h
  rename_i h1 h2
  exact ⟨h1, h2⟩
theorem EvRight.zero {m : Md} {e : Ev} (h : EvRight m e) : eventC m e = 0 := by
  unfold eventC
  rw [if_neg h.t, if_neg h.r]
theorem MdRight.pr {m : Md} (h : MdRight m) {j : Nat} {u : Pr} (hj : m.ps[j]? = some u) : PrRight m j u := proc_zero (h.p j u hj)
theorem MdRight.lk {m : Md} (h : MdRight m) {j : Nat} {u : Lk} (hj : m.ls[j]? = some u) : LkRight m j u := link_zero (h.l j u hj)
theorem MdRight.ev {m : Md} (h : MdRight m) {j : Nat} {u : Ev} (hj : m.es[j]? = some u) : EvRight m u := event_zero (h.e j u hj)
theorem wtB_older {v n : Int} (h : wtB v n = true) : wtB 1 n = true := by
  unfold wtB at *
  simp only [Bool.or_eq_true, Bool.and_eq_true, decide_eq_true_eq, beq_iff_eq] at *
  omega
theorem older_right {m : Md} (h : MdRight m) : MdRight { m with version := 1 } :=
  ⟨by simp, h.n, fun j u hj => (show PrRight { m with version := 1 } j u from let r := h.pr hj; ⟨r.n, r.f, wtB_older r.w, r.l, r.v, r.s⟩).zero,
    fun j u hj => (show LkRight { m with version := 1 } j u from let r := h.lk hj; ⟨r.n, r.f, r.e, r.d, wtB_older r.w⟩).zero,
    fun j u hj => (show EvRight { m with version := 1 } u from let r := h.ev hj; ⟨r.t, r.r⟩).zero⟩
theorem quiet_right {m : Md} (h : MdRight m) : MdRight { m with ea := none, es := [], ec := 0 } :=
  ⟨h.v, by have := h.n; simp only [List.length_nil]; omega, fun j u hj => (show PrRight { m with ea := none, es := [], ec := 0 } j u from let r := h.pr hj; ⟨r.n, r.f, r.w, r.l, r.v, r.s⟩).zero,
    fun j u hj => (show LkRight { m with ea := none, es := [], ec := 0 } j u from let r := h.lk hj; ⟨r.n, r.f, r.e, r.d, r.w⟩).zero, fun j u hj => by simp at hj⟩
/-- A process without its steps. -/
def noSteps (p : Pr) : Pr := { p with sa := none, ss := [], sc := 0 }
theorem bare_right {m : Md} (h : MdRight m) (A : Option Addr) (cap : Nat) : MdRight ⟨m.version, A, m.ps.map noSteps, cap, none, [], 0, none, [], 0⟩ := by
  refine ⟨h.v, by have := h.n; simp only [List.length_nil, List.length_map]; omega, fun j u hj => ?_, fun j u hj => by simp at hj, fun j u hj => by simp at hj⟩
  simp only [List.getElem?_map] at hj
  obtain ⟨p, hp, rfl⟩ := Option.map_eq_some_iff.1 hj
  have r := h.pr hp
  refine PrRight.zero ⟨r.n, ?_, r.w, ?_, r.v, rfl⟩
  · have : (m.ps.map noSteps).map Pr.name = m.ps.map Pr.name := by rw [List.map_map]; rfl
    simp only [this]
    exact r.f
  · have := r.l
    simp only [noSteps, List.length_nil]
    omega
theorem findI_app {xs : List ByteArray} {s t : ByteArray} (h : ¬ findI xs s < 0) : findI (xs ++ [t]) s = findI xs s := by
  rcases findI_cases xs s with ⟨h1, h2⟩ | ⟨k, u, h1, h2, h3, h4⟩
  · rw [h1] at h; simp at h
  · have hk := (List.getElem?_eq_some_iff.1 h2).1
    rw [h1]
    exact findI_some (fun j t' hj ht => h4 j t' hj (by rw [List.getElem?_append_left (by omega)] at ht; exact ht)) (by rw [List.getElem?_append_left hk]; exact h2) h3
theorem findI_last {xs : List ByteArray} {s : ByteArray} (h : findI xs s < 0) : findI (xs ++ [s]) s = (xs.length : Int) := by
  rcases findI_cases xs s with ⟨h1, h2⟩ | ⟨k, u, h1, h2, h3, h4⟩
  · refine findI_some (fun j t' hj ht => h2 t' ?_) (t := s) (by simp) rfl
    rw [List.getElem?_append_left hj] at ht
    exact List.mem_of_getElem? ht
  · rw [h1] at h; omega
/-- "fresh_one" -/
def freshOne : ByteArray := ⟨#[102, 114, 101, 115, 104, 95, 111, 110, 101]⟩
def moreM (m : Md) (A : Option Addr) (cap : Nat) (nm : ByteArray) : Md := { m with pa := A, ps := m.ps ++ [⟨nm, 1, none, [], 0, none, [], 0⟩], pc := cap }
theorem more_names (m : Md) (A : Option Addr) (cap : Nat) (nm : ByteArray) : (moreM m A cap nm).ps.map Pr.name = m.ps.map Pr.name ++ [nm] := by simp [moreM]
theorem more_proc {m : Md} (h : MdRight m) (A : Option Addr) (cap : Nat) (nm : ByteArray) {j : Nat} {u : Pr} (hj : m.ps[j]? = some u) : procC (moreM m A cap nm) j u = 0 := by
  have r := h.pr hj
  refine PrRight.zero ⟨r.n, ?_, r.w, r.l, r.v, r.s⟩
  rw [more_names, findI_app (by rw [r.f]; omega)]
  exact r.f
theorem more_link {m : Md} (h : MdRight m) (A : Option Addr) (cap : Nat) (nm : ByteArray) {j : Nat} {u : Lk} (hj : m.ls[j]? = some u) : linkC (moreM m A cap nm) j u = 0 := by
  have r := h.lk hj
  refine LkRight.zero ⟨r.n, r.f, ?_, r.d, r.w⟩
  have h1 := r.e
  rw [more_names, findI_app (by omega), findI_app (by omega)]
  exact r.e
theorem more_event {m : Md} (h : MdRight m) (A : Option Addr) (cap : Nat) (nm : ByteArray) {j : Nat} {u : Ev} (hj : m.es[j]? = some u) : eventC (moreM m A cap nm) u = 0 := by
  have r := h.ev hj
  refine EvRight.zero ⟨?_, r.r⟩
  rw [more_names, findI_app r.t]
  exact r.t
theorem wtB_one (v : Int) : wtB v 1 = true := by simp [wtB]
theorem more_fresh {m : Md} (h : MdRight m) (hs : m.ps.length ≤ 12) (A : Option Addr) (cap : Nat) (hf : findI (m.ps.map Pr.name) freshOne < 0) : mdCheck (moreM m A cap freshOne) = (0, 0) := by
  refine md_ok h.v (by have := h.n; simp only [moreM, List.length_append, List.length_cons, List.length_nil]; omega) (fun j u _ hj => ?_) (fun j u _ hj => more_link h A cap _ hj) (fun j u _ hj => more_event h A cap _ hj)
  simp only [moreM] at hj
  by_cases hlt : j < m.ps.length
  · rw [List.getElem?_append_left hlt] at hj
    exact more_proc h A cap _ hj
  · have hjl := (List.getElem?_eq_some_iff.1 hj).1
    simp only [List.length_append, List.length_cons, List.length_nil] at hjl
    obtain rfl : j = m.ps.length := by omega
    rw [List.getElem?_append_right (Nat.le_refl _)] at hj
    simp at hj
    subst hj
    refine PrRight.zero ⟨by decide, ?_, wtB_one _, by simp, rfl, rfl⟩
    rw [more_names, findI_last hf]
    simp
theorem more_twice {m : Md} (h : MdRight m) (hs : m.ps.length ≤ 12) (A : Option Addr) (cap : Nat) {i : Nat} {p : Pr} (hi : m.ps[i]? = some p) : mdCheck (moreM m A cap p.name) = (5, (m.ps.length : Int) + 1) ∧ findI ((moreM m A cap p.name).ps.map Pr.name) p.name = (i : Int) := by
  have r := h.pr hi
  have hil := (List.getElem?_eq_some_iff.1 hi).1
  have hf : findI ((moreM m A cap p.name).ps.map Pr.name) p.name = (i : Int) := by rw [more_names, findI_app (by rw [r.f]; omega)]; exact r.f
  refine ⟨?_, hf⟩
  refine md_procs (m := moreM m A cap p.name) (k := m.ps.length) (p := ⟨p.name, 1, none, [], 0, none, [], 0⟩) h.v (by have := h.n; simp only [moreM, List.length_append, List.length_cons, List.length_nil]; omega) (fun j u hj hu => ?_) (by simp [moreM]) (c := 5) ?_ (by decide)
  · simp only [moreM] at hu
    rw [List.getElem?_append_left hj] at hu
    exact more_proc h A cap _ hu
  · unfold procC
    simp only
    rw [if_neg (by rw [r.n]; simp), if_pos (by rw [hf]; omega)]
theorem stepC_congr {ls ls' : List Lk} (hn : ls'.map Lk.name = ls.map Lk.name) (hs : ls'.map Lk.src = ls.map Lk.src) (p : Pr) (s : S) : stepC ls' p s = stepC ls p s := by
  have h9 : ∀ k : Nat, (ls'[k]?.map (fun l => l.src.toList)) = (ls[k]?.map (fun l => l.src.toList)) := by
    intro k
    have := congrArg (fun l : List ByteArray => l[k]?.map ByteArray.toList) hs
    simpa [List.getElem?_map, Function.comp_def] using this
  unfold stepC
  rw [hn, h9]
theorem set_names (ls : List Lk) (k : Nat) (l l' : Lk) (h : ls[k]? = some l) (f : Lk → ByteArray) (he : f l' = f l) : (ls.set k l').map f = ls.map f := by
  apply List.ext_getElem?
  intro j
  rw [List.getElem?_map, List.getElem?_map, List.getElem?_set]
  by_cases e : k = j
  · subst e
    have := (List.getElem?_eq_some_iff.1 h).1
    rw [if_pos rfl, if_pos this, h, Option.map_some, Option.map_some, he]
  · simp [e]
/-- One link turned: the processes stay right, and the links ahead. -/
theorem link_turn {m : Md} (h : MdRight m) (A : Option Addr) (cap : Nat) {k : Nat} {l l' : Lk} (hk : m.ls[k]? = some l) (hn : l'.name = l.name) (hsrc : l'.src = l.src) (hdst : l'.dst = l.dst) {c : Int} (hc : c ≠ 0) (he : linkC { m with la := A, ls := m.ls.set k l', lc := cap } k l' = c) :
    mdCheck { m with la := A, ls := m.ls.set k l', lc := cap } = (c, (m.ps.length : Int) + k + 1) := by
  have hkl := (List.getElem?_eq_some_iff.1 hk).1
  have e1 := set_names m.ls k l l' hk Lk.name hn
  have e2 := set_names m.ls k l l' hk Lk.src hsrc
  refine md_links (m := { m with la := A, ls := m.ls.set k l', lc := cap }) (k := k) (l := l') h.v (by have := h.n; simp only [List.length_set]; omega) (fun j u _ hj => ?_) (fun j u hj hu => ?_) (by simp [hkl]) he hc
  · have r := h.pr hj
    refine PrRight.zero ⟨r.n, r.f, r.w, r.l, r.v, ?_⟩
    have : (fun s => stepC (m.ls.set k l') u s) = fun s => stepC m.ls u s := by funext s; exact stepC_congr e1 e2 u s
    show firstC (u.ss.map (fun s => stepC (m.ls.set k l') u s)) = 0
    rw [this]
    exact r.s
  · simp only [List.getElem?_set, show ¬ k = j by omega, if_false] at hu
    have r := h.lk hu
    exact LkRight.zero ⟨r.n, by simp only [e1]; exact r.f, r.e, r.d, r.w⟩
theorem link_delay {m : Md} (h : MdRight m) (A : Option Addr) (cap : Nat) {k : Nat} {l : Lk} (hk : m.ls[k]? = some l) :
    mdCheck { m with la := A, ls := m.ls.set k { l with delay := 0 }, lc := cap } = (42, (m.ps.length : Int) + k + 1) := by
  refine link_turn (l' := { l with delay := 0 }) h A cap hk rfl rfl rfl (c := 42) (by decide) ?_
  have r := h.lk hk
  unfold linkC
  simp only [set_names m.ls k l { l with delay := 0 } hk Lk.name rfl]
  rw [if_neg (by rw [r.n]; simp), if_neg (by rw [r.f]; simp), if_neg r.e, if_pos (by simp)]
theorem link_weight {m : Md} (h : MdRight m) (A : Option Addr) (cap : Nat) {k : Nat} {l : Lk} (hk : m.ls[k]? = some l) :
    mdCheck { m with la := A, ls := m.ls.set k { l with delay := 1, weight := -1 }, lc := cap } = (41, (m.ps.length : Int) + k + 1) := by
  refine link_turn (l' := { l with delay := 1, weight := -1 }) h A cap hk rfl rfl rfl (c := 41) (by decide) ?_
  have r := h.lk hk
  unfold linkC
  simp only [set_names m.ls k l { l with delay := 1, weight := -1 } hk Lk.name rfl]
  rw [if_neg (by rw [r.n]; simp), if_neg (by rw [r.f]; simp), if_neg r.e, if_neg (by simp), if_pos (by simp [wtB])]
theorem event_turn {m : Md} (h : MdRight m) (A : Option Addr) (cap : Nat) {k : Nat} {e' : Ev} (hk : k < m.es.length) {c : Int} (hc : c ≠ 0) (he : eventC m e' = c) :
    mdCheck { m with ea := A, es := m.es.set k e', ec := cap } = (c, (m.ps.length : Int) + m.ls.length + k + 1) := by
  refine md_events (m := { m with ea := A, es := m.es.set k e', ec := cap }) (k := k) (e := e') h.v (by have := h.n; simp only [List.length_set]; omega) (fun j u _ hj => ?_) (fun j u _ hj => ?_) (fun j u hj hu => ?_) (by simp [hk]) he hc
  · have r := h.pr hj
    exact PrRight.zero ⟨r.n, r.f, r.w, r.l, r.v, r.s⟩
  · have r := h.lk hj
    exact LkRight.zero ⟨r.n, r.f, r.e, r.d, r.w⟩
  · simp only [List.getElem?_set, show ¬ k = j by omega, if_false] at hu
    have r := h.ev hu
    exact EvRight.zero ⟨r.t, r.r⟩
theorem event_time {m : Md} (h : MdRight m) (A : Option Addr) (cap : Nat) {k : Nat} {e : Ev} (hk : m.es[k]? = some e) :
    mdCheck { m with ea := A, es := m.es.set k { e with at_ := -1 }, ec := cap } = (23, (m.ps.length : Int) + m.ls.length + k + 1) := by
  refine event_turn h A cap (List.getElem?_eq_some_iff.1 hk).1 (c := 23) (by decide) ?_
  have r := h.ev hk
  unfold eventC
  simp only
  rw [if_neg r.t, if_pos (by simp)]
theorem find_empty {m : Md} (h : MdRight m) : findI (m.ps.map Pr.name) ⟨#[]⟩ < 0 := by
  rcases findI_cases (m.ps.map Pr.name) ⟨#[]⟩ with ⟨h1, _⟩ | ⟨k, t, h1, h2, h3, _⟩
  · rw [h1]; decide
  · rw [List.getElem?_map] at h2
    obtain ⟨p, hp, rfl⟩ := Option.map_eq_some_iff.1 h2
    have h9 := (right_parts' (h.pr hp).n).1
    rw [ky_list, ky_list] at h3
    have : p.name.data.toList = [] := h3
    rw [← size_list, this] at h9
    simp at h9
theorem event_nobody {m : Md} (h : MdRight m) (A : Option Addr) (cap : Nat) {k : Nat} {e : Ev} (hk : m.es[k]? = some e) (z : Int) :
    mdCheck { m with ea := A, es := m.es.set k { e with at_ := z, to := ⟨#[]⟩ }, ec := cap } = (4, (m.ps.length : Int) + m.ls.length + k + 1) := by
  refine event_turn h A cap (List.getElem?_eq_some_iff.1 hk).1 (c := 4) (by decide) ?_
  unfold eventC
  simp only
  rw [if_pos (find_empty h)]
end Go.Proofs.Ythgbahlkflmgiaa.Mo
